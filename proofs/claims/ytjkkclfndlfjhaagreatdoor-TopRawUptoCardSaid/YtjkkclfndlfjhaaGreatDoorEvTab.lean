/- Tables for the evaluator: the types, their sizes and zero values. -/
import Derived.Test.YtjkkclfndlfjhaaGreatDoorProg
import Derived.Test.YtjkkclfndlfjhaaGreatDoorEvE
import Derived.KernelRfl
set_option linter.all false
namespace Go.Proofs.YtjkkclfndlfjhaaGreatDoor
open Go Ev
def ti3 : TI := ⟨.int .i64, 1, 8, [.i .i64 0], false⟩
def ti4 : TI := ⟨.bool, 1, 1, [.b false], false⟩
def ti5 : TI := ⟨.int .u8, 1, 1, [.i .u8 0], false⟩
def ti9 : TI := ⟨.str, 1, 16, [.s []], false⟩
def ti24 : TI := ⟨.ptr, 1, 8, [.np], false⟩
def ti27 : TI := ⟨.slc 201, 1, 24, [.ns], false⟩
def ti28 : TI := ⟨.slc 68, 1, 24, [.ns], false⟩
def ti30 : TI := ⟨.st [(3, 0), (3, 1), (27, 2), (28, 3)], 4, 64, [.i .i64 0, .i .i64 0, .ns, .ns], false⟩
def ti32 : TI := ⟨.slc 61, 1, 24, [.ns], false⟩
def ti34 : TI := ⟨.st [(3, 0), (3, 1), (32, 2)], 3, 40, [.i .i64 0, .i .i64 0, .ns], false⟩
def ti35 : TI := ⟨.int .i64, 1, 8, [.i .i64 0], false⟩
def ti36 : TI := ⟨.arr 3 4, 3, 3, [.b false, .b false, .b false], false⟩
def ti37 : TI := ⟨.arr 3 3, 3, 24, [.i .i64 0, .i .i64 0, .i .i64 0], false⟩
def ti39 : TI := ⟨.st [(3, 0), (3, 1), (3, 2), (34, 3), (35, 6), (3, 7), (36, 8), (37, 11), (37, 14), (3, 17)], 18, 144, [.i .i64 0, .i .i64 0, .i .i64 0, .i .i64 0, .i .i64 0, .ns, .i .i64 0, .i .i64 0, .b false, .b false, .b false, .i .i64 0, .i .i64 0, .i .i64 0, .i .i64 0, .i .i64 0, .i .i64 0, .i .i64 0], false⟩
def ti40 : TI := ⟨.ptr, 1, 8, [.np], false⟩
def ti41 : TI := ⟨.ptr, 1, 8, [.np], false⟩
def ti43 : TI := ⟨.st [(39, 0), (40, 18), (41, 19)], 20, 160, [.i .i64 0, .i .i64 0, .i .i64 0, .i .i64 0, .i .i64 0, .ns, .i .i64 0, .i .i64 0, .b false, .b false, .b false, .i .i64 0, .i .i64 0, .i .i64 0, .i .i64 0, .i .i64 0, .i .i64 0, .i .i64 0, .np, .np], false⟩
def ti44 : TI := ⟨.arr 3 43, 60, 480, [.i .i64 0, .i .i64 0, .i .i64 0, .i .i64 0, .i .i64 0, .ns, .i .i64 0, .i .i64 0, .b false, .b false, .b false, .i .i64 0, .i .i64 0, .i .i64 0, .i .i64 0, .i .i64 0, .i .i64 0, .i .i64 0, .np, .np, .i .i64 0, .i .i64 0, .i .i64 0, .i .i64 0, .i .i64 0, .ns, .i .i64 0, .i .i64 0, .b false, .b false, .b false, .i .i64 0, .i .i64 0, .i .i64 0, .i .i64 0, .i .i64 0, .i .i64 0, .i .i64 0, .np, .np, .i .i64 0, .i .i64 0, .i .i64 0, .i .i64 0, .i .i64 0, .ns, .i .i64 0, .i .i64 0, .b false, .b false, .b false, .i .i64 0, .i .i64 0, .i .i64 0, .i .i64 0, .i .i64 0, .i .i64 0, .i .i64 0, .np, .np], false⟩
def ti45 : TI := ⟨.slc 245, 1, 24, [.ns], false⟩
def ti47 : TI := ⟨.st [(45, 0), (3, 1)], 2, 32, [.ns, .i .i64 0], false⟩
def ti48 : TI := ⟨.slc 386, 1, 24, [.ns], false⟩
def ti50 : TI := ⟨.st [(48, 0)], 1, 24, [.ns], false⟩
def ti52 : TI := ⟨.st [(32, 0), (50, 1), (4, 2)], 3, 56, [.ns, .ns, .b false], false⟩
def ti53 : TI := ⟨.slc 312, 1, 24, [.ns], false⟩
def ti55 : TI := ⟨.st [(44, 0), (47, 60), (52, 62), (53, 65), (3, 66)], 67, 600, [.i .i64 0, .i .i64 0, .i .i64 0, .i .i64 0, .i .i64 0, .ns, .i .i64 0, .i .i64 0, .b false, .b false, .b false, .i .i64 0, .i .i64 0, .i .i64 0, .i .i64 0, .i .i64 0, .i .i64 0, .i .i64 0, .np, .np, .i .i64 0, .i .i64 0, .i .i64 0, .i .i64 0, .i .i64 0, .ns, .i .i64 0, .i .i64 0, .b false, .b false, .b false, .i .i64 0, .i .i64 0, .i .i64 0, .i .i64 0, .i .i64 0, .i .i64 0, .i .i64 0, .np, .np, .i .i64 0, .i .i64 0, .i .i64 0, .i .i64 0, .i .i64 0, .ns, .i .i64 0, .i .i64 0, .b false, .b false, .b false, .i .i64 0, .i .i64 0, .i .i64 0, .i .i64 0, .i .i64 0, .i .i64 0, .i .i64 0, .np, .np, .ns, .i .i64 0, .ns, .ns, .b false, .ns, .i .i64 0], false⟩
def ti57 : TI := ⟨.int .i64, 1, 8, [.i .i64 0], false⟩
def ti59 : TI := ⟨.st [(57, 0), (3, 1), (3, 2), (9, 3), (9, 4), (9, 5)], 6, 72, [.i .i64 0, .i .i64 0, .i .i64 0, .s [], .s [], .s []], true⟩
def ti61 : TI := ⟨.st [(3, 0), (3, 1), (59, 2)], 8, 88, [.i .i64 0, .i .i64 0, .i .i64 0, .i .i64 0, .i .i64 0, .s [], .s [], .s []], true⟩
def ti62 : TI := ⟨.int .i64, 1, 8, [.i .i64 0], false⟩
def ti64 : TI := ⟨.st [(62, 0), (9, 1)], 2, 24, [.i .i64 0, .s []], false⟩
def ti68 : TI := ⟨.st [(3, 0), (3, 1), (64, 2)], 4, 40, [.i .i64 0, .i .i64 0, .i .i64 0, .s []], false⟩
def ti72 : TI := ⟨.slc 5, 1, 24, [.ns], false⟩
def ti79 : TI := ⟨.slc 72, 1, 24, [.ns], false⟩
def ti87 : TI := ⟨.st [(3, 0), (3, 1), (3, 2), (27, 3), (28, 4)], 5, 72, [.i .i64 0, .i .i64 0, .i .i64 0, .ns, .ns], false⟩
def ti94 : TI := ⟨.slc 173, 1, 24, [.ns], false⟩
def ti95 : TI := ⟨.slc 9, 1, 24, [.ns], false⟩
def ti97 : TI := ⟨.st [(94, 0), (95, 1), (3, 2)], 3, 56, [.ns, .ns, .i .i64 0], false⟩
def ti104 : TI := ⟨.st [(94, 0), (3, 1)], 2, 32, [.ns, .i .i64 0], false⟩
def ti109 : TI := ⟨.ptr, 1, 8, [.np], false⟩
def ti112 : TI := ⟨.st [(24, 0), (4, 1), (37, 2)], 5, 40, [.np, .b false, .i .i64 0, .i .i64 0, .i .i64 0], false⟩
def ti115 : TI := ⟨.int .i64, 1, 8, [.i .i64 0], false⟩
def ti116 : TI := ⟨.int .i64, 1, 8, [.i .i64 0], false⟩
def ti118 : TI := ⟨.st [(115, 0), (3, 1), (3, 2), (3, 3), (116, 4), (59, 5)], 11, 112, [.i .i64 0, .i .i64 0, .i .i64 0, .i .i64 0, .i .i64 0, .i .i64 0, .i .i64 0, .i .i64 0, .s [], .s [], .s []], false⟩
def ti133 : TI := ⟨.ptr, 1, 8, [.np], false⟩
def ti137 : TI := ⟨.ptr, 1, 8, [.np], false⟩
def ti147 : TI := ⟨.int .i64, 1, 8, [.i .i64 0], false⟩
def ti154 : TI := ⟨.int .u32, 1, 4, [.i .u32 0], false⟩
def ti156 : TI := ⟨.int .u64, 1, 8, [.i .u64 0], false⟩
def ti157 : TI := ⟨.ptr, 1, 8, [.np], false⟩
def ti162 : TI := ⟨.ptr, 1, 8, [.np], false⟩
def ti164 : TI := ⟨.st [(72, 0)], 1, 24, [.ns], false⟩
def ti173 : TI := ⟨.st [(9, 0), (147, 1), (3, 2), (3, 3)], 4, 40, [.s [], .i .i64 0, .i .i64 0, .i .i64 0], false⟩
def ti181 : TI := ⟨.slc 118, 1, 24, [.ns], false⟩
def ti187 : TI := ⟨.ptr, 1, 8, [.np], false⟩
def ti189 : TI := ⟨.st [(187, 0), (94, 1), (94, 2)], 3, 56, [.np, .ns, .ns], false⟩
def ti193 : TI := ⟨.st [(41, 0), (104, 1), (30, 3), (4, 7)], 8, 112, [.np, .ns, .i .i64 0, .i .i64 0, .i .i64 0, .ns, .ns, .b false], false⟩
def ti201 : TI := ⟨.st [(9, 0), (9, 1), (4, 2)], 3, 40, [.s [], .s [], .b false], false⟩
def ti207 : TI := ⟨.slc 213, 1, 24, [.ns], false⟩
def ti209 : TI := ⟨.st [(207, 0)], 1, 24, [.ns], false⟩
def ti213 : TI := ⟨.st [(3, 0), (68, 1)], 5, 48, [.i .i64 0, .i .i64 0, .i .i64 0, .i .i64 0, .s []], false⟩
def ti214 : TI := ⟨.slc 284, 1, 24, [.ns], false⟩
def ti216 : TI := ⟨.st [(214, 0)], 1, 24, [.ns], false⟩
def ti231 : TI := ⟨.st [(72, 0), (4, 1)], 2, 32, [.ns, .b false], false⟩
def ti240 : TI := ⟨.func, 1, 8, [.nf], false⟩
def ti242 : TI := ⟨.int .i64, 1, 8, [.i .i64 0], false⟩
def ti243 : TI := ⟨.ptr, 1, 8, [.np], false⟩
def ti245 : TI := ⟨.st [(242, 0), (3, 1), (3, 2), (3, 3), (3, 4), (3, 5), (4, 6), (3, 7), (32, 8), (243, 9)], 10, 96, [.i .i64 0, .i .i64 0, .i .i64 0, .i .i64 0, .i .i64 0, .i .i64 0, .b false, .i .i64 0, .ns, .np], false⟩
def ti259 : TI := ⟨.func, 1, 8, [.nf], false⟩
def ti261 : TI := ⟨.map 9 324, 1, 8, [.nm], false⟩
def ti262 : TI := ⟨.slc 339, 1, 24, [.ns], false⟩
def ti264 : TI := ⟨.st [(261, 0), (261, 1), (262, 2), (3, 3), (3, 4), (4, 5), (3, 6)], 7, 72, [.nm, .nm, .ns, .i .i64 0, .i .i64 0, .b false, .i .i64 0], false⟩
def ti281 : TI := ⟨.func, 1, 8, [.nf], false⟩
def ti284 : TI := ⟨.st [(9, 0), (9, 1)], 2, 32, [.s [], .s []], false⟩
def ti294 : TI := ⟨.ptr, 1, 8, [.np], false⟩
def ti303 : TI := ⟨.ptr, 1, 8, [.np], false⟩
def ti312 : TI := ⟨.st [(3, 0), (59, 1), (64, 7)], 9, 104, [.i .i64 0, .i .i64 0, .i .i64 0, .i .i64 0, .s [], .s [], .s [], .i .i64 0, .s []], false⟩
def ti324 : TI := ⟨.ptr, 1, 8, [.np], false⟩
def ti328 : TI := ⟨.st [(72, 0), (3, 1)], 2, 32, [.ns, .i .i64 0], false⟩
def ti339 : TI := ⟨.slc 341, 1, 24, [.ns], false⟩
def ti341 : TI := ⟨.st [(9, 0), (324, 1)], 2, 24, [.s [], .np], false⟩
def ti346 : TI := ⟨.func, 1, 8, [.nf], false⟩
def ti359 : TI := ⟨.ptr, 1, 8, [.np], false⟩
def ti370 : TI := ⟨.slc 259, 1, 24, [.ns], false⟩
def ti384 : TI := ⟨.ptr, 1, 8, [.np], false⟩
def ti386 : TI := ⟨.st [(3, 0), (3, 1)], 2, 16, [.i .i64 0, .i .i64 0], false⟩
def ti402 : TI := ⟨.func, 1, 8, [.nf], false⟩
noncomputable def fnTab : Tr Func := .n none (.n none (.n none (.n none (.n none (.n (some Tryz.f31) (.n (some Tryz.f63) .e .e) (.n (some Tryz.f95) .e .e)) (.n (some Tryz.f47) (.n none (.n (some Tryz.f143) (.n (some Tryz.f271) .e .e) .e) .e) (.n none (.n (some Tryz.f175) .e .e) (.n (some Tryz.f239) .e .e)))) (.n (some Tryz.f23) (.n (some Tryz.f39) (.n (some Tryz.f71) (.n (some Tryz.f135) .e .e) .e) (.n none (.n (some Tryz.f167) .e .e) .e)) (.n (some Tryz.f55) (.n (some Tryz.f87) (.n (some Tryz.f151) .e .e) .e) (.n (some Tryz.f119) (.n (some Tryz.f183) .e .e) (.n (some Tryz.f247) .e .e))))) (.n none (.n (some Tryz.f19) (.n (some Tryz.f35) .e (.n (some Tryz.f99) (.n (some Tryz.f163) .e .e) .e)) (.n (some Tryz.f51) (.n none (.n (some Tryz.f147) .e .e) (.n (some Tryz.f211) .e .e)) (.n (some Tryz.f115) .e (.n (some Tryz.f243) .e .e)))) (.n (some Tryz.f27) (.n (some Tryz.f43) .e (.n none (.n (some Tryz.f171) .e .e) (.n (some Tryz.f235) .e .e))) (.n (some Tryz.f59) (.n (some Tryz.f91) .e .e) (.n (some Tryz.f123) .e (.n (some Tryz.f251) .e .e)))))) (.n (some Tryz.f5) (.n none (.n none (.n none (.n (some Tryz.f65) .e (.n (some Tryz.f193) .e .e)) (.n (some Tryz.f97) .e .e)) (.n none (.n (some Tryz.f81) .e (.n (some Tryz.f209) .e .e)) (.n (some Tryz.f113) (.n (some Tryz.f177) .e .e) .e))) (.n (some Tryz.f25) (.n (some Tryz.f41) (.n (some Tryz.f73) .e (.n (some Tryz.f201) .e .e)) (.n none (.n (some Tryz.f169) .e .e) (.n (some Tryz.f233) .e .e))) (.n (some Tryz.f57) (.n (some Tryz.f89) .e (.n (some Tryz.f217) .e .e)) (.n (some Tryz.f121) .e .e)))) (.n (some Tryz.f13) (.n none (.n (some Tryz.f37) (.n (some Tryz.f69) .e (.n (some Tryz.f197) .e .e)) (.n (some Tryz.f101) (.n (some Tryz.f165) .e .e) (.n (some Tryz.f229) .e .e))) (.n (some Tryz.f53) (.n (some Tryz.f85) (.n (some Tryz.f149) .e .e) .e) (.n (some Tryz.f117) (.n (some Tryz.f181) .e .e) .e))) (.n (some Tryz.f29) (.n (some Tryz.f45) (.n none (.n (some Tryz.f141) .e .e) .e) (.n none (.n (some Tryz.f173) .e .e) (.n (some Tryz.f237) .e .e))) (.n none (.n (some Tryz.f93) (.n none (.n (some Tryz.f285) .e .e) .e) .e) .e))))) (.n none (.n none (.n (some Tryz.f8) (.n none (.n (some Tryz.f32) (.n (some Tryz.f64) .e .e) .e) (.n (some Tryz.f48) (.n (some Tryz.f80) (.n none (.n (some Tryz.f272) .e .e) .e) .e) (.n none .e (.n (some Tryz.f240) .e .e)))) (.n none (.n (some Tryz.f40) (.n (some Tryz.f72) .e (.n (some Tryz.f200) .e .e)) (.n (some Tryz.f104) (.n (some Tryz.f168) .e .e) (.n (some Tryz.f232) .e .e))) (.n none (.n (some Tryz.f88) (.n (some Tryz.f152) .e .e) .e) (.n (some Tryz.f120) .e (.n (some Tryz.f248) .e .e))))) (.n none (.n (some Tryz.f20) (.n (some Tryz.f36) (.n (some Tryz.f68) (.n (some Tryz.f132) .e .e) (.n (some Tryz.f196) .e .e)) (.n (some Tryz.f100) (.n (some Tryz.f164) .e .e) (.n (some Tryz.f228) .e .e))) (.n none (.n none (.n (some Tryz.f148) .e .e) (.n (some Tryz.f212) .e .e)) (.n (some Tryz.f116) (.n (some Tryz.f180) .e .e) (.n (some Tryz.f244) .e .e)))) (.n (some Tryz.f28) (.n (some Tryz.f44) (.n none (.n (some Tryz.f140) .e .e) (.n (some Tryz.f204) .e .e)) (.n none (.n (some Tryz.f172) .e .e) (.n (some Tryz.f236) .e .e))) (.n (some Tryz.f60) (.n (some Tryz.f92) .e .e) (.n (some Tryz.f124) .e (.n (some Tryz.f252) .e .e)))))) (.n none (.n none (.n none (.n none (.n (some Tryz.f66) .e (.n (some Tryz.f194) .e .e)) (.n (some Tryz.f98) .e .e)) (.n (some Tryz.f50) (.n none .e (.n (some Tryz.f210) .e .e)) (.n (some Tryz.f114) (.n (some Tryz.f178) .e .e) .e))) (.n (some Tryz.f26) (.n (some Tryz.f42) (.n (some Tryz.f74) .e .e) (.n (some Tryz.f106) (.n (some Tryz.f170) .e .e) (.n (some Tryz.f234) .e .e))) (.n none (.n none (.n (some Tryz.f154) .e .e) .e) (.n none .e (.n (some Tryz.f250) .e .e))))) (.n (some Tryz.f14) (.n (some Tryz.f22) (.n (some Tryz.f38) (.n (some Tryz.f70) (.n (some Tryz.f134) .e .e) (.n (some Tryz.f198) .e .e)) (.n none (.n (some Tryz.f166) .e .e) .e)) (.n none (.n (some Tryz.f86) (.n (some Tryz.f150) .e .e) .e) (.n (some Tryz.f118) (.n (some Tryz.f182) .e .e) (.n (some Tryz.f246) .e .e)))) (.n (some Tryz.f30) (.n none (.n (some Tryz.f78) .e (.n (some Tryz.f206) .e .e)) (.n none (.n (some Tryz.f174) .e .e) (.n (some Tryz.f238) .e .e))) (.n (some Tryz.f62) (.n (some Tryz.f94) (.n none (.n (some Tryz.f286) .e .e) .e) .e) (.n none (.n (some Tryz.f190) .e .e) .e))))))
noncomputable def tyTab : Tr TI := .n none (.n none (.n (some ti3) (.n none (.n none (.n none .e (.n (some ti95) .e .e)) (.n (some ti47) (.n (some ti79) .e (.n (some ti207) .e .e)) (.n none (.n none (.n (some ti303) .e .e) .e) .e))) (.n none (.n (some ti39) .e (.n none .e (.n (some ti231) (.n (some ti359) .e .e) .e))) (.n (some ti55) (.n (some ti87) .e .e) .e))) (.n none (.n none (.n (some ti35) (.n none (.n none (.n (some ti259) .e .e) .e) .e) .e) (.n none (.n none (.n (some ti147) .e .e) (.n none (.n (some ti339) .e .e) .e)) (.n (some ti115) .e (.n (some ti243) .e .e)))) (.n (some ti27) (.n (some ti43) .e .e) (.n (some ti59) .e (.n none (.n (some ti187) .e .e) .e))))) (.n (some ti5) (.n (some ti9) (.n none (.n none (.n none .e (.n (some ti193) .e .e)) (.n (some ti97) .e .e)) (.n none (.n none .e (.n (some ti209) .e .e)) .e)) (.n none (.n (some ti41) (.n none (.n (some ti137) .e .e) (.n (some ti201) .e .e)) .e) (.n (some ti57) (.n none (.n none (.n (some ti281) .e .e) .e) .e) .e))) (.n none (.n none (.n (some ti37) (.n none (.n (some ti133) (.n (some ti261) .e .e) .e) .e) .e) (.n (some ti53) (.n none .e (.n (some ti213) (.n (some ti341) .e .e) .e)) (.n none (.n (some ti181) .e .e) (.n (some ti245) .e .e)))) (.n none (.n (some ti45) .e (.n (some ti109) (.n (some ti173) .e .e) .e)) (.n (some ti61) (.n none (.n (some ti157) .e .e) .e) (.n none (.n (some ti189) .e .e) .e)))))) (.n none (.n (some ti4) (.n none (.n none (.n (some ti32) (.n (some ti64) (.n none .e (.n (some ti384) .e .e)) .e) .e) (.n (some ti48) .e (.n (some ti112) .e (.n (some ti240) .e .e)))) (.n (some ti24) (.n (some ti40) (.n (some ti72) (.n none (.n (some ti264) .e .e) .e) (.n none (.n (some ti328) .e .e) .e)) (.n (some ti104) .e .e)) (.n none (.n none .e (.n (some ti216) .e .e)) (.n none (.n none (.n (some ti312) .e .e) .e) .e)))) (.n none (.n none (.n (some ti36) (.n (some ti68) .e (.n none (.n (some ti324) .e .e) .e)) (.n none (.n (some ti164) .e .e) .e)) (.n (some ti52) .e (.n (some ti116) .e .e))) (.n (some ti28) (.n (some ti44) .e .e) (.n none (.n none (.n (some ti156) (.n (some ti284) .e .e) .e) .e) .e)))) (.n none (.n none (.n none (.n (some ti34) (.n none (.n none .e (.n (some ti386) .e .e)) .e) (.n none (.n (some ti162) .e .e) .e)) (.n (some ti50) (.n none (.n none .e (.n (some ti402) .e .e)) .e) (.n none .e (.n (some ti242) (.n (some ti370) .e .e) .e)))) (.n none .e (.n none (.n none (.n (some ti154) .e .e) (.n none (.n (some ti346) .e .e) .e)) .e))) (.n none (.n none (.n none (.n none (.n none (.n (some ti262) .e .e) .e) .e) (.n none (.n none (.n (some ti294) .e .e) .e) .e)) (.n none (.n none .e (.n (some ti214) .e .e)) (.n (some ti118) .e .e))) (.n (some ti30) .e (.n (some ti62) (.n (some ti94) .e .e) .e)))))
noncomputable def keepTab : Tr Nat := .n none (.n none (.n none (.n none (.n none (.n (some 134999) (.n (some 981) .e .e) (.n (some 5) .e .e)) (.n (some 7) (.n none (.n (some 34393539053) (.n (some 51) .e .e) .e) .e) (.n none (.n (some 1298074214634887498753341512484823) .e .e) (.n (some 7) .e .e)))) (.n (some 144256449550252019) (.n (some 7727) (.n (some 51) (.n (some 4325619) .e .e) .e) (.n none (.n (some 17592186048463) .e .e) .e)) (.n (some 179) (.n (some 136324221) (.n (some 51) .e .e) .e) (.n (some 65599) (.n (some 4722385060768400809979) .e .e) (.n (some 15) .e .e))))) (.n none (.n (some 16777277) (.n (some 21) .e (.n (some 1052435) (.n (some 7) .e .e) .e)) (.n (some 1965) (.n none (.n (some 8311) .e .e) (.n (some 2147618759) .e .e)) (.n (some 8207) .e (.n (some 33267) .e .e)))) (.n (some 33562419) (.n (some 7) .e (.n none (.n (some 79) .e .e) (.n (some 7) .e .e))) (.n (some 13) (.n (some 37748743) .e .e) (.n (some 16403) .e (.n (some 995) .e .e)))))) (.n (some 16399) (.n none (.n none (.n none (.n (some 19) .e (.n (some 2053) .e .e)) (.n (some 7) .e .e)) (.n none (.n (some 1329877037853059974721030469750086607) .e (.n (some 7) .e .e)) (.n (some 1161999106974035981) (.n (some 2130423) .e .e) .e))) (.n (some 549755815923) (.n (some 957) (.n (some 487) .e (.n (some 66483) .e .e)) (.n none (.n (some 1043) .e .e) (.n (some 3) .e .e))) (.n (some 5) (.n (some 5) .e (.n (some 17179886351) .e .e)) (.n (some 11151781622480491052232147030025031695467007) .e .e)))) (.n (some 16837117) (.n none (.n (some 7727) (.n (some 77) .e (.n (some 543) .e .e)) (.n (some 5) (.n (some 7) .e .e) (.n (some 19343368821999424769158943) .e .e))) (.n (some 5) (.n (some 73786980692918284027) (.n (some 23) .e .e) .e) (.n (some 262655) (.n (some 262607) .e .e) .e))) (.n (some 19) (.n (some 199) (.n none (.n (some 19) .e .e) .e) (.n none (.n (some 1572869) .e .e) (.n (some 3) .e .e))) (.n none (.n (some 33223) (.n none (.n (some 2147618759) .e .e) .e) .e) .e))))) (.n none (.n none (.n (some 17747108405593288368128273168383) (.n none (.n (some 2100477) (.n (some 19) .e .e) .e) (.n (some 270551357) (.n (some 4125) (.n none (.n (some 295147905181504570311) .e .e) .e) .e) (.n none .e (.n (some 1149501895) .e .e)))) (.n none (.n (some 36037610292904059) (.n (some 19) .e (.n (some 66035) .e .e)) (.n (some 536870963) (.n (some 111) .e .e) (.n (some 3) .e .e))) (.n none (.n (some 5) (.n (some 295147905181504570311) .e .e) .e) (.n (some 4339) .e (.n (some 7) .e .e))))) (.n none (.n (some 15) (.n (some 7) (.n (some 141) (.n (some 65565) .e .e) (.n (some 3) .e .e)) (.n (some 67108987) (.n (some 8703) .e .e) (.n (some 9007199372443773) .e .e))) (.n none (.n none (.n (some 2147618759) .e .e) (.n (some 23) .e .e)) (.n (some 132067) (.n (some 67109831) .e .e) (.n (some 33223) .e .e)))) (.n (some 147720355313875746843) (.n (some 2105309) (.n none (.n (some 2147545277) .e .e) (.n (some 7) .e .e)) (.n none (.n (some 1519) .e .e) (.n (some 1125900058362823) .e .e))) (.n (some 11) (.n (some 51) .e .e) (.n (some 2417999213322585547735539) .e (.n (some 18014433942971335) .e .e)))))) (.n none (.n none (.n none (.n none (.n (some 36028865738457031) .e (.n (some 7) .e .e)) (.n (some 295147905181504570311) .e .e)) (.n (some 5) (.n none .e (.n (some 5) .e .e)) (.n (some 5) (.n (some 13) .e .e) .e))) (.n (some 125107) (.n (some 33255) (.n (some 147573952591824947187) .e .e) (.n (some 21) (.n (some 515) .e .e) (.n (some 1084293203) .e .e))) (.n none (.n none (.n (some 1052435) .e .e) .e) (.n none .e (.n (some 5) .e .e))))) (.n (some 637) (.n (some 1055531170529455) (.n (some 33267) (.n (some 5) (.n (some 270007) .e .e) (.n (some 21) .e .e)) (.n none (.n (some 15) .e .e) .e)) (.n none (.n (some 5) (.n (some 604275) .e .e) .e) (.n (some 5) (.n (some 8796094070843) .e .e) (.n (some 15) .e .e)))) (.n (some 42545682855522712682836284864383540723) (.n none (.n (some 19) .e (.n (some 75) .e .e)) (.n none (.n (some 1152921504608026635) .e .e) (.n (some 18940019) .e .e))) (.n (some 5) (.n (some 33267) (.n none (.n (some 23) .e .e) .e) .e) (.n none (.n (some 135123) .e .e) .e))))))
noncomputable def keepOf (f : Nat) : Nat := match keepTab.get f with | some m => m | none => 0
end Go.Proofs.YtjkkclfndlfjhaaGreatDoor
namespace Go.Proofs.YtjkkclfndlfjhaaGreatDoor
noncomputable section
open Go Ev
def crcBit (n : Nat) : Nat := match Nat.beq (n % 2) 1 with | true => Nat.xor (n / 2) 3988292384 | false => n / 2
def crcByte (n c : Nat) : Nat := crcBit (crcBit (crcBit (crcBit (crcBit (crcBit (crcBit (crcBit (Nat.xor n c))))))))
def crcGo : List Nat → Nat → Nat
  | [], n => n
  | c :: l, n => crcGo l (crcByte n c)
def crcA (l : List Nat) : Nat := Nat.xor (crcGo l 4294967295) 4294967295
def ltL : List Nat → List Nat → Bool
  | _, [] => false
  | [], _ :: _ => true
  | a :: x, b :: y => match Nat.blt a b with
    | true => true
    | false => match Nat.beq a b with
      | true => ltL x y
      | false => false
/-- A text, laid in its place; none, if it is there. -/
def insS (x : List Nat) : List (List Nat) → Option (List (List Nat))
  | [] => some [x]
  | y :: r => match ltL y x with
    | true => bnd (insS x r) fun l => some (y :: l)
    | false => match ltL x y with
      | true => some (x :: y :: r)
      | false => none
def keysS : List (CV × CV) → Option (List (List Nat))
  | [] => some []
  | (.s k, _) :: r => sel (Nat.ble (lenR k) 1000) (bnd (keysS r) fun l => insS k l) none
  | _ => none
def usedS (H : Tr AB) : List (CV × CV) → Option Nat
  | [] => some 0
  | (_, .p blk off) :: r => bnd (readRow H blk off 1) fun c => bnd (usedS H r) fun n => match c with
    | [.ns] => some n
    | [.sl _ _ k _ _] => some (Nat.add k n)
    | _ => none
  | _ => none
def mapAt (H : Tr AB) (d off : Nat) : Option (List (CV × CV)) := match readRow H d off 1 with
  | some [.m id] => mapOf H (.m id)
  | _ => none
def sumOf (H : Tr AB) (x : CV) : Option (List Nat) := match x with
  | .ns => some []
  | .sl b o n e _ => sel (Nat.beq e 1) (bnd (readSl H b o n) bytesOf) none
  | _ => none
def pSum (args : List TV) (S : St) : Option (TV × St) := match args with
  | [.a (.c x)] => bnd (sumOf S.heap x) fun l => sel (Nat.ble (lenR l) 1000000) (some (ofC (.i .u32 (.ofNat (crcA l))), S)) none
  | _ => none
def pNames (args : List TV) (S : St) : Option (TV × St) := match args with
  | [.a (.c (.p d off))] => bnd (mapAt S.heap d off) fun es => sel (Nat.ble (lenR es) 1000) (bnd (keysS es) fun l => match l with
    | [] => some (ofC .ns, S)
    | l => some (ofC (.sl S.next 0 (lenR l) 1 false), S.new (.arr 1 (l.map CV.s)))) none
  | _ => none
def pUsed (args : List TV) (S : St) : Option (TV × St) := match args with
  | [.a (.c (.p d off))] => bnd (mapAt S.heap d off) fun es => bnd (usedS S.heap es) fun n => sel (Nat.ble n 1000000000) (some (goI n, S)) none
  | _ => none
def pClone (args : List TV) (S : St) : Option (TV × St) := match args with
  | [.a (.c (.m id))] => bnd (mapOf S.heap (.m id)) fun es => some (ofC (.m S.next), S.new (.map es))
  | _ => none
def prims (f : Nat) : Option (List TV → St → Option (TV × St)) :=
  match Nat.beq f 49 with
  | true => some pSum
  | false => match Nat.beq f 142 with
    | true => some pNames
    | false => match Nat.beq f 270 with
      | true => some pUsed
      | false => match Nat.beq f 208 with
        | true => some pClone
        | false => none
def isTrue (r : Option (TV × St)) : Bool := match r with
  | some (.a (.c (.b true)), _) => true
  | _ => false
def isPtr (r : Option (TV × St)) : Bool := match r with
  | some (.a (.c (.p _ _)), _) => true
  | _ => false
set_option maxRecDepth 100000
end
end Go.Proofs.YtjkkclfndlfjhaaGreatDoor
