/-
  Fo MirV Vb Big Bih Sob Soc Sod Shr: put together.
-/
import Derived.Test.YtlnphjjhfgghkaaGreatDoorProg
import Derived.Test.YtlnphjjhfgghkaaGreatDoorSPc
import Derived.Test.YtlnphjjhfgghkaaGreatDoorSPd
namespace Go.Proofs.YtlnphjjhfgghkaaGreatDoor
open Go Go.Lg
set_option maxRecDepth 100000

def lcv4 : LC := .seq (.rego 0 [⟨some 4, .box (.tmp 0), none⟩, ⟨some 8, .mov (.con (.bool false)), none⟩]) (.keep [1, 2, 3, 4] (.seq (.seq (.rego 1 [⟨some 11, .fad 2 (.tmp 4), none⟩, ⟨some 12, .load false 1 (.tmp 11), none⟩, ⟨some 13, .len false (.tmp 12), none⟩, ⟨some 14, .bin .gtr (.tmp 13) (.con (.int .i64 20)), none⟩]) (.keep [1, 2, 3, 4, 14] (.cond (.tmp 14) (.keep [] (.seq (.rego 2 [⟨some 15, .call 9 [], none⟩, ⟨some 8, .mov (.tmp 15), none⟩]) .ret)) .skip))) (.keep [1, 2, 3, 4] (.seq (.seq (.rego 3 [⟨some 9, .mov (.con (.int .i64 0)), none⟩]) (.keep [1, 2, 3, 4, 9] (.block 0 (.loop (.seq (.seq (.rego 4 [⟨some 16, .mov (.tmp 9), none⟩, ⟨some 17, .fad 2 (.tmp 4), none⟩, ⟨some 18, .load false 1 (.tmp 17), none⟩, ⟨some 19, .len false (.tmp 18), none⟩, ⟨some 20, .bin .lss (.tmp 16) (.tmp 19), none⟩]) (.keep [1, 2, 3, 4, 9, 20] (.cond (.tmp 20) .skip (.exit 0)))) (.keep [1, 2, 3, 4, 9] (.seq (.block 1 (.seq (.rego 6 [⟨some 23, .fad 2 (.tmp 4), none⟩, ⟨some 24, .load false 1 (.tmp 23), none⟩, ⟨some 25, .mov (.tmp 9), none⟩, ⟨some 26, .iaS 2 (.tmp 24) (.tmp 25), none⟩, ⟨some 27, .fad 1 (.tmp 26), none⟩, ⟨some 28, .load false 1 (.tmp 27), none⟩, ⟨some 29, .len false (.tmp 28), none⟩, ⟨some 30, .bin .gtr (.tmp 29) (.con (.int .i64 20)), none⟩]) (.keep [1, 2, 3, 4, 9, 30] (.cond (.tmp 30) (.keep [] (.seq (.rego 7 [⟨some 31, .call 9 [], none⟩, ⟨some 8, .mov (.tmp 31), none⟩]) .ret)) .skip)))) (.keep [1, 2, 3, 4, 9] (.rego 5 [⟨some 21, .mov (.tmp 9), none⟩, ⟨some 22, .bin .add (.tmp 21) (.con (.int .i64 1)), none⟩, ⟨some 9, .mov (.tmp 22), none⟩]))))))))) (.keep [1, 2, 3, 4] (.seq (.seq (.regf 8 [0, 0, 0, 7, 0, 0, 0, 127, 255, 511, 1023, 1023, 1023, 8191, 16383, 32767, 32767, 32767, 262143, 524287, 1048575, 2097151, 2097151, 2097151, 16777215, 33554431, 67108863, 134217727] [⟨some 32, .load true 10 (.tmp 4), none⟩, ⟨some 33, .mov (.tmp 1), none⟩, ⟨some 34, .mov (.tmp 2), none⟩, ⟨some 35, .call 15 [.tmp 32, .tmp 33, .tmp 34], none⟩, ⟨some 36, .load true 10 (.tmp 4), none⟩, ⟨some 37, .mov (.tmp 1), none⟩, ⟨some 38, .mov (.tmp 2), none⟩, ⟨some 39, .call 16 [.tmp 36, .tmp 37, .tmp 38], none⟩, ⟨some 40, .eqb true (.tmp 35) (.tmp 39), none⟩, ⟨some 41, .mov (.tmp 40), none⟩, ⟨some 42, .load true 10 (.tmp 4), some ⟨41, false⟩⟩, ⟨some 43, .mov (.tmp 1), some ⟨41, false⟩⟩, ⟨some 44, .mov (.tmp 2), some ⟨41, false⟩⟩, ⟨some 45, .call 15 [.tmp 42, .tmp 43, .tmp 44], some ⟨41, false⟩⟩, ⟨some 46, .mov (.tmp 45), some ⟨41, false⟩⟩, ⟨some 47, .load true 10 (.tmp 4), some ⟨46, true⟩⟩, ⟨some 48, .mov (.tmp 2), some ⟨46, true⟩⟩, ⟨some 49, .mov (.tmp 3), some ⟨46, true⟩⟩, ⟨some 50, .call 15 [.tmp 47, .tmp 48, .tmp 49], some ⟨46, true⟩⟩, ⟨some 51, .pick (.tmp 46) (.tmp 50) (.con (.bool false)), some ⟨41, false⟩⟩, ⟨some 52, .mov (.tmp 51), some ⟨41, false⟩⟩, ⟨some 53, .load true 10 (.tmp 4), some ⟨52, true⟩⟩, ⟨some 54, .mov (.tmp 1), some ⟨52, true⟩⟩, ⟨some 55, .mov (.tmp 3), some ⟨52, true⟩⟩, ⟨some 56, .call 15 [.tmp 53, .tmp 54, .tmp 55], some ⟨52, true⟩⟩, ⟨some 57, .un .not (.tmp 56), some ⟨52, true⟩⟩, ⟨some 58, .pick (.tmp 52) (.tmp 57) (.con (.bool false)), some ⟨41, false⟩⟩, ⟨some 59, .pick (.tmp 41) (.con (.bool true)) (.tmp 58), none⟩]) (.keep [4, 59] (.cond (.tmp 59) (.keep [] (.seq (.rego 9 [⟨some 8, .mov (.con (.bool false)), none⟩]) .ret)) .skip))) (.keep [4] (.seq (.seq (.rego 10 [⟨some 10, .mov (.con (.int .i64 0)), none⟩]) (.keep [4, 10] (.block 2 (.loop (.seq (.seq (.rego 11 [⟨some 60, .mov (.tmp 10), none⟩, ⟨some 61, .fad 2 (.tmp 4), none⟩, ⟨some 62, .load false 1 (.tmp 61), none⟩, ⟨some 63, .len false (.tmp 62), none⟩, ⟨some 64, .bin .lss (.tmp 60) (.tmp 63), none⟩]) (.keep [4, 10, 64] (.cond (.tmp 64) .skip (.exit 2)))) (.keep [4, 10] (.seq (.block 3 (.seq (.regf 13 [0, 0, 2, 0, 14, 30, 62, 0, 128, 0, 896, 1920, 3968, 8191, 16383] [⟨some 67, .load true 10 (.tmp 4), none⟩, ⟨some 68, .fad 2 (.tmp 4), none⟩, ⟨some 69, .load false 1 (.tmp 68), none⟩, ⟨some 70, .mov (.tmp 10), none⟩, ⟨some 71, .iaS 2 (.tmp 69) (.tmp 70), none⟩, ⟨some 72, .fad 0 (.tmp 71), none⟩, ⟨some 73, .load false 1 (.tmp 72), none⟩, ⟨some 74, .fad 2 (.tmp 4), none⟩, ⟨some 75, .load false 1 (.tmp 74), none⟩, ⟨some 76, .mov (.tmp 10), none⟩, ⟨some 77, .iaS 2 (.tmp 75) (.tmp 76), none⟩, ⟨some 78, .fad 0 (.tmp 77), none⟩, ⟨some 79, .load false 1 (.tmp 78), none⟩, ⟨some 80, .call 15 [.tmp 67, .tmp 73, .tmp 79], none⟩, ⟨some 81, .un .not (.tmp 80), none⟩]) (.keep [4, 10, 81] (.cond (.tmp 81) (.keep [] (.seq (.rego 14 [⟨some 8, .mov (.con (.bool false)), none⟩]) .ret)) .skip)))) (.keep [4, 10] (.rego 12 [⟨some 65, .mov (.tmp 10), none⟩, ⟨some 66, .bin .add (.tmp 65) (.con (.int .i64 1)), none⟩, ⟨some 10, .mov (.tmp 66), none⟩]))))))))) (.keep [] (.seq (.rego 15 [⟨some 82, .call 9 [], none⟩, ⟨some 8, .mov (.tmp 82), none⟩]) .ret))))))))))
theorem fdv4 : fnData Tryz.prog 4 = some (83, lcv4.erase, [LRV.tmp 8]) := by kernel_rfl

def lcv15 : LC := .seq (.rego 0 [⟨some 3, .box (.tmp 0), none⟩, ⟨some 6, .mov (.con (.bool false)), none⟩]) (.keep [1, 2, 3] (.seq (.rego 1 [⟨some 15, .mkmap, none⟩, ⟨some 7, .mov (.tmp 15), none⟩]) (.keep [1, 2, 3, 7] (.seq (.seq (.rego 2 [⟨some 16, .fad 2 (.tmp 3), none⟩, ⟨some 17, .load false 1 (.tmp 16), none⟩, ⟨some 18, .len false (.tmp 17), none⟩, ⟨some 19, .mov (.con (.int .i64 0)), none⟩]) (.keep [1, 2, 7, 17, 18, 19] (.block 0 (.loop (.seq (.rego 3 [⟨some 20, .bin .lss (.tmp 19) (.tmp 18), none⟩]) (.keep [1, 2, 7, 17, 18, 19, 20] (.seq (.cond (.tmp 20) .skip (.exit 0)) (.keep [1, 2, 7, 17, 18, 19] (.seq (.block 1 (.seq (.rego 4 [⟨some 21, .iaS 2 (.tmp 17) (.tmp 19), none⟩, ⟨some 22, .load true 2 (.tmp 21), none⟩, ⟨some 9, .new [.str { data := #[] }, .e0], none⟩, ⟨none, .store 2 (.tmp 9) (.tmp 22), none⟩]) (.keep [1, 2, 7, 9, 17, 18, 19] (.seq (.regd 5 [0, 0, 2, 0, 0, 16, 56, 0, 128, 504, 1023] [⟨some 23, .mov (.tmp 7), none⟩, ⟨some 24, .fad 0 (.tmp 9), none⟩, ⟨some 25, .load false 1 (.tmp 24), none⟩, ⟨some 26, .mov (.tmp 7), none⟩, ⟨some 27, .fad 0 (.tmp 9), none⟩, ⟨some 28, .load false 1 (.tmp 27), none⟩, ⟨some 29, .mlk KT.str false .e0 (.tmp 26) (.tmp 28), none⟩, ⟨some 30, .fad 1 (.tmp 9), none⟩, ⟨some 31, .load false 1 (.tmp 30), none⟩, ⟨some 32, .app 1 16 (.tmp 29) (.tmp 31), none⟩, ⟨none, .mset KT.str (.tmp 23) (.tmp 25) (.tmp 32), none⟩]) (.keep [1, 2, 7, 9, 17, 18, 19] (.regd 6 [0, 0, 2, 0, 0, 16, 56, 0, 128, 384, 1016, 2047] [⟨some 33, .mov (.tmp 7), none⟩, ⟨some 34, .fad 0 (.tmp 9), none⟩, ⟨some 35, .load false 1 (.tmp 34), none⟩, ⟨some 36, .mov (.tmp 7), none⟩, ⟨some 37, .fad 0 (.tmp 9), none⟩, ⟨some 38, .load false 1 (.tmp 37), none⟩, ⟨some 39, .mlk KT.str false .e0 (.tmp 36) (.tmp 38), none⟩, ⟨some 40, .fad 0 (.tmp 9), none⟩, ⟨some 41, .load false 1 (.tmp 40), none⟩, ⟨some 42, .bsl 1 [.str { data := #[] }] [⟨0, 1, .tmp 41⟩], none⟩, ⟨some 43, .app 1 16 (.tmp 39) (.tmp 42), none⟩, ⟨none, .mset KT.str (.tmp 33) (.tmp 35) (.tmp 43), none⟩])))))) (.keep [1, 2, 7, 17, 18, 19] (.rego 7 [⟨some 44, .bin .add (.tmp 19) (.con (.int .i64 1)), none⟩, ⟨some 19, .mov (.tmp 44), none⟩]))))))))))) (.keep [1, 2, 7] (.seq (.seq (.rego 8 [⟨some 45, .mov (.tmp 7), none⟩, ⟨some 46, .mov (.tmp 1), none⟩, ⟨some 47, .mlk KT.str false .e0 (.tmp 45) (.tmp 46), none⟩, ⟨some 48, .len false (.tmp 47), none⟩, ⟨some 49, .bin .eql (.tmp 48) (.con (.int .i64 0)), none⟩, ⟨some 50, .mov (.tmp 49), none⟩, ⟨some 51, .mov (.tmp 7), some ⟨50, false⟩⟩, ⟨some 52, .mov (.tmp 2), some ⟨50, false⟩⟩, ⟨some 53, .mlk KT.str false .e0 (.tmp 51) (.tmp 52), some ⟨50, false⟩⟩, ⟨some 54, .len false (.tmp 53), some ⟨50, false⟩⟩, ⟨some 55, .bin .eql (.tmp 54) (.con (.int .i64 0)), some ⟨50, false⟩⟩, ⟨some 56, .pick (.tmp 50) (.con (.bool true)) (.tmp 55), none⟩]) (.keep [1, 2, 7, 56] (.cond (.tmp 56) (.keep [] (.seq (.rego 9 [⟨some 6, .mov (.con (.bool false)), none⟩]) .ret)) .skip))) (.keep [1, 2, 7] (.seq (.rego 10 [⟨some 57, .mkmap, none⟩, ⟨some 58, .mov (.tmp 1), none⟩, ⟨none, .mset KT.str (.tmp 57) (.tmp 58) (.con (.int .i64 1)), none⟩, ⟨some 59, .mov (.tmp 57), none⟩, ⟨some 10, .mov (.tmp 59), none⟩]) (.keep [1, 2, 7, 10] (.seq (.regb 11 [⟨false, ⟨some 60, .mov (.tmp 1), none⟩⟩, ⟨true, ⟨some 61, .bsl 1 [.str { data := #[] }] [⟨0, 1, .tmp 60⟩], none⟩⟩, ⟨false, ⟨some 11, .mov (.tmp 61), none⟩⟩]) (.keep [2, 7, 10, 11] (.seq (.block 2 (.loop (.seq (.seq (.rego 12 [⟨some 62, .mov (.tmp 11), none⟩, ⟨some 63, .len false (.tmp 62), none⟩, ⟨some 64, .bin .gtr (.tmp 63) (.con (.int .i64 0)), none⟩]) (.keep [2, 7, 10, 11, 64] (.cond (.tmp 64) .skip (.exit 2)))) (.keep [2, 7, 10, 11] (.block 3 (.seq (.rego 13 [⟨some 65, .mov (.tmp 11), none⟩, ⟨some 66, .mov (.tmp 11), none⟩, ⟨some 67, .len false (.tmp 66), none⟩, ⟨some 68, .bin .sub (.tmp 67) (.con (.int .i64 1)), none⟩, ⟨some 69, .iaS 1 (.tmp 65) (.tmp 68), none⟩, ⟨some 70, .load false 1 (.tmp 69), none⟩, ⟨some 12, .mov (.tmp 70), none⟩]) (.keep [2, 7, 10, 11, 12] (.seq (.rego 14 [⟨some 71, .mov (.tmp 11), none⟩, ⟨some 72, .mov (.tmp 11), none⟩, ⟨some 73, .len false (.tmp 72), none⟩, ⟨some 74, .bin .sub (.tmp 73) (.con (.int .i64 1)), none⟩, ⟨some 75, .slV 1 (.tmp 71) none (some (.tmp 74)), none⟩, ⟨some 11, .mov (.tmp 75), none⟩]) (.keep [2, 7, 10, 11, 12] (.seq (.rego 15 [⟨some 76, .mov (.tmp 7), none⟩, ⟨some 77, .mov (.tmp 12), none⟩, ⟨some 78, .mlk KT.str false .e0 (.tmp 76) (.tmp 77), none⟩, ⟨some 79, .len false (.tmp 78), none⟩, ⟨some 80, .mov (.con (.int .i64 0)), none⟩]) (.keep [2, 7, 10, 11, 78, 79, 80] (.block 4 (.loop (.seq (.rego 16 [⟨some 81, .bin .lss (.tmp 80) (.tmp 79), none⟩]) (.keep [2, 7, 10, 11, 78, 79, 80, 81] (.seq (.cond (.tmp 81) .skip (.exit 4)) (.keep [2, 7, 10, 11, 78, 79, 80] (.seq (.block 5 (.seq (.rego 17 [⟨some 82, .iaS 1 (.tmp 78) (.tmp 80), none⟩, ⟨some 83, .load false 1 (.tmp 82), none⟩, ⟨some 14, .mov (.tmp 83), none⟩]) (.keep [2, 7, 10, 11, 14, 78, 79, 80] (.seq (.rego 18 [⟨some 84, .mov (.tmp 10), none⟩, ⟨some 85, .mov (.tmp 14), none⟩, ⟨some 86, .mlk KT.str false (.int .i64 0) (.tmp 84) (.tmp 85), none⟩, ⟨some 87, .bin .eql (.tmp 86) (.con (.int .i64 0)), none⟩]) (.keep [2, 7, 10, 11, 14, 78, 79, 80, 87] (.cond (.tmp 87) (.keep [2, 7, 10, 11, 14, 78, 79, 80] (.seq (.rego 19 [⟨some 88, .mov (.tmp 10), none⟩, ⟨some 89, .mov (.tmp 14), none⟩, ⟨none, .mset KT.str (.tmp 88) (.tmp 89) (.con (.int .i64 1)), none⟩]) (.keep [2, 7, 10, 11, 14, 78, 79, 80] (.rego 20 [⟨some 90, .mov (.tmp 11), none⟩, ⟨some 91, .mov (.tmp 14), none⟩, ⟨some 92, .bsl 1 [.str { data := #[] }] [⟨0, 1, .tmp 91⟩], none⟩, ⟨some 93, .app 1 16 (.tmp 90) (.tmp 92), none⟩, ⟨some 11, .mov (.tmp 93), none⟩])))) .skip)))))) (.keep [2, 7, 10, 11, 78, 79, 80] (.rego 21 [⟨some 94, .bin .add (.tmp 80) (.con (.int .i64 1)), none⟩, ⟨some 80, .mov (.tmp 94), none⟩])))))))))))))))))))) (.keep [2, 10] (.seq (.rego 22 [⟨some 95, .mov (.tmp 10), none⟩, ⟨some 96, .mov (.tmp 2), none⟩, ⟨some 97, .mlk KT.str false (.int .i64 0) (.tmp 95) (.tmp 96), none⟩, ⟨some 98, .bin .eql (.tmp 97) (.con (.int .i64 1)), none⟩, ⟨some 6, .mov (.tmp 98), none⟩]) .ret))))))))))))))
theorem fdv15 : fnData Tryz.prog 15 = some (99, lcv15.erase, [LRV.tmp 6]) := by kernel_rfl

def lcv16 : LC := .seq (.rego 0 [⟨some 3, .box (.tmp 0), none⟩, ⟨some 6, .mov (.con (.bool false)), none⟩]) (.keep [1, 2, 3] (.seq (.seq (.rego 1 [⟨some 12, .load true 10 (.tmp 3), none⟩, ⟨some 13, .mov (.tmp 1), none⟩, ⟨some 14, .call 36 [.tmp 12, .tmp 13], none⟩, ⟨some 15, .un .not (.tmp 14), none⟩, ⟨some 16, .mov (.tmp 15), none⟩, ⟨some 17, .load true 10 (.tmp 3), some ⟨16, false⟩⟩, ⟨some 18, .mov (.tmp 2), some ⟨16, false⟩⟩, ⟨some 19, .call 36 [.tmp 17, .tmp 18], some ⟨16, false⟩⟩, ⟨some 20, .un .not (.tmp 19), some ⟨16, false⟩⟩, ⟨some 21, .pick (.tmp 16) (.con (.bool true)) (.tmp 20), none⟩]) (.keep [1, 2, 3, 21] (.cond (.tmp 21) (.keep [] (.seq (.rego 2 [⟨some 6, .mov (.con (.bool false)), none⟩]) .ret)) .skip))) (.keep [1, 2, 3] (.seq (.regb 3 [⟨false, ⟨some 22, .mov (.tmp 1), none⟩⟩, ⟨true, ⟨some 23, .bsl 1 [.str { data := #[] }] [⟨0, 1, .tmp 22⟩], none⟩⟩, ⟨false, ⟨some 7, .mov (.tmp 23), none⟩⟩]) (.keep [2, 3, 7] (.seq (.seq (.rego 4 [⟨some 8, .mov (.con (.int .i64 0)), none⟩]) (.keep [2, 3, 7, 8] (.block 0 (.loop (.seq (.seq (.rego 5 [⟨some 24, .mov (.tmp 8), none⟩, ⟨some 25, .mov (.tmp 7), none⟩, ⟨some 26, .len false (.tmp 25), none⟩, ⟨some 27, .bin .lss (.tmp 24) (.tmp 26), none⟩]) (.keep [2, 3, 7, 8, 27] (.cond (.tmp 27) .skip (.exit 0)))) (.keep [2, 3, 7, 8] (.seq (.block 1 (.seq (.rego 7 [⟨some 9, .mov (.con (.int .i64 0)), none⟩]) (.keep [2, 3, 7, 8, 9] (.block 2 (.loop (.seq (.seq (.rego 8 [⟨some 30, .mov (.tmp 9), none⟩, ⟨some 31, .fad 2 (.tmp 3), none⟩, ⟨some 32, .load false 1 (.tmp 31), none⟩, ⟨some 33, .len false (.tmp 32), none⟩, ⟨some 34, .bin .lss (.tmp 30) (.tmp 33), none⟩]) (.keep [2, 3, 7, 8, 9, 34] (.cond (.tmp 34) .skip (.exit 2)))) (.keep [2, 3, 7, 8, 9] (.seq (.block 3 (.seq (.rego 10 [⟨some 10, .mov (.con (.int .i64 0)), none⟩]) (.keep [2, 3, 7, 8, 9, 10] (.block 4 (.loop (.seq (.seq (.reg 11 [⟨some 37, .mov (.tmp 10), none⟩, ⟨some 38, .fad 2 (.tmp 3), none⟩, ⟨some 39, .load false 1 (.tmp 38), none⟩, ⟨some 40, .mov (.tmp 9), none⟩, ⟨some 41, .iaS 2 (.tmp 39) (.tmp 40), none⟩, ⟨some 42, .fad 1 (.tmp 41), none⟩, ⟨some 43, .load false 1 (.tmp 42), none⟩, ⟨some 44, .len false (.tmp 43), none⟩, ⟨some 45, .bin .lss (.tmp 37) (.tmp 44), none⟩, ⟨some 46, .mov (.tmp 45), none⟩, ⟨some 47, .fad 2 (.tmp 3), some ⟨46, true⟩⟩, ⟨some 48, .load false 1 (.tmp 47), some ⟨46, true⟩⟩, ⟨some 49, .mov (.tmp 9), some ⟨46, true⟩⟩, ⟨some 50, .iaS 2 (.tmp 48) (.tmp 49), some ⟨46, true⟩⟩, ⟨some 51, .fad 0 (.tmp 50), some ⟨46, true⟩⟩, ⟨some 52, .load false 1 (.tmp 51), some ⟨46, true⟩⟩, ⟨some 53, .mov (.tmp 7), some ⟨46, true⟩⟩, ⟨some 54, .mov (.tmp 8), some ⟨46, true⟩⟩, ⟨some 55, .iaS 1 (.tmp 53) (.tmp 54), some ⟨46, true⟩⟩, ⟨some 56, .load false 1 (.tmp 55), some ⟨46, true⟩⟩, ⟨some 57, .bin .eql (.tmp 52) (.tmp 56), some ⟨46, true⟩⟩, ⟨some 58, .pick (.tmp 46) (.tmp 57) (.con (.bool false)), none⟩]) (.keep [2, 3, 7, 8, 9, 10, 58] (.cond (.tmp 58) .skip (.exit 4)))) (.keep [2, 3, 7, 8, 9, 10] (.seq (.block 5 (.seq (.rego 13 [⟨some 61, .fad 2 (.tmp 3), none⟩, ⟨some 62, .load false 1 (.tmp 61), none⟩, ⟨some 63, .mov (.tmp 9), none⟩, ⟨some 64, .iaS 2 (.tmp 62) (.tmp 63), none⟩, ⟨some 65, .fad 1 (.tmp 64), none⟩, ⟨some 66, .load false 1 (.tmp 65), none⟩, ⟨some 67, .mov (.tmp 10), none⟩, ⟨some 68, .iaS 1 (.tmp 66) (.tmp 67), none⟩, ⟨some 69, .load false 1 (.tmp 68), none⟩, ⟨some 11, .mov (.tmp 69), none⟩]) (.keep [2, 3, 7, 8, 9, 10, 11] (.seq (.rego 14 [⟨some 70, .load true 10 (.tmp 3), none⟩, ⟨some 71, .mov (.tmp 11), none⟩, ⟨some 72, .call 36 [.tmp 70, .tmp 71], none⟩, ⟨some 73, .mov (.tmp 72), none⟩, ⟨some 74, .mov (.tmp 7), some ⟨73, true⟩⟩, ⟨some 75, .mov (.tmp 11), some ⟨73, true⟩⟩, ⟨some 76, .call 37 [.tmp 74, .tmp 75], some ⟨73, true⟩⟩, ⟨some 77, .un .not (.tmp 76), some ⟨73, true⟩⟩, ⟨some 78, .pick (.tmp 73) (.tmp 77) (.con (.bool false)), none⟩]) (.keep [2, 3, 7, 8, 9, 10, 11, 78] (.cond (.tmp 78) (.keep [2, 3, 7, 8, 9, 10, 11] (.rego 15 [⟨some 79, .mov (.tmp 7), none⟩, ⟨some 80, .mov (.tmp 11), none⟩, ⟨some 81, .bsl 1 [.str { data := #[] }] [⟨0, 1, .tmp 80⟩], none⟩, ⟨some 82, .app 1 16 (.tmp 79) (.tmp 81), none⟩, ⟨some 7, .mov (.tmp 82), none⟩])) .skip)))))) (.keep [2, 3, 7, 8, 9, 10] (.rego 12 [⟨some 59, .mov (.tmp 10), none⟩, ⟨some 60, .bin .add (.tmp 59) (.con (.int .i64 1)), none⟩, ⟨some 10, .mov (.tmp 60), none⟩])))))))))) (.keep [2, 3, 7, 8, 9] (.rego 9 [⟨some 35, .mov (.tmp 9), none⟩, ⟨some 36, .bin .add (.tmp 35) (.con (.int .i64 1)), none⟩, ⟨some 9, .mov (.tmp 36), none⟩])))))))))) (.keep [2, 3, 7, 8] (.rego 6 [⟨some 28, .mov (.tmp 8), none⟩, ⟨some 29, .bin .add (.tmp 28) (.con (.int .i64 1)), none⟩, ⟨some 8, .mov (.tmp 29), none⟩]))))))))) (.keep [2, 7] (.seq (.rego 16 [⟨some 83, .mov (.tmp 7), none⟩, ⟨some 84, .mov (.tmp 2), none⟩, ⟨some 85, .call 37 [.tmp 83, .tmp 84], none⟩, ⟨some 6, .mov (.tmp 85), none⟩]) .ret))))))))
theorem fdv16 : fnData Tryz.prog 16 = some (86, lcv16.erase, [LRV.tmp 6]) := by kernel_rfl

def lcv36 : LC := .seq (.rego 0 [⟨some 2, .box (.tmp 0), none⟩, ⟨some 4, .mov (.con (.bool false)), none⟩]) (.keep [1, 2] (.seq (.seq (.rego 1 [⟨some 5, .mov (.con (.int .i64 0)), none⟩]) (.keep [1, 2, 5] (.block 0 (.loop (.seq (.seq (.rego 2 [⟨some 6, .mov (.tmp 5), none⟩, ⟨some 7, .fad 2 (.tmp 2), none⟩, ⟨some 8, .load false 1 (.tmp 7), none⟩, ⟨some 9, .len false (.tmp 8), none⟩, ⟨some 10, .bin .lss (.tmp 6) (.tmp 9), none⟩]) (.keep [1, 2, 5, 10] (.cond (.tmp 10) .skip (.exit 0)))) (.keep [1, 2, 5] (.seq (.block 1 (.seq (.rego 4 [⟨some 13, .fad 2 (.tmp 2), none⟩, ⟨some 14, .load false 1 (.tmp 13), none⟩, ⟨some 15, .mov (.tmp 5), none⟩, ⟨some 16, .iaS 2 (.tmp 14) (.tmp 15), none⟩, ⟨some 17, .fad 0 (.tmp 16), none⟩, ⟨some 18, .load false 1 (.tmp 17), none⟩, ⟨some 19, .mov (.tmp 1), none⟩, ⟨some 20, .bin .eql (.tmp 18) (.tmp 19), none⟩]) (.keep [1, 2, 5, 20] (.cond (.tmp 20) (.keep [] (.seq (.rego 5 [⟨some 4, .mov (.con (.bool true)), none⟩]) .ret)) .skip)))) (.keep [1, 2, 5] (.rego 3 [⟨some 11, .mov (.tmp 5), none⟩, ⟨some 12, .bin .add (.tmp 11) (.con (.int .i64 1)), none⟩, ⟨some 5, .mov (.tmp 12), none⟩]))))))))) (.keep [] (.seq (.rego 6 [⟨some 4, .mov (.con (.bool false)), none⟩]) .ret))))
theorem fdv36 : fnData Tryz.prog 36 = some (21, lcv36.erase, [LRV.tmp 4]) := by kernel_rfl

def lcv37 : LC := .seq (.rego 0 [⟨some 4, .mov (.con (.bool false)), none⟩]) (.keep [0, 1] (.seq (.seq (.rego 1 [⟨some 5, .mov (.con (.int .i64 0)), none⟩]) (.keep [0, 1, 5] (.block 0 (.loop (.seq (.seq (.rego 2 [⟨some 6, .mov (.tmp 5), none⟩, ⟨some 7, .mov (.tmp 0), none⟩, ⟨some 8, .len false (.tmp 7), none⟩, ⟨some 9, .bin .lss (.tmp 6) (.tmp 8), none⟩]) (.keep [0, 1, 5, 9] (.cond (.tmp 9) .skip (.exit 0)))) (.keep [0, 1, 5] (.seq (.block 1 (.seq (.rego 4 [⟨some 12, .mov (.tmp 0), none⟩, ⟨some 13, .mov (.tmp 5), none⟩, ⟨some 14, .iaS 1 (.tmp 12) (.tmp 13), none⟩, ⟨some 15, .load false 1 (.tmp 14), none⟩, ⟨some 16, .mov (.tmp 1), none⟩, ⟨some 17, .bin .eql (.tmp 15) (.tmp 16), none⟩]) (.keep [0, 1, 5, 17] (.cond (.tmp 17) (.keep [] (.seq (.rego 5 [⟨some 4, .mov (.con (.bool true)), none⟩]) .ret)) .skip)))) (.keep [0, 1, 5] (.rego 3 [⟨some 10, .mov (.tmp 5), none⟩, ⟨some 11, .bin .add (.tmp 10) (.con (.int .i64 1)), none⟩, ⟨some 5, .mov (.tmp 11), none⟩]))))))))) (.keep [] (.seq (.rego 6 [⟨some 4, .mov (.con (.bool false)), none⟩]) .ret))))
theorem fdv37 : fnData Tryz.prog 37 = some (18, lcv37.erase, [LRV.tmp 4]) := by kernel_rfl

end Go.Proofs.YtlnphjjhfgghkaaGreatDoor

set_option linter.unusedSimpArgs false
set_option linter.unusedVariables false
namespace Go.Lg
open Go Go.RowKit

end Go.Lg

set_option linter.unusedSimpArgs false
set_option linter.unusedVariables false
namespace Go.Lg
theorem VCA : type_of% (And.intro VC0 (And.intro VC1 (And.intro VC2 (And.intro VC3 (And.intro VC4 (And.intro VC5 (And.intro VC6 (And.intro VC7 (And.intro VC8 VC9))))))))) := And.intro VC0 (And.intro VC1 (And.intro VC2 (And.intro VC3 (And.intro VC4 (And.intro VC5 (And.intro VC6 (And.intro VC7 (And.intro VC8 VC9))))))))
end Go.Lg

set_option linter.unusedSimpArgs false
set_option linter.unusedVariables false
namespace Go.Lg
open Go Go.RowKit

section
variable {P : Program}
/-- It yields a value, and reads these objects alone. -/
def evP (P : Program) (s : Nat) (o : LOp) (tm : Nat → V) (R : List (Key × LObj)) (v : V) : Prop :=
  ∀ σ : St, (∀ t ∈ o.slots, σ.tm t = tm t) → (∀ p ∈ R, σ.H p.1 = some p.2) → ∀ K : St → Prop, K (σ.put o.dst v) → vstepM P s o K σ
/-- It turns these objects so. -/
def evB (P : Program) (s : Nat) (o : LOp) (tm : Nat → V) (H : Heap) (c : Nat → Nat) (H1 : Heap) (c1 : Nat → Nat) (v : V) : Prop :=
  ∀ tm' : Nat → V, (∀ t ∈ o.slots, tm' t = tm t) → ∀ K : St → Prop, K (St.put ⟨tm', H1, c1⟩ o.dst v) → vstepM P s o K ⟨tm', H, c⟩
/-- What a step does: it reads these alone; it turns what is told, but not what is kept; it is the last one, and waits for all. -/
inductive Fd where
  | rd (R : List Key)
  | big
  | any
/-- The steps; beside each what it reads (none: a call that turns objects). 'kp': what all leave as it was. -/
def walkD (P : Program) (rid : Nat) (kp : List (Key × LObj)) (fin : List Fd → Prop) : List LOp → Nat → List Fd → (St → Prop) → St → Prop
  | [], _, fs, K, σ => fin fs ∧ K σ
  | o :: os, i, fs, K, σ => (∃ R v, evP P (siteOf rid i) o σ.tm R v ∧ (∀ p ∈ R, σ.H p.1 = some p.2) ∧ walkD P rid kp fin os (i + 1) (fs ++ [.rd (R.map (·.1))]) K (σ.put o.dst v)) ∨
      (∃ H1 c1 v, evB P (siteOf rid i) o σ.tm σ.H σ.cnt H1 c1 v ∧ (∀ p ∈ kp, H1 p.1 = some p.2) ∧ walkD P rid kp fin os (i + 1) (fs ++ [.big]) K (St.put ⟨σ.tm, H1, c1⟩ o.dst v)) ∨
      (os = [] ∧ ∃ H1 c1 v, evB P (siteOf rid i) o σ.tm σ.H σ.cnt H1 c1 v ∧ fin (fs ++ [.any]) ∧ K (St.put ⟨σ.tm, H1, c1⟩ o.dst v))
def bigOk (kp : List Key) : Fd → Fd → Bool
  | .big, .rd R => R.all kp.contains
  | .rd R, .big => R.all kp.contains
  | .rd _, .rd _ => true
  | .any, .rd R | .rd R, .any => R.isEmpty
  | _, _ => false
def bdOk (bs : List Nat) (ops : List LOp) (kp : List Key) (fs : List Fd) : Bool :=
  (List.range ops.length).all fun i => (List.range i).all fun j => (bs.getD i 0).testBit j || (apartO (loAt ops j) (loAt ops i) && bigOk kp (fs.getD j .any) (fs.getD i .any))

/-- What an event is known to be. -/
def EvD (kp : List (Key × LObj)) (e : Ev) : Fd → Prop
  | .big => ∃ b, e.big = some b ∧ e.rd = [] ∧ (∀ p ∈ kp, b.H0 p.1 = some p.2 ∧ b.H1 p.1 = some p.2) ∧ e.w = none ∧ e.nw = false
  | .any => True
  | .rd R => e.big = none ∧ e.w = none ∧ e.nw = false ∧ (∀ p ∈ e.rd, p.1 ∈ R) ∧ ∀ p ∈ e.rd, ∀ q ∈ kp, p.1 = q.1 → p.2 = q.2
theorem walkD_run {rid : Nat} {kp : List (Key × LObj)} {fin : List Fd → Prop} {los : List LOp} {K : St → Prop} : ∀ (ops : List LOp) (i : Nat), ops = los.drop i → i + ops.length = los.length → ∀ (fs : List Fd) (σ : St), (∀ p ∈ kp, σ.H p.1 = some p.2) → walkD P rid kp fin ops i fs K σ →
    ∃ (ev : Nat → Ev) (gs : List Fd) (σe : St), (∀ k, i ≤ k → k < los.length → EvOk P (siteOf rid k) (loAt los k) (ev k) ∧ EvD kp (ev k) (gs.getD (k - i) .any)) ∧ RunE rid (loAt los) ev (List.range' i ops.length) σ σe ∧ fin (fs ++ gs) ∧ K σe
  | [], i, hd, hn, fs, σ, hkp, h => by
    refine ⟨fun _ => ⟨.junk, [], none, false, fun _ => .junk, none⟩, [], σ, fun k h1 h2 => by simp at hn; omega, rfl, ?_, h.2⟩
    rw [List.append_nil]; exact h.1
  | p :: ops, i, hd, hn, fs, σ, hkp, h => by
    have one : (∃ (f : Fd) (ev0 : Ev) (σ1 : St), walkD P rid kp fin ops (i + 1) (fs ++ [f]) K σ1 ∧ EvOk P (siteOf rid i) p ev0 ∧ rdyE (siteOf rid i) p ev0 σ ∧ apE (siteOf rid i) p.dst ev0 σ = σ1 ∧ EvD kp ev0 f ∧ ∀ q ∈ kp, σ1.H q.1 = some q.2) ∨ (ops = [] ∧ ∃ (f : Fd) (ev0 : Ev) (σ1 : St), fin (fs ++ [f]) ∧ K σ1 ∧ EvOk P (siteOf rid i) p ev0 ∧ rdyE (siteOf rid i) p ev0 σ ∧ apE (siteOf rid i) p.dst ev0 σ = σ1 ∧ EvD kp ev0 f) := by
      rw [walkD] at h
      have big : ∀ {H1 : Heap} {c1 : Nat → Nat} {v : V}, evB P (siteOf rid i) p σ.tm σ.H σ.cnt H1 c1 v → EvOk P (siteOf rid i) p ⟨v, [], none, false, σ.tm, some ⟨σ.H, σ.cnt, H1, c1⟩⟩ := by
        rintro H1 c1 v h1 σ' ⟨⟨t1, _, _⟩, t4⟩ K' hK
        obtain ⟨b1, b2⟩ := t4 _ rfl
        have e : σ' = ⟨σ'.tm, σ.H, σ.cnt⟩ := by
          cases σ'; simp only at b1 b2; subst b1 b2; rfl
        rw [e]
        exact ⟨_, Ent.refl _, .inl (h1 σ'.tm t1 K' hK)⟩
      rcases h with ⟨R, v, h1, h2, h3⟩ | ⟨H1, c1, v, h1, h2, h3⟩ | ⟨h0, H1, c1, v, h1, h2, h3⟩
      · refine .inl ⟨_, ⟨v, R, none, false, σ.tm, none⟩, _, h3, ?_, ⟨⟨fun _ _ => rfl, h2, fun h => (by cases h)⟩, fun b h => (by cases h)⟩, rfl, ⟨rfl, rfl, rfl, fun q hq => List.mem_map_of_mem hq, fun q hq r hr e => ?_⟩, hkp⟩
        · rintro σ' ⟨⟨t1, t2, _⟩, _⟩ K' hK
          exact ⟨σ', Ent.refl _, .inl (h1 σ' t1 t2 K' hK)⟩
        · have e1 := h2 q hq
          rw [e, hkp r hr] at e1
          exact (Option.some.inj e1).symm
      · exact .inl ⟨_, ⟨v, [], none, false, σ.tm, some ⟨σ.H, σ.cnt, H1, c1⟩⟩, _, h3, big h1, ⟨⟨fun _ _ => rfl, fun q h => (by cases h), fun h => (by cases h)⟩, fun b h => (by cases h; exact ⟨rfl, rfl⟩)⟩, rfl, ⟨_, rfl, rfl, fun q hq => ⟨hkp q hq, h2 q hq⟩, rfl, rfl⟩, h2⟩
      · exact .inr ⟨h0, .any, ⟨v, [], none, false, σ.tm, some ⟨σ.H, σ.cnt, H1, c1⟩⟩, _, h2, h3, big h1, ⟨⟨fun _ _ => rfl, fun q h => (by cases h), fun h => (by cases h)⟩, fun b h => (by cases h; exact ⟨rfl, rfl⟩)⟩, rfl, trivial⟩
    have hd1 : ops = los.drop (i + 1) := by rw [← List.tail_drop, ← hd]; rfl
    have hlo : loAt los i = p := by
      have := congrArg (fun l => l[0]?) hd
      simp only [List.getElem?_cons_zero, List.getElem?_drop, Nat.add_zero] at this
      simp only [loAt, List.getD_eq_getElem?_getD, ← this, Option.getD_some]
    rcases one with ⟨f, ev0, σ1, h3, v1, v2, v3, v4, v5⟩ | ⟨h0, f, ev0, σ1, h3, h4, v1, v2, v3, v4⟩
    case inr =>
      subst h0
      refine ⟨fun _ => ev0, [f], σ1, fun k k1 k2 => ?_, ?_, h3, h4⟩
      · obtain rfl : k = i := by simp only [List.length_cons, List.length_nil] at hn; omega
        rw [hlo, Nat.sub_self]
        exact ⟨v1, v4⟩
      · refine ⟨?_, ?_⟩
        · rw [hlo]; exact v2
        · rw [hlo]; exact v3.symm
    obtain ⟨ev, gs, σe, w1, w2, w3, w4⟩ := walkD_run ops (i + 1) hd1 (by simp only [List.length_cons] at hn; omega) _ σ1 v5 h3
    refine ⟨fun k => if k = i then ev0 else ev k, f :: gs, σe, fun k k1 k2 => ?_, ?_, by rw [List.append_assoc] at w3; exact w3, w4⟩
    · by_cases hk : k = i
      · subst hk
        simp only [if_true, hlo, Nat.sub_self]
        exact ⟨v1, v4⟩
      · simp only [if_neg hk]
        obtain ⟨x1, x2⟩ := w1 k (by omega) k2
        have hs : k - i = (k - (i + 1)) + 1 := by omega
        rw [hs, List.getD_cons_succ]
        exact ⟨x1, x2⟩
    · have cong : ∀ (l : List Nat) (a b : St), (∀ j ∈ l, i < j) → RunE rid (loAt los) ev l a b → RunE rid (loAt los) (fun k => if k = i then ev0 else ev k) l a b := by
        intro l
        induction l with
        | nil => intro a b _ h; exact h
        | cons j r ih =>
          intro a b hl h
          have hj := hl j (List.mem_cons_self ..)
          have e : (if j = i then ev0 else ev j) = ev j := if_neg (by omega)
          refine ⟨?_, ?_⟩
          · show rdyE _ _ (if j = i then ev0 else ev j) _
            rw [e]; exact h.1
          · show RunE _ _ _ _ (apE _ _ (if j = i then ev0 else ev j) _) _
            rw [e]; exact ih _ _ (fun k hk => hl k (List.mem_cons_of_mem _ hk)) h.2
      rw [List.length_cons, List.range'_succ]
      refine ⟨?_, ?_⟩
      · simp only [if_true, hlo]; exact v2
      · simp only [if_true, hlo, v3]
        exact cong _ _ _ (fun j hj => by have := (List.mem_range'_1.1 hj).1; omega) w2
theorem vregd_D {rid : Nat} {bs : List Nat} {kp : List (Key × LObj)} {los : List LOp} {K : St → Prop} {σ : St} (hkp : ∀ p ∈ kp, σ.H p.1 = some p.2) (h : walkD P rid kp (fun fs => bdOk bs los (kp.map (·.1)) fs = true) los 0 [] K σ) : vregd P rid bs los K σ := by
  obtain ⟨ev, gs, σe, w1, w2, w3, w4⟩ := walkD_run los 0 rfl (by simp) [] σ hkp h
  rw [List.nil_append] at w3
  refine ⟨ev, fun i hi => (w1 i (Nat.zero_le _) hi).1, fun i j hj hi hb => ?_, σe, by rw [List.range_eq_range']; exact w2, w4⟩
  have h1 := List.all_eq_true.1 w3 i (List.mem_range.2 hi)
  have h2 := List.all_eq_true.1 h1 j (List.mem_range.2 hj)
  rw [hb] at h2
  simp only [Bool.false_or, Bool.and_eq_true] at h2
  obtain ⟨a1, a2⟩ := h2
  obtain ⟨_, fi⟩ := w1 i (Nat.zero_le _) hi
  obtain ⟨_, fj⟩ := w1 j (Nat.zero_le _) (by omega)
  rw [Nat.sub_zero] at fi fj
  refine ⟨a1, ?_⟩
  have calmB' : ∀ (e f : Ev) (R : List Key), EvD kp e .big → EvD kp f (.rd R) → R.all (kp.map (·.1)).contains = true → calmB e f := by
    rintro e f R ⟨b, hb, _, hk, _, _⟩ ⟨f1, f2, f3, f4, f5⟩ hR
    refine ⟨b, hb, f2, f3, f1, fun p hp => ?_⟩
    have hm := List.all_eq_true.1 hR p.1 (f4 p hp)
    rw [List.contains_iff_mem] at hm
    obtain ⟨q, hq, e1⟩ := List.mem_map.1 hm
    have e2 := f5 p hp q hq e1.symm
    rw [e2, ← e1]
    exact hk q hq
  have calm' : ∀ (f : Ev) (R : List Key), EvD kp f (.rd R) → R.isEmpty = true → calm f := by
    rintro f R ⟨f1, f2, f3, f4, f5⟩ hR
    rw [List.isEmpty_iff] at hR
    subst hR
    refine ⟨List.eq_nil_iff_forall_not_mem.2 fun p hp => ?_, f2, f3, f1⟩
    have := f4 p hp
    cases this
  cases hgi : gs.getD i .any with
  | big =>
    cases hgj : gs.getD j .any with
    | big => rw [hgi, hgj] at a2; cases a2
    | any => rw [hgi, hgj] at a2; cases a2
    | rd R =>
      rw [hgi, hgj] at a2; rw [hgi] at fi; rw [hgj] at fj
      exact .inr (.inr (.inr (.inr (calmB' _ _ R fi fj a2))))
  | any =>
    cases hgj : gs.getD j .any with
    | big => rw [hgi, hgj] at a2; cases a2
    | any => rw [hgi, hgj] at a2; cases a2
    | rd R =>
      rw [hgi, hgj] at a2; rw [hgj] at fj
      exact .inr (.inl (calm' _ R fj a2))
  | rd R =>
    rw [hgi] at fi
    cases hgj : gs.getD j .any with
    | big =>
      rw [hgi, hgj] at a2; rw [hgj] at fj
      exact .inr (.inr (.inr (.inl (calmB' _ _ R fj fi a2))))
    | any =>
      rw [hgi, hgj] at a2
      exact .inr (.inr (.inl (calm' _ R fi a2)))
    | rd R' =>
      rw [hgj] at fj
      obtain ⟨i1, i2, i3, i4, _⟩ := fi
      obtain ⟨j1, j2, j3, j4, _⟩ := fj
      exact .inl ⟨j1, i1, fun k hk => by simp [kw, j2] at hk, fun k hk => by simp [kw, i2] at hk⟩
theorem vcg_regd_of2 {rid : Nat} {bs : List Nat} {los : List LOp} {Q : Exit → St → Prop} {σ : St} (kp : List (Key × LObj)) (hkp : ∀ p ∈ kp, σ.H p.1 = some p.2) (h : walkD P rid kp (fun fs => bdOk bs los (kp.map (·.1)) fs = true) los 0 [] (Q .normal) σ) : vcg P (.regd rid bs los) Q σ := vregd_D hkp h
/-- A step that neither calls nor turns. -/
theorem walkD_A {rid i : Nat} {kp : List (Key × LObj)} {fin : List Fd → Prop} {fs : List Fd} {K : St → Prop} {σ : St} {d : Option Nat} {op : IOp} {os : List LOp} {pre : Prop} {v : V} (R : List (Key × LObj)) (hR : ∀ p ∈ R, σ.H p.1 = some p.2)
    (h : ∀ H : Heap, (∀ p ∈ R, H p.1 = some p.2) → lop op σ.tm H = .A pre v) (hp : pre) (hk : walkD P rid kp fin os (i + 1) (fs ++ [.rd (R.map (·.1))]) K (σ.put d v)) : walkD P rid kp fin (⟨d, op, none⟩ :: os) i fs K σ := by
  refine .inl ⟨R, v, fun σ' t1 t2 K' hK => ?_, hR, hk⟩
  show vresM P σ' (siteOf rid i) d K' (lop op σ'.tm σ'.H)
  rw [op_congr (o := ⟨d, op, none⟩) (tm := σ.tm) t1, h σ'.H t2]
  exact ⟨hp, hK⟩
/-! The same, reckoned: no calls. -/
def kpOk (H : Heap) : List (Key × LObj) → Prop
  | [] => True
  | p :: r => H p.1 = some p.2 ∧ kpOk H r
theorem kpOk_iff {H : Heap} : ∀ {kp : List (Key × LObj)}, kpOk H kp → ∀ p ∈ kp, H p.1 = some p.2
  | [], _, p, hp => by cases hp
  | q :: r, h, p, hp => by
    rcases List.mem_cons.1 hp with rfl | hp
    · exact h.1
    · exact kpOk_iff h.2 p hp
def wsA (r : LRes) (k : V → Prop) : Prop := match r with
  | .A pre v => pre ∧ k v
  | _ => False
def wsL (H : Heap) (agg : Bool) (n : Nat) (k : List Key → V → Prop) : V → Prop
  | .mp key g o => wsA (lload agg n H (.mp key g o)) (k [key])
  | .ip cs o => wsA (lload agg n H (.ip cs o)) (k [])
  | _ => False
def wsB (H : Heap) (k : V → Prop) : V → Prop
  | .sl n cs => wsA (lb2s H (.sl n cs)) k
  | _ => False
def wsW (s : Nat) (kp : List (Key × LObj)) (σ : St) (d : Option Nat) (k : St → Prop) : LRes → Prop
  | .C pre o mk => pre ∧ kpOk (hupd σ.H (s, σ.cnt s) o) kp ∧ k (St.put ⟨σ.tm, hupd σ.H (s, σ.cnt s) o, cupd σ.cnt s⟩ d (mk (s, σ.cnt s)))
  | .D pre v H1 => pre ∧ kpOk H1 kp ∧ k (St.put ⟨σ.tm, H1, σ.cnt⟩ d v)
  | _ => False
def wsF (σ : St) (d : Option Nat) (k : St → Prop) : LRes → Prop
  | .D pre v H1 => pre ∧ k (St.put ⟨σ.tm, H1, σ.cnt⟩ d v)
  | _ => False
theorem wsA_iff {r : LRes} {k : V → Prop} (h : wsA r k) : ∃ pre v, r = .A pre v ∧ pre ∧ k v := by
  cases r with
  | A pre v => exact ⟨pre, v, rfl, h.1, h.2⟩
  | _ => exact h.elim
theorem evB_of_C {s : Nat} {d : Option Nat} {op : IOp} {σ : St} {pre : Prop} {o : LObj} {mk : Key → V} (h : lop op σ.tm σ.H = .C pre o mk) (hp : pre) : evB P s ⟨d, op, none⟩ σ.tm σ.H σ.cnt (hupd σ.H (s, σ.cnt s) o) (cupd σ.cnt s) (mk (s, σ.cnt s)) := by
  intro tm' t1 K' hK
  show vresM P ⟨tm', σ.H, σ.cnt⟩ s d K' (lop op tm' σ.H)
  rw [op_congr (o := ⟨d, op, none⟩) (tm := σ.tm) t1, h]
  exact ⟨hp, hK⟩
theorem evB_of_D {s : Nat} {d : Option Nat} {op : IOp} {σ : St} {pre : Prop} {v : V} {H1 : Heap} (h : lop op σ.tm σ.H = .D pre v H1) (hp : pre) : evB P s ⟨d, op, none⟩ σ.tm σ.H σ.cnt H1 σ.cnt v := by
  intro tm' t1 K' hK
  show vresM P ⟨tm', σ.H, σ.cnt⟩ s d K' (lop op tm' σ.H)
  rw [op_congr (o := ⟨d, op, none⟩) (tm := σ.tm) t1, h]
  exact ⟨hp, hK⟩
theorem lload_mp {agg : Bool} {n : Nat} {H : Heap} {key : Key} {g o : Nat} {pre : Prop} {v : V} (h : lload agg n H (.mp key g o) = .A pre v) : ∃ ob, H key = some ob ∧ ∀ H' : Heap, H' key = some ob → lload agg n H' (.mp key g o) = .A pre v := by
  cases hk : H key with
  | none => simp only [lload, hk] at h; cases h
  | some ob =>
    refine ⟨ob, rfl, fun H' h' => ?_⟩
    simp only [lload, hk] at h
    simp only [lload, h']
    exact h
theorem wsA_A {pre : Prop} {v : V} {k : V → Prop} : wsA (.A pre v) k = (pre ∧ k v) := rfl
theorem wsL_mp {H : Heap} {agg : Bool} {n : Nat} {k : List Key → V → Prop} {key : Key} {g o : Nat} : wsL H agg n k (.mp key g o) = wsA (lload agg n H (.mp key g o)) (k [key]) := rfl
theorem wsL_ip {H : Heap} {agg : Bool} {n : Nat} {k : List Key → V → Prop} {cs : List V} {o : Nat} : wsL H agg n k (.ip cs o) = wsA (lload agg n H (.ip cs o)) (k []) := rfl
theorem wsW_C {s : Nat} {kp : List (Key × LObj)} {σ : St} {d : Option Nat} {k : St → Prop} {pre : Prop} {o : LObj} {mk : Key → V} : wsW s kp σ d k (.C pre o mk) = (pre ∧ kpOk (hupd σ.H (s, σ.cnt s) o) kp ∧ k (St.put ⟨σ.tm, hupd σ.H (s, σ.cnt s) o, cupd σ.cnt s⟩ d (mk (s, σ.cnt s)))) := rfl
theorem wsW_D {s : Nat} {kp : List (Key × LObj)} {σ : St} {d : Option Nat} {k : St → Prop} {pre : Prop} {v : V} {H1 : Heap} : wsW s kp σ d k (.D pre v H1) = (pre ∧ kpOk H1 kp ∧ k (St.put ⟨σ.tm, H1, σ.cnt⟩ d v)) := rfl
theorem wsF_D {σ : St} {d : Option Nat} {k : St → Prop} {pre : Prop} {v : V} {H1 : Heap} : wsF σ d k (.D pre v H1) = (pre ∧ k (St.put ⟨σ.tm, H1, σ.cnt⟩ d v)) := rfl
theorem kpOk_nil {H : Heap} : kpOk H [] = True := rfl
theorem kpOk_cons {H : Heap} {p : Key × LObj} {r : List (Key × LObj)} : kpOk H (p :: r) = (H p.1 = some p.2 ∧ kpOk H r) := rfl
end
section
variable {P : Program} {rid i : Nat} {kp : List (Key × LObj)} {fin : List Fd → Prop} {fs : List Fd} {K : St → Prop} {σ : St} {d : Option Nat} {os : List LOp}
end
end Go.Lg

set_option linter.unusedSimpArgs false
set_option linter.unusedVariables false
namespace Go.Lg
open Go Go.RowKit
section
variable {P : Program}
theorem evP_g {s : Nat} {d : Option Nat} {op : IOp} {g : Option (Nat × Bool)} {tm : Nat → V} {R : List (Key × LObj)} {v : V} (hg : gd tm g = some true) (h : evP P s ⟨d, op, none⟩ tm R v) : evP P s ⟨d, op, g⟩ tm R v := by
  intro σ t1 t2 K hK
  have h1 := h σ (fun t ht => t1 t (List.mem_append.2 (.inr ((List.mem_append.1 ht).elim (fun h => (by cases h)) id)))) t2 K hK
  show (match gd σ.tm g with | some true => _ | some false => _ | none => _ : Prop)
  rw [gd_congr (o := ⟨d, op, g⟩) t1, hg]
  exact h1
theorem evB_g {s : Nat} {d : Option Nat} {op : IOp} {g : Option (Nat × Bool)} {tm : Nat → V} {H : Heap} {c : Nat → Nat} {H1 : Heap} {c1 : Nat → Nat} {v : V} (hg : gd tm g = some true) (h : evB P s ⟨d, op, none⟩ tm H c H1 c1 v) : evB P s ⟨d, op, g⟩ tm H c H1 c1 v := by
  intro tm' t1 K hK
  have h1 := h tm' (fun t ht => t1 t (List.mem_append.2 (.inr ((List.mem_append.1 ht).elim (fun h => (by cases h)) id)))) K hK
  show (match gd tm' g with | some true => _ | some false => _ | none => _ : Prop)
  rw [gd_congr (o := ⟨d, op, g⟩) t1, hg]
  exact h1
theorem evP_skip {s : Nat} {d : Option Nat} {op : IOp} {g : Option (Nat × Bool)} {tm : Nat → V} (hg : gd tm g = some false) : evP P s ⟨d, op, g⟩ tm [] (.tup []) := by
  intro σ t1 t2 K hK
  show (match gd σ.tm g with | some true => _ | some false => _ | none => _ : Prop)
  rw [gd_congr (o := ⟨d, op, g⟩) t1, hg]
  exact hK
theorem walkD_g {rid i : Nat} {kp : List (Key × LObj)} {fin : List Fd → Prop} {fs : List Fd} {K : St → Prop} {σ : St} {d : Option Nat} {op : IOp} {g : Option (Nat × Bool)} {os : List LOp} (hg : gd σ.tm g = some true) (h : walkD P rid kp fin (⟨d, op, none⟩ :: os) i fs K σ) : walkD P rid kp fin (⟨d, op, g⟩ :: os) i fs K σ := by
  rcases h with ⟨R, v, h1, h2, h3⟩ | ⟨H1, c1, v, h1, h2, h3⟩ | ⟨h0, H1, c1, v, h1, h2, h3⟩
  · exact .inl ⟨R, v, evP_g hg h1, h2, h3⟩
  · exact .inr (.inl ⟨H1, c1, v, evB_g hg h1, h2, h3⟩)
  · exact .inr (.inr ⟨h0, H1, c1, v, evB_g hg h1, h2, h3⟩)
theorem walkD_skip {rid i : Nat} {kp : List (Key × LObj)} {fin : List Fd → Prop} {fs : List Fd} {K : St → Prop} {σ : St} {d : Option Nat} {op : IOp} {g : Option (Nat × Bool)} {os : List LOp} (hg : gd σ.tm g = some false) (h : walkD P rid kp fin os (i + 1) (fs ++ [.rd []]) K (σ.put d (.tup []))) : walkD P rid kp fin (⟨d, op, g⟩ :: os) i fs K σ :=
  .inl ⟨[], .tup [], evP_skip hg, fun p h => (by cases h), h⟩
def freeG : IOp → Bool
  | .mov _ | .nilchk _ | .fad .. | .bin .. | .un .. | .slV .. | .bsl .. | .ext .. | .len .. | .eqa .. | .eqb .. | .pick .. => true
  | _ => false
theorem freeG_H {op : IOp} (h : freeG op = true) (tm : Nat → V) (H H' : Heap) : lop op tm H = lop op tm H' := by
  cases op <;> first | rfl | cases h
theorem gd_none0 {tm : Nat → V} : gd tm none = some true := rfl
def wgd (g : Option Bool) (a b : Prop) : Prop := match g with
  | some true => a
  | some false => b
  | none => False
def wsM (H : Heap) (kt : KT) (ok : Bool) (z i : V) (k : List Key → V → Prop) : V → Prop
  | .mm key => wsA (lmlk H kt ok z (.mm key) i) (k [key])
  | .im es => wsA (lmlk H kt ok z (.im es) i) (k [])
  | _ => False
theorem lmlk_mm {H : Heap} {kt : KT} {ok : Bool} {z i : V} {key : Key} {pre : Prop} {v : V} (h : lmlk H kt ok z (.mm key) i = .A pre v) : ∃ ob, H key = some ob ∧ ∀ H' : Heap, H' key = some ob → lmlk H' kt ok z (.mm key) i = .A pre v := by
  cases hk : H key with
  | none => simp only [lmlk, hk] at h; cases h
  | some ob =>
    refine ⟨ob, rfl, fun H' h' => ?_⟩
    simp only [lmlk, hk] at h
    simp only [lmlk, h']
    exact h
def stepG (s : Nat) (kp : List (Key × LObj)) (σ : St) (d : Option Nat) (kk : Fd → St → Prop) (lst : St → Prop) (cl : FuncId → List Rd → Prop) : IOp → Prop
  | .load agg n a => wsL σ.H agg n (fun ks v => kk (.rd ks) (σ.put d v)) (a.get σ.tm)
  | .b2s x => wsB σ.H (fun v => kk (.rd []) (σ.put d v)) (x.get σ.tm)
  | .app e b x y => wsW s kp σ d (kk .big) (lop (.app e b x y) σ.tm σ.H)
  | .appE e b x y => wsW s kp σ d (kk .big) (lop (.appE e b x y) σ.tm σ.H)
  | .store n a x => wsF σ d lst (lop (.store n a x) σ.tm σ.H)
  | .call f a => cl f a
  | .mlk kt ok z x i => wsM σ.H kt ok z (i.get σ.tm) (fun ks v => kk (.rd ks) (σ.put d v)) (x.get σ.tm)
  | .mset kt x i v => wsF σ d lst (lop (.mset kt x i v) σ.tm σ.H)
  | op => freeG op = true ∧ wsA (lop op σ.tm σ.H) (fun v => kk (.rd []) (σ.put d v))
def walkG (P : Program) (rid : Nat) (kp : List (Key × LObj)) (fin : List Fd → Prop) : List LOp → Nat → List Fd → (St → Prop) → St → Prop
  | [], _, fs, K, σ => fin fs ∧ K σ
  | o :: os, i, fs, K, σ => wgd (gd σ.tm o.guard) (stepG (siteOf rid i) kp σ o.dst (fun f σ' => walkG P rid kp fin os (i + 1) (fs ++ [f]) K σ') (fun σ' => os = [] ∧ fin (fs ++ [.any]) ∧ K σ')
      (fun f a => walkD P rid kp fin (⟨o.dst, .call f a, none⟩ :: os) i fs K σ) o.op) (walkG P rid kp fin os (i + 1) (fs ++ [.rd []]) K (σ.put o.dst (.tup [])))
theorem walkG_D {rid : Nat} {kp : List (Key × LObj)} {fin : List Fd → Prop} {K : St → Prop} : ∀ (os : List LOp) (i1 : Nat) (fs : List Fd) (σ : St), walkG P rid kp fin os i1 fs K σ → walkD P rid kp fin os i1 fs K σ
  | [], _, _, _, h => h
  | ⟨d, op, g⟩ :: os, i1, fs, σ, h => by
    have ih := fun i1 fs σ => walkG_D (rid := rid) (kp := kp) (fin := fin) (K := K) os i1 fs σ
    have h : wgd (gd σ.tm g) (stepG (siteOf rid i1) kp σ d (fun f σ' => walkG P rid kp fin os (i1 + 1) (fs ++ [f]) K σ') (fun σ' => os = [] ∧ fin (fs ++ [.any]) ∧ K σ')
      (fun f a => walkD P rid kp fin (⟨d, .call f a, none⟩ :: os) i1 fs K σ) op) (walkG P rid kp fin os (i1 + 1) (fs ++ [.rd []]) K (σ.put d (.tup []))) := h
    cases hg : gd σ.tm g with
    | none => rw [hg] at h; exact h.elim
    | some b =>
    cases b with
    | false => rw [hg] at h; exact walkD_skip hg (ih _ _ _ h)
    | true =>
    rw [hg] at h
    refine walkD_g hg ?_
    have free : freeG op = true ∧ wsA (lop op σ.tm σ.H) (fun v => walkG P rid kp fin os (i1 + 1) (fs ++ [.rd []]) K (σ.put d v)) → walkD P rid kp fin (⟨d, op, none⟩ :: os) i1 fs K σ := by
      rintro ⟨h1, h2⟩
      obtain ⟨pre, v, e, hp, hk⟩ := wsA_iff h2
      exact walkD_A [] (fun _ h => by cases h) (fun H _ => by rw [freeG_H h1 σ.tm H σ.H]; exact e) hp (ih _ _ _ hk)
    have wr : wsW (siteOf rid i1) kp σ d (fun σ' => walkG P rid kp fin os (i1 + 1) (fs ++ [.big]) K σ') (lop op σ.tm σ.H) → walkD P rid kp fin (⟨d, op, none⟩ :: os) i1 fs K σ := by
      intro h
      cases e : lop op σ.tm σ.H with
      | C pre o mk =>
        rw [e] at h
        obtain ⟨h1, h2, h3⟩ := h
        exact .inr (.inl ⟨_, _, _, evB_of_C e h1, kpOk_iff h2, ih _ _ _ h3⟩)
      | D pre v H1 =>
        rw [e] at h
        obtain ⟨h1, h2, h3⟩ := h
        exact .inr (.inl ⟨_, _, _, evB_of_D e h1, kpOk_iff h2, ih _ _ _ h3⟩)
      | A pre v => rw [e] at h; exact h.elim
      | call pre f a b => rw [e] at h; exact h.elim
      | bad => rw [e] at h; exact h.elim
    cases op with
    | load agg n a =>
      have h : wsL σ.H agg n (fun ks v => walkG P rid kp fin os (i1 + 1) (fs ++ [.rd ks]) K (σ.put d v)) (a.get σ.tm) := h
      generalize hx : a.get σ.tm = x at h
      cases x with
      | mp key g o =>
        obtain ⟨pre, v, e, hp, hk⟩ := wsA_iff h
        obtain ⟨ob, h1, h2⟩ := lload_mp e
        refine walkD_A [(key, ob)] (fun q hq => by rw [List.mem_singleton.1 hq]; exact h1) (fun H hH => ?_) hp (ih _ _ _ hk)
        show lload agg n H (a.get σ.tm) = _
        rw [hx]
        exact h2 H (hH _ (List.mem_singleton.2 rfl))
      | ip cs o =>
        obtain ⟨pre, v, e, hp, hk⟩ := wsA_iff h
        refine walkD_A [] (fun _ h => by cases h) (fun H _ => ?_) hp (ih _ _ _ hk)
        show lload agg n H (a.get σ.tm) = _
        rw [hx]; exact e
      | _ => exact h.elim
    | b2s x =>
      have h : wsB σ.H (fun v => walkG P rid kp fin os (i1 + 1) (fs ++ [.rd []]) K (σ.put d v)) (x.get σ.tm) := h
      generalize hx : x.get σ.tm = y at h
      cases y with
      | sl n cs =>
        obtain ⟨pre, v, e, hp, hk⟩ := wsA_iff h
        refine walkD_A [] (fun _ h => by cases h) (fun H _ => ?_) hp (ih _ _ _ hk)
        show lb2s H (x.get σ.tm) = _
        rw [hx]; exact e
      | _ => exact h.elim
    | app => exact wr h
    | appE => exact wr h
    | store n a x =>
      have h : wsF σ d (fun σ' => os = [] ∧ fin (fs ++ [.any]) ∧ K σ') (lop (.store n a x) σ.tm σ.H) := h
      cases e : lop (.store n a x) σ.tm σ.H with
      | D pre v H1 =>
        rw [e] at h
        obtain ⟨h1, h0, h2, h3⟩ := h
        subst h0
        exact .inr (.inr ⟨rfl, _, _, _, evB_of_D e h1, h2, h3⟩)
      | A pre v => rw [e] at h; exact h.elim
      | C pre o mk => rw [e] at h; exact h.elim
      | call pre f a b => rw [e] at h; exact h.elim
      | bad => rw [e] at h; exact h.elim
    | call f a => exact h
    | mlk kt ok z a i =>
      have h : wsM σ.H kt ok z (i.get σ.tm) (fun ks v => walkG P rid kp fin os (i1 + 1) (fs ++ [.rd ks]) K (σ.put d v)) (a.get σ.tm) := h
      generalize hx : a.get σ.tm = x at h
      cases x with
      | mm key =>
        obtain ⟨pre, v, e, hp, hk⟩ := wsA_iff h
        obtain ⟨ob, h1, h2⟩ := lmlk_mm e
        refine walkD_A [(key, ob)] (fun q hq => by rw [List.mem_singleton.1 hq]; exact h1) (fun H hH => ?_) hp (ih _ _ _ hk)
        show lmlk H kt ok z (a.get σ.tm) (i.get σ.tm) = _
        rw [hx]
        exact h2 H (hH _ (List.mem_singleton.2 rfl))
      | im es =>
        have h : wsA (lmlk σ.H kt ok z (.im es) (i.get σ.tm)) (fun v => walkG P rid kp fin os (i1 + 1) (fs ++ [.rd []]) K (σ.put d v)) := h
        obtain ⟨pre, v, e, hp, hk⟩ := wsA_iff h
        refine walkD_A [] (fun _ h => by cases h) (fun H _ => ?_) hp (ih _ _ _ hk)
        show lmlk H kt ok z (a.get σ.tm) (i.get σ.tm) = _
        rw [hx]; exact e
      | _ => exact h.elim
    | mset kt a i x =>
      have h : wsF σ d (fun σ' => os = [] ∧ fin (fs ++ [.any]) ∧ K σ') (lop (.mset kt a i x) σ.tm σ.H) := h
      cases e : lop (.mset kt a i x) σ.tm σ.H with
      | D pre v H1 =>
        rw [e] at h
        obtain ⟨h1, h0, h2, h3⟩ := h
        subst h0
        exact .inr (.inr ⟨rfl, _, _, _, evB_of_D e h1, h2, h3⟩)
      | A pre v => rw [e] at h; exact h.elim
      | C pre o mk => rw [e] at h; exact h.elim
      | call pre f a b => rw [e] at h; exact h.elim
      | bad => rw [e] at h; exact h.elim
    | _ => exact free h
theorem vcg_regd_G {rid : Nat} {bs : List Nat} {los : List LOp} {Q : Exit → St → Prop} {σ : St} (kp : List (Key × LObj)) (hkp : kpOk σ.H kp) (h : walkG P rid kp (fun fs => bdOk bs los (kp.map (·.1)) fs = true) los 0 [] (Q .normal) σ) : vcg P (.regd rid bs los) Q σ :=
  vcg_regd_of2 kp (kpOk_iff hkp) (walkG_D _ _ _ _ h)
theorem wgd_t {a b : Prop} : wgd (some true) a b = a := rfl
theorem walkG_nil {rid i : Nat} {kp : List (Key × LObj)} {fin : List Fd → Prop} {fs : List Fd} {K : St → Prop} {σ : St} : walkG P rid kp fin [] i fs K σ = (fin fs ∧ K σ) := rfl
theorem walkG_cons {rid i : Nat} {kp : List (Key × LObj)} {fin : List Fd → Prop} {fs : List Fd} {K : St → Prop} {σ : St} {d : Option Nat} {op : IOp} {g : Option (Nat × Bool)} {os : List LOp} : walkG P rid kp fin (⟨d, op, g⟩ :: os) i fs K σ =
    wgd (gd σ.tm g) (stepG (siteOf rid i) kp σ d (fun f σ' => walkG P rid kp fin os (i + 1) (fs ++ [f]) K σ') (fun σ' => os = [] ∧ fin (fs ++ [.any]) ∧ K σ') (fun f a => walkD P rid kp fin (⟨d, .call f a, none⟩ :: os) i fs K σ) op) (walkG P rid kp fin os (i + 1) (fs ++ [.rd []]) K (σ.put d (.tup []))) := rfl
theorem walkG_one {rid i : Nat} {kp : List (Key × LObj)} {fin : List Fd → Prop} {fs : List Fd} {K : St → Prop} {σ : St} {d : Option Nat} {op : IOp} {g : Option (Nat × Bool)} : walkG P rid kp fin [⟨d, op, g⟩] i fs K σ =
    wgd (gd σ.tm g) (stepG (siteOf rid i) kp σ d (fun f σ' => fin (fs ++ [f]) ∧ K σ') (fun σ' => fin (fs ++ [.any]) ∧ K σ') (fun f a => walkD P rid kp fin [⟨d, .call f a, none⟩] i fs K σ) op) (fin (fs ++ [.rd []]) ∧ K (σ.put d (.tup []))) := by
  rw [walkG_cons]; simp only [true_and]; rfl
end
/-- What comes behind is looked at later. -/
theorem walkG_K {P : Program} {rid i : Nat} {kp : List (Key × LObj)} {fin : List Fd → Prop} {fs : List Fd} {K : St → Prop} {σ : St} {os : List LOp} (h : ∀ K' : St → Prop, K' = K → walkG P rid kp fin os i fs K' σ) : walkG P rid kp fin os i fs K σ := h K rfl
section
variable {s : Nat} {kp : List (Key × LObj)} {σ : St} {d : Option Nat} {kk : Fd → St → Prop} {lst : St → Prop} {cl : FuncId → List Rd → Prop}
theorem wsM_mm {H : Heap} {kt : KT} {ok : Bool} {z i : V} {k : List Key → V → Prop} {key : Key} : wsM H kt ok z i k (.mm key) = wsA (lmlk H kt ok z (.mm key) i) (k [key]) := rfl
theorem wsM_im {H : Heap} {kt : KT} {ok : Bool} {z i : V} {k : List Key → V → Prop} {es : List (V × V)} : wsM H kt ok z i k (.im es) = wsA (lmlk H kt ok z (.im es) i) (k []) := rfl
section
variable {P : Program} {rid i : Nat} {fin : List Fd → Prop} {fs : List Fd} {K : St → Prop} {os : List LOp}
theorem walkG_mov {x : Rd} : walkG P rid kp fin (⟨d, .mov x, none⟩ :: os) i fs K σ = walkG P rid kp fin os (i + 1) (fs ++ [.rd []]) K (σ.put d (x.get σ.tm)) := propext ⟨fun h => h.2.2, fun h => ⟨rfl, trivial, h⟩⟩
theorem walkG_load {agg : Bool} {n : Nat} {a : Rd} : walkG P rid kp fin (⟨d, .load agg n a, none⟩ :: os) i fs K σ = wsL σ.H agg n (fun ks v => walkG P rid kp fin os (i + 1) (fs ++ [.rd ks]) K (σ.put d v)) (a.get σ.tm) := rfl
theorem walkG_fad {o : Nat} {x : Rd} : walkG P rid kp fin (⟨d, .fad o x, none⟩ :: os) i fs K σ = wsA (lfad o (x.get σ.tm)) (fun v => walkG P rid kp fin os (i + 1) (fs ++ [.rd []]) K (σ.put d v)) := propext ⟨fun h => h.2, fun h => ⟨rfl, h⟩⟩
theorem walkG_un {o : UnOp} {x : Rd} : walkG P rid kp fin (⟨d, .un o x, none⟩ :: os) i fs K σ = wsA (lop (.un o x) σ.tm σ.H) (fun v => walkG P rid kp fin os (i + 1) (fs ++ [.rd []]) K (σ.put d v)) := propext ⟨fun h => h.2, fun h => ⟨rfl, h⟩⟩
theorem walkG_mlk {kt : KT} {ok : Bool} {z : V} {x j : Rd} : walkG P rid kp fin (⟨d, .mlk kt ok z x j, none⟩ :: os) i fs K σ = wsM σ.H kt ok z (j.get σ.tm) (fun ks v => walkG P rid kp fin os (i + 1) (fs ++ [.rd ks]) K (σ.put d v)) (x.get σ.tm) := rfl
theorem walkG_app {e b : Nat} {x y : Rd} : walkG P rid kp fin (⟨d, .app e b x y, none⟩ :: os) i fs K σ = wsW (siteOf rid i) kp σ d (fun σ' => walkG P rid kp fin os (i + 1) (fs ++ [.big]) K σ') (lop (.app e b x y) σ.tm σ.H) := rfl
theorem walkG_bsl {n : Nat} {zs : List V} {ps : List (Nat × Nat × Rd)} : walkG P rid kp fin (⟨d, .bsl n zs ps, none⟩ :: os) i fs K σ = wsA (lop (.bsl n zs ps) σ.tm σ.H) (fun v => walkG P rid kp fin os (i + 1) (fs ++ [.rd []]) K (σ.put d v)) := propext ⟨fun h => h.2, fun h => ⟨rfl, h⟩⟩
theorem walkG_mset {kt : KT} {x j v : Rd} : walkG P rid kp fin [⟨d, .mset kt x j v, none⟩] i fs K σ = wsF σ d (fun σ' => fin (fs ++ [.any]) ∧ K σ') (lop (.mset kt x j v) σ.tm σ.H) := by
  rw [walkG_one, gd_none0, wgd_t]; rfl
theorem walkG_call {f : FuncId} {a : List Rd} : walkG P rid kp fin (⟨d, .call f a, none⟩ :: os) i fs K σ = walkD P rid kp fin (⟨d, .call f a, none⟩ :: os) i fs K σ := rfl
end
end
end Go.Lg

set_option linter.unusedSimpArgs false
set_option linter.unusedVariables false
namespace Go.Lg
open Go Go.RowKit
theorem st_eq (a b : ByteArray) : (a.toList == b.toList) = decide (a = b) := by
  rw [ByteArray.toList_eq, ByteArray.toList_eq, Bool.eq_iff_iff]
  simp only [beq_iff_eq, decide_eq_true_eq]
  constructor
  · intro h
    cases a; cases b
    simp only at h
    congr 1
    exact Array.toList_inj.1 h
  · rintro rfl; rfl
def memB (x : ByteArray) (G : List ByteArray) : Bool := G.any fun y => decide (y = x)
theorem memB_t {x : ByteArray} {G : List ByteArray} (h : x ∈ G) : memB x G = true := List.any_eq_true.2 ⟨x, h, decide_eq_true rfl⟩
theorem memB_f {x : ByteArray} {G : List ByteArray} (h : x ∉ G) : memB x G = false := by
  rw [Bool.eq_false_iff]
  intro h1
  obtain ⟨y, hy, e⟩ := List.any_eq_true.1 h1
  exact h (of_decide_eq_true e ▸ hy)
theorem memB_iff {x : ByteArray} {G : List ByteArray} : memB x G = true ↔ x ∈ G := by
  by_cases h : x ∈ G
  · rw [memB_t h]; simp [h]
  · rw [memB_f h]; simp [h]
/-- A lifetime's cells. -/
def cLif (p : Lif) : List V := [.str p.1, encL cS p.2]
theorem cLif_len (p : Lif) : (cLif p).length = 2 := rfl
theorem lf_imv (d : Nat) (l : List Lif) : (l.flatMap cLif).all (imV (d + 1)) = true := by
  induction l with
  | nil => rfl
  | cons x r ih => rw [List.flatMap_cons, List.all_append, ih]; rfl
theorem lf_0 {l : List Lif} {i : Nat} (h : i < l.length) : ldV false 1 (l.flatMap cLif) (i * 2) = some (.str l[i].1) := by
  have := flat_cell cLif_len l i 0 h (by decide)
  simp only [Nat.add_zero, cLif, List.getElem?_cons_zero] at this
  simp only [ldV, Bool.false_eq_true, if_false]; exact this
theorem lf_1 {l : List Lif} {i : Nat} (h : i < l.length) : ldV false 1 (l.flatMap cLif) (i * 2 + 1) = some (.sl l[i].2.length (l[i].2.flatMap cS)) := by
  have := flat_cell cLif_len l i 1 h (by decide)
  simp only [cLif, List.getElem?_cons_succ, List.getElem?_cons_zero] at this
  simp only [ldV, Bool.false_eq_true, if_false]; exact this
theorem lf_A {l : List Lif} {i : Nat} (h : i < l.length) : ldV true 2 (l.flatMap cLif) (i * 2) = some (.agg (cLif l[i])) := by
  rw [ld_flat0 cLif_len h (by decide) (by decide)]
  rfl
theorem st_ld {l : List ByteArray} {i : Nat} (h : i < l.length) : ldV false 1 (l.flatMap cS) i = some (.str l[i]) := by
  have := flat_cell cS_len l i 0 h (by decide)
  simp only [Nat.add_zero, Nat.mul_one, cS, List.getElem?_cons_zero] at this
  simp only [ldV, Bool.false_eq_true, if_false]; exact this
/-- A cell that holds no object. -/
def simV : V → Bool
  | .int .. | .bool _ | .str _ | .sl .. => true
  | _ => false
theorem simV_imv {v : V} (d : Nat) (h : simV v = true) : imV (d + 1) v = true := by cases v <;> first | rfl | cases h
theorem simV_snap {v : V} (H : Heap) (d : Nat) (h : simV v = true) : snap H (d + 1) v = v := by cases v <;> first | rfl | cases h
theorem simV_sok {v : V} (H : Heap) (d : Nat) (h : simV v = true) : sok H (d + 1) v = true := by cases v <;> first | rfl | cases h
theorem simV_one {v : V} (h : simV v = true) : V.one v = true := by cases v <;> first | rfl | cases h
theorem simA_imv {cs : List V} (d : Nat) (h : cs.all simV = true) : cs.all (imV (d + 1)) = true := List.all_eq_true.2 fun x hx => simV_imv d (List.all_eq_true.1 h x hx)
theorem simA_sok {cs : List V} (H : Heap) (d : Nat) (h : cs.all simV = true) : cs.all (sok H (d + 1)) = true := List.all_eq_true.2 fun x hx => simV_sok H d (List.all_eq_true.1 h x hx)
theorem simA_one {cs : List V} (h : cs.all simV = true) : cs.all V.one = true := List.all_eq_true.2 fun x hx => simV_one (List.all_eq_true.1 h x hx)
theorem simA_snap {cs : List V} (H : Heap) (d : Nat) (h : cs.all simV = true) : cs.map (snap H (d + 1)) = cs := by
  induction cs with
  | nil => rfl
  | cons x r ih =>
    simp only [List.all_cons, Bool.and_eq_true] at h
    rw [List.map_cons, simV_snap H d h.1, ih h.2]
/-- A function's cells: its lifetimes are the third. -/
structure FnC where
  a : V
  b : V
  lives : List Lif
  post : List V
  ha : simV a = true
  hb : simV b = true
  hl : post.length = 7
  hp : post.all simV = true
def FnC.cells (F : FnC) : List V := F.a :: F.b :: .sl F.lives.length (F.lives.flatMap cLif) :: F.post
theorem FnC.len (F : FnC) : F.cells.length = 10 := by simp [FnC.cells, F.hl]
theorem FnC.sim (F : FnC) : F.cells.all simV = true := by
  simp only [FnC.cells, List.all_cons, F.ha, F.hb, F.hp, Bool.and_self, Bool.true_and]; rfl
theorem FnC.imvc (F : FnC) (d : Nat) : F.cells.all (imV (d + 1)) = true := simA_imv d F.sim
theorem FnC.sokc (F : FnC) (H : Heap) (d : Nat) : F.cells.all (sok H (d + 1)) = true := simA_sok H d F.sim
theorem FnC.snapc (F : FnC) (H : Heap) (d : Nat) : F.cells.map (snap H (d + 1)) = F.cells := simA_snap H d F.sim
theorem FnC.onec (F : FnC) : F.cells.all V.one = true := simA_one F.sim
theorem FnC.ld2 (F : FnC) : ldV false 1 F.cells 2 = some (.sl F.lives.length (F.lives.flatMap cLif)) := rfl
theorem FnC.ldA (F : FnC) : ldV true 10 F.cells 0 = some (.agg F.cells) := by
  simp only [ldV, if_true, List.drop_zero, F.len, Nat.zero_add, Nat.le_refl]
  rw [List.take_of_length_le (by rw [F.len]; exact Nat.le_refl _)]
end Go.Lg
namespace Go.Proofs.YtlnphjjhfgghkaaGreatDoor
open Go Go.Lg Go.RowKit
set_option linter.unusedVariables false
set_option linter.unusedSimpArgs false
theorem here_ret (F : FnC) (x : ByteArray) (hL : F.lives.length ≤ 1000) : PRet Tryz.prog 36 [.agg F.cells, .str x] (.bool (decide (hereL F.lives x))) := by
  refine pret_intro fdv36 (by simp) ?_
  simp only [lcv36, VCA, simprocAttr, encL, FnC.onec, V.cells]
  refine loop_vcg (ι := Nat × (Nat → Nat)) (fun (k, c) => stO [(1, .val (.str x)), (2, .box F.cells), (5, .val (.int .i64 k))] c)
    (fun (k, _) => k ≤ F.lives.length ∧ ∀ u, u < k → ∀ p, F.lives[u]? = some p → p.1 ≠ x) (fun (k, _) => F.lives.length - k) (0, _) ⟨Nat.zero_le _, fun u hu => by omega⟩ (ent_of _ [] rfl rfl (by simp only [VCA, simprocAttr, encL, FnC.imvc])) ?_
  rintro ⟨k, c⟩ hk
  obtain ⟨hk, hn⟩ : k ≤ F.lives.length ∧ ∀ u, u < k → ∀ p, F.lives[u]? = some p → p.1 ≠ x := hk
  simp only [VCA, simprocAttr, encL, FnC.ld2]
  refine condD_of (fun h => ?_) (fun h => ?_)
  · have hk' : k < F.lives.length := by omega
    have kk : 0 ≤ (k : Int) ∧ (k : Int) < F.lives.length := by omega
    have j2 : InI64 ((k : Int) + 1) := by unfold InI64; omega
    simp only [VCA, simprocAttr, encL, FnC.ld2, kk, lf_0 hk', st_eq]
    refine condD_of (fun h => ?_) (fun h => ?_)
    · have : hereL F.lives x := ⟨F.lives[k], List.getElem_mem hk', h⟩
      simp only [VCA, simprocAttr, encL, this]
    · simp only [VCA, simprocAttr, encL, j2]
      refine backTo_of (k + 1, _) ⟨hk', fun u hu p hp => ?_⟩ (by simp only []; omega) (ent_of _ [] rfl rfl (by simp only [VCA, simprocAttr, encL, FnC.imvc]))
      by_cases e : u = k
      · subst e
        rw [List.getElem?_eq_getElem hk'] at hp
        cases hp; exact h
      · exact hn u (by omega) p hp
  · obtain rfl : k = F.lives.length := by omega
    have : ¬ hereL F.lives x := by
      rintro ⟨p, hp, e⟩
      obtain ⟨u, hu⟩ := List.getElem?_of_mem hp
      exact hn u (List.getElem?_eq_some_iff.1 hu).1 p hu e
    simp only [VCA, simprocAttr, encL, decide_eq_false this]
theorem has_ret (G : List ByteArray) (x : ByteArray) (hL : G.length ≤ 1000) : PRet Tryz.prog 37 [.sl G.length (G.flatMap cS), .str x] (.bool (memB x G)) := by
  refine pret_intro fdv37 (by simp) ?_
  simp only [lcv37, VCA, simprocAttr, encL]
  refine loop_vcg (ι := Nat × (Nat → Nat)) (fun (k, c) => stO [(0, .val (.sl G.length (G.flatMap cS))), (1, .val (.str x)), (5, .val (.int .i64 k))] c)
    (fun (k, _) => k ≤ G.length ∧ ∀ u, u < k → G[u]? ≠ some x) (fun (k, _) => G.length - k) (0, _) ⟨Nat.zero_le _, fun u hu => by omega⟩ (ent_of _ [] rfl rfl (by simp only [VCA, simprocAttr, encL, ls_imv])) ?_
  rintro ⟨k, c⟩ hk
  obtain ⟨hk, hn⟩ : k ≤ G.length ∧ ∀ u, u < k → G[u]? ≠ some x := hk
  simp only [VCA, simprocAttr, encL]
  refine condD_of (fun h => ?_) (fun h => ?_)
  · have hk' : k < G.length := by omega
    have kk : 0 ≤ (k : Int) ∧ (k : Int) < G.length := by omega
    have j2 : InI64 ((k : Int) + 1) := by unfold InI64; omega
    simp only [VCA, simprocAttr, encL, kk, st_ld hk', st_eq]
    refine condD_of (fun h => ?_) (fun h => ?_)
    · have : x ∈ G := h ▸ List.getElem_mem hk'
      simp only [VCA, simprocAttr, encL, memB_t this]
    · simp only [VCA, simprocAttr, encL, j2]
      refine backTo_of (k + 1, _) ⟨hk', fun u hu => ?_⟩ (by simp only []; omega) (ent_of _ [] rfl rfl (by simp only [VCA, simprocAttr, encL, ls_imv]))
      by_cases e : u = k
      · subst e
        rw [List.getElem?_eq_getElem hk']
        intro e; exact h (Option.some.inj e)
      · exact hn u (by omega)
  · obtain rfl : k = G.length := by omega
    have : x ∉ G := by
      intro hx
      obtain ⟨u, hu⟩ := List.getElem?_of_mem hx
      exact hn u (List.getElem?_eq_some_iff.1 hu).1 hu
    simp only [VCA, simprocAttr, encL, memB_f this]
end Go.Proofs.YtlnphjjhfgghkaaGreatDoor

set_option linter.unusedSimpArgs false
set_option linter.unusedVariables false
namespace Go.Proofs.YtlnphjjhfgghkaaGreatDoor
open Go Go.Lg Go.RowKit
set_option linter.unusedVariables false
set_option linter.unusedSimpArgs false
theorem rover_ret (F : FnC) (a b : ByteArray) (hL : F.lives.length ≤ 20) (hO : ∀ p ∈ F.lives, p.2.length ≤ 20) : PRet Tryz.prog 16 [.agg F.cells, .str a, .str b] (.bool (overB F.lives a b)) := by
  refine pret_intro fdv16 (by simp) ?_
  simp only [lcv16, VCA, simprocAttr, encL, FnC.onec, V.cells, FnC.ldA, FnC.snapc, FnC.sokc]
  refine callX_of (here_ret F a (by omega)) (.inr rfl) ?_
  by_cases h1 : hereL F.lives a
  case neg =>
    have : overB F.lives a b = false := by rw [← overB_eq (q := false)]; exact ⟨fun h => (by cases h), fun h => absurd h.1 h1⟩
    simp only [VCA, simprocAttr, encL, decide_eq_false h1, this]
  simp only [VCA, simprocAttr, encL, decide_eq_true h1, FnC.ldA, FnC.snapc, FnC.sokc]
  refine callX_of (here_ret F b (by omega)) (.inr rfl) ?_
  by_cases h2 : hereL F.lives b
  case neg =>
    have : overB F.lives a b = false := by rw [← overB_eq (q := false)]; exact ⟨fun h => (by cases h), fun h => absurd h.2.1 h2⟩
    simp only [VCA, simprocAttr, encL, decide_eq_false h2, this]
  simp only [VCA, simprocAttr, encL, decide_eq_true h2]
  have hs0 : ([.str a] : List V) = [a].flatMap cS := rfl
  refine loop_vcg (ι := (List ByteArray × Nat) × (Nat → Nat)) (fun y => stO [(2, .val (.str b)), (3, .box F.cells), (7, .own 1 y.1.1.length (y.1.1.flatMap cS)), (8, .val (.int .i64 y.1.2))] y.2)
    (fun y => InvR F.lives a y.1.1 y.1.2 0 0 ∧ y.1.2 ≤ y.1.1.length) (fun y => F.lives.length - y.1.2) (([a], 0), _) ⟨InvR.start h1, Nat.zero_le _⟩ (ent_of _ [] rfl rfl (by simp only [VCA, simprocAttr, encL, FnC.imvc]; exact ⟨rfl, rfl⟩)) ?_
  rintro ⟨⟨G, i⟩, c⟩ ⟨hI, hi⟩
  have hI : InvR F.lives a G i 0 0 := hI
  have hi : i ≤ G.length := hi
  have hGl := hI.len
  simp only [VCA, simprocAttr, encL]
  refine condD_of (fun h => ?_) (fun h => ?_)
  case refine_2 =>
    obtain rfl : i = G.length := by omega
    simp only [VCA, simprocAttr, encL, ls_len, ls_sok, ls_snap, ls_take, Nat.le_refl]
    refine callX_of (has_ret G b (by omega)) (.inr rfl) ?_
    simp only [VCA, simprocAttr, encL]
    exact overB_eq (memB_iff.trans ⟨fun hb => ⟨h1, (hI.end (Nat.le_refl _)).1 hb⟩, fun hb => (hI.end (Nat.le_refl _)).2 hb.2⟩)
  have hi' : i < G.length := by omega
  simp only [VCA, simprocAttr, encL]
  refine loop_vcg (ι := (List ByteArray × Nat) × (Nat → Nat)) (fun y => stO [(2, .val (.str b)), (3, .box F.cells), (7, .own 1 y.1.1.length (y.1.1.flatMap cS)), (8, .val (.int .i64 i)), (9, .val (.int .i64 y.1.2))] y.2)
    (fun y => InvR F.lives a y.1.1 i y.1.2 0 ∧ y.1.2 ≤ F.lives.length ∧ i < y.1.1.length) (fun y => F.lives.length - y.1.2) ((G, 0), _) ⟨hI, Nat.zero_le _, hi'⟩ (ent_of _ [] rfl rfl (by simp only [VCA, simprocAttr, encL, FnC.imvc, ls_imv])) ?_
  rintro ⟨⟨G, k⟩, c⟩ ⟨hI, hk, hi'⟩
  have hI : InvR F.lives a G i k 0 := hI
  have hk : k ≤ F.lives.length := hk
  have hi' : i < G.length := hi'
  have hGl := hI.len
  simp only [VCA, simprocAttr, encL, FnC.ld2]
  refine condD_of (fun h => ?_) (fun h => ?_)
  case refine_2 =>
    obtain rfl : k = F.lives.length := by omega
    have j2 : InI64 ((i : Int) + 1) := by unfold InI64; omega
    simp only [VCA, simprocAttr, encL, j2]
    exact backTo_of ((G, i + 1), _) ⟨hI.nextI (Nat.le_refl _), hi'⟩ (by simp only []; omega) (ent_of _ [] rfl rfl (by simp only [VCA, simprocAttr, encL, FnC.imvc, ls_imv]))
  have hk' : k < F.lives.length := by omega
  obtain ⟨p, hp⟩ : ∃ p, p = F.lives[k] := ⟨_, rfl⟩
  have hpk : F.lives[k]? = some p := by rw [hp]; exact List.getElem?_eq_getElem hk'
  have hpo := hO p (hp ▸ List.getElem_mem hk')
  have l0 := lf_0 hk'
  have l1 := lf_1 hk'
  rw [← hp] at l0 l1
  have kk : 0 ≤ (k : Int) ∧ (k : Int) < F.lives.length := by omega
  simp only [VCA, simprocAttr, encL]
  refine loop_vcg (ι := (List ByteArray × Nat) × (Nat → Nat)) (fun y => stO [(2, .val (.str b)), (3, .box F.cells), (7, .own 1 y.1.1.length (y.1.1.flatMap cS)), (8, .val (.int .i64 i)), (9, .val (.int .i64 k)), (10, .val (.int .i64 y.1.2))] y.2)
    (fun y => InvR F.lives a y.1.1 i k y.1.2 ∧ y.1.2 ≤ p.2.length ∧ i < y.1.1.length) (fun y => p.2.length - y.1.2) ((G, 0), _) ⟨hI, Nat.zero_le _, hi'⟩ (ent_of _ [] rfl rfl (by simp only [VCA, simprocAttr, encL, FnC.imvc, ls_imv])) ?_
  rintro ⟨⟨G, j⟩, c⟩ ⟨hI, hj, hi'⟩
  have hI : InvR F.lives a G i k j := hI
  have hj : j ≤ p.2.length := hj
  have hi' : i < G.length := hi'
  have hGl := hI.len
  have ii : 0 ≤ (i : Int) ∧ (i : Int) < G.length := by omega
  have hGi : G[i]? = some G[i] := List.getElem?_eq_getElem hi'
  have k2 : InI64 ((k : Int) + 1) := by unfold InI64; omega
  simp only [VCA, simprocAttr, encL, FnC.ld2, kk, l1]
  cases c1 : decide ((j : Int) < p.2.length) <;> simp only [VCA, simprocAttr, encL, c1, FnC.ld2, kk, l0, ii, st_ld hi', st_eq]
  · have hj2 : p.2.length ≤ j := by have := of_decide_eq_false c1; omega
    exact ⟨k2, backTo_of ((G, k + 1), _) ⟨hI.nextK hpk (.inl hj2), hk', hi'⟩ (by simp only []; omega) (ent_of _ [] rfl rfl (by simp only [VCA, simprocAttr, encL, FnC.imvc, ls_imv]))⟩
  have hj' : j < p.2.length := by have := of_decide_eq_true c1; omega
  refine condD_of (fun h => ?_) (fun h => ?_)
  case refine_2 =>
    simp only [VCA, simprocAttr, encL, k2]
    exact backTo_of ((G, k + 1), _) ⟨hI.nextK hpk (.inr (by rw [hGi]; intro e; exact h (Option.some.inj e).symm)), hk', hi'⟩ (by simp only []; omega) (ent_of _ [] rfl rfl (by simp only [VCA, simprocAttr, encL, FnC.imvc, ls_imv]))
  obtain ⟨o, ho⟩ : ∃ o, o = p.2[j] := ⟨_, rfl⟩
  have hoj : p.2[j]? = some o := by rw [ho]; exact List.getElem?_eq_getElem hj'
  have lo := st_ld hj'
  rw [← ho] at lo
  have jj : 0 ≤ (j : Int) ∧ (j : Int) < p.2.length := by omega
  have j2 : InI64 ((j : Int) + 1) := by unfold InI64; omega
  simp only [VCA, simprocAttr, encL, FnC.ld2, kk, l1, jj, lo, FnC.ldA, FnC.snapc, FnC.sokc]
  refine callX_of (here_ret F o (by omega)) (.inr rfl) ?_
  by_cases h3 : hereL F.lives o
  case neg =>
    simp only [VCA, simprocAttr, encL, decide_eq_false h3, j2]
    exact backTo_of ((G, j + 1), _) ⟨hI.nextJ hpk hoj (fun h => absurd h h3), hj', hi'⟩ (by simp only []; omega) (ent_of _ [] rfl rfl (by simp only [VCA, simprocAttr, encL, FnC.imvc, ls_imv]))
  simp only [VCA, simprocAttr, encL, decide_eq_true h3, ls_len, ls_sok, ls_snap, ls_take]
  refine callX_of (has_ret G o (by omega)) (.inr rfl) ?_
  by_cases h4 : o ∈ G
  · simp only [VCA, simprocAttr, encL, memB_t h4, j2]
    exact backTo_of ((G, j + 1), _) ⟨hI.nextJ hpk hoj (fun _ => h4), hj', hi'⟩ (by simp only []; omega) (ent_of _ [] rfl rfl (by simp only [VCA, simprocAttr, encL, FnC.imvc, ls_imv]))
  have hA := hI.add hGi hpk h hoj h3 h4
  have hAl := hA.len
  rw [List.length_append, List.length_singleton] at hAl
  have hsz : (G.length + 1) * 16 ≤ 140737488355328 ∧ G.length + 1 ≤ 4611686018427387904 := by omega
  have hsc : setCells [V.str ⟨#[]⟩] 0 [V.str o] = [V.str o] := rfl
  simp only [VCA, simprocAttr, encL, memB_f h4, ls_len, hsz, j2, hsc]
  refine backTo_of ((G ++ [o], j + 1), _) ⟨hA, hj', by simp only [List.length_append]; omega⟩ (by simp only []; omega) (ent_of _ [] rfl rfl ?_)
  simp only [VCA, simprocAttr, encL, FnC.imvc, ls_imv, List.length_append, ls_app]
end Go.Proofs.YtlnphjjhfgghkaaGreatDoor

set_option linter.unusedSimpArgs false
set_option linter.unusedVariables false
namespace Go.Lg
open Go Go.RowKit
theorem mapR_nil {H : Heap} {esz : Nat} {U : Key → Prop} {K : (Key → Prop) → Prop} {k : Key} (hk : H k = some (.map [])) (hU : ¬ U k) (hP : k.1 < PK) (hK : K fun k' => (k' = k ∨ ∃ i : Nat, (none : Option Key) = some k') ∨ U k') : mapRAt H esz [] U K (.mm k) :=
  mapR_of (d := 0) (fun _ => none) hk rfl hP hU (fun e h => by cases h) (fun i h => by cases h) (fun i j k' h => by cases h) (fun _ _ => rfl) hK
theorem enO_len (es : List Lif) : (enO es).length = es.length := by simp [enO]
theorem enO_im (es : List Lif) : ∀ e ∈ enO es, imV 8 e.1 = true ∧ e.2.2.all (imV 8) = true := by
  intro e he
  obtain ⟨p, _, rfl⟩ := List.mem_map.1 he
  exact ⟨rfl, ls_imv 8 p.2⟩
theorem enO_keys (es : List Lif) : ((enO es).all fun e => keyV .str e.1) = true := by
  rw [List.all_eq_true]
  intro e he
  obtain ⟨p, _, rfl⟩ := List.mem_map.1 he
  rfl
theorem enO_at {es : List Lif} {i : Nat} (h : i < es.length) : (enO es)[i]'(by rw [enO_len]; exact h) = (.str es[i].1, es[i].2.length, es[i].2.flatMap cS) := by simp [enO]
theorem snap_mapW {hf : Heap} {d D : Nat} {es : List (V × Nat × List V)}
    (ho : ∀ (i : Nat) (h : i < es.length), hf (4398046511104 + d, i) = some (.row 0 1 es[i].2.2) ∧ es[i].2.2.length = es[i].2.1 ∧ es[i].2.2.map (snap hf D) = es[i].2.2 ∧ snap hf (D + 1) es[i].1 = es[i].1) :
    (mapV d 0 es).map (fun e => (snap hf (D + 1) e.1, snap hf (D + 1) e.2)) = es.map fun e => (e.1, .sl e.2.1 e.2.2) := by
  refine List.ext_getElem (by simp [mapV_len]) fun i h1 h2 => ?_
  have hi : i < es.length := by simpa using h2
  obtain ⟨a1, a2, a3, a4⟩ := ho i hi
  have hm : (mapV d 0 es)[i]'(by rw [mapV_len]; exact hi) = (es[i].1, .msl (4398046511104 + d, i) 0 0 es[i].2.1) := by
    have := mapV_at d es 0 i hi
    rw [Nat.zero_add] at this
    exact (List.getElem?_eq_some_iff.1 this).2
  simp only [List.getElem_map, hm, a4, snap, a1]
  rw [if_pos ⟨trivial, by omega⟩, List.drop_zero, List.take_of_length_le (by omega), a3]
/-- A map that never turns any more. -/
def imO (es : List Lif) : List (V × V) := (enO es).map fun e => (e.1, .sl e.2.1 e.2.2)
theorem imO_eq (es : List Lif) : imO es = es.map fun p => (.str p.1, .sl p.2.length (p.2.flatMap cS)) := by simp [imO, enO]
theorem imO_keys (es : List Lif) : ((imO es).all fun e => keyV .str e.1) = true := by
  rw [imO_eq, List.all_eq_true]
  intro e he
  obtain ⟨p, _, rfl⟩ := List.mem_map.1 he
  rfl
theorem find_imO (x : ByteArray) : ∀ es : List Lif, (findK (.str x) (imO es) = none ∧ lkO es x = []) ∨ ∃ j, findK (.str x) (imO es) = some (j, .sl (lkO es x).length ((lkO es x).flatMap cS))
  | [] => .inl ⟨rfl, rfl⟩
  | p :: r => by
    rw [lkO_cons]
    have e1 : imO (p :: r) = (.str p.1, .sl p.2.length (p.2.flatMap cS)) :: imO r := by simp [imO_eq]
    rw [e1]
    simp only [findK, eqK_str]
    by_cases e : x = p.1
    · rw [if_pos e]; exact .inr ⟨0, by simp [e]⟩
    · rw [if_neg e]
      rcases find_imO x r with ⟨h1, h2⟩ | ⟨j, h⟩
      · exact .inl ⟨by simp [e, h1], h2⟩
      · exact .inr ⟨j + 1, by simp [e, h]⟩
theorem univ_len : ∀ (l : List Lif) (a : ByteArray) (m : Nat), (∀ p ∈ l, p.2.length ≤ m) → (univL l a).length ≤ 1 + l.length * (m + 1)
  | [], _, m, _ => by simp [univL]
  | p :: l, a, m, h => by
    have h1 := univ_len l a m fun q hq => h q (List.mem_cons_of_mem _ hq)
    have h2 := h p (List.mem_cons_self ..)
    have e : (p :: l).length * (m + 1) = l.length * (m + 1) + (m + 1) := by rw [List.length_cons, Nat.add_mul, Nat.one_mul]
    simp only [univL, List.length_cons, List.flatMap_cons, List.length_append, List.length_singleton] at h1 ⊢
    simp only [List.length_cons] at e
    simp only [List.length_nil]
    omega
theorem seE_keys (S : List ByteArray) : ((seE S).all fun e => keyV .str e.1) = true := by
  rw [List.all_eq_true]
  intro e he
  obtain ⟨p, _, rfl⟩ := List.mem_map.1 he
  rfl
theorem seE_snap (hf : Heap) (S : List ByteArray) : (seE S).map (fun p => (p.1, snap hf 8 p.2)) = seE S := by
  rw [seE, List.map_map]
  exact List.map_congr_left fun p _ => rfl
theorem seE_imv (S : List ByteArray) : ((seE S).all fun p => imV 8 p.1) = true := by
  rw [List.all_eq_true]
  intro e he
  obtain ⟨p, _, rfl⟩ := List.mem_map.1 he
  rfl
end Go.Lg
namespace Go.Proofs.YtlnphjjhfgghkaaGreatDoor
open Go Go.Lg Go.RowKit
set_option linter.unusedVariables false
set_option linter.unusedSimpArgs false
theorem over_ret (F : FnC) (a b : ByteArray) (hL : F.lives.length ≤ 20) (hO : ∀ p ∈ F.lives, p.2.length ≤ 20) : PRet Tryz.prog 15 [.agg F.cells, .str a, .str b] (.bool (overB F.lives a b)) := by
  refine pret_intro fdv15 (by simp) ?_
  simp only [lcv15, VCA, simprocAttr, encL, FnC.onec, V.cells, FnC.ldA, FnC.snapc, FnC.sokc, FnC.ld2]
  refine loop_vcg (ι := Nat × (Nat → Nat)) (fun (i, c) => stO [(1, .val (.str a)), (2, .val (.str b)), (17, .val (.sl F.lives.length (F.lives.flatMap cLif))), (18, .val (.int .i64 F.lives.length)), (19, .val (.int .i64 i)), (7, .mapR 1 (enO (ovS (F.lives.take i))))] c)
    (fun (i, _) => i ≤ F.lives.length) (fun (i, _) => F.lives.length - i) (0, _) (Nat.zero_le _) (ent_of _ [] rfl rfl ?_) ?_
  · simp only [VCA, simprocAttr, encL, List.take_zero]
    exact mapR_nil rfl (fun h => h) (by show _ < PK; unfold PK; decide) trivial
  rintro ⟨i, c⟩ hi
  have hi : i ≤ F.lives.length := hi
  simp only [VCA, simprocAttr, encL]
  refine condD_of (fun h => ?_) (fun h => ?_)
  case refine_1 =>
    have hi' : i < F.lives.length := by omega
    have ii : 0 ≤ (i : Int) ∧ (i : Int) < F.lives.length := by omega
    have i2 : InI64 ((i : Int) + 1) := by unfold InI64; omega
    have lA := lf_A hi'
    obtain ⟨p, hp⟩ : ∃ p, p = F.lives[i] := ⟨_, rfl⟩
    rw [← hp] at lA
    have hpm : p ∈ F.lives := hp ▸ List.getElem_mem hi'
    have hpo := hO p hpm
    have htk : F.lives.take (i + 1) = F.lives.take i ++ [p] := by rw [List.take_add_one, List.getElem?_eq_getElem hi', ← hp]; rfl
    have hov := ov_snoc (F.lives.take i) p
    rw [← htk] at hov
    have hlk := fun x => len_lk (m := 20) (F.lives.take i) (fun q hq => hO q (List.mem_of_mem_take hq)) x
    have hle : (F.lives.take i).length ≤ 20 := by rw [List.length_take]; omega
    generalize ovS (F.lives.take i) = ov at hov hlk
    have hky : ((mapV 7 0 (enO ov)).all fun e => keyV .str e.1) = true := by rw [mapV_keys]; exact enO_keys ov
    have hkk : eqK (.str p.1) (.str p.1) = true := by rw [eqK_str]; exact decide_eq_true rfl
    have hsc : setCells [V.str ⟨#[]⟩] 0 [V.str p.1] = [V.str p.1] := rfl
    have hc0 : ldV false 1 (cLif p) 0 = some (.str p.1) := rfl
    have hc1 : ldV false 1 (cLif p) 1 = some (.sl p.2.length (p.2.flatMap cS)) := rfl
    have hset : setCells [V.str ⟨#[]⟩, V.e0] 0 (cLif p) = cLif p := rfl
    cases hx : ixO p.1 ov with
    | some j =>
      obtain ⟨hj, hek⟩ := ixK_lt (es := enO ov) (k := .str p.1) (by rw [ix_en]; exact hx)
      rw [enO_len] at hj
      have hej : (enO ov)[j]? = some (.str ov[j].1, ov[j].2.length, ov[j].2.flatMap cS) := by rw [List.getElem?_eq_getElem (by rw [enO_len]; exact hj), enO_at hj]
      have hj1 : ov[j].1 = p.1 := by
        rw [enO_at hj, eqK_str] at hek
        exact (of_decide_eq_true hek).symm
      have hf : findK (.str p.1) (mapV 7 0 (enO ov)) = some (j, .msl (4398046511111, j) 0 0 ov[j].2.length) := by
        rw [find_mapV, ix_en, hx]
        simp only [Option.map_some, List.getD_eq_getElem?_getD, hej, Option.getD_some, Nat.zero_add]
      have hln : ov[j].2.length ≤ 420 := by
        have h1 := hlk p.1
        have h2 : lkO ov p.1 = ov[j].2 := by simp only [lkO, hx, List.getD_eq_getElem?_getD, List.getElem?_eq_getElem hj, Option.getD_some]
        rw [h2] at h1
        omega
      have hsz : (ov[j].2.length + p.2.length) * 16 ≤ 140737488355328 ∧ ov[j].2.length + p.2.length ≤ 4611686018427387904 := by omega
      have hsz2 : (ov[j].2.length + (p.2.length + 1)) * 16 ≤ 140737488355328 ∧ ov[j].2.length + (p.2.length + 1) ≤ 4611686018427387904 := by omega
      have s1 := fun v => setK_some (v := v) hf
      have f2 := fun v => findK_set (v := v) hkk hf
      have s2 := fun v v' => setK_set (v := v) (v' := v') hkk hf
      have k2 := fun v => set_all (p := fun e => keyV .str e.1) (x := (V.str p.1, v)) (j := j) hky rfl
      generalize hM : mapV 7 0 (enO ov) = M at hky hf s1 f2 s2 k2
      simp only [VCA, simprocAttr, encL, ii, lA, hset, hM, show (cLif p).length = 2 from rfl, show (cLif p).all V.one = true from rfl]
      refine vcg_regd_G [((16386, 0), _)] (by simp only [kpOk_nil, kpOk_cons, VCA, simprocAttr, encL]; exact rfl) ?_
      refine walkG_K fun K hK => ?_
      simp only [walkG_nil, walkG_mov, walkG_load, walkG_fad, walkG_un, walkG_call, walkG_mlk, walkG_app, walkG_bsl, walkG_mset, wsA_A, wsL_mp, wsL_ip, wsM_mm, wsM_im, wsW_C, wsW_D, wsF_D, kpOk_nil, kpOk_cons, VCA, simprocAttr, encL, hM, hc0, hc1, hf, hky, hej, ls_len, ls_one, Nat.mul_one, hsz, s1]
      refine ⟨by rfl, ?_⟩
      rw [hK]
      clear K hK
      simp only [VCA, simprocAttr, encL]
      refine vcg_regd_G [((16386, 0), _)] (by simp only [kpOk_nil, kpOk_cons, VCA, simprocAttr, encL]; exact rfl) ?_
      refine walkG_K fun K hK => ?_
      simp only [walkG_nil, walkG_mov, walkG_load, walkG_fad, walkG_un, walkG_call, walkG_mlk, walkG_app, walkG_bsl, walkG_mset, wsA_A, wsL_mp, wsL_ip, wsM_mm, wsM_im, wsW_C, wsW_D, wsF_D, kpOk_nil, kpOk_cons, VCA, simprocAttr, encL, hM, hc0, hc1, f2, k2, ls_len, ls_one, Nat.mul_one, hsz2, s2, hsc, List.length_append]
      refine ⟨by rfl, ?_⟩
      rw [hK]
      clear K hK
      simp only [VCA, simprocAttr, encL, i2]
      refine backTo_of (i + 1, _) hi' (by simp only []; omega) (ent_of _ [] rfl rfl ?_)
      simp only [VCA, simprocAttr, encL, lf_imv]
      have hj0 : (enO ov)[j]'(by rw [enO_len]; exact hj) = (.str p.1, ov[j].2.length, ov[j].2.flatMap cS) := by rw [enO_at hj, hj1]
      have he : enO (ovS (F.lives.take (i + 1))) = (enO ov).set j (((enO ov)[j]'(by rw [enO_len]; exact hj)).1, ov[j].2.length + (p.2.length + 1), ov[j].2.flatMap cS ++ p.2.flatMap cS ++ [.str p.1]) := by
        rw [hov, hj0]
        simp only [addO, hx, enO, List.map_set, List.getD_eq_getElem?_getD, List.getElem?_eq_getElem hj, Option.getD_some, List.length_append, List.length_singleton, List.flatMap_append, List.append_assoc]
        rfl
      rw [he]
      refine mapR_set (d := 7) (g := 2) (by rw [enO_len]; exact hj) ?_ ?_ (fun u hu hne => ?_) (enO_im ov) ?_ (by decide) (fun h => h) (fun _ _ h => h) trivial
      · rw [hj0, hM]; rfl
      · simp only [VCA, simprocAttr, encL]
      · have hne2 : ¬ ((4398046511111, u) : Key) = (4398046511111, j) := by intro e; injection e with _ e; exact hne e
        have hu2 : (enO ov)[u]? = some ((enO ov)[u]) := List.getElem?_eq_getElem hu
        simp only [VCA, simprocAttr, encL, hne2, hu2]
      · simp only [List.all_append, ls_imv, Bool.and_self, Bool.true_and]; rfl
    | none =>
      have hf : findK (.str p.1) (mapV 7 0 (enO ov)) = none := by rw [find_mapV, ix_en, hx]; rfl
      have hsz : p.2.length * 16 ≤ 140737488355328 ∧ p.2.length ≤ 4611686018427387904 := by omega
      have hsz2 : (p.2.length + 1) * 16 ≤ 140737488355328 ∧ p.2.length + 1 ≤ 4611686018427387904 := by omega
      have s1 := fun v => setK_no (v := v) hf
      have f2 := fun v => findK_app (v := v) hkk hf
      have s2 := fun v v' => setK_app (v := v) (v' := v') hkk hf
      have k2 : ∀ v, ((mapV 7 0 (enO ov) ++ [(V.str p.1, v)]).all fun e => keyV .str e.1) = true := fun v => by rw [List.all_append, hky]; rfl
      generalize hM : mapV 7 0 (enO ov) = M at hky hf s1 f2 s2 k2
      simp only [VCA, simprocAttr, encL, ii, lA, hset, hM, show (cLif p).length = 2 from rfl, show (cLif p).all V.one = true from rfl]
      refine vcg_regd_G [((16386, 0), _)] (by simp only [kpOk_nil, kpOk_cons, VCA, simprocAttr, encL]; exact rfl) ?_
      refine walkG_K fun K hK => ?_
      simp only [walkG_nil, walkG_mov, walkG_load, walkG_fad, walkG_un, walkG_call, walkG_mlk, walkG_app, walkG_bsl, walkG_mset, wsA_A, wsL_mp, wsL_ip, wsM_mm, wsM_im, wsW_C, wsW_D, wsF_D, kpOk_nil, kpOk_cons, VCA, simprocAttr, encL, hM, hc0, hc1, hf, lkV, hky, ls_len, ls_one, Nat.mul_one, hsz, s1]
      refine ⟨by rfl, ?_⟩
      rw [hK]
      clear K hK
      simp only [VCA, simprocAttr, encL]
      refine vcg_regd_G [((16386, 0), _)] (by simp only [kpOk_nil, kpOk_cons, VCA, simprocAttr, encL]; exact rfl) ?_
      refine walkG_K fun K hK => ?_
      simp only [walkG_nil, walkG_mov, walkG_load, walkG_fad, walkG_un, walkG_call, walkG_mlk, walkG_app, walkG_bsl, walkG_mset, wsA_A, wsL_mp, wsL_ip, wsM_mm, wsM_im, wsW_C, wsW_D, wsF_D, kpOk_nil, kpOk_cons, VCA, simprocAttr, encL, hM, hc0, hc1, f2, k2, ls_len, ls_one, Nat.mul_one, hsz2, s2, hsc, List.length_append]
      refine ⟨by rfl, ?_⟩
      rw [hK]
      clear K hK
      simp only [VCA, simprocAttr, encL, i2]
      refine backTo_of (i + 1, _) hi' (by simp only []; omega) (ent_of _ [] rfl rfl ?_)
      simp only [VCA, simprocAttr, encL, lf_imv]
      have he : enO (ovS (F.lives.take (i + 1))) = enO ov ++ [(.str p.1, p.2.length + 1, p.2.flatMap cS ++ [.str p.1])] := by
        rw [hov]
        simp only [addO, hx, enO, List.map_append, List.map_cons, List.map_nil, List.length_append, List.length_singleton, List.flatMap_append]
        rfl
      rw [he]
      refine mapR_snoc (d := 7) (g := 1) (k2 := (20489, 0)) ?_ ?_ (by decide) (fun u hu => ?_) (enO_im ov) rfl ?_ (by decide) (fun h => h) (fun _ _ h => h) (fun h => h) trivial
      · rw [hM]; rfl
      · simp only [VCA, simprocAttr, encL]
      · have hu2 : (enO ov)[u]? = some ((enO ov)[u]) := List.getElem?_eq_getElem hu
        simp only [VCA, simprocAttr, encL, hu2]
      · simp only [List.all_append, ls_imv, Bool.and_self, Bool.true_and]; rfl
  obtain rfl : i = F.lives.length := by omega
  rw [List.take_length]
  have hlk := fun x => len_lk (m := 20) F.lives hO x
  have hle := len_ov F.lives
  obtain ⟨ov, hov⟩ : ∃ ov, ov = ovS F.lives := ⟨_, rfl⟩
  rw [← hov]
  rw [← hov] at hle
  have hky : ((mapV 7 0 (enO ov)).all fun e => keyV .str e.1) = true := by rw [mapV_keys]; exact enO_keys ov
  have hrow : ∀ (x : ByteArray) (j : Nat), ixO x ov = some j → (∃ hj : j < ov.length, lkO ov x = ov[j].2) ∧ findK (.str x) (mapV 7 0 (enO ov)) = some (j, .msl (4398046511111, j) 0 0 (lkO ov x).length) ∧
      (enO ov)[j]? = some (.str x, (lkO ov x).length, (lkO ov x).flatMap cS) := by
    intro x j hx
    obtain ⟨hj, hek⟩ := ixK_lt (es := enO ov) (k := .str x) (by rw [ix_en]; exact hx)
    rw [enO_len] at hj
    have hl : lkO ov x = ov[j].2 := by simp only [lkO, hx, List.getD_eq_getElem?_getD, List.getElem?_eq_getElem hj, Option.getD_some]
    rw [enO_at hj, eqK_str] at hek
    have hej : (enO ov)[j]? = some (.str x, (lkO ov x).length, (lkO ov x).flatMap cS) := by rw [List.getElem?_eq_getElem (by rw [enO_len]; exact hj), enO_at hj, hl, of_decide_eq_true hek]
    refine ⟨⟨hj, hl⟩, ?_, hej⟩
    rw [find_mapV, ix_en, hx]
    simp only [Option.map_some, List.getD_eq_getElem?_getD, hej, Option.getD_some, Nat.zero_add]
  have hno : ∀ x : ByteArray, ixO x ov = none → lkO ov x = [] ∧ findK (.str x) (mapV 7 0 (enO ov)) = none := fun x hx => ⟨by simp only [lkO, hx], by rw [find_mapV, ix_en, hx]; rfl⟩
  have fls : ∀ {x : ByteArray}, lkO ov x = [] → ¬ hereL F.lives x := fun {x} h h2 => (here_lk.1 h2) (hov ▸ h)
  have bad : ¬ (hereL F.lives a ∧ hereL F.lives b) → overB F.lives a b = false := fun h => by rw [← overB_eq (q := false)]; exact ⟨fun h => (by cases h), fun h2 => absurd ⟨h2.1, h2.2.1⟩ h⟩
  have pos : ∀ {x : ByteArray}, lkO ov x ≠ [] → decide (((lkO ov x).length : Int) = 0) = false := fun {x} h => decide_eq_false fun e => h (List.eq_nil_of_length_eq_zero (by omega))
  cases hxa : ixO a ov with
  | none =>
    obtain ⟨e1, e2⟩ := hno a hxa
    have hb := bad fun h => fls e1 h.1
    simp only [VCA, simprocAttr, encL, hky, e2, hb]
  | some ja =>
  obtain ⟨⟨hja, _⟩, fa, ea⟩ := hrow a ja hxa
  by_cases na : lkO ov a = []
  · have hb := bad fun h => fls na h.1
    simp only [VCA, simprocAttr, encL, hky, fa, na, hb]
  cases hxb : ixO b ov with
  | none =>
    obtain ⟨e1, e2⟩ := hno b hxb
    have hb := bad fun h => fls e1 h.2
    simp only [VCA, simprocAttr, encL, hky, fa, pos na, e2, hb]
  | some jb =>
  obtain ⟨⟨hjb, _⟩, fb, eb⟩ := hrow b jb hxb
  by_cases nb : lkO ov b = []
  · have hb := bad fun h => fls nb h.2
    simp only [VCA, simprocAttr, encL, hky, fa, pos na, fb, nb, hb]
  have hN := univ_len F.lives a 20 hO
  have hs0 : setCells [V.str ⟨#[]⟩] 0 [V.str a] = [a].flatMap cS := rfl
  have hse0 : ([(V.str a, V.int .i64 1)] : List (V × V)) = seE [a] := rfl
  simp only [VCA, simprocAttr, encL, hky, fa, pos na, fb, pos nb, hs0]
  obtain ⟨fl, hfl⟩ : ∃ fl : List Key, fl = (2199023255559, 0) :: (List.range ov.length).map fun i => (4398046511111, i) := ⟨_, rfl⟩
  have hfM : ((2199023255559, 0) : Key) ∈ fl := by rw [hfl]; exact List.mem_cons_self ..
  have hfR : ∀ i, i < ov.length → ((4398046511111, i) : Key) ∈ fl := fun i hi => by rw [hfl]; exact List.mem_cons_of_mem _ (List.mem_map.2 ⟨i, List.mem_range.2 hi, rfl⟩)
  have hfn : ∀ k : Key, k.1 < 2199023255552 → k ∉ fl := fun k hk h => by
    rw [hfl] at h
    rcases List.mem_cons.1 h with rfl | h
    · simp at hk
    · obtain ⟨i, _, rfl⟩ := List.mem_map.1 h
      simp at hk
  have hfP : fl.all (fun k => decide (k.1 < PK)) = true := by
    rw [List.all_eq_true]
    intro k h
    rw [hfl] at h
    rcases List.mem_cons.1 h with rfl | h
    · exact of_decide_eq_true (by decide)
    · obtain ⟨i, _, rfl⟩ := List.mem_map.1 h
      exact decide_eq_true (by show (4398046511111 : Nat) < PK; unfold PK; decide)
  have f1 := hfn (40960, 0) (by decide)
  have f2 := hfn (45057, 0) (by decide)
  clear hfl hfn
  refine loop_vcg (ι := (List ByteArray × List ByteArray) × (Nat → Nat)) (fun y => stO [(2, .val (.str b)), (7, .frz (.im (imO ov))), (10, .mapS (seE y.1.1)), (11, .own 1 y.1.2.length (y.1.2.flatMap cS))] y.2)
    (fun y => InvO F.lives a y.1.1 y.1.2 ∧ y.1.2.length ≤ y.1.1.length) (fun y => 2 * ((univL F.lives a).length - y.1.1.length) + y.1.2.length) (([a], [a]), _) ⟨InvO.start _ _, Nat.le_refl _⟩ (ent_of _ fl rfl hfP ?_) ?_
  · simp only [VCA, simprocAttr, encL, ls_imv, f1, f2]
    have hsk : setK [] (V.str a) (V.int .i64 1) = seE [a] := rfl
    refine ⟨?_, by rw [hsk]; exact seE_snap _ _, by rw [hsk]; exact seE_imv _⟩
    rw [if_pos hfM]
    refine congrArg V.im (snap_mapW (d := 7) (D := 6) fun u hu => ?_)
    rw [enO_len] at hu
    have hu2 : (enO ov)[u]? = some ((enO ov)[u]'(by rw [enO_len]; exact hu)) := List.getElem?_eq_getElem (by rw [enO_len]; exact hu)
    refine ⟨?_, by rw [enO_at hu, ls_len], by rw [enO_at hu]; exact ls_snap _ _ _, by rw [enO_at hu]; rfl⟩
    simp only [hfz, if_pos (hfR u hu), VCA, simprocAttr, encL, hu2]
  clear hky hrow hno fls bad pos fa fb ea eb f1 f2 hfM hfR hfP
  rintro ⟨⟨S, W⟩, c⟩ ⟨hI, hW⟩
  have hI : InvO F.lives a S W := hI
  have hW : W.length ≤ S.length := hW
  have hSl := hI.len
  simp only [VCA, simprocAttr, encL]
  refine condD_of (fun h => ?_) (fun h => ?_)
  case refine_2 =>
    have hW0 : W = [] := List.eq_nil_of_length_eq_zero (by omega)
    subst hW0
    have hb : overB F.lives a b = memB b S := (overB_eq (memB_iff.trans (hI.end.trans ⟨fun hb => ⟨?_, ?_, hb⟩, fun hb => hb.2.2⟩))).symm
    rcases find_seE b S with ⟨j, h1, h2⟩ | ⟨h1, h2⟩
    · simp only [VCA, simprocAttr, encL, seE_keys, h1, hb, memB_t h2]
    · simp only [VCA, simprocAttr, encL, seE_keys, h1, hb, memB_f h2]
    · exact here_lk.2 (hov ▸ na)
    · exact here_lk.2 (hov ▸ nb)
  obtain ⟨W0, x, rfl⟩ : ∃ W0 x, W = W0 ++ [x] := by
    rcases List.eq_nil_or_concat W with e | ⟨W0, x, e⟩
    · rw [e] at h; simp at h
    · exact ⟨W0, x, by simpa using e⟩
  have hx0 : ldV false 1 ((W0 ++ [x]).flatMap cS) W0.length = some (.str x) := by
    rw [st_ld (by simp)]; simp
  have hx1 : ((W0 ++ [x]).flatMap cS).take W0.length = W0.flatMap cS := by
    rw [List.flatMap_append, List.take_append_of_le_length (by rw [ls_len]; exact Nat.le_refl _), List.take_of_length_le (by rw [ls_len]; exact Nat.le_refl _)]
  have w1 : InI64 ((W0.length : Int) + 1) ∧ InI64 (W0.length : Int) := by simp only [List.length_append, List.length_singleton] at hW; unfold InI64; omega
  have w2 : 0 ≤ (W0.length : Int) ∧ (W0.length : Int) < (W0.length : Int) + 1 ∧ (W0.length : Int) ≤ (W0.length : Int) + 1 := by omega
  have hlx : (lkO ov x).length ≤ 420 := by have := hlk x; rw [← hov] at this; omega
  obtain ⟨vx, hlv, hv, hll, hvi⟩ : ∃ vx, lkV false V.e0 (findK (V.str x) (imO ov)) = vx ∧ (lkO ov x = [] ∨ vx = .sl (lkO ov x).length ((lkO ov x).flatMap cS)) ∧ llen false vx = LRes.A True (.int .i64 ((lkO ov x).length : Nat)) ∧ imV 8 vx = true := by
    rcases find_imO x ov with ⟨h1, h2⟩ | ⟨j, h1⟩
    · exact ⟨.e0, by rw [h1]; rfl, .inl h2, by rw [h2]; rfl, rfl⟩
    · exact ⟨_, by rw [h1]; rfl, .inr rfl, rfl, rfl⟩
  have hI0 := hI.pop
  simp only [List.length_append, List.length_singleton] at hW hSl
  simp only [VCA, simprocAttr, encL, List.length_append, List.length_singleton, w1, w2, hx0, imO_keys, hlv, hll]
  refine loop_vcg (ι := ((List ByteArray × List ByteArray) × Nat) × (Nat → Nat)) (fun y => stO [(2, .val (.str b)), (7, .frz (.im (imO ov))), (10, .mapS (seE y.1.1.1)), (11, .own 1 y.1.1.2.length (y.1.1.2.flatMap cS)), (78, .val vx), (79, .val (.int .i64 (lkO ov x).length)), (80, .val (.int .i64 y.1.2))] y.2)
    (fun y => InvI F.lives a x y.1.2 y.1.1.1 y.1.1.2 ∧ y.1.2 ≤ (lkO ov x).length ∧ y.1.1.2.length + 1 ≤ y.1.1.1.length + 1 ∧ 2 * ((univL F.lives a).length - y.1.1.1.length) + y.1.1.2.length ≤ 2 * ((univL F.lives a).length - S.length) + W0.length)
    (fun y => (lkO ov x).length - y.1.2) (((S, W0), 0), _) ⟨hI0, Nat.zero_le _, by simp only []; omega, Nat.le_refl _⟩
    ((Ent.cut (key := (2199023255563, 0)) (g := 0) (esz := 1) (cs := (W0 ++ [x]).flatMap cS) W0.length (by rfl)).trans (ent_of _ [] rfl rfl ?_)) ?_
  · simp only [VCA, simprocAttr, encL, hx1, ls_imv, hvi, seE_snap, seE_imv]
  rintro ⟨⟨⟨S', W'⟩, k⟩, c⟩ ⟨hI, hk, hW', hm⟩
  have hI : InvI F.lives a x k S' W' := hI
  have hk : k ≤ (lkO ov x).length := hk
  have hW' : W'.length + 1 ≤ S'.length + 1 := hW'
  have hm : 2 * ((univL F.lives a).length - S'.length) + W'.length ≤ 2 * ((univL F.lives a).length - S.length) + W0.length := hm
  have hSl' := hI.len
  simp only [VCA, simprocAttr, encL]
  refine condD_of (fun h => ?_) (fun h => ?_)
  case refine_2 =>
    simp only [VCA, simprocAttr, encL]
    refine backTo_of ((S', W'), _) ⟨hI.end (by rw [← hov]; omega), by simp only []; omega⟩ (by simp only []; omega) (ent_of _ [] rfl rfl ?_)
    simp only [VCA, simprocAttr, encL, ls_imv, hvi, seE_snap, seE_imv]
  have hk' : k < (lkO ov x).length := by omega
  rcases hv with hv | hv
  · rw [hv] at hk'; cases hk'
  obtain ⟨y, hy⟩ : ∃ y, y = (lkO ov x)[k] := ⟨_, rfl⟩
  have hyk : (lkO (ovS F.lives) x)[k]? = some y := by rw [← hov, hy]; exact List.getElem?_eq_getElem hk'
  have ly := st_ld hk'
  rw [← hy] at ly
  have kk : 0 ≤ (k : Int) ∧ (k : Int) < (lkO ov x).length := by omega
  have k2 : InI64 ((k : Int) + 1) := by unfold InI64; omega
  subst hv
  rcases find_seE y S' with ⟨j, h1, h2⟩ | ⟨h1, h2⟩
  · simp only [VCA, simprocAttr, encL, kk, ly, seE_keys, h1, k2]
    refine backTo_of (((S', W'), k + 1), _) ⟨hI.old hyk h2, hk', by simp only []; omega, hm⟩ (by simp only []; omega) (ent_of _ [] rfl rfl ?_)
    simp only [VCA, simprocAttr, encL, ls_imv, hvi, seE_snap, seE_imv]
  · have hA := hI.new hyk h2
    have hAl := hA.len
    rw [List.length_append, List.length_singleton] at hAl
    have hsc : setCells [V.str ⟨#[]⟩] 0 [V.str y] = [V.str y] := rfl
    have hsz : (W'.length + 1) * 16 ≤ 140737488355328 ∧ W'.length + 1 ≤ 4611686018427387904 := by omega
    have s1 := setK_no (v := .int .i64 1) h1
    rw [seE_app] at s1
    simp only [VCA, simprocAttr, encL, kk, ly, seE_keys, h1, lkV, k2, hsc, s1, ls_len, hsz]
    refine backTo_of (((S' ++ [y], W' ++ [y]), k + 1), _) ⟨hA, hk', by simp only [List.length_append, List.length_singleton]; omega, by simp only [List.length_append, List.length_singleton]; omega⟩ (by simp only []; omega) (ent_of _ [] rfl rfl ?_)
    simp only [VCA, simprocAttr, encL, ls_imv, hvi, seE_snap, seE_imv, List.length_append, List.length_singleton, ls_app]
end Go.Proofs.YtlnphjjhfgghkaaGreatDoor

set_option linter.unusedSimpArgs false
set_option linter.unusedVariables false
namespace Go.Lg.Sh
open Go Go.Lg
def m (d s : Nat) : LOp := ⟨some d, .mov (.tmp s), none⟩
def f (d k s : Nat) : LOp := ⟨some d, .fad k (.tmp s), none⟩
def l (d n s : Nat) : LOp := ⟨some d, .load false n (.tmp s), none⟩
def L (d n s : Nat) : LOp := ⟨some d, .load true n (.tmp s), none⟩
def e (d s : Nat) (n : Int) : LOp := ⟨some d, .bin .eql (.tmp s) (.con (.int .i64 n)), none⟩
def p (d x y : Nat) : LOp := ⟨some d, .pick (.tmp x) (.tmp y) (.con (.bool false)), none⟩
def q (d x y : Nat) : LOp := ⟨some d, .pick (.tmp x) (.con (.bool true)) (.tmp y), none⟩
def i (d : Nat) (n : Int) : LOp := ⟨some d, .mov (.con (.int .i64 n)), none⟩
def n (d s : Nat) : LOp := ⟨some d, .len false (.tmp s), none⟩
def a (d s : Nat) (n : Int) : LOp := ⟨some d, .bin .add (.tmp s) (.con (.int .i64 n)), none⟩
def x (d k s t : Nat) : LOp := ⟨some d, .iaS k (.tmp s) (.tmp t), none⟩
def b0 (d : Nat) : LOp := ⟨some d, .mov (.con (.bool false)), none⟩
def b1 (d : Nat) : LOp := ⟨some d, .mov (.con (.bool true)), none⟩
def s (d x y : Nat) : LOp := ⟨some d, .bin .lss (.tmp x) (.tmp y), none⟩
def u (d x : Nat) : LOp := ⟨some d, .un .not (.tmp x), none⟩
def k (d x : Nat) : LOp := ⟨some d, .nilchk (.tmp x), none⟩
def o (d x : Nat) : LOp := ⟨some d, .box (.tmp x), none⟩
def E (d x y : Nat) : LOp := ⟨some d, .bin .eql (.tmp x) (.tmp y), none⟩
def N (d s : Nat) (n : Int) : LOp := ⟨some d, .bin .neq (.tmp s) (.con (.int .i64 n)), none⟩
def c (d f x : Nat) : LOp := ⟨some d, .call f [.tmp x], none⟩
def C (d f x y : Nat) : LOp := ⟨some d, .call f [.tmp x, .tmp y], none⟩
def X (d x k : Nat) : LOp := ⟨some d, .ext (.tmp x) k, none⟩
def g (t : Nat) (y : LOp) : LOp := ⟨y.dst, y.op, some (t, false)⟩
def h (t : Nat) (y : LOp) : LOp := ⟨y.dst, y.op, some (t, true)⟩
def W (n a x : Nat) : LOp := ⟨none, .store n (.tmp a) (.tmp x), none⟩
def t (l : List UInt8) : V := .str ⟨l.toArray⟩
def I (n : Int) : Rd := .con (.int .i64 n)
def r (k : Nat) (l : List LOp) : LC := .rego k l
def z (a b : LC) : LC := .seq a b
def y (t : Nat) (a b : LC) : LC := .cond (.tmp t) a b
def w (t k : Nat) : LC := .cond (.tmp t) .skip (.exit k)
end Go.Lg.Sh
