/-
  Fd Ct1 Gd Fgi Ge Ct2 Ct3 Ct4: put together.
-/
import Derived.Test.YtlkdcgfjmhjjpaaGreatProg
import Derived.Test.YtlkdcgfjmhjjpaaGreatGUc
import Derived.Test.YtlkdcgfjmhjjpaaGreatGUd
namespace Go.Proofs.YtlkdcgfjmhjjpaaGreat
open Go Go.Lg
set_option maxRecDepth 100000

def lc97 : LC := .seq (.rego 0 [⟨some 4, .mov (.con (.bool false)), none⟩]) (.keep [0, 1] (.seq (.rego 1 [⟨some 5, .mov (.tmp 0), none⟩, ⟨some 6, .bin .geq (.tmp 5) (.con (.int .i64 0)), none⟩, ⟨some 7, .mov (.tmp 6), none⟩, ⟨some 8, .mov (.tmp 0), some ⟨7, true⟩⟩, ⟨some 9, .mov (.tmp 1), some ⟨7, true⟩⟩, ⟨some 10, .bin .lss (.tmp 8) (.tmp 9), some ⟨7, true⟩⟩, ⟨some 11, .pick (.tmp 7) (.tmp 10) (.con (.bool false)), none⟩, ⟨some 4, .mov (.tmp 11), none⟩]) .ret))
theorem fd97 : fnData Tryz.prog 97 = some (12, lc97.erase, [LRV.tmp 4]) := by kernel_rfl

def lc113 : LC := .seq (.rego 0 [⟨some 3, .mov (.con (.bool false)), none⟩]) (.keep [0, 1] (.seq (.rego 1 [⟨some 4, .mov (.tmp 0), none⟩, ⟨some 5, .load false 1 (.tmp 1), none⟩, ⟨some 6, .call 97 [.tmp 4, .tmp 5], none⟩, ⟨some 7, .un .not (.tmp 6), none⟩, ⟨some 3, .mov (.tmp 7), none⟩]) .ret))
theorem fd113 : fnData Tryz.prog 113 = some (8, lc113.erase, [LRV.tmp 3]) := by kernel_rfl

def lc98 : LC := .seq (.rego 0 [⟨some 3, .box (.tmp 1), none⟩, ⟨some 4, .mov (.con (.bool false)), none⟩]) (.keep [0, 3] (.seq (.rego 1 [⟨some 5, .mov (.tmp 0), none⟩, ⟨some 6, .mkfn 113 [.tmp 3], none⟩, ⟨some 7, .call 112 [.tmp 5, .tmp 6], none⟩, ⟨some 8, .un .not (.tmp 7), none⟩, ⟨some 4, .mov (.tmp 8), none⟩]) .ret))
theorem fd98 : fnData Tryz.prog 98 = some (9, lc98.erase, [LRV.tmp 4]) := by kernel_rfl

def lc119 : LC := .seq (.rego 0 [⟨some 4, .mov (.con (.int .i64 0)), none⟩]) (.keep [0, 1] (.seq (.seq (.rego 1 [⟨some 6, .mov (.tmp 0), none⟩, ⟨some 7, .len false (.tmp 6), none⟩, ⟨some 8, .mov (.con (.int .i64 0)), none⟩]) (.keep [0, 1, 7, 8] (.block 0 (.loop (.seq (.rego 2 [⟨some 9, .bin .lss (.tmp 8) (.tmp 7), none⟩]) (.keep [0, 1, 7, 8, 9] (.seq (.cond (.tmp 9) .skip (.exit 0)) (.keep [0, 1, 7, 8] (.seq (.block 1 (.seq (.rego 3 [⟨some 10, .mov (.tmp 8), none⟩, ⟨some 5, .mov (.tmp 10), none⟩]) (.keep [0, 1, 5, 7, 8] (.seq (.rego 4 [⟨some 11, .mov (.tmp 1), none⟩, ⟨some 12, .mov (.tmp 0), none⟩, ⟨some 13, .mov (.tmp 5), none⟩, ⟨some 14, .iaS 1 (.tmp 12) (.tmp 13), none⟩, ⟨some 15, .load false 1 (.tmp 14), none⟩, ⟨some 16, .callv (.tmp 11) [.tmp 15], none⟩]) (.keep [0, 1, 5, 7, 8, 16] (.cond (.tmp 16) (.keep [5] (.seq (.rego 5 [⟨some 17, .mov (.tmp 5), none⟩, ⟨some 4, .mov (.tmp 17), none⟩]) .ret)) .skip)))))) (.keep [0, 1, 7, 8] (.rego 6 [⟨some 18, .bin .add (.tmp 8) (.con (.int .i64 1)), none⟩, ⟨some 8, .mov (.tmp 18), none⟩]))))))))))) (.keep [] (.seq (.rego 7 [⟨some 4, .mov (.con (.int .i64 (-1))), none⟩]) .ret))))
theorem fd119 : fnData Tryz.prog 119 = some (19, lc119.erase, [LRV.tmp 4]) := by kernel_rfl

def lc112 : LC := .seq (.rego 0 [⟨some 4, .mov (.con (.bool false)), none⟩]) (.keep [0, 1] (.seq (.rego 1 [⟨some 5, .mov (.tmp 0), none⟩, ⟨some 6, .mov (.tmp 1), none⟩, ⟨some 7, .call 119 [.tmp 5, .tmp 6], none⟩, ⟨some 8, .bin .geq (.tmp 7) (.con (.int .i64 0)), none⟩, ⟨some 4, .mov (.tmp 8), none⟩]) .ret))
theorem fd112 : fnData Tryz.prog 112 = some (9, lc112.erase, [LRV.tmp 4]) := by kernel_rfl

def lc114 : LC := .seq (.rego 0 [⟨some 4, .mov (.con (.int .i64 0)), none⟩]) (.keep [0, 1] (.seq (.seq (.rego 1 [⟨some 6, .mov (.tmp 0), none⟩, ⟨some 7, .len false (.tmp 6), none⟩, ⟨some 8, .mov (.con (.int .i64 0)), none⟩]) (.keep [0, 1, 7, 8] (.block 0 (.loop (.seq (.rego 2 [⟨some 9, .bin .lss (.tmp 8) (.tmp 7), none⟩]) (.keep [0, 1, 7, 8, 9] (.seq (.cond (.tmp 9) .skip (.exit 0)) (.keep [0, 1, 7, 8] (.seq (.block 1 (.seq (.rego 3 [⟨some 10, .mov (.tmp 8), none⟩, ⟨some 5, .mov (.tmp 10), none⟩]) (.keep [0, 1, 5, 7, 8] (.seq (.rego 4 [⟨some 11, .mov (.tmp 1), none⟩, ⟨some 12, .mov (.tmp 0), none⟩, ⟨some 13, .mov (.tmp 5), none⟩, ⟨some 14, .iaS 22 (.tmp 12) (.tmp 13), none⟩, ⟨some 15, .load true 22 (.tmp 14), none⟩, ⟨some 16, .callv (.tmp 11) [.tmp 15], none⟩]) (.keep [0, 1, 5, 7, 8, 16] (.cond (.tmp 16) (.keep [5] (.seq (.rego 5 [⟨some 17, .mov (.tmp 5), none⟩, ⟨some 4, .mov (.tmp 17), none⟩]) .ret)) .skip)))))) (.keep [0, 1, 7, 8] (.rego 6 [⟨some 18, .bin .add (.tmp 8) (.con (.int .i64 1)), none⟩, ⟨some 8, .mov (.tmp 18), none⟩]))))))))))) (.keep [] (.seq (.rego 7 [⟨some 4, .mov (.con (.int .i64 (-1))), none⟩]) .ret))))
theorem fd114 : fnData Tryz.prog 114 = some (19, lc114.erase, [LRV.tmp 4]) := by kernel_rfl

def lc100 : LC := .seq (.rego 0 [⟨some 4, .mov (.con (.bool false)), none⟩]) (.keep [0, 1] (.seq (.rego 1 [⟨some 5, .mov (.tmp 0), none⟩, ⟨some 6, .mov (.tmp 1), none⟩, ⟨some 7, .call 114 [.tmp 5, .tmp 6], none⟩, ⟨some 8, .bin .geq (.tmp 7) (.con (.int .i64 0)), none⟩, ⟨some 4, .mov (.tmp 8), none⟩]) .ret))
theorem fd100 : fnData Tryz.prog 100 = some (9, lc100.erase, [LRV.tmp 4]) := by kernel_rfl

def lc122 : LC := .seq (.rego 0 [⟨some 4, .mov (.con (.int .i64 0)), none⟩]) (.keep [0, 1] (.seq (.seq (.rego 1 [⟨some 6, .mov (.tmp 0), none⟩, ⟨some 7, .len false (.tmp 6), none⟩, ⟨some 8, .mov (.con (.int .i64 0)), none⟩]) (.keep [0, 1, 7, 8] (.block 0 (.loop (.seq (.rego 2 [⟨some 9, .bin .lss (.tmp 8) (.tmp 7), none⟩]) (.keep [0, 1, 7, 8, 9] (.seq (.cond (.tmp 9) .skip (.exit 0)) (.keep [0, 1, 7, 8] (.seq (.block 1 (.seq (.rego 3 [⟨some 10, .mov (.tmp 8), none⟩, ⟨some 5, .mov (.tmp 10), none⟩]) (.keep [0, 1, 5, 7, 8] (.seq (.rego 4 [⟨some 11, .mov (.tmp 1), none⟩, ⟨some 12, .mov (.tmp 0), none⟩, ⟨some 13, .mov (.tmp 5), none⟩, ⟨some 14, .iaS 4 (.tmp 12) (.tmp 13), none⟩, ⟨some 15, .load true 4 (.tmp 14), none⟩, ⟨some 16, .callv (.tmp 11) [.tmp 15], none⟩]) (.keep [0, 1, 5, 7, 8, 16] (.cond (.tmp 16) (.keep [5] (.seq (.rego 5 [⟨some 17, .mov (.tmp 5), none⟩, ⟨some 4, .mov (.tmp 17), none⟩]) .ret)) .skip)))))) (.keep [0, 1, 7, 8] (.rego 6 [⟨some 18, .bin .add (.tmp 8) (.con (.int .i64 1)), none⟩, ⟨some 8, .mov (.tmp 18), none⟩]))))))))))) (.keep [] (.seq (.rego 7 [⟨some 4, .mov (.con (.int .i64 (-1))), none⟩]) .ret))))
theorem fd122 : fnData Tryz.prog 122 = some (19, lc122.erase, [LRV.tmp 4]) := by kernel_rfl

def lc120 : LC := .seq (.rego 0 [⟨some 4, .mov (.con (.bool false)), none⟩]) (.keep [0, 1] (.seq (.rego 1 [⟨some 5, .mov (.tmp 0), none⟩, ⟨some 6, .mov (.tmp 1), none⟩, ⟨some 7, .call 122 [.tmp 5, .tmp 6], none⟩, ⟨some 8, .bin .geq (.tmp 7) (.con (.int .i64 0)), none⟩, ⟨some 4, .mov (.tmp 8), none⟩]) .ret))
theorem fd120 : fnData Tryz.prog 120 = some (9, lc120.erase, [LRV.tmp 4]) := by kernel_rfl

def lc116 : LC := .seq (.rego 0 [⟨some 2, .box (.tmp 0), none⟩, ⟨some 4, .mov (.con (.bool false)), none⟩]) (.keep [1, 2] (.seq (.seq (.rego 1 [⟨some 5, .fad 0 (.tmp 2), none⟩, ⟨some 6, .load false 1 (.tmp 5), none⟩]) (.keep [1, 2, 6] (.block 0 (.seq (.seq (.rego 2 [⟨some 8, .bin .eql (.tmp 6) (.con (.int .i64 1)), none⟩, ⟨some 7, .mov (.tmp 8), none⟩]) (.keep [1, 2, 6, 7] (.cond (.tmp 7) .skip (.keep [1, 2, 6] (.rego 3 [⟨some 9, .bin .eql (.tmp 6) (.con (.int .i64 2)), none⟩, ⟨some 7, .mov (.tmp 9), none⟩]))))) (.keep [1, 2, 6, 7] (.cond (.tmp 7) (.keep [] (.seq (.rego 4 [⟨some 4, .mov (.con (.bool true)), none⟩]) .ret)) (.keep [1, 2, 6] (.seq (.seq (.rego 5 [⟨some 11, .bin .eql (.tmp 6) (.con (.int .i64 3)), none⟩, ⟨some 10, .mov (.tmp 11), none⟩]) (.keep [1, 2, 6, 10] (.cond (.tmp 10) .skip (.keep [1, 2, 6] (.rego 6 [⟨some 12, .bin .eql (.tmp 6) (.con (.int .i64 4)), none⟩, ⟨some 10, .mov (.tmp 12), none⟩]))))) (.keep [1, 2, 10] (.cond (.tmp 10) (.keep [1, 2] (.seq (.rego 7 [⟨some 13, .fad 2 (.tmp 2), none⟩, ⟨some 14, .fad 0 (.tmp 13), none⟩, ⟨some 15, .load false 1 (.tmp 14), none⟩, ⟨some 16, .mov (.tmp 1), none⟩, ⟨some 17, .call 97 [.tmp 15, .tmp 16], none⟩, ⟨some 4, .mov (.tmp 17), none⟩]) .ret)) .skip)))))))))) (.keep [] (.seq (.rego 8 [⟨some 4, .mov (.con (.bool false)), none⟩]) .ret))))
theorem fd116 : fnData Tryz.prog 116 = some (18, lc116.erase, [LRV.tmp 4]) := by kernel_rfl

def lc121 : LC := .seq (.rego 0 [⟨some 2, .box (.tmp 0), none⟩, ⟨some 3, .mov (.con (.bool false)), none⟩]) (.keep [1, 2] (.seq (.rego 1 [⟨some 4, .load true 4 (.tmp 2), none⟩, ⟨some 5, .load false 1 (.tmp 1), none⟩, ⟨some 6, .call 116 [.tmp 4, .tmp 5], none⟩, ⟨some 7, .un .not (.tmp 6), none⟩, ⟨some 3, .mov (.tmp 7), none⟩]) .ret))
theorem fd121 : fnData Tryz.prog 121 = some (8, lc121.erase, [LRV.tmp 3]) := by kernel_rfl

def lc115 : LC := .seq (.rego 0 [⟨some 3, .box (.tmp 0), none⟩, ⟨some 4, .box (.tmp 1), none⟩, ⟨some 6, .mov (.con (.bool false)), none⟩]) (.keep [2, 3, 4] (.seq (.seq (.rego 1 [⟨some 7, .fad 0 (.tmp 3), none⟩, ⟨some 8, .load false 1 (.tmp 7), none⟩]) (.keep [2, 3, 4, 8] (.block 0 (.seq (.block 4 (.seq (.block 3 (.seq (.block 2 (.seq (.block 1 (.seq (.seq (.seq (.seq (.rego 2 [⟨some 10, .bin .eql (.tmp 8) (.con (.int .i64 2)), none⟩, ⟨some 9, .mov (.tmp 10), none⟩]) (.keep [2, 3, 4, 8, 9] (.cond (.tmp 9) .skip (.keep [2, 3, 4, 8] (.rego 3 [⟨some 11, .bin .eql (.tmp 8) (.con (.int .i64 3)), none⟩, ⟨some 9, .mov (.tmp 11), none⟩]))))) (.keep [2, 3, 4, 8, 9] (.cond (.tmp 9) (.exit 1) .skip))) (.keep [2, 3, 4, 8] (.seq (.seq (.rego 4 [⟨some 13, .bin .eql (.tmp 8) (.con (.int .i64 5)), none⟩, ⟨some 12, .mov (.tmp 13), none⟩]) (.keep [2, 3, 4, 8, 12] (.cond (.tmp 12) (.exit 2) .skip))) (.keep [2, 3, 4, 8] (.seq (.seq (.seq (.rego 5 [⟨some 15, .bin .eql (.tmp 8) (.con (.int .i64 1)), none⟩, ⟨some 14, .mov (.tmp 15), none⟩]) (.keep [2, 3, 4, 8, 14] (.cond (.tmp 14) .skip (.keep [2, 3, 4, 8] (.rego 6 [⟨some 16, .bin .eql (.tmp 8) (.con (.int .i64 4)), none⟩, ⟨some 14, .mov (.tmp 16), none⟩]))))) (.keep [2, 3, 4, 8, 14] (.cond (.tmp 14) (.exit 3) .skip))) (.keep [2, 3, 4, 8] (.seq (.seq (.rego 7 [⟨some 18, .bin .eql (.tmp 8) (.con (.int .i64 6)), none⟩, ⟨some 17, .mov (.tmp 18), none⟩]) (.keep [2, 3, 4, 8, 17] (.cond (.tmp 17) .skip (.keep [2, 3, 4, 8] (.rego 8 [⟨some 19, .bin .eql (.tmp 8) (.con (.int .i64 7)), none⟩, ⟨some 17, .mov (.tmp 19), none⟩]))))) (.keep [2, 3, 4, 17] (.cond (.tmp 17) (.exit 4) .skip))))))))) (.exit 0))) (.keep [2, 3, 4] (.seq (.seq (.rego 9 [⟨some 20, .fad 10 (.tmp 3), none⟩, ⟨some 21, .fad 0 (.tmp 20), none⟩, ⟨some 22, .load false 1 (.tmp 21), none⟩, ⟨some 23, .load false 1 (.tmp 4), none⟩, ⟨some 24, .call 97 [.tmp 22, .tmp 23], none⟩, ⟨some 25, .mov (.tmp 24), none⟩, ⟨some 26, .fad 12 (.tmp 3), some ⟨25, true⟩⟩, ⟨some 27, .load false 1 (.tmp 26), some ⟨25, true⟩⟩, ⟨some 28, .mov (.tmp 2), some ⟨25, true⟩⟩, ⟨some 29, .call 97 [.tmp 27, .tmp 28], some ⟨25, true⟩⟩, ⟨some 30, .pick (.tmp 25) (.tmp 29) (.con (.bool false)), none⟩, ⟨some 6, .mov (.tmp 30), none⟩]) .ret) (.exit 0))))) (.keep [3, 4] (.seq (.rego 10 [⟨some 31, .fad 5 (.tmp 3), none⟩, ⟨some 32, .load true 4 (.tmp 31), none⟩, ⟨some 33, .load false 1 (.tmp 4), none⟩, ⟨some 34, .call 116 [.tmp 32, .tmp 33], none⟩, ⟨some 35, .un .not (.tmp 34), none⟩]) (.keep [3, 4, 35] (.cond (.tmp 35) (.keep [] (.seq (.rego 11 [⟨some 6, .mov (.con (.bool false)), none⟩]) .ret)) .skip)))))) (.keep [3, 4] (.seq (.seq (.rego 12 [⟨some 36, .fad 1 (.tmp 3), none⟩, ⟨some 37, .load true 4 (.tmp 36), none⟩, ⟨some 38, .load false 1 (.tmp 4), none⟩, ⟨some 39, .call 116 [.tmp 37, .tmp 38], none⟩, ⟨some 6, .mov (.tmp 39), none⟩]) .ret) (.exit 0))))) (.keep [2, 3, 4] (.seq (.seq (.rego 13 [⟨some 40, .fad 14 (.tmp 3), none⟩, ⟨some 41, .load false 1 (.tmp 40), none⟩, ⟨some 42, .mov (.tmp 2), none⟩, ⟨some 43, .call 98 [.tmp 41, .tmp 42], none⟩, ⟨some 44, .mov (.tmp 43), none⟩, ⟨some 45, .fad 15 (.tmp 3), some ⟨44, true⟩⟩, ⟨some 46, .load false 1 (.tmp 45), some ⟨44, true⟩⟩, ⟨some 47, .mkfn 121 [.tmp 4], some ⟨44, true⟩⟩, ⟨some 48, .call 120 [.tmp 46, .tmp 47], some ⟨44, true⟩⟩, ⟨some 49, .un .not (.tmp 48), some ⟨44, true⟩⟩, ⟨some 50, .pick (.tmp 44) (.tmp 49) (.con (.bool false)), none⟩, ⟨some 6, .mov (.tmp 50), none⟩]) .ret) (.exit 0))))))) (.keep [] (.seq (.rego 14 [⟨some 6, .mov (.con (.bool false)), none⟩]) .ret))))
theorem fd115 : fnData Tryz.prog 115 = some (51, lc115.erase, [LRV.tmp 6]) := by kernel_rfl

def lc102 : LC := .seq (.rego 0 [⟨some 4, .box (.tmp 0), none⟩, ⟨some 8, .mov (.con (.bool false)), none⟩]) (.keep [1, 2, 3, 4] (.seq (.rego 1 [⟨some 9, .mov (.con (.int .i64 1)), none⟩, ⟨some 10, .mov (.con (.bool true)), none⟩]) (.keep [1, 2, 3, 4, 9, 10] (.seq (.seq (.rego 2 [⟨some 11, .fad 0 (.tmp 4), none⟩, ⟨some 12, .load false 1 (.tmp 11), none⟩]) (.keep [1, 2, 3, 4, 9, 10, 12] (.block 0 (.seq (.rego 4 [⟨some 14, .bin .eql (.tmp 12) (.con (.int .i64 1)), none⟩, ⟨some 13, .mov (.tmp 14), none⟩]) (.keep [1, 2, 3, 4, 9, 10, 12, 13] (.cond (.tmp 13) (.keep [1, 2, 3, 4, 9] (.rego 5 [⟨some 15, .fad 5 (.tmp 4), none⟩, ⟨some 16, .load true 16 (.tmp 15), none⟩, ⟨some 17, .mov (.tmp 1), none⟩, ⟨some 18, .mov (.tmp 2), none⟩, ⟨some 19, .call 115 [.tmp 16, .tmp 17, .tmp 18], none⟩, ⟨some 20, .mov (.tmp 19), none⟩, ⟨some 21, .fad 2 (.tmp 4), some ⟨20, true⟩⟩, ⟨some 22, .load false 1 (.tmp 21), some ⟨20, true⟩⟩, ⟨some 23, .un .not (.tmp 22), some ⟨20, true⟩⟩, ⟨some 24, .mov (.tmp 23), some ⟨20, true⟩⟩, ⟨some 25, .fad 3 (.tmp 4), some ⟨24, false⟩⟩, ⟨some 26, .fad 0 (.tmp 25), some ⟨24, false⟩⟩, ⟨some 27, .load false 1 (.tmp 26), some ⟨24, false⟩⟩, ⟨some 28, .mov (.tmp 1), some ⟨24, false⟩⟩, ⟨some 29, .call 97 [.tmp 27, .tmp 28], some ⟨24, false⟩⟩, ⟨some 30, .pick (.tmp 24) (.con (.bool true)) (.tmp 29), some ⟨20, true⟩⟩, ⟨some 31, .pick (.tmp 20) (.tmp 30) (.con (.bool false)), none⟩, ⟨some 10, .mov (.tmp 31), none⟩])) (.keep [1, 3, 4, 9, 10, 12] (.seq (.seq (.rego 6 [⟨some 33, .bin .eql (.tmp 12) (.con (.int .i64 2)), none⟩, ⟨some 32, .mov (.tmp 33), none⟩]) (.keep [1, 3, 4, 9, 10, 12, 32] (.cond (.tmp 32) .skip (.keep [1, 3, 4, 9, 10, 12] (.rego 7 [⟨some 34, .bin .eql (.tmp 12) (.con (.int .i64 3)), none⟩, ⟨some 32, .mov (.tmp 34), none⟩]))))) (.keep [1, 3, 4, 9, 10, 12, 32] (.cond (.tmp 32) (.keep [1, 3, 4, 9] (.rego 8 [⟨some 35, .fad 3 (.tmp 4), none⟩, ⟨some 36, .fad 0 (.tmp 35), none⟩, ⟨some 37, .load false 1 (.tmp 36), none⟩, ⟨some 38, .mov (.tmp 1), none⟩, ⟨some 39, .call 97 [.tmp 37, .tmp 38], none⟩, ⟨some 10, .mov (.tmp 39), none⟩])) (.keep [1, 3, 4, 9, 10, 12] (.seq (.rego 9 [⟨some 41, .bin .eql (.tmp 12) (.con (.int .i64 4)), none⟩, ⟨some 40, .mov (.tmp 41), none⟩]) (.keep [1, 3, 4, 9, 10, 12, 40] (.cond (.tmp 40) (.keep [1, 3, 4] (.rego 10 [⟨some 42, .fad 5 (.tmp 4), none⟩, ⟨some 43, .fad 1 (.tmp 42), none⟩, ⟨some 44, .load true 4 (.tmp 43), none⟩, ⟨some 45, .mov (.tmp 1), none⟩, ⟨some 46, .call 116 [.tmp 44, .tmp 45], none⟩, ⟨some 9, .mov (.con (.int .i64 2)), none⟩, ⟨some 10, .mov (.tmp 46), none⟩])) (.keep [3, 4, 9, 10, 12] (.seq (.rego 11 [⟨some 48, .bin .eql (.tmp 12) (.con (.int .i64 5)), none⟩, ⟨some 47, .mov (.tmp 48), none⟩]) (.keep [3, 4, 9, 10, 12, 47] (.cond (.tmp 47) .skip (.keep [3, 4, 10, 12] (.seq (.rego 12 [⟨some 50, .bin .eql (.tmp 12) (.con (.int .i64 6)), none⟩, ⟨some 49, .mov (.tmp 50), none⟩]) (.keep [3, 4, 10, 49] (.cond (.tmp 49) (.keep [3, 4, 10] (.rego 13 [⟨some 9, .mov (.con (.int .i64 0)), none⟩])) (.keep [] (.seq (.rego 3 [⟨some 8, .mov (.con (.bool false)), none⟩]) .ret)))))))))))))))))))))))) (.keep [3, 4, 9, 10] (.seq (.rego 14 [⟨some 51, .mov (.tmp 10), none⟩, ⟨some 52, .mov (.tmp 51), none⟩, ⟨some 53, .fad 21 (.tmp 4), some ⟨52, true⟩⟩, ⟨some 54, .load false 1 (.tmp 53), some ⟨52, true⟩⟩, ⟨some 55, .len false (.tmp 54), some ⟨52, true⟩⟩, ⟨some 56, .mov (.tmp 9), some ⟨52, true⟩⟩, ⟨some 57, .bin .eql (.tmp 55) (.tmp 56), some ⟨52, true⟩⟩, ⟨some 58, .pick (.tmp 52) (.tmp 57) (.con (.bool false)), none⟩, ⟨some 59, .mov (.tmp 58), none⟩, ⟨some 60, .fad 21 (.tmp 4), some ⟨59, true⟩⟩, ⟨some 61, .load false 1 (.tmp 60), some ⟨59, true⟩⟩, ⟨some 62, .mov (.tmp 3), some ⟨59, true⟩⟩, ⟨some 63, .call 98 [.tmp 61, .tmp 62], some ⟨59, true⟩⟩, ⟨some 64, .pick (.tmp 59) (.tmp 63) (.con (.bool false)), none⟩, ⟨some 8, .mov (.tmp 64), none⟩]) .ret))))))
theorem fd102 : fnData Tryz.prog 102 = some (65, lc102.erase, [LRV.tmp 8]) := by kernel_rfl

def lc99 : LC := .seq (.rego 0 [⟨some 3, .box (.tmp 0), none⟩, ⟨some 6, .mov (.con (.bool false)), none⟩]) (.keep [1, 2, 3] (.seq (.seq (.rego 1 [⟨some 7, .mov (.tmp 2), none⟩, ⟨some 8, .bin .gtr (.tmp 7) (.con (.int .i64 64)), none⟩, ⟨some 9, .mov (.tmp 8), none⟩, ⟨some 10, .fad 2 (.tmp 3), some ⟨9, false⟩⟩, ⟨some 11, .load false 1 (.tmp 10), some ⟨9, false⟩⟩, ⟨some 12, .mov (.tmp 1), some ⟨9, false⟩⟩, ⟨some 13, .call 98 [.tmp 11, .tmp 12], some ⟨9, false⟩⟩, ⟨some 14, .un .not (.tmp 13), some ⟨9, false⟩⟩, ⟨some 15, .pick (.tmp 9) (.con (.bool true)) (.tmp 14), none⟩]) (.keep [1, 2, 3, 15] (.cond (.tmp 15) (.keep [] (.seq (.rego 2 [⟨some 6, .mov (.con (.bool false)), none⟩]) .ret)) .skip))) (.keep [1, 2, 3] (.seq (.seq (.rego 3 [⟨some 16, .fad 0 (.tmp 3), none⟩, ⟨some 17, .load false 1 (.tmp 16), none⟩]) (.keep [1, 2, 3, 17] (.block 0 (.seq (.block 3 (.seq (.block 2 (.block 1 (.seq (.seq (.seq (.rego 4 [⟨some 19, .bin .eql (.tmp 17) (.con (.int .i64 4)), none⟩, ⟨some 18, .mov (.tmp 19), none⟩]) (.keep [1, 2, 3, 17, 18] (.cond (.tmp 18) (.exit 1) .skip))) (.keep [1, 2, 3, 17] (.seq (.seq (.rego 5 [⟨some 21, .bin .eql (.tmp 17) (.con (.int .i64 5)), none⟩, ⟨some 20, .mov (.tmp 21), none⟩]) (.keep [1, 2, 3, 17, 20] (.cond (.tmp 20) (.exit 2) .skip))) (.keep [3, 17] (.seq (.seq (.rego 6 [⟨some 23, .bin .eql (.tmp 17) (.con (.int .i64 0)), none⟩, ⟨some 22, .mov (.tmp 23), none⟩]) (.keep [3, 17, 22] (.cond (.tmp 22) .skip (.keep [3, 17] (.seq (.rego 7 [⟨some 24, .bin .eql (.tmp 17) (.con (.int .i64 1)), none⟩, ⟨some 22, .mov (.tmp 24), none⟩]) (.keep [3, 17, 22] (.cond (.tmp 22) .skip (.keep [3, 17] (.seq (.rego 8 [⟨some 25, .bin .eql (.tmp 17) (.con (.int .i64 2)), none⟩, ⟨some 22, .mov (.tmp 25), none⟩]) (.keep [3, 17, 22] (.cond (.tmp 22) .skip (.keep [3, 17] (.rego 9 [⟨some 26, .bin .eql (.tmp 17) (.con (.int .i64 3)), none⟩, ⟨some 22, .mov (.tmp 26), none⟩]))))))))))))) (.keep [3, 22] (.cond (.tmp 22) (.exit 3) .skip))))))) (.exit 0)))) (.keep [1, 2, 3] (.seq (.seq (.rego 10 [⟨some 27, .fad 3 (.tmp 3), none⟩, ⟨some 28, .load false 1 (.tmp 27), none⟩, ⟨some 29, .len false (.tmp 28), none⟩, ⟨some 30, .bin .eql (.tmp 29) (.con (.int .i64 1)), none⟩, ⟨some 31, .mov (.tmp 30), none⟩, ⟨some 32, .fad 2 (.tmp 3), some ⟨31, true⟩⟩, ⟨some 33, .load false 1 (.tmp 32), some ⟨31, true⟩⟩, ⟨some 34, .len false (.tmp 33), some ⟨31, true⟩⟩, ⟨some 35, .bin .eql (.tmp 34) (.con (.int .i64 1)), some ⟨31, true⟩⟩, ⟨some 36, .pick (.tmp 31) (.tmp 35) (.con (.bool false)), none⟩, ⟨some 37, .mov (.tmp 36), none⟩, ⟨some 38, .fad 3 (.tmp 3), some ⟨37, true⟩⟩, ⟨some 39, .load false 1 (.tmp 38), some ⟨37, true⟩⟩, ⟨some 40, .iaS 4 (.tmp 39) (.con (.int .i64 0)), some ⟨37, true⟩⟩, ⟨some 41, .load true 4 (.tmp 40), some ⟨37, true⟩⟩, ⟨some 42, .mov (.tmp 1), some ⟨37, true⟩⟩, ⟨some 43, .mov (.tmp 2), some ⟨37, true⟩⟩, ⟨some 44, .bin .add (.tmp 43) (.con (.int .i64 1)), some ⟨37, true⟩⟩, ⟨some 45, .call 99 [.tmp 41, .tmp 42, .tmp 44], some ⟨37, true⟩⟩, ⟨some 46, .pick (.tmp 37) (.tmp 45) (.con (.bool false)), none⟩, ⟨some 6, .mov (.tmp 46), none⟩]) .ret) (.exit 0))))) (.keep [3] (.seq (.seq (.rego 11 [⟨some 47, .fad 3 (.tmp 3), none⟩, ⟨some 48, .load false 1 (.tmp 47), none⟩, ⟨some 49, .len false (.tmp 48), none⟩, ⟨some 50, .bin .eql (.tmp 49) (.con (.int .i64 0)), none⟩, ⟨some 6, .mov (.tmp 50), none⟩]) .ret) (.exit 0))))))) (.keep [] (.seq (.rego 12 [⟨some 6, .mov (.con (.bool false)), none⟩]) .ret))))))
theorem fd99 : fnData Tryz.prog 99 = some (51, lc99.erase, [LRV.tmp 6]) := by kernel_rfl

def lc101 : LC := .seq (.rego 0 [⟨some 2, .box (.tmp 0), none⟩, ⟨some 3, .mov (.con (.bool false)), none⟩]) (.keep [1, 2] (.seq (.rego 1 [⟨some 4, .load true 22 (.tmp 2), none⟩, ⟨some 5, .fad 4 (.tmp 1), none⟩, ⟨some 6, .load false 1 (.tmp 5), none⟩, ⟨some 7, .len false (.tmp 6), none⟩, ⟨some 8, .fad 2 (.tmp 1), none⟩, ⟨some 9, .load false 1 (.tmp 8), none⟩, ⟨some 10, .fad 5 (.tmp 1), none⟩, ⟨some 11, .load false 1 (.tmp 10), none⟩, ⟨some 12, .len false (.tmp 11), none⟩, ⟨some 13, .call 102 [.tmp 4, .tmp 7, .tmp 9, .tmp 12], none⟩, ⟨some 14, .un .not (.tmp 13), none⟩, ⟨some 3, .mov (.tmp 14), none⟩]) .ret))
theorem fd101 : fnData Tryz.prog 101 = some (15, lc101.erase, [LRV.tmp 3]) := by kernel_rfl

def lc74 : LC := .seq (.rego 0 [⟨some 1, .box (.tmp 0), none⟩, ⟨some 2, .mov (.con (.bool false)), none⟩]) (.keep [1] (.seq (.seq (.rego 1 [⟨some 7, .fad 1 (.tmp 1), none⟩, ⟨some 8, .load false 1 (.tmp 7), none⟩, ⟨some 9, .bin .lss (.tmp 8) (.con (.int .i64 0)), none⟩, ⟨some 10, .mov (.tmp 9), none⟩, ⟨some 11, .fad 1 (.tmp 1), some ⟨10, false⟩⟩, ⟨some 12, .load false 1 (.tmp 11), some ⟨10, false⟩⟩, ⟨some 13, .fad 2 (.tmp 1), some ⟨10, false⟩⟩, ⟨some 14, .load false 1 (.tmp 13), some ⟨10, false⟩⟩, ⟨some 15, .bin .gtr (.tmp 12) (.tmp 14), some ⟨10, false⟩⟩, ⟨some 16, .pick (.tmp 10) (.con (.bool true)) (.tmp 15), none⟩, ⟨some 17, .mov (.tmp 16), none⟩, ⟨some 18, .fad 2 (.tmp 1), some ⟨17, false⟩⟩, ⟨some 19, .load false 1 (.tmp 18), some ⟨17, false⟩⟩, ⟨some 20, .bin .gtr (.tmp 19) (.con (.int .i64 1048576)), some ⟨17, false⟩⟩, ⟨some 21, .pick (.tmp 17) (.con (.bool true)) (.tmp 20), none⟩, ⟨some 22, .mov (.tmp 21), none⟩, ⟨some 23, .fad 4 (.tmp 1), some ⟨22, false⟩⟩, ⟨some 24, .load false 1 (.tmp 23), some ⟨22, false⟩⟩, ⟨some 25, .len false (.tmp 24), some ⟨22, false⟩⟩, ⟨some 26, .bin .sub (.tmp 25) (.con (.int .i64 1)), some ⟨22, false⟩⟩, ⟨some 27, .call 97 [.tmp 26, .con (.int .i64 6000)], some ⟨22, false⟩⟩, ⟨some 28, .un .not (.tmp 27), some ⟨22, false⟩⟩, ⟨some 29, .pick (.tmp 22) (.con (.bool true)) (.tmp 28), none⟩, ⟨some 30, .mov (.tmp 29), none⟩, ⟨some 31, .fad 5 (.tmp 1), some ⟨30, false⟩⟩, ⟨some 32, .load false 1 (.tmp 31), some ⟨30, false⟩⟩, ⟨some 33, .len false (.tmp 32), some ⟨30, false⟩⟩, ⟨some 34, .bin .sub (.tmp 33) (.con (.int .i64 1)), some ⟨30, false⟩⟩, ⟨some 35, .call 97 [.tmp 34, .con (.int .i64 6000)], some ⟨30, false⟩⟩, ⟨some 36, .un .not (.tmp 35), some ⟨30, false⟩⟩, ⟨some 37, .pick (.tmp 30) (.con (.bool true)) (.tmp 36), none⟩]) (.keep [1, 37] (.cond (.tmp 37) (.keep [] (.seq (.rego 2 [⟨some 2, .mov (.con (.bool false)), none⟩]) .ret)) .skip))) (.keep [1] (.seq (.seq (.rego 3 [⟨some 38, .fad 3 (.tmp 1), none⟩, ⟨some 39, .load false 1 (.tmp 38), none⟩, ⟨some 40, .len false (.tmp 39), none⟩, ⟨some 41, .mov (.con (.int .i64 0)), none⟩]) (.keep [1, 39, 40, 41] (.block 0 (.loop (.seq (.rego 4 [⟨some 42, .bin .lss (.tmp 41) (.tmp 40), none⟩]) (.keep [1, 39, 40, 41, 42] (.seq (.cond (.tmp 42) .skip (.exit 0)) (.keep [1, 39, 40, 41] (.seq (.block 1 (.seq (.rego 5 [⟨some 43, .iaS 2 (.tmp 39) (.tmp 41), none⟩, ⟨some 44, .load true 2 (.tmp 43), none⟩, ⟨some 4, .new [.int .i64 0, .int .i64 0], none⟩, ⟨none, .store 2 (.tmp 4) (.tmp 44), none⟩]) (.keep [1, 4, 39, 40, 41] (.seq (.regf 6 [0, 0, 2, 7, 15] [⟨some 45, .slA 2 1 (.tmp 4) none none, none⟩, ⟨some 46, .fad 1 (.tmp 1), none⟩, ⟨some 47, .load false 1 (.tmp 46), none⟩, ⟨some 48, .call 98 [.tmp 45, .tmp 47], none⟩, ⟨some 49, .un .not (.tmp 48), none⟩]) (.keep [1, 39, 40, 41, 49] (.cond (.tmp 49) (.keep [] (.seq (.rego 7 [⟨some 2, .mov (.con (.bool false)), none⟩]) .ret)) .skip)))))) (.keep [1, 39, 40, 41] (.rego 8 [⟨some 50, .bin .add (.tmp 41) (.con (.int .i64 1)), none⟩, ⟨some 41, .mov (.tmp 50), none⟩]))))))))))) (.keep [1] (.seq (.seq (.rego 9 [⟨some 51, .fad 4 (.tmp 1), none⟩, ⟨some 52, .load false 1 (.tmp 51), none⟩, ⟨some 53, .len false (.tmp 52), none⟩, ⟨some 54, .mov (.con (.int .i64 0)), none⟩]) (.keep [1, 52, 53, 54] (.block 2 (.loop (.seq (.rego 10 [⟨some 55, .bin .lss (.tmp 54) (.tmp 53), none⟩]) (.keep [1, 52, 53, 54, 55] (.seq (.cond (.tmp 55) .skip (.exit 2)) (.keep [1, 52, 53, 54] (.seq (.block 3 (.seq (.rego 11 [⟨some 56, .iaS 6 (.tmp 52) (.tmp 54), none⟩, ⟨some 57, .load true 6 (.tmp 56), none⟩, ⟨some 6, .new [.str { data := #[] }, .int .i64 0, .str { data := #[] }, .e0, .e0, .bool false], none⟩, ⟨none, .store 6 (.tmp 6) (.tmp 57), none⟩]) (.keep [1, 6, 52, 53, 54] (.seq (.rego 12 [⟨some 58, .fad 1 (.tmp 6), none⟩, ⟨some 59, .load true 4 (.tmp 58), none⟩, ⟨some 60, .fad 2 (.tmp 1), none⟩, ⟨some 61, .load false 1 (.tmp 60), none⟩, ⟨some 62, .call 99 [.tmp 59, .tmp 61, .con (.int .i64 1)], none⟩, ⟨some 63, .un .not (.tmp 62), none⟩]) (.keep [1, 52, 53, 54, 63] (.cond (.tmp 63) (.keep [] (.seq (.rego 13 [⟨some 2, .mov (.con (.bool false)), none⟩]) .ret)) .skip)))))) (.keep [1, 52, 53, 54] (.rego 14 [⟨some 64, .bin .add (.tmp 54) (.con (.int .i64 1)), none⟩, ⟨some 54, .mov (.tmp 64), none⟩]))))))))))) (.keep [1] (.seq (.rego 15 [⟨some 65, .fad 5 (.tmp 1), none⟩, ⟨some 66, .load false 1 (.tmp 65), none⟩, ⟨some 67, .mkfn 101 [.tmp 1], none⟩, ⟨some 68, .call 100 [.tmp 66, .tmp 67], none⟩, ⟨some 69, .un .not (.tmp 68), none⟩, ⟨some 2, .mov (.tmp 69), none⟩]) .ret))))))))
theorem fd74 : fnData Tryz.prog 74 = some (70, lc74.erase, [LRV.tmp 2]) := by kernel_rfl

def lc41 : LC := .seq (.rego 0 [⟨some 2, .box (.tmp 0), none⟩, ⟨some 4, .mov (.con (.bool false)), none⟩]) (.keep [1, 2] (.seq (.seq (.rego 1 [⟨some 6, .mov (.tmp 1), none⟩, ⟨some 7, .bin .leq (.tmp 6) (.con (.int .i64 0)), none⟩, ⟨some 8, .mov (.tmp 7), none⟩, ⟨some 9, .fad 3 (.tmp 2), some ⟨8, false⟩⟩, ⟨some 10, .load false 1 (.tmp 9), some ⟨8, false⟩⟩, ⟨some 11, .len false (.tmp 10), some ⟨8, false⟩⟩, ⟨some 12, .bin .gtr (.tmp 11) (.con (.int .i64 2)), some ⟨8, false⟩⟩, ⟨some 13, .pick (.tmp 8) (.con (.bool true)) (.tmp 12), none⟩, ⟨some 14, .mov (.tmp 13), none⟩, ⟨some 15, .fad 2 (.tmp 2), some ⟨14, false⟩⟩, ⟨some 16, .load false 1 (.tmp 15), some ⟨14, false⟩⟩, ⟨some 17, .len false (.tmp 16), some ⟨14, false⟩⟩, ⟨some 18, .bin .gtr (.tmp 17) (.con (.int .i64 70)), some ⟨14, false⟩⟩, ⟨some 19, .pick (.tmp 14) (.con (.bool true)) (.tmp 18), none⟩]) (.keep [1, 2, 19] (.cond (.tmp 19) (.keep [] (.seq (.rego 2 [⟨some 4, .mov (.con (.bool true)), none⟩]) .ret)) .skip))) (.keep [1, 2] (.seq (.seq (.rego 3 [⟨some 5, .mov (.con (.int .i64 0)), none⟩]) (.keep [1, 2, 5] (.block 0 (.loop (.seq (.seq (.rego 4 [⟨some 20, .mov (.tmp 5), none⟩, ⟨some 21, .fad 3 (.tmp 2), none⟩, ⟨some 22, .load false 1 (.tmp 21), none⟩, ⟨some 23, .len false (.tmp 22), none⟩, ⟨some 24, .bin .lss (.tmp 20) (.tmp 23), none⟩]) (.keep [1, 2, 5, 24] (.cond (.tmp 24) .skip (.exit 0)))) (.keep [1, 2, 5] (.seq (.block 1 (.seq (.rego 6 [⟨some 27, .fad 3 (.tmp 2), none⟩, ⟨some 28, .load false 1 (.tmp 27), none⟩, ⟨some 29, .mov (.tmp 5), none⟩, ⟨some 30, .iaS 4 (.tmp 28) (.tmp 29), none⟩, ⟨some 31, .load true 4 (.tmp 30), none⟩, ⟨some 32, .mov (.tmp 1), none⟩, ⟨some 33, .bin .sub (.tmp 32) (.con (.int .i64 1)), none⟩, ⟨some 34, .call 41 [.tmp 31, .tmp 33], none⟩]) (.keep [1, 2, 5, 34] (.cond (.tmp 34) (.keep [] (.seq (.rego 7 [⟨some 4, .mov (.con (.bool true)), none⟩]) .ret)) .skip)))) (.keep [1, 2, 5] (.rego 5 [⟨some 25, .mov (.tmp 5), none⟩, ⟨some 26, .bin .add (.tmp 25) (.con (.int .i64 1)), none⟩, ⟨some 5, .mov (.tmp 26), none⟩]))))))))) (.keep [] (.seq (.rego 8 [⟨some 4, .mov (.con (.bool false)), none⟩]) .ret))))))
theorem fd41 : fnData Tryz.prog 41 = some (35, lc41.erase, [LRV.tmp 4]) := by kernel_rfl

def lc21 : LC := .seq (.rego 0 [⟨some 1, .box (.tmp 0), none⟩, ⟨some 2, .mov (.con (.bool false)), none⟩]) (.keep [1] (.seq (.seq (.rego 1 [⟨some 6, .fad 5 (.tmp 1), none⟩, ⟨some 7, .load false 1 (.tmp 6), none⟩, ⟨some 8, .len false (.tmp 7), none⟩, ⟨some 9, .bin .gtr (.tmp 8) (.con (.int .i64 60)), none⟩, ⟨some 10, .mov (.tmp 9), none⟩, ⟨some 11, .fad 4 (.tmp 1), some ⟨10, false⟩⟩, ⟨some 12, .load false 1 (.tmp 11), some ⟨10, false⟩⟩, ⟨some 13, .len false (.tmp 12), some ⟨10, false⟩⟩, ⟨some 14, .bin .gtr (.tmp 13) (.con (.int .i64 30)), some ⟨10, false⟩⟩, ⟨some 15, .pick (.tmp 10) (.con (.bool true)) (.tmp 14), none⟩, ⟨some 16, .mov (.tmp 15), none⟩, ⟨some 17, .fad 2 (.tmp 1), some ⟨16, false⟩⟩, ⟨some 18, .load false 1 (.tmp 17), some ⟨16, false⟩⟩, ⟨some 19, .bin .gtr (.tmp 18) (.con (.int .i64 200)), some ⟨16, false⟩⟩, ⟨some 20, .pick (.tmp 16) (.con (.bool true)) (.tmp 19), none⟩, ⟨some 21, .mov (.tmp 20), none⟩, ⟨some 22, .fad 3 (.tmp 1), some ⟨21, false⟩⟩, ⟨some 23, .load false 1 (.tmp 22), some ⟨21, false⟩⟩, ⟨some 24, .len false (.tmp 23), some ⟨21, false⟩⟩, ⟨some 25, .bin .gtr (.tmp 24) (.con (.int .i64 100)), some ⟨21, false⟩⟩, ⟨some 26, .pick (.tmp 21) (.con (.bool true)) (.tmp 25), none⟩]) (.keep [1, 26] (.cond (.tmp 26) (.keep [] (.seq (.rego 2 [⟨some 2, .mov (.con (.bool true)), none⟩]) .ret)) .skip))) (.keep [1] (.seq (.seq (.rego 3 [⟨some 3, .mov (.con (.int .i64 0)), none⟩]) (.keep [1, 3] (.block 0 (.loop (.seq (.seq (.rego 4 [⟨some 27, .mov (.tmp 3), none⟩, ⟨some 28, .fad 4 (.tmp 1), none⟩, ⟨some 29, .load false 1 (.tmp 28), none⟩, ⟨some 30, .len false (.tmp 29), none⟩, ⟨some 31, .bin .lss (.tmp 27) (.tmp 30), none⟩]) (.keep [1, 3, 31] (.cond (.tmp 31) .skip (.exit 0)))) (.keep [1, 3] (.seq (.block 1 (.seq (.rego 6 [⟨some 34, .fad 4 (.tmp 1), none⟩, ⟨some 35, .load false 1 (.tmp 34), none⟩, ⟨some 36, .mov (.tmp 3), none⟩, ⟨some 37, .iaS 6 (.tmp 35) (.tmp 36), none⟩, ⟨some 38, .fad 1 (.tmp 37), none⟩, ⟨some 39, .load true 4 (.tmp 38), none⟩, ⟨some 40, .call 41 [.tmp 39, .con (.int .i64 67)], none⟩]) (.keep [1, 3, 40] (.cond (.tmp 40) (.keep [] (.seq (.rego 7 [⟨some 2, .mov (.con (.bool true)), none⟩]) .ret)) .skip)))) (.keep [1, 3] (.rego 5 [⟨some 32, .mov (.tmp 3), none⟩, ⟨some 33, .bin .add (.tmp 32) (.con (.int .i64 1)), none⟩, ⟨some 3, .mov (.tmp 33), none⟩]))))))))) (.keep [1] (.seq (.seq (.rego 8 [⟨some 4, .mov (.con (.int .i64 0)), none⟩]) (.keep [1, 4] (.block 2 (.loop (.seq (.seq (.rego 9 [⟨some 41, .mov (.tmp 4), none⟩, ⟨some 42, .fad 5 (.tmp 1), none⟩, ⟨some 43, .load false 1 (.tmp 42), none⟩, ⟨some 44, .len false (.tmp 43), none⟩, ⟨some 45, .bin .lss (.tmp 41) (.tmp 44), none⟩]) (.keep [1, 4, 45] (.cond (.tmp 45) .skip (.exit 2)))) (.keep [1, 4] (.seq (.block 3 (.seq (.rego 11 [⟨some 48, .fad 5 (.tmp 1), none⟩, ⟨some 49, .load false 1 (.tmp 48), none⟩, ⟨some 50, .mov (.tmp 4), none⟩, ⟨some 51, .iaS 22 (.tmp 49) (.tmp 50), none⟩, ⟨some 52, .fad 5 (.tmp 51), none⟩, ⟨some 53, .load true 16 (.tmp 52), none⟩, ⟨some 5, .new [.int .i64 0, .int .i64 0, .int .i64 0, .int .i64 0, .e0, .int .i64 0, .int .i64 0, .int .i64 0, .e0, .int .i64 0, .int .i64 0, .e0, .int .i64 0, .str { data := #[] }, .e0, .e0], none⟩, ⟨none, .store 16 (.tmp 5) (.tmp 53), none⟩]) (.keep [1, 4, 5] (.seq (.rego 12 [⟨some 54, .fad 5 (.tmp 1), none⟩, ⟨some 55, .load false 1 (.tmp 54), none⟩, ⟨some 56, .mov (.tmp 4), none⟩, ⟨some 57, .iaS 22 (.tmp 55) (.tmp 56), none⟩, ⟨some 58, .fad 21 (.tmp 57), none⟩, ⟨some 59, .load false 1 (.tmp 58), none⟩, ⟨some 60, .len false (.tmp 59), none⟩, ⟨some 61, .bin .gtr (.tmp 60) (.con (.int .i64 4)), none⟩, ⟨some 62, .mov (.tmp 61), none⟩, ⟨some 63, .fad 15 (.tmp 5), some ⟨62, false⟩⟩, ⟨some 64, .load false 1 (.tmp 63), some ⟨62, false⟩⟩, ⟨some 65, .len false (.tmp 64), some ⟨62, false⟩⟩, ⟨some 66, .bin .gtr (.tmp 65) (.con (.int .i64 20)), some ⟨62, false⟩⟩, ⟨some 67, .pick (.tmp 62) (.con (.bool true)) (.tmp 66), none⟩, ⟨some 68, .mov (.tmp 67), none⟩, ⟨some 69, .fad 14 (.tmp 5), some ⟨68, false⟩⟩, ⟨some 70, .load false 1 (.tmp 69), some ⟨68, false⟩⟩, ⟨some 71, .len false (.tmp 70), some ⟨68, false⟩⟩, ⟨some 72, .bin .gtr (.tmp 71) (.con (.int .i64 20)), some ⟨68, false⟩⟩, ⟨some 73, .pick (.tmp 68) (.con (.bool true)) (.tmp 72), none⟩, ⟨some 74, .mov (.tmp 73), none⟩, ⟨some 75, .fad 10 (.tmp 5), some ⟨74, false⟩⟩, ⟨some 76, .fad 1 (.tmp 75), some ⟨74, false⟩⟩, ⟨some 77, .load false 1 (.tmp 76), some ⟨74, false⟩⟩, ⟨some 78, .len false (.tmp 77), some ⟨74, false⟩⟩, ⟨some 79, .bin .gtr (.tmp 78) (.con (.int .i64 20)), some ⟨74, false⟩⟩, ⟨some 80, .pick (.tmp 74) (.con (.bool true)) (.tmp 79), none⟩, ⟨some 81, .mov (.tmp 80), none⟩, ⟨some 82, .fad 5 (.tmp 1), some ⟨81, false⟩⟩, ⟨some 83, .load false 1 (.tmp 82), some ⟨81, false⟩⟩, ⟨some 84, .mov (.tmp 4), some ⟨81, false⟩⟩, ⟨some 85, .iaS 22 (.tmp 83) (.tmp 84), some ⟨81, false⟩⟩, ⟨some 86, .fad 3 (.tmp 85), some ⟨81, false⟩⟩, ⟨some 87, .fad 1 (.tmp 86), some ⟨81, false⟩⟩, ⟨some 88, .load false 1 (.tmp 87), some ⟨81, false⟩⟩, ⟨some 89, .len false (.tmp 88), some ⟨81, false⟩⟩, ⟨some 90, .bin .gtr (.tmp 89) (.con (.int .i64 20)), some ⟨81, false⟩⟩, ⟨some 91, .pick (.tmp 81) (.con (.bool true)) (.tmp 90), none⟩]) (.keep [1, 4, 91] (.cond (.tmp 91) (.keep [] (.seq (.rego 13 [⟨some 2, .mov (.con (.bool true)), none⟩]) .ret)) .skip)))))) (.keep [1, 4] (.rego 10 [⟨some 46, .mov (.tmp 4), none⟩, ⟨some 47, .bin .add (.tmp 46) (.con (.int .i64 1)), none⟩, ⟨some 4, .mov (.tmp 47), none⟩]))))))))) (.keep [] (.seq (.rego 14 [⟨some 2, .mov (.con (.bool false)), none⟩]) .ret))))))))
theorem fd21 : fnData Tryz.prog 21 = some (92, lc21.erase, [LRV.tmp 2]) := by kernel_rfl

def lc75 : LC := .seq (.rego 0 [⟨some 2, .box (.tmp 0), none⟩, ⟨some 4, .mov (.con .e0), none⟩]) (.keep [1, 2] (.seq (.rego 1 [⟨some 13, .fad 5 (.tmp 2), none⟩, ⟨some 14, .load false 1 (.tmp 13), none⟩, ⟨some 15, .len false (.tmp 14), none⟩, ⟨some 16, .mksl 1 8 [.int .i64 0] (.tmp 15) (.tmp 15), none⟩, ⟨some 5, .mov (.tmp 16), none⟩]) (.keep [1, 2, 5] (.seq (.seq (.rego 2 [⟨some 17, .mov (.tmp 5), none⟩, ⟨some 18, .len false (.tmp 17), none⟩, ⟨some 19, .mov (.con (.int .i64 0)), none⟩]) (.keep [1, 2, 5, 18, 19] (.block 0 (.loop (.seq (.rego 3 [⟨some 20, .bin .lss (.tmp 19) (.tmp 18), none⟩]) (.keep [1, 2, 5, 18, 19, 20] (.seq (.cond (.tmp 20) .skip (.exit 0)) (.keep [1, 2, 5, 18, 19] (.seq (.block 1 (.seq (.rego 4 [⟨some 21, .mov (.tmp 19), none⟩, ⟨some 6, .mov (.tmp 21), none⟩]) (.keep [1, 2, 5, 6, 18, 19] (.rego 5 [⟨some 22, .mov (.tmp 5), none⟩, ⟨some 23, .mov (.tmp 6), none⟩, ⟨some 24, .iaS 1 (.tmp 22) (.tmp 23), none⟩, ⟨none, .store 1 (.tmp 24) (.con (.int .i64 (-1))), none⟩])))) (.keep [1, 2, 5, 18, 19] (.rego 6 [⟨some 25, .bin .add (.tmp 19) (.con (.int .i64 1)), none⟩, ⟨some 19, .mov (.tmp 25), none⟩]))))))))))) (.keep [1, 2, 5] (.seq (.seq (.rego 7 [⟨some 7, .mov (.con (.int .i64 1)), none⟩]) (.keep [1, 2, 5, 7] (.block 2 (.loop (.seq (.seq (.rego 8 [⟨some 26, .mov (.tmp 1), none⟩, ⟨some 27, .len false (.tmp 26), none⟩, ⟨some 28, .bin .gtr (.tmp 27) (.con (.int .i64 0)), none⟩]) (.keep [1, 2, 5, 7, 28] (.cond (.tmp 28) .skip (.exit 2)))) (.keep [1, 2, 5, 7] (.seq (.block 3 (.seq (.rego 10 [⟨some 8, .mov (.con .e0), none⟩]) (.keep [1, 2, 5, 7, 8] (.seq (.seq (.rego 11 [⟨some 31, .mov (.tmp 1), none⟩, ⟨some 32, .len false (.tmp 31), none⟩, ⟨some 33, .mov (.con (.int .i64 0)), none⟩]) (.keep [2, 5, 7, 8, 31, 32, 33] (.block 4 (.loop (.seq (.rego 12 [⟨some 34, .bin .lss (.tmp 33) (.tmp 32), none⟩]) (.keep [2, 5, 7, 8, 31, 32, 33, 34] (.seq (.cond (.tmp 34) .skip (.exit 4)) (.keep [2, 5, 7, 8, 31, 32, 33] (.seq (.block 5 (.seq (.rego 13 [⟨some 35, .iaS 1 (.tmp 31) (.tmp 33), none⟩, ⟨some 36, .load false 1 (.tmp 35), none⟩, ⟨some 10, .mov (.tmp 36), none⟩]) (.keep [2, 5, 7, 8, 10, 31, 32, 33] (.seq (.rego 14 [⟨some 37, .fad 5 (.tmp 2), none⟩, ⟨some 38, .load false 1 (.tmp 37), none⟩, ⟨some 39, .mov (.tmp 10), none⟩, ⟨some 40, .iaS 22 (.tmp 38) (.tmp 39), none⟩, ⟨some 41, .fad 21 (.tmp 40), none⟩, ⟨some 42, .load false 1 (.tmp 41), none⟩, ⟨some 43, .len false (.tmp 42), none⟩, ⟨some 44, .mov (.con (.int .i64 0)), none⟩]) (.keep [2, 5, 7, 8, 31, 32, 33, 42, 43, 44] (.block 6 (.loop (.seq (.rego 15 [⟨some 45, .bin .lss (.tmp 44) (.tmp 43), none⟩]) (.keep [2, 5, 7, 8, 31, 32, 33, 42, 43, 44, 45] (.seq (.cond (.tmp 45) .skip (.exit 6)) (.keep [2, 5, 7, 8, 31, 32, 33, 42, 43, 44] (.seq (.block 7 (.seq (.rego 16 [⟨some 46, .iaS 1 (.tmp 42) (.tmp 44), none⟩, ⟨some 47, .load false 1 (.tmp 46), none⟩, ⟨some 12, .mov (.tmp 47), none⟩]) (.keep [2, 5, 7, 8, 12, 31, 32, 33, 42, 43, 44] (.seq (.rego 17 [⟨some 48, .mov (.tmp 5), none⟩, ⟨some 49, .mov (.tmp 12), none⟩, ⟨some 50, .iaS 1 (.tmp 48) (.tmp 49), none⟩, ⟨some 51, .load false 1 (.tmp 50), none⟩, ⟨some 52, .bin .lss (.tmp 51) (.con (.int .i64 0)), none⟩]) (.keep [2, 5, 7, 8, 12, 31, 32, 33, 42, 43, 44, 52] (.cond (.tmp 52) (.keep [2, 5, 7, 8, 12, 31, 32, 33, 42, 43, 44] (.seq (.rego 18 [⟨some 53, .mov (.tmp 5), none⟩, ⟨some 54, .mov (.tmp 12), none⟩, ⟨some 55, .mov (.tmp 7), none⟩, ⟨some 56, .iaS 1 (.tmp 53) (.tmp 54), none⟩, ⟨none, .store 1 (.tmp 56) (.tmp 55), none⟩]) (.keep [2, 5, 7, 8, 12, 31, 32, 33, 42, 43, 44] (.rego 19 [⟨some 57, .mov (.tmp 8), none⟩, ⟨some 58, .mov (.tmp 12), none⟩, ⟨some 59, .bsl 1 [.int .i64 0] [⟨0, 1, .tmp 58⟩], none⟩, ⟨some 60, .app 1 8 (.tmp 57) (.tmp 59), none⟩, ⟨some 8, .mov (.tmp 60), none⟩])))) .skip)))))) (.keep [2, 5, 7, 8, 31, 32, 33, 42, 43, 44] (.rego 20 [⟨some 61, .bin .add (.tmp 44) (.con (.int .i64 1)), none⟩, ⟨some 44, .mov (.tmp 61), none⟩])))))))))))))) (.keep [2, 5, 7, 8, 31, 32, 33] (.rego 21 [⟨some 62, .bin .add (.tmp 33) (.con (.int .i64 1)), none⟩, ⟨some 33, .mov (.tmp 62), none⟩]))))))))))) (.keep [2, 5, 7, 8] (.rego 22 [⟨some 63, .mov (.tmp 8), none⟩, ⟨some 1, .mov (.tmp 63), none⟩])))))) (.keep [1, 2, 5, 7] (.rego 9 [⟨some 29, .mov (.tmp 7), none⟩, ⟨some 30, .bin .add (.tmp 29) (.con (.int .i64 1)), none⟩, ⟨some 7, .mov (.tmp 30), none⟩]))))))))) (.keep [5] (.seq (.rego 23 [⟨some 64, .mov (.tmp 5), none⟩, ⟨some 4, .mov (.tmp 64), none⟩]) .ret))))))))
theorem fd75 : fnData Tryz.prog 75 = some (65, lc75.erase, [LRV.tmp 4]) := by kernel_rfl

def lc64 : LC := .seq (.rego 0 [⟨some 1, .box (.tmp 0), none⟩, ⟨some 2, .mov (.con .e0), none⟩]) (.keep [1] (.seq (.seq (.rego 1 [⟨some 4, .load true 6 (.tmp 1), none⟩, ⟨some 5, .call 74 [.tmp 4], none⟩, ⟨some 6, .un .not (.tmp 5), none⟩]) (.keep [1, 6] (.cond (.tmp 6) (.keep [] (.seq (.rego 2 [⟨some 2, .mov (.con .e0), none⟩]) .ret)) .skip))) (.keep [1] (.seq (.rego 3 [⟨some 7, .load true 6 (.tmp 1), none⟩, ⟨some 8, .bsl 1 [.int .i64 0] [⟨0, 1, .con (.int .i64 0)⟩], none⟩, ⟨some 9, .call 75 [.tmp 7, .tmp 8], none⟩, ⟨some 3, .mov (.tmp 9), none⟩]) (.keep [3] (.seq (.rego 4 [⟨some 10, .mov (.tmp 3), none⟩, ⟨some 11, .iaS 1 (.tmp 10) (.con (.int .i64 0)), none⟩, ⟨none, .store 1 (.tmp 11) (.con (.int .i64 0)), none⟩]) (.keep [3] (.seq (.rego 5 [⟨some 12, .mov (.tmp 3), none⟩, ⟨some 2, .mov (.tmp 12), none⟩]) .ret))))))))
theorem fd64 : fnData Tryz.prog 64 = some (13, lc64.erase, [LRV.tmp 2]) := by kernel_rfl

def lc46 : LC := .seq (.rego 0 [⟨some 1, .box (.tmp 0), none⟩, ⟨some 2, .mov (.con .e0), none⟩]) (.keep [1] (.seq (.rego 1 [⟨some 3, .mov (.con .e0), none⟩]) (.keep [1, 3] (.seq (.seq (.rego 2 [⟨some 6, .load true 6 (.tmp 1), none⟩, ⟨some 7, .call 64 [.tmp 6], none⟩, ⟨some 8, .len false (.tmp 7), none⟩, ⟨some 9, .mov (.con (.int .i64 0)), none⟩]) (.keep [3, 7, 8, 9] (.block 0 (.loop (.seq (.rego 3 [⟨some 10, .bin .lss (.tmp 9) (.tmp 8), none⟩]) (.keep [3, 7, 8, 9, 10] (.seq (.cond (.tmp 10) .skip (.exit 0)) (.keep [3, 7, 8, 9] (.seq (.block 1 (.seq (.rego 4 [⟨some 11, .iaS 1 (.tmp 7) (.tmp 9), none⟩, ⟨some 12, .load false 1 (.tmp 11), none⟩, ⟨some 5, .mov (.tmp 12), none⟩]) (.keep [3, 5, 7, 8, 9] (.rego 5 [⟨some 13, .mov (.tmp 3), none⟩, ⟨some 14, .mov (.tmp 5), none⟩, ⟨some 15, .bin .geq (.tmp 14) (.con (.int .i64 0)), none⟩, ⟨some 16, .bsl 1 [.bool false] [⟨0, 1, .tmp 15⟩], none⟩, ⟨some 17, .app 1 1 (.tmp 13) (.tmp 16), none⟩, ⟨some 3, .mov (.tmp 17), none⟩])))) (.keep [3, 7, 8, 9] (.rego 6 [⟨some 18, .bin .add (.tmp 9) (.con (.int .i64 1)), none⟩, ⟨some 9, .mov (.tmp 18), none⟩]))))))))))) (.keep [3] (.seq (.rego 7 [⟨some 19, .mov (.tmp 3), none⟩, ⟨some 2, .mov (.tmp 19), none⟩]) .ret))))))
theorem fd46 : fnData Tryz.prog 46 = some (20, lc46.erase, [LRV.tmp 2]) := by kernel_rfl

def lc22 : LC := .seq (.rego 0 [⟨some 1, .box (.tmp 0), none⟩, ⟨some 2, .mov (.con (.bool false)), none⟩]) (.keep [1] (.seq (.seq (.rego 1 [⟨some 12, .fad 1 (.tmp 1), none⟩, ⟨some 13, .load false 1 (.tmp 12), none⟩, ⟨some 14, .bin .lss (.tmp 13) (.con (.int .i64 0)), none⟩, ⟨some 15, .mov (.tmp 14), none⟩, ⟨some 16, .fad 1 (.tmp 1), some ⟨15, false⟩⟩, ⟨some 17, .load false 1 (.tmp 16), some ⟨15, false⟩⟩, ⟨some 18, .fad 2 (.tmp 1), some ⟨15, false⟩⟩, ⟨some 19, .load false 1 (.tmp 18), some ⟨15, false⟩⟩, ⟨some 20, .bin .gtr (.tmp 17) (.tmp 19), some ⟨15, false⟩⟩, ⟨some 21, .pick (.tmp 15) (.con (.bool true)) (.tmp 20), none⟩, ⟨some 22, .mov (.tmp 21), none⟩, ⟨some 23, .fad 2 (.tmp 1), some ⟨22, false⟩⟩, ⟨some 24, .load false 1 (.tmp 23), some ⟨22, false⟩⟩, ⟨some 25, .bin .gtr (.tmp 24) (.con (.int .i64 1048576)), some ⟨22, false⟩⟩, ⟨some 26, .pick (.tmp 22) (.con (.bool true)) (.tmp 25), none⟩, ⟨some 27, .mov (.tmp 26), none⟩, ⟨some 28, .fad 4 (.tmp 1), some ⟨27, false⟩⟩, ⟨some 29, .load false 1 (.tmp 28), some ⟨27, false⟩⟩, ⟨some 30, .len false (.tmp 29), some ⟨27, false⟩⟩, ⟨some 31, .bin .lss (.tmp 30) (.con (.int .i64 1)), some ⟨27, false⟩⟩, ⟨some 32, .pick (.tmp 27) (.con (.bool true)) (.tmp 31), none⟩, ⟨some 33, .mov (.tmp 32), none⟩, ⟨some 34, .fad 4 (.tmp 1), some ⟨33, false⟩⟩, ⟨some 35, .load false 1 (.tmp 34), some ⟨33, false⟩⟩, ⟨some 36, .len false (.tmp 35), some ⟨33, false⟩⟩, ⟨some 37, .bin .gtr (.tmp 36) (.con (.int .i64 6000)), some ⟨33, false⟩⟩, ⟨some 38, .pick (.tmp 33) (.con (.bool true)) (.tmp 37), none⟩, ⟨some 39, .mov (.tmp 38), none⟩, ⟨some 40, .fad 5 (.tmp 1), some ⟨39, false⟩⟩, ⟨some 41, .load false 1 (.tmp 40), some ⟨39, false⟩⟩, ⟨some 42, .len false (.tmp 41), some ⟨39, false⟩⟩, ⟨some 43, .bin .lss (.tmp 42) (.con (.int .i64 1)), some ⟨39, false⟩⟩, ⟨some 44, .pick (.tmp 39) (.con (.bool true)) (.tmp 43), none⟩, ⟨some 45, .mov (.tmp 44), none⟩, ⟨some 46, .fad 5 (.tmp 1), some ⟨45, false⟩⟩, ⟨some 47, .load false 1 (.tmp 46), some ⟨45, false⟩⟩, ⟨some 48, .len false (.tmp 47), some ⟨45, false⟩⟩, ⟨some 49, .bin .gtr (.tmp 48) (.con (.int .i64 6000)), some ⟨45, false⟩⟩, ⟨some 50, .pick (.tmp 45) (.con (.bool true)) (.tmp 49), none⟩]) (.keep [1, 50] (.cond (.tmp 50) (.keep [] (.seq (.rego 2 [⟨some 2, .mov (.con (.bool false)), none⟩]) .ret)) .skip))) (.keep [1] (.seq (.seq (.rego 3 [⟨some 3, .mov (.con (.int .i64 0)), none⟩]) (.keep [1, 3] (.block 0 (.loop (.seq (.seq (.rego 4 [⟨some 51, .mov (.tmp 3), none⟩, ⟨some 52, .fad 3 (.tmp 1), none⟩, ⟨some 53, .load false 1 (.tmp 52), none⟩, ⟨some 54, .len false (.tmp 53), none⟩, ⟨some 55, .bin .lss (.tmp 51) (.tmp 54), none⟩]) (.keep [1, 3, 55] (.cond (.tmp 55) .skip (.exit 0)))) (.keep [1, 3] (.seq (.block 1 (.seq (.rego 6 [⟨some 4, .mov (.con (.int .i64 0)), none⟩]) (.keep [1, 3, 4] (.block 2 (.loop (.seq (.seq (.rego 7 [⟨some 58, .mov (.tmp 4), none⟩, ⟨some 59, .bin .lss (.tmp 58) (.con (.int .i64 2)), none⟩]) (.keep [1, 3, 4, 59] (.cond (.tmp 59) .skip (.exit 2)))) (.keep [1, 3, 4] (.seq (.block 3 (.seq (.reg 9 [⟨some 62, .fad 3 (.tmp 1), none⟩, ⟨some 63, .load false 1 (.tmp 62), none⟩, ⟨some 64, .mov (.tmp 3), none⟩, ⟨some 65, .mov (.tmp 4), none⟩, ⟨some 66, .iaS 2 (.tmp 63) (.tmp 64), none⟩, ⟨some 67, .iaA 2 1 (.tmp 66) (.tmp 65), none⟩, ⟨some 68, .load false 1 (.tmp 67), none⟩, ⟨some 69, .bin .lss (.tmp 68) (.con (.int .i64 0)), none⟩, ⟨some 70, .mov (.tmp 69), none⟩, ⟨some 71, .fad 3 (.tmp 1), some ⟨70, false⟩⟩, ⟨some 72, .load false 1 (.tmp 71), some ⟨70, false⟩⟩, ⟨some 73, .mov (.tmp 3), some ⟨70, false⟩⟩, ⟨some 74, .mov (.tmp 4), some ⟨70, false⟩⟩, ⟨some 75, .iaS 2 (.tmp 72) (.tmp 73), some ⟨70, false⟩⟩, ⟨some 76, .iaA 2 1 (.tmp 75) (.tmp 74), some ⟨70, false⟩⟩, ⟨some 77, .load false 1 (.tmp 76), some ⟨70, false⟩⟩, ⟨some 78, .fad 1 (.tmp 1), some ⟨70, false⟩⟩, ⟨some 79, .load false 1 (.tmp 78), some ⟨70, false⟩⟩, ⟨some 80, .bin .geq (.tmp 77) (.tmp 79), some ⟨70, false⟩⟩, ⟨some 81, .pick (.tmp 70) (.con (.bool true)) (.tmp 80), none⟩]) (.keep [1, 3, 4, 81] (.cond (.tmp 81) (.keep [] (.seq (.rego 10 [⟨some 2, .mov (.con (.bool false)), none⟩]) .ret)) .skip)))) (.keep [1, 3, 4] (.rego 8 [⟨some 60, .mov (.tmp 4), none⟩, ⟨some 61, .bin .add (.tmp 60) (.con (.int .i64 1)), none⟩, ⟨some 4, .mov (.tmp 61), none⟩])))))))))) (.keep [1, 3] (.rego 5 [⟨some 56, .mov (.tmp 3), none⟩, ⟨some 57, .bin .add (.tmp 56) (.con (.int .i64 1)), none⟩, ⟨some 3, .mov (.tmp 57), none⟩]))))))))) (.keep [1] (.seq (.seq (.rego 11 [⟨some 5, .mov (.con (.int .i64 0)), none⟩]) (.keep [1, 5] (.block 4 (.loop (.seq (.seq (.rego 12 [⟨some 82, .mov (.tmp 5), none⟩, ⟨some 83, .fad 4 (.tmp 1), none⟩, ⟨some 84, .load false 1 (.tmp 83), none⟩, ⟨some 85, .len false (.tmp 84), none⟩, ⟨some 86, .bin .lss (.tmp 82) (.tmp 85), none⟩]) (.keep [1, 5, 86] (.cond (.tmp 86) .skip (.exit 4)))) (.keep [1, 5] (.seq (.block 5 (.seq (.regf 14 [0, 1, 0, 7, 15, 31, 0, 64, 255, 511] [⟨some 89, .fad 4 (.tmp 1), none⟩, ⟨some 90, .load false 1 (.tmp 89), none⟩, ⟨some 91, .mov (.tmp 5), none⟩, ⟨some 92, .iaS 6 (.tmp 90) (.tmp 91), none⟩, ⟨some 93, .fad 1 (.tmp 92), none⟩, ⟨some 94, .load true 4 (.tmp 93), none⟩, ⟨some 95, .fad 2 (.tmp 1), none⟩, ⟨some 96, .load false 1 (.tmp 95), none⟩, ⟨some 97, .call 42 [.tmp 94, .tmp 96, .con (.int .i64 1)], none⟩, ⟨some 98, .un .not (.tmp 97), none⟩]) (.keep [1, 5, 98] (.cond (.tmp 98) (.keep [] (.seq (.rego 15 [⟨some 2, .mov (.con (.bool false)), none⟩]) .ret)) .skip)))) (.keep [1, 5] (.rego 13 [⟨some 87, .mov (.tmp 5), none⟩, ⟨some 88, .bin .add (.tmp 87) (.con (.int .i64 1)), none⟩, ⟨some 5, .mov (.tmp 88), none⟩]))))))))) (.keep [1] (.seq (.seq (.rego 16 [⟨some 6, .mov (.con (.int .i64 0)), none⟩]) (.keep [1, 6] (.block 6 (.loop (.seq (.seq (.rego 17 [⟨some 99, .mov (.tmp 6), none⟩, ⟨some 100, .fad 5 (.tmp 1), none⟩, ⟨some 101, .load false 1 (.tmp 100), none⟩, ⟨some 102, .len false (.tmp 101), none⟩, ⟨some 103, .bin .lss (.tmp 99) (.tmp 102), none⟩]) (.keep [1, 6, 103] (.cond (.tmp 103) .skip (.exit 6)))) (.keep [1, 6] (.seq (.block 7 (.seq (.rego 19 [⟨some 106, .fad 5 (.tmp 1), none⟩, ⟨some 107, .load false 1 (.tmp 106), none⟩, ⟨some 108, .mov (.tmp 6), none⟩, ⟨some 109, .iaS 22 (.tmp 107) (.tmp 108), none⟩, ⟨some 110, .load true 22 (.tmp 109), none⟩, ⟨some 7, .new [.int .i64 0, .int .i64 0, .bool false, .int .i64 0, .e0, .int .i64 0, .int .i64 0, .int .i64 0, .int .i64 0, .e0, .int .i64 0, .int .i64 0, .int .i64 0, .e0, .int .i64 0, .int .i64 0, .e0, .int .i64 0, .str { data := #[] }, .e0, .e0, .e0], none⟩, ⟨none, .store 22 (.tmp 7) (.tmp 110), none⟩]) (.keep [1, 6, 7] (.seq (.rego 20 [⟨some 8, .mov (.con (.int .i64 1)), none⟩]) (.keep [1, 6, 7, 8] (.seq (.rego 21 [⟨some 9, .mov (.con (.bool true)), none⟩]) (.keep [1, 6, 7, 8, 9] (.join (.seq (.rego 22 [⟨some 111, .fad 0 (.tmp 7), none⟩, ⟨some 112, .load false 1 (.tmp 111), none⟩]) (.keep [1, 6, 7, 8, 9, 112] (.block 8 (.seq (.rego 24 [⟨some 114, .bin .eql (.tmp 112) (.con (.int .i64 1)), none⟩, ⟨some 113, .mov (.tmp 114), none⟩]) (.keep [1, 6, 7, 8, 9, 112, 113] (.cond (.tmp 113) (.keep [1, 6, 7, 8] (.rego 25 [⟨some 115, .fad 5 (.tmp 7), none⟩, ⟨some 116, .load true 16 (.tmp 115), none⟩, ⟨some 117, .load true 6 (.tmp 1), none⟩, ⟨some 118, .call 43 [.tmp 116, .tmp 117], none⟩, ⟨some 119, .mov (.tmp 118), none⟩, ⟨some 120, .fad 2 (.tmp 7), some ⟨119, true⟩⟩, ⟨some 121, .load false 1 (.tmp 120), some ⟨119, true⟩⟩, ⟨some 122, .un .not (.tmp 121), some ⟨119, true⟩⟩, ⟨some 123, .mov (.tmp 122), some ⟨119, true⟩⟩, ⟨some 124, .fad 3 (.tmp 7), some ⟨123, false⟩⟩, ⟨some 125, .load true 2 (.tmp 124), some ⟨123, false⟩⟩, ⟨some 126, .load true 6 (.tmp 1), some ⟨123, false⟩⟩, ⟨some 127, .call 44 [.tmp 125, .tmp 126], some ⟨123, false⟩⟩, ⟨some 128, .pick (.tmp 123) (.con (.bool true)) (.tmp 127), some ⟨119, true⟩⟩, ⟨some 129, .pick (.tmp 119) (.tmp 128) (.con (.bool false)), none⟩, ⟨some 9, .mov (.tmp 129), none⟩])) (.keep [1, 6, 7, 8, 9, 112] (.seq (.seq (.rego 26 [⟨some 131, .bin .eql (.tmp 112) (.con (.int .i64 2)), none⟩, ⟨some 130, .mov (.tmp 131), none⟩]) (.keep [1, 6, 7, 8, 9, 112, 130] (.cond (.tmp 130) .skip (.keep [1, 6, 7, 8, 9, 112] (.rego 27 [⟨some 132, .bin .eql (.tmp 112) (.con (.int .i64 3)), none⟩, ⟨some 130, .mov (.tmp 132), none⟩]))))) (.keep [1, 6, 7, 8, 9, 112, 130] (.cond (.tmp 130) (.keep [1, 6, 7, 8] (.rego 28 [⟨some 133, .fad 3 (.tmp 7), none⟩, ⟨some 134, .load true 2 (.tmp 133), none⟩, ⟨some 135, .load true 6 (.tmp 1), none⟩, ⟨some 136, .call 44 [.tmp 134, .tmp 135], none⟩, ⟨some 9, .mov (.tmp 136), none⟩])) (.keep [1, 6, 7, 8, 9, 112] (.seq (.rego 29 [⟨some 138, .bin .eql (.tmp 112) (.con (.int .i64 4)), none⟩, ⟨some 137, .mov (.tmp 138), none⟩]) (.keep [1, 6, 7, 8, 9, 112, 137] (.cond (.tmp 137) (.keep [1, 6, 7] (.seq (.rego 30 [⟨some 8, .mov (.con (.int .i64 2)), none⟩]) (.keep [1, 6, 7, 8] (.seq (.rego 31 [⟨some 139, .fad 5 (.tmp 7), none⟩, ⟨some 140, .fad 1 (.tmp 139), none⟩, ⟨some 141, .load true 4 (.tmp 140), none⟩, ⟨some 10, .new [.int .i64 0, .int .i64 0, .int .i64 0, .e0], none⟩, ⟨none, .store 4 (.tmp 10) (.tmp 141), none⟩]) (.keep [1, 6, 7, 8, 10] (.rego 32 [⟨some 142, .fad 0 (.tmp 10), none⟩, ⟨some 143, .load false 1 (.tmp 142), none⟩, ⟨some 144, .bin .geq (.tmp 143) (.con (.int .i64 1)), none⟩, ⟨some 145, .mov (.tmp 144), none⟩, ⟨some 146, .fad 0 (.tmp 10), some ⟨145, true⟩⟩, ⟨some 147, .load false 1 (.tmp 146), some ⟨145, true⟩⟩, ⟨some 148, .bin .leq (.tmp 147) (.con (.int .i64 4)), some ⟨145, true⟩⟩, ⟨some 149, .pick (.tmp 145) (.tmp 148) (.con (.bool false)), none⟩, ⟨some 150, .mov (.tmp 149), none⟩, ⟨some 151, .load true 4 (.tmp 10), some ⟨150, true⟩⟩, ⟨some 152, .call 45 [.tmp 151], some ⟨150, true⟩⟩, ⟨some 153, .un .not (.tmp 152), some ⟨150, true⟩⟩, ⟨some 154, .mov (.tmp 153), some ⟨150, true⟩⟩, ⟨some 155, .fad 2 (.tmp 10), some ⟨154, false⟩⟩, ⟨some 156, .load true 2 (.tmp 155), some ⟨154, false⟩⟩, ⟨some 157, .load true 6 (.tmp 1), some ⟨154, false⟩⟩, ⟨some 158, .call 44 [.tmp 156, .tmp 157], some ⟨154, false⟩⟩, ⟨some 159, .pick (.tmp 154) (.con (.bool true)) (.tmp 158), some ⟨150, true⟩⟩, ⟨some 160, .pick (.tmp 150) (.tmp 159) (.con (.bool false)), none⟩, ⟨some 9, .mov (.tmp 160), none⟩])))))) (.keep [1, 6, 7, 8, 9, 112] (.seq (.rego 33 [⟨some 162, .bin .eql (.tmp 112) (.con (.int .i64 5)), none⟩, ⟨some 161, .mov (.tmp 162), none⟩]) (.keep [1, 6, 7, 8, 9, 112, 161] (.cond (.tmp 161) .skip (.keep [1, 6, 7, 9, 112] (.seq (.rego 34 [⟨some 164, .bin .eql (.tmp 112) (.con (.int .i64 6)), none⟩, ⟨some 163, .mov (.tmp 164), none⟩]) (.keep [1, 6, 7, 9, 163] (.cond (.tmp 163) (.keep [1, 6, 7, 9] (.rego 35 [⟨some 8, .mov (.con (.int .i64 0)), none⟩])) (.keep [] (.seq (.rego 23 [⟨some 2, .mov (.con (.bool false)), none⟩]) .ret)))))))))))))))))))))))) (.keep [1, 6, 7, 8, 9] (.seq (.seq (.rego 36 [⟨some 165, .mov (.tmp 9), none⟩, ⟨some 166, .un .not (.tmp 165), none⟩, ⟨some 167, .mov (.tmp 166), none⟩, ⟨some 168, .fad 21 (.tmp 7), some ⟨167, false⟩⟩, ⟨some 169, .load false 1 (.tmp 168), some ⟨167, false⟩⟩, ⟨some 170, .len false (.tmp 169), some ⟨167, false⟩⟩, ⟨some 171, .mov (.tmp 8), some ⟨167, false⟩⟩, ⟨some 172, .bin .neq (.tmp 170) (.tmp 171), some ⟨167, false⟩⟩, ⟨some 173, .pick (.tmp 167) (.con (.bool true)) (.tmp 172), none⟩]) (.keep [1, 6, 7, 8, 173] (.cond (.tmp 173) (.keep [] (.seq (.rego 37 [⟨some 2, .mov (.con (.bool false)), none⟩]) .ret)) .skip))) (.keep [1, 6, 7, 8] (.seq (.rego 38 [⟨some 11, .mov (.con (.int .i64 0)), none⟩]) (.keep [1, 6, 7, 8, 11] (.block 9 (.loop (.seq (.seq (.rego 39 [⟨some 174, .mov (.tmp 11), none⟩, ⟨some 175, .mov (.tmp 8), none⟩, ⟨some 176, .bin .lss (.tmp 174) (.tmp 175), none⟩]) (.keep [1, 6, 7, 8, 11, 176] (.cond (.tmp 176) .skip (.exit 9)))) (.keep [1, 6, 7, 8, 11] (.seq (.block 10 (.seq (.reg 41 [⟨some 179, .fad 21 (.tmp 7), none⟩, ⟨some 180, .load false 1 (.tmp 179), none⟩, ⟨some 181, .mov (.tmp 11), none⟩, ⟨some 182, .iaS 1 (.tmp 180) (.tmp 181), none⟩, ⟨some 183, .load false 1 (.tmp 182), none⟩, ⟨some 184, .bin .lss (.tmp 183) (.con (.int .i64 0)), none⟩, ⟨some 185, .mov (.tmp 184), none⟩, ⟨some 186, .fad 21 (.tmp 7), some ⟨185, false⟩⟩, ⟨some 187, .load false 1 (.tmp 186), some ⟨185, false⟩⟩, ⟨some 188, .mov (.tmp 11), some ⟨185, false⟩⟩, ⟨some 189, .iaS 1 (.tmp 187) (.tmp 188), some ⟨185, false⟩⟩, ⟨some 190, .load false 1 (.tmp 189), some ⟨185, false⟩⟩, ⟨some 191, .fad 5 (.tmp 1), some ⟨185, false⟩⟩, ⟨some 192, .load false 1 (.tmp 191), some ⟨185, false⟩⟩, ⟨some 193, .len false (.tmp 192), some ⟨185, false⟩⟩, ⟨some 194, .bin .geq (.tmp 190) (.tmp 193), some ⟨185, false⟩⟩, ⟨some 195, .pick (.tmp 185) (.con (.bool true)) (.tmp 194), none⟩]) (.keep [1, 6, 7, 8, 11, 195] (.cond (.tmp 195) (.keep [] (.seq (.rego 42 [⟨some 2, .mov (.con (.bool false)), none⟩]) .ret)) .skip)))) (.keep [1, 6, 7, 8, 11] (.rego 40 [⟨some 177, .mov (.tmp 11), none⟩, ⟨some 178, .bin .add (.tmp 177) (.con (.int .i64 1)), none⟩, ⟨some 11, .mov (.tmp 178), none⟩])))))))))))))))))))) (.keep [1, 6] (.rego 18 [⟨some 104, .mov (.tmp 6), none⟩, ⟨some 105, .bin .add (.tmp 104) (.con (.int .i64 1)), none⟩, ⟨some 6, .mov (.tmp 105), none⟩]))))))))) (.keep [] (.seq (.rego 43 [⟨some 2, .mov (.con (.bool true)), none⟩]) .ret))))))))))
theorem fd22 : fnData Tryz.prog 22 = some (196, lc22.erase, [LRV.tmp 2]) := by kernel_rfl

def lc24 : LC := .seq (.rego 0 [⟨some 1, .box (.tmp 0), none⟩, ⟨some 2, .mov (.con .e0), none⟩]) (.keep [1] (.seq (.seq (.rego 1 [⟨some 3, .fad 0 (.tmp 1), none⟩, ⟨some 4, .load false 1 (.tmp 3), none⟩]) (.keep [1, 4] (.block 0 (.seq (.seq (.rego 2 [⟨some 6, .bin .eql (.tmp 4) (.con (.int .i64 1)), none⟩, ⟨some 5, .mov (.tmp 6), none⟩]) (.keep [1, 4, 5] (.cond (.tmp 5) .skip (.keep [1, 4] (.rego 3 [⟨some 7, .bin .eql (.tmp 4) (.con (.int .i64 4)), none⟩, ⟨some 5, .mov (.tmp 7), none⟩]))))) (.keep [1, 4, 5] (.cond (.tmp 5) (.keep [1] (.seq (.rego 4 [⟨some 8, .fad 1 (.tmp 1), none⟩, ⟨some 9, .load true 4 (.tmp 8), none⟩, ⟨some 10, .bsl 1 [.int .i64 0, .int .i64 0, .int .i64 0, .e0] [⟨0, 4, .tmp 9⟩], none⟩, ⟨some 2, .mov (.tmp 10), none⟩]) .ret)) (.keep [1, 4] (.seq (.rego 5 [⟨some 12, .bin .eql (.tmp 4) (.con (.int .i64 5)), none⟩, ⟨some 11, .mov (.tmp 12), none⟩]) (.keep [1, 4, 11] (.cond (.tmp 11) (.keep [1] (.seq (.rego 6 [⟨some 13, .fad 1 (.tmp 1), none⟩, ⟨some 14, .load true 4 (.tmp 13), none⟩, ⟨some 15, .fad 5 (.tmp 1), none⟩, ⟨some 16, .load true 4 (.tmp 15), none⟩, ⟨some 17, .bsl 2 [.int .i64 0, .int .i64 0, .int .i64 0, .e0, .int .i64 0, .int .i64 0, .int .i64 0, .e0] [⟨0, 4, .tmp 14⟩, ⟨4, 4, .tmp 16⟩], none⟩, ⟨some 2, .mov (.tmp 17), none⟩]) .ret)) (.keep [1, 4] (.seq (.seq (.rego 7 [⟨some 19, .bin .eql (.tmp 4) (.con (.int .i64 6)), none⟩, ⟨some 18, .mov (.tmp 19), none⟩]) (.keep [1, 4, 18] (.cond (.tmp 18) .skip (.keep [1, 4] (.rego 8 [⟨some 20, .bin .eql (.tmp 4) (.con (.int .i64 7)), none⟩, ⟨some 18, .mov (.tmp 20), none⟩]))))) (.keep [1, 18] (.cond (.tmp 18) (.keep [1] (.seq (.rego 9 [⟨some 21, .fad 15 (.tmp 1), none⟩, ⟨some 22, .load false 1 (.tmp 21), none⟩, ⟨some 2, .mov (.tmp 22), none⟩]) .ret)) .skip)))))))))))))) (.keep [] (.seq (.rego 10 [⟨some 2, .mov (.con .e0), none⟩]) .ret))))
theorem fd24 : fnData Tryz.prog 24 = some (23, lc24.erase, [LRV.tmp 2]) := by kernel_rfl

def lc42 : LC := .seq (.rego 0 [⟨some 3, .box (.tmp 0), none⟩, ⟨some 6, .mov (.con (.bool false)), none⟩]) (.keep [1, 2, 3] (.seq (.seq (.rego 1 [⟨some 8, .mov (.tmp 2), none⟩, ⟨some 9, .bin .gtr (.tmp 8) (.con (.int .i64 64)), none⟩]) (.keep [1, 2, 3, 9] (.cond (.tmp 9) (.keep [] (.seq (.rego 2 [⟨some 6, .mov (.con (.bool false)), none⟩]) .ret)) .skip))) (.keep [1, 2, 3] (.seq (.seq (.rego 3 [⟨some 7, .mov (.con (.int .i64 0)), none⟩]) (.keep [1, 2, 3, 7] (.block 0 (.loop (.seq (.seq (.rego 4 [⟨some 10, .mov (.tmp 7), none⟩, ⟨some 11, .fad 2 (.tmp 3), none⟩, ⟨some 12, .load false 1 (.tmp 11), none⟩, ⟨some 13, .len false (.tmp 12), none⟩, ⟨some 14, .bin .lss (.tmp 10) (.tmp 13), none⟩]) (.keep [1, 2, 3, 7, 14] (.cond (.tmp 14) .skip (.exit 0)))) (.keep [1, 2, 3, 7] (.seq (.block 1 (.seq (.rego 6 [⟨some 17, .fad 2 (.tmp 3), none⟩, ⟨some 18, .load false 1 (.tmp 17), none⟩, ⟨some 19, .mov (.tmp 7), none⟩, ⟨some 20, .iaS 1 (.tmp 18) (.tmp 19), none⟩, ⟨some 21, .load false 1 (.tmp 20), none⟩, ⟨some 22, .bin .lss (.tmp 21) (.con (.int .i64 0)), none⟩, ⟨some 23, .mov (.tmp 22), none⟩, ⟨some 24, .fad 2 (.tmp 3), some ⟨23, false⟩⟩, ⟨some 25, .load false 1 (.tmp 24), some ⟨23, false⟩⟩, ⟨some 26, .mov (.tmp 7), some ⟨23, false⟩⟩, ⟨some 27, .iaS 1 (.tmp 25) (.tmp 26), some ⟨23, false⟩⟩, ⟨some 28, .load false 1 (.tmp 27), some ⟨23, false⟩⟩, ⟨some 29, .mov (.tmp 1), some ⟨23, false⟩⟩, ⟨some 30, .bin .geq (.tmp 28) (.tmp 29), some ⟨23, false⟩⟩, ⟨some 31, .pick (.tmp 23) (.con (.bool true)) (.tmp 30), none⟩]) (.keep [1, 2, 3, 7, 31] (.cond (.tmp 31) (.keep [] (.seq (.rego 7 [⟨some 6, .mov (.con (.bool false)), none⟩]) .ret)) .skip)))) (.keep [1, 2, 3, 7] (.rego 5 [⟨some 15, .mov (.tmp 7), none⟩, ⟨some 16, .bin .add (.tmp 15) (.con (.int .i64 1)), none⟩, ⟨some 7, .mov (.tmp 16), none⟩]))))))))) (.keep [1, 2, 3] (.seq (.seq (.rego 8 [⟨some 32, .fad 0 (.tmp 3), none⟩, ⟨some 33, .load false 1 (.tmp 32), none⟩, ⟨some 34, .bin .lss (.tmp 33) (.con (.int .i64 0)), none⟩, ⟨some 35, .mov (.tmp 34), none⟩, ⟨some 36, .fad 0 (.tmp 3), some ⟨35, false⟩⟩, ⟨some 37, .load false 1 (.tmp 36), some ⟨35, false⟩⟩, ⟨some 38, .bin .gtr (.tmp 37) (.con (.int .i64 5)), some ⟨35, false⟩⟩, ⟨some 39, .pick (.tmp 35) (.con (.bool true)) (.tmp 38), none⟩]) (.keep [1, 2, 3, 39] (.cond (.tmp 39) (.keep [] (.seq (.rego 9 [⟨some 6, .mov (.con (.bool false)), none⟩]) .ret)) .skip))) (.keep [1, 2, 3] (.seq (.seq (.rego 10 [⟨some 40, .fad 0 (.tmp 3), none⟩, ⟨some 41, .load false 1 (.tmp 40), none⟩, ⟨some 42, .bin .eql (.tmp 41) (.con (.int .i64 4)), none⟩, ⟨some 43, .mov (.tmp 42), none⟩, ⟨some 44, .fad 0 (.tmp 3), some ⟨43, false⟩⟩, ⟨some 45, .load false 1 (.tmp 44), some ⟨43, false⟩⟩, ⟨some 46, .bin .eql (.tmp 45) (.con (.int .i64 5)), some ⟨43, false⟩⟩, ⟨some 47, .pick (.tmp 43) (.con (.bool true)) (.tmp 46), none⟩]) (.keep [1, 2, 3, 47] (.cond (.tmp 47) (.keep [1, 2, 3] (.seq (.rego 11 [⟨some 48, .fad 3 (.tmp 3), none⟩, ⟨some 49, .load false 1 (.tmp 48), none⟩, ⟨some 50, .len false (.tmp 49), none⟩, ⟨some 51, .bin .eql (.tmp 50) (.con (.int .i64 1)), none⟩, ⟨some 52, .mov (.tmp 51), none⟩, ⟨some 53, .fad 2 (.tmp 3), some ⟨52, true⟩⟩, ⟨some 54, .load false 1 (.tmp 53), some ⟨52, true⟩⟩, ⟨some 55, .len false (.tmp 54), some ⟨52, true⟩⟩, ⟨some 56, .bin .eql (.tmp 55) (.con (.int .i64 1)), some ⟨52, true⟩⟩, ⟨some 57, .pick (.tmp 52) (.tmp 56) (.con (.bool false)), none⟩, ⟨some 58, .mov (.tmp 57), none⟩, ⟨some 59, .fad 3 (.tmp 3), some ⟨58, true⟩⟩, ⟨some 60, .load false 1 (.tmp 59), some ⟨58, true⟩⟩, ⟨some 61, .iaS 4 (.tmp 60) (.con (.int .i64 0)), some ⟨58, true⟩⟩, ⟨some 62, .load true 4 (.tmp 61), some ⟨58, true⟩⟩, ⟨some 63, .mov (.tmp 1), some ⟨58, true⟩⟩, ⟨some 64, .mov (.tmp 2), some ⟨58, true⟩⟩, ⟨some 65, .bin .add (.tmp 64) (.con (.int .i64 1)), some ⟨58, true⟩⟩, ⟨some 66, .call 42 [.tmp 62, .tmp 63, .tmp 65], some ⟨58, true⟩⟩, ⟨some 67, .pick (.tmp 58) (.tmp 66) (.con (.bool false)), none⟩, ⟨some 6, .mov (.tmp 67), none⟩]) .ret)) .skip))) (.keep [3] (.seq (.rego 12 [⟨some 68, .fad 3 (.tmp 3), none⟩, ⟨some 69, .load false 1 (.tmp 68), none⟩, ⟨some 70, .len false (.tmp 69), none⟩, ⟨some 71, .bin .eql (.tmp 70) (.con (.int .i64 0)), none⟩, ⟨some 6, .mov (.tmp 71), none⟩]) .ret))))))))))
theorem fd42 : fnData Tryz.prog 42 = some (72, lc42.erase, [LRV.tmp 6]) := by kernel_rfl

def lc43 : LC := .seq (.rego 0 [⟨some 2, .box (.tmp 0), none⟩, ⟨some 3, .box (.tmp 1), none⟩, ⟨some 4, .mov (.con (.bool false)), none⟩]) (.keep [2, 3] (.seq (.rego 1 [⟨some 8, .load true 16 (.tmp 2), none⟩, ⟨some 9, .call 24 [.tmp 8], none⟩, ⟨some 5, .mov (.tmp 9), none⟩]) (.keep [2, 3, 5] (.seq (.seq (.rego 2 [⟨some 6, .mov (.con (.int .i64 0)), none⟩]) (.keep [2, 3, 5, 6] (.block 0 (.loop (.seq (.seq (.rego 3 [⟨some 10, .mov (.tmp 6), none⟩, ⟨some 11, .mov (.tmp 5), none⟩, ⟨some 12, .len false (.tmp 11), none⟩, ⟨some 13, .bin .lss (.tmp 10) (.tmp 12), none⟩]) (.keep [2, 3, 5, 6, 13] (.cond (.tmp 13) .skip (.exit 0)))) (.keep [2, 3, 5, 6] (.seq (.block 1 (.seq (.regf 5 [0, 0, 3, 7, 15, 31, 63, 127, 127, 511, 1023, 2047, 4095, 8191, 16383, 32767, 32767, 131071, 262143, 524287, 1048575, 2097151, 2097151, 8388607, 16777215, 33554431, 2097151, 134217727, 268435455, 536870911, 1073741823] [⟨some 16, .mov (.tmp 5), none⟩, ⟨some 17, .mov (.tmp 6), none⟩, ⟨some 18, .iaS 4 (.tmp 16) (.tmp 17), none⟩, ⟨some 19, .fad 0 (.tmp 18), none⟩, ⟨some 20, .load false 1 (.tmp 19), none⟩, ⟨some 21, .bin .lss (.tmp 20) (.con (.int .i64 1)), none⟩, ⟨some 22, .mov (.tmp 21), none⟩, ⟨some 23, .mov (.tmp 5), some ⟨22, false⟩⟩, ⟨some 24, .mov (.tmp 6), some ⟨22, false⟩⟩, ⟨some 25, .iaS 4 (.tmp 23) (.tmp 24), some ⟨22, false⟩⟩, ⟨some 26, .fad 0 (.tmp 25), some ⟨22, false⟩⟩, ⟨some 27, .load false 1 (.tmp 26), some ⟨22, false⟩⟩, ⟨some 28, .bin .gtr (.tmp 27) (.con (.int .i64 4)), some ⟨22, false⟩⟩, ⟨some 29, .pick (.tmp 22) (.con (.bool true)) (.tmp 28), none⟩, ⟨some 30, .mov (.tmp 29), none⟩, ⟨some 31, .mov (.tmp 5), some ⟨30, false⟩⟩, ⟨some 32, .mov (.tmp 6), some ⟨30, false⟩⟩, ⟨some 33, .iaS 4 (.tmp 31) (.tmp 32), some ⟨30, false⟩⟩, ⟨some 34, .load true 4 (.tmp 33), some ⟨30, false⟩⟩, ⟨some 35, .call 45 [.tmp 34], some ⟨30, false⟩⟩, ⟨some 36, .mov (.tmp 35), some ⟨30, false⟩⟩, ⟨some 37, .mov (.tmp 5), some ⟨36, true⟩⟩, ⟨some 38, .mov (.tmp 6), some ⟨36, true⟩⟩, ⟨some 39, .iaS 4 (.tmp 37) (.tmp 38), some ⟨36, true⟩⟩, ⟨some 40, .fad 2 (.tmp 39), some ⟨36, true⟩⟩, ⟨some 41, .load true 2 (.tmp 40), some ⟨36, true⟩⟩, ⟨some 42, .load true 6 (.tmp 3), some ⟨36, true⟩⟩, ⟨some 43, .call 44 [.tmp 41, .tmp 42], some ⟨36, true⟩⟩, ⟨some 44, .un .not (.tmp 43), some ⟨36, true⟩⟩, ⟨some 45, .pick (.tmp 36) (.tmp 44) (.con (.bool false)), some ⟨30, false⟩⟩, ⟨some 46, .pick (.tmp 30) (.con (.bool true)) (.tmp 45), none⟩]) (.keep [2, 3, 5, 6, 46] (.cond (.tmp 46) (.keep [] (.seq (.rego 6 [⟨some 4, .mov (.con (.bool false)), none⟩]) .ret)) .skip)))) (.keep [2, 3, 5, 6] (.rego 4 [⟨some 14, .mov (.tmp 6), none⟩, ⟨some 15, .bin .add (.tmp 14) (.con (.int .i64 1)), none⟩, ⟨some 6, .mov (.tmp 15), none⟩]))))))))) (.keep [2, 3] (.seq (.seq (.rego 7 [⟨some 47, .fad 0 (.tmp 2), none⟩, ⟨some 48, .load false 1 (.tmp 47), none⟩]) (.keep [2, 3, 48] (.block 2 (.seq (.seq (.rego 8 [⟨some 50, .bin .eql (.tmp 48) (.con (.int .i64 2)), none⟩, ⟨some 49, .mov (.tmp 50), none⟩]) (.keep [2, 3, 48, 49] (.cond (.tmp 49) .skip (.keep [2, 3, 48] (.rego 9 [⟨some 51, .bin .eql (.tmp 48) (.con (.int .i64 3)), none⟩, ⟨some 49, .mov (.tmp 51), none⟩]))))) (.keep [2, 3, 48, 49] (.cond (.tmp 49) (.keep [2, 3] (.seq (.rego 10 [⟨some 52, .fad 10 (.tmp 2), none⟩, ⟨some 53, .load true 2 (.tmp 52), none⟩, ⟨some 54, .load true 6 (.tmp 3), none⟩, ⟨some 55, .call 44 [.tmp 53, .tmp 54], none⟩, ⟨some 56, .mov (.tmp 55), none⟩, ⟨some 57, .fad 12 (.tmp 2), some ⟨56, true⟩⟩, ⟨some 58, .load false 1 (.tmp 57), some ⟨56, true⟩⟩, ⟨some 59, .bin .geq (.tmp 58) (.con (.int .i64 0)), some ⟨56, true⟩⟩, ⟨some 60, .pick (.tmp 56) (.tmp 59) (.con (.bool false)), none⟩, ⟨some 61, .mov (.tmp 60), none⟩, ⟨some 62, .fad 12 (.tmp 2), some ⟨61, true⟩⟩, ⟨some 63, .load false 1 (.tmp 62), some ⟨61, true⟩⟩, ⟨some 64, .fad 2 (.tmp 3), some ⟨61, true⟩⟩, ⟨some 65, .load false 1 (.tmp 64), some ⟨61, true⟩⟩, ⟨some 66, .bin .lss (.tmp 63) (.tmp 65), some ⟨61, true⟩⟩, ⟨some 67, .pick (.tmp 61) (.tmp 66) (.con (.bool false)), none⟩, ⟨some 4, .mov (.tmp 67), none⟩]) .ret)) (.keep [2, 3, 48] (.seq (.seq (.rego 11 [⟨some 69, .bin .eql (.tmp 48) (.con (.int .i64 6)), none⟩, ⟨some 68, .mov (.tmp 69), none⟩]) (.keep [2, 3, 48, 68] (.cond (.tmp 68) .skip (.keep [2, 3, 48] (.rego 12 [⟨some 70, .bin .eql (.tmp 48) (.con (.int .i64 7)), none⟩, ⟨some 68, .mov (.tmp 70), none⟩]))))) (.keep [2, 3, 68] (.cond (.tmp 68) (.keep [2, 3] (.seq (.rego 13 [⟨some 7, .mov (.con (.int .i64 0)), none⟩]) (.keep [2, 3, 7] (.block 3 (.loop (.seq (.seq (.rego 14 [⟨some 71, .mov (.tmp 7), none⟩, ⟨some 72, .fad 14 (.tmp 2), none⟩, ⟨some 73, .load false 1 (.tmp 72), none⟩, ⟨some 74, .len false (.tmp 73), none⟩, ⟨some 75, .bin .lss (.tmp 71) (.tmp 74), none⟩]) (.keep [2, 3, 7, 75] (.cond (.tmp 75) .skip (.exit 3)))) (.keep [2, 3, 7] (.seq (.block 4 (.seq (.reg 16 [⟨some 78, .fad 14 (.tmp 2), none⟩, ⟨some 79, .load false 1 (.tmp 78), none⟩, ⟨some 80, .mov (.tmp 7), none⟩, ⟨some 81, .iaS 1 (.tmp 79) (.tmp 80), none⟩, ⟨some 82, .load false 1 (.tmp 81), none⟩, ⟨some 83, .bin .lss (.tmp 82) (.con (.int .i64 0)), none⟩, ⟨some 84, .mov (.tmp 83), none⟩, ⟨some 85, .fad 14 (.tmp 2), some ⟨84, false⟩⟩, ⟨some 86, .load false 1 (.tmp 85), some ⟨84, false⟩⟩, ⟨some 87, .mov (.tmp 7), some ⟨84, false⟩⟩, ⟨some 88, .iaS 1 (.tmp 86) (.tmp 87), some ⟨84, false⟩⟩, ⟨some 89, .load false 1 (.tmp 88), some ⟨84, false⟩⟩, ⟨some 90, .fad 2 (.tmp 3), some ⟨84, false⟩⟩, ⟨some 91, .load false 1 (.tmp 90), some ⟨84, false⟩⟩, ⟨some 92, .bin .geq (.tmp 89) (.tmp 91), some ⟨84, false⟩⟩, ⟨some 93, .pick (.tmp 84) (.con (.bool true)) (.tmp 92), none⟩]) (.keep [2, 3, 7, 93] (.cond (.tmp 93) (.keep [] (.seq (.rego 17 [⟨some 4, .mov (.con (.bool false)), none⟩]) .ret)) .skip)))) (.keep [2, 3, 7] (.rego 15 [⟨some 76, .mov (.tmp 7), none⟩, ⟨some 77, .bin .add (.tmp 76) (.con (.int .i64 1)), none⟩, ⟨some 7, .mov (.tmp 77), none⟩])))))))))) .skip)))))))))) (.keep [2] (.seq (.rego 18 [⟨some 94, .fad 0 (.tmp 2), none⟩, ⟨some 95, .load false 1 (.tmp 94), none⟩, ⟨some 96, .bin .geq (.tmp 95) (.con (.int .i64 1)), none⟩, ⟨some 97, .mov (.tmp 96), none⟩, ⟨some 98, .fad 0 (.tmp 2), some ⟨97, true⟩⟩, ⟨some 99, .load false 1 (.tmp 98), some ⟨97, true⟩⟩, ⟨some 100, .bin .leq (.tmp 99) (.con (.int .i64 7)), some ⟨97, true⟩⟩, ⟨some 101, .pick (.tmp 97) (.tmp 100) (.con (.bool false)), none⟩, ⟨some 4, .mov (.tmp 101), none⟩]) .ret))))))))
theorem fd43 : fnData Tryz.prog 43 = some (102, lc43.erase, [LRV.tmp 4]) := by kernel_rfl

def lc44 : LC := .seq (.rego 0 [⟨some 2, .box (.tmp 0), none⟩, ⟨some 3, .box (.tmp 1), none⟩, ⟨some 4, .mov (.con (.bool false)), none⟩]) (.keep [2, 3] (.seq (.rego 1 [⟨some 5, .fad 0 (.tmp 2), none⟩, ⟨some 6, .load false 1 (.tmp 5), none⟩, ⟨some 7, .bin .geq (.tmp 6) (.con (.int .i64 0)), none⟩, ⟨some 8, .mov (.tmp 7), none⟩, ⟨some 9, .fad 0 (.tmp 2), some ⟨8, true⟩⟩, ⟨some 10, .load false 1 (.tmp 9), some ⟨8, true⟩⟩, ⟨some 11, .fad 4 (.tmp 3), some ⟨8, true⟩⟩, ⟨some 12, .load false 1 (.tmp 11), some ⟨8, true⟩⟩, ⟨some 13, .len false (.tmp 12), some ⟨8, true⟩⟩, ⟨some 14, .bin .lss (.tmp 10) (.tmp 13), some ⟨8, true⟩⟩, ⟨some 15, .pick (.tmp 8) (.tmp 14) (.con (.bool false)), none⟩, ⟨some 4, .mov (.tmp 15), none⟩]) .ret))
theorem fd44 : fnData Tryz.prog 44 = some (16, lc44.erase, [LRV.tmp 4]) := by kernel_rfl

def lc45 : LC := .seq (.rego 0 [⟨some 1, .box (.tmp 0), none⟩, ⟨some 2, .mov (.con (.bool false)), none⟩]) (.keep [1] (.seq (.rego 1 [⟨some 3, .fad 0 (.tmp 1), none⟩, ⟨some 4, .load false 1 (.tmp 3), none⟩, ⟨some 5, .bin .eql (.tmp 4) (.con (.int .i64 3)), none⟩, ⟨some 6, .mov (.tmp 5), none⟩, ⟨some 7, .fad 0 (.tmp 1), some ⟨6, false⟩⟩, ⟨some 8, .load false 1 (.tmp 7), some ⟨6, false⟩⟩, ⟨some 9, .bin .eql (.tmp 8) (.con (.int .i64 4)), some ⟨6, false⟩⟩, ⟨some 10, .pick (.tmp 6) (.con (.bool true)) (.tmp 9), none⟩, ⟨some 2, .mov (.tmp 10), none⟩]) .ret))
theorem fd45 : fnData Tryz.prog 45 = some (11, lc45.erase, [LRV.tmp 2]) := by kernel_rfl

end Go.Proofs.YtlkdcgfjmhjjpaaGreat

set_option linter.unusedSimpArgs false
set_option linter.unusedVariables false
namespace Go.Proofs.YtlkdcgfjmhjjpaaGreat
open Go Go.Lg Go.RowKit

/-- Is a number from 0 to below another one? -/
def inB (i n : Int) : Bool := decide (0 ≤ i) && decide (i < n)

theorem within_ret (i n : Int) : PRet Tryz.prog 97 [.int .i64 i, .int .i64 n] (.bool (inB i n)) := by
  refine pret_intro fd97 (by simp) ?_
  simp only [lc97, VCA, simprocAttr, encL]
  repeat' (first | refine condDn_of (fun h => ?_) (fun h => ?_) <;> simp only [VCA, simprocAttr, encL, MCA, h] | refine condD_of (fun h => ?_) (fun h => ?_) <;> simp only [VCA, simprocAttr, encL, MCA, h] | refine condVn_of (fun h => ?_) (fun h => ?_) <;> simp only [VCA, simprocAttr, encL, MCA, h] | refine condV_of (fun h => ?_) (fun h => ?_) <;> simp only [VCA, simprocAttr, encL, MCA, h] | refine gdDn_of (fun h => ?_) (fun h => ?_) <;> simp only [VCA, simprocAttr, encL, MCA, h] | refine gdD_of (fun h => ?_) (fun h => ?_) <;> simp only [VCA, simprocAttr, encL, MCA, h] | refine gdVMn_of (fun h => ?_) (fun h => ?_) <;> simp only [VCA, simprocAttr, encL, MCA, h] | refine gdVM_of (fun h => ?_) (fun h => ?_) <;> simp only [VCA, simprocAttr, encL, MCA, h] | refine gpDn_of (fun h => ?_) (fun h => ?_) <;> simp only [VCA, simprocAttr, encL, MCA, h] | refine gpD_of (fun h => ?_) (fun h => ?_) <;> simp only [VCA, simprocAttr, encL, MCA, h] | refine gdVn_of (fun h => ?_) (fun h => ?_) <;> simp only [VCA, simprocAttr, encL, MCA, h] | refine gdV_of (fun h => ?_) (fun h => ?_) <;> simp only [VCA, simprocAttr, encL, MCA, h])
  all_goals simp [inB, *]

theorem all1_ret (i n : Int) : PRet Tryz.prog 113 [.int .i64 i, .ip (cI n) 0] (.bool (!inB i n)) := by
  refine pret_intro fd113 (by simp) ?_
  simp only [lc113, VCA, simprocAttr, encL, ld_cI0]
  refine callX_of (within_ret i n) (.inr rfl) ?_
  simp only [VCA, simprocAttr, encL]

/-- At which place is the first one? -/
def idx {α : Type} (p : α → Bool) : List α → Int → Int
  | [], _ => -1
  | x :: r, i => if p x then i else idx p r (i + 1)
theorem idx_any {α : Type} (p : α → Bool) : ∀ (l : List α) (i : Int), 0 ≤ i → (decide (idx p l i ≥ 0)) = l.any p
  | [], i, _ => by simp [idx]
  | x :: r, i, h => by
    have ih := idx_any p r (i + 1) (by omega)
    simp only [idx, List.any_cons]
    by_cases hp : p x = true
    · simp [hp, h]
    · simp only [Bool.not_eq_true] at hp
      simpa [hp] using ih

theorem maxLen_eq : maxLen = 9223372036854775807 := rfl

theorem drop_idx {α : Type} (p : α → Bool) {l : List α} {k : Nat} (h : k < l.length) (j : Int) : idx p (l.drop k) j = if p l[k] then j else idx p (l.drop (k + 1)) (j + 1) := by
  rw [List.drop_eq_getElem_cons h]; rfl

theorem index1_ret (l : List Int) (g : FuncId) (cap : List V) (p : Int → Bool) (hl : l.length ≤ maxLen) (hc : ∀ H, cap.all (sok H 8) = true) (hs : ∀ H, cap.map (snap H 8) = cap) (hf : ∀ x ∈ l, PRet Tryz.prog g (.int .i64 x :: cap) (.bool (p x))) :
    PRet Tryz.prog 119 [encL cI l, .fn g cap] (.int .i64 (idx p l 0)) := by
  refine pret_intro fd119 (by simp) ?_
  simp only [lc119, VCA, simprocAttr, encL]
  refine loop_vcg (ι := Nat × (Nat → Nat)) (fun (k, c) => ⟨tmk [(0, encL cI l), (1, .fn g cap), (7, .int .i64 l.length), (8, .int .i64 k)], hmk [], c⟩)
    (fun (k, _) => k ≤ l.length ∧ idx p l 0 = idx p (l.drop k) k) (fun (k, _) => l.length - k) (0, _) ⟨by omega, rfl⟩ (le_mk ?_ ?_ (fun s => Nat.le_refl _)) ?_
  · simp only [VCA, simprocAttr, encL]
  · simp only [VCA, simprocAttr, encL]
  · rintro ⟨k, c⟩ ⟨hk, hb⟩
    simp only [VCA, simprocAttr, encL]
    refine condV_of (fun h => ?_) (fun h => ?_)
    · simp only [decide_eq_true_eq] at h
      have hk' : k < l.length := by omega
      simp only [VCA, simprocAttr, encL, MCA, hk', hc, hs]
      refine ⟨by omega, callX_of (hf _ (List.getElem_mem hk')) (.inr rfl) ?_⟩
      simp only [VCA, simprocAttr, encL]
      rw [drop_idx p hk'] at hb
      refine condV_of (fun h1 => ?_) (fun h1 => ?_)
      · simp only [VCA, simprocAttr, encL]
        rw [hb, if_pos h1]
      · simp only [VCA, simprocAttr, encL]
        rw [maxLen_eq] at hl
        refine ⟨by unfold InI64; omega, backTo_of (k + 1, c) ⟨by omega, ?_⟩ (by simp only []; omega) (le_mk ?_ ?_ (fun s => Nat.le_refl _))⟩
        · rw [hb, if_neg (by rw [h1]; decide)]; rfl
        · simp only [VCA, simprocAttr, encL]
        · simp only [VCA, simprocAttr, encL]
    · simp only [decide_eq_false_iff_not] at h
      have hk' : k = l.length := by omega
      simp only [VCA, simprocAttr, encL]
      rw [hb, List.drop_eq_nil_of_le (by omega)]; rfl

theorem contains1_ret (l : List Int) (g : FuncId) (cap : List V) (p : Int → Bool) (hl : l.length ≤ maxLen) (hc : ∀ H, cap.all (sok H 8) = true) (hs : ∀ H, cap.map (snap H 8) = cap) (hs7 : ∀ H, cap.map (snap H 7) = cap) (hc7 : ∀ H, cap.all (sok H 7) = true) (hf : ∀ x ∈ l, PRet Tryz.prog g (.int .i64 x :: cap) (.bool (p x))) :
    PRet Tryz.prog 112 [encL cI l, .fn g cap] (.bool (l.any p)) := by
  refine pret_intro fd112 (by simp) ?_
  simp only [lc112, VCA, simprocAttr, encL, hc7, hs7]
  refine callX_of (index1_ret l g cap p hl hc hs hf) (.inr rfl) ?_
  simp only [VCA, simprocAttr, encL, idx_any p l 0 (by decide)]

theorem indexInst_ret (l : List MInst) (g : FuncId) (cap : List V) (p : MInst → Bool) (hl : l.length ≤ maxLen) (hc : ∀ H, cap.all (sok H 8) = true) (hs : ∀ H, cap.map (snap H 8) = cap) (hf : ∀ x ∈ l, PRet Tryz.prog g (.agg x.cells :: cap) (.bool (p x))) :
    PRet Tryz.prog 114 [encL MInst.cells l, .fn g cap] (.int .i64 (idx p l 0)) := by
  refine pret_intro fd114 (by simp) ?_
  simp only [lc114, VCA, simprocAttr, encL]
  refine loop_vcg (ι := Nat × (Nat → Nat)) (fun (k, c) => ⟨tmk [(0, encL MInst.cells l), (1, .fn g cap), (7, .int .i64 l.length), (8, .int .i64 k)], hmk [], c⟩)
    (fun (k, _) => k ≤ l.length ∧ idx p l 0 = idx p (l.drop k) k) (fun (k, _) => l.length - k) (0, _) ⟨by omega, rfl⟩ (le_mk ?_ ?_ (fun s => Nat.le_refl _)) ?_
  · simp only [VCA, simprocAttr, encL]
  · simp only [VCA, simprocAttr, encL]
  · rintro ⟨k, c⟩ ⟨hk, hb⟩
    simp only [VCA, simprocAttr, encL]
    refine condV_of (fun h => ?_) (fun h => ?_)
    · simp only [decide_eq_true_eq] at h
      have hk' : k < l.length := by omega
      simp only [VCA, simprocAttr, encL, MCA, hk', hc, hs]
      refine ⟨by omega, callX_of (hf _ (List.getElem_mem hk')) (.inr rfl) ?_⟩
      simp only [VCA, simprocAttr, encL]
      rw [drop_idx p hk'] at hb
      refine condV_of (fun h1 => ?_) (fun h1 => ?_)
      · simp only [VCA, simprocAttr, encL]
        rw [hb, if_pos h1]
      · simp only [VCA, simprocAttr, encL]
        rw [maxLen_eq] at hl
        refine ⟨by unfold InI64; omega, backTo_of (k + 1, c) ⟨by omega, ?_⟩ (by simp only []; omega) (le_mk ?_ ?_ (fun s => Nat.le_refl _))⟩
        · rw [hb, if_neg (by rw [h1]; decide)]; rfl
        · simp only [VCA, simprocAttr, encL]
        · simp only [VCA, simprocAttr, encL]
    · simp only [decide_eq_false_iff_not] at h
      have hk' : k = l.length := by omega
      simp only [VCA, simprocAttr, encL]
      rw [hb, List.drop_eq_nil_of_le (by omega)]; rfl

theorem containsInst_ret (l : List MInst) (g : FuncId) (cap : List V) (p : MInst → Bool) (hl : l.length ≤ maxLen) (hc : ∀ H, cap.all (sok H 8) = true) (hs : ∀ H, cap.map (snap H 8) = cap) (hs7 : ∀ H, cap.map (snap H 7) = cap) (hc7 : ∀ H, cap.all (sok H 7) = true) (hf : ∀ x ∈ l, PRet Tryz.prog g (.agg x.cells :: cap) (.bool (p x))) :
    PRet Tryz.prog 100 [encL MInst.cells l, .fn g cap] (.bool (l.any p)) := by
  refine pret_intro fd100 (by simp) ?_
  simp only [lc100, VCA, simprocAttr, encL, hc7, hs7]
  refine callX_of (indexInst_ret l g cap p hl hc hs hf) (.inr rfl) ?_
  simp only [VCA, simprocAttr, encL, idx_any p l 0 (by decide)]

theorem indexOper_ret (l : List MOper) (g : FuncId) (cap : List V) (p : MOper → Bool) (hl : l.length ≤ maxLen) (hc : ∀ H, cap.all (sok H 8) = true) (hs : ∀ H, cap.map (snap H 8) = cap) (hf : ∀ x ∈ l, PRet Tryz.prog g (.agg x.cells :: cap) (.bool (p x))) :
    PRet Tryz.prog 122 [encL MOper.cells l, .fn g cap] (.int .i64 (idx p l 0)) := by
  refine pret_intro fd122 (by simp) ?_
  simp only [lc122, VCA, simprocAttr, encL]
  refine loop_vcg (ι := Nat × (Nat → Nat)) (fun (k, c) => ⟨tmk [(0, encL MOper.cells l), (1, .fn g cap), (7, .int .i64 l.length), (8, .int .i64 k)], hmk [], c⟩)
    (fun (k, _) => k ≤ l.length ∧ idx p l 0 = idx p (l.drop k) k) (fun (k, _) => l.length - k) (0, _) ⟨by omega, rfl⟩ (le_mk ?_ ?_ (fun s => Nat.le_refl _)) ?_
  · simp only [VCA, simprocAttr, encL]
  · simp only [VCA, simprocAttr, encL]
  · rintro ⟨k, c⟩ ⟨hk, hb⟩
    simp only [VCA, simprocAttr, encL]
    refine condV_of (fun h => ?_) (fun h => ?_)
    · simp only [decide_eq_true_eq] at h
      have hk' : k < l.length := by omega
      simp only [VCA, simprocAttr, encL, MCA, hk', hc, hs]
      refine ⟨by omega, callX_of (hf _ (List.getElem_mem hk')) (.inr rfl) ?_⟩
      simp only [VCA, simprocAttr, encL]
      rw [drop_idx p hk'] at hb
      refine condV_of (fun h1 => ?_) (fun h1 => ?_)
      · simp only [VCA, simprocAttr, encL]
        rw [hb, if_pos h1]
      · simp only [VCA, simprocAttr, encL]
        rw [maxLen_eq] at hl
        refine ⟨by unfold InI64; omega, backTo_of (k + 1, c) ⟨by omega, ?_⟩ (by simp only []; omega) (le_mk ?_ ?_ (fun s => Nat.le_refl _))⟩
        · rw [hb, if_neg (by rw [h1]; decide)]; rfl
        · simp only [VCA, simprocAttr, encL]
        · simp only [VCA, simprocAttr, encL]
    · simp only [decide_eq_false_iff_not] at h
      have hk' : k = l.length := by omega
      simp only [VCA, simprocAttr, encL]
      rw [hb, List.drop_eq_nil_of_le (by omega)]; rfl

theorem containsOper_ret (l : List MOper) (g : FuncId) (cap : List V) (p : MOper → Bool) (hl : l.length ≤ maxLen) (hc : ∀ H, cap.all (sok H 8) = true) (hs : ∀ H, cap.map (snap H 8) = cap) (hs7 : ∀ H, cap.map (snap H 7) = cap) (hc7 : ∀ H, cap.all (sok H 7) = true) (hf : ∀ x ∈ l, PRet Tryz.prog g (.agg x.cells :: cap) (.bool (p x))) :
    PRet Tryz.prog 120 [encL MOper.cells l, .fn g cap] (.bool (l.any p)) := by
  refine pret_intro fd120 (by simp) ?_
  simp only [lc120, VCA, simprocAttr, encL, hc7, hs7]
  refine callX_of (indexOper_ret l g cap p hl hc hs hf) (.inr rfl) ?_
  simp only [VCA, simprocAttr, encL, idx_any p l 0 (by decide)]


theorem all_ret (l : List Int) (n : Int) (hl : l.length ≤ maxLen) : PRet Tryz.prog 98 [encL cI l, .int .i64 n] (.bool (l.all fun i => inB i n)) := by
  refine pret_intro fd98 (by simp) ?_
  simp only [lc98, VCA, simprocAttr, encL]
  refine callX_of (contains1_ret l _ [.ip (cI n) 0] (fun i => !inB i n) hl (fun H => rfl) (fun H => rfl) (fun H => rfl) (fun H => rfl) (fun x _ => all1_ret x n)) (.inr rfl) ?_
  simp only [VCA, simprocAttr, encL]
  rw [List.not_any_eq_all_not]
  simp
end Go.Proofs.YtlkdcgfjmhjjpaaGreat

set_option linter.unusedSimpArgs false
set_option linter.unusedVariables false
namespace Go.Lg
open Go Go.RowKit
theorem mp_len (l : List MPath) : (l.flatMap MPath.cells).length = l.length * 2 := flat_len MPath.len l
theorem mp_snap (H : Heap) (d : Nat) (l : List MPath) : (l.flatMap MPath.cells).map (snap H (d + 1)) = l.flatMap MPath.cells := by
  induction l with
  | nil => rfl
  | cons x r ih => rw [List.flatMap_cons, List.map_append, ih, MPath.snapc]
theorem mp_sok (H : Heap) (d : Nat) (l : List MPath) : (l.flatMap MPath.cells).all (sok H (d + 1)) = true := by
  induction l with
  | nil => rfl
  | cons x r ih => rw [List.flatMap_cons, List.all_append, ih, MPath.sokc]; rfl
theorem mp_imv (d : Nat) (l : List MPath) : (l.flatMap MPath.cells).all (imV (d + 1)) = true := by
  induction l with
  | nil => rfl
  | cons x r ih => rw [List.flatMap_cons, List.all_append, ih, MPath.imvc]; rfl
theorem mp_app (l : List MPath) (p : MPath) : l.flatMap MPath.cells ++ p.cells = (l ++ [p]).flatMap MPath.cells := by rw [List.flatMap_append]; simp
theorem mp_take {l : List MPath} {n : Nat} (h : l.length * 2 ≤ n) : (l.flatMap MPath.cells).take n = l.flatMap MPath.cells := List.take_of_length_le (by rw [mp_len]; exact h)
theorem mp_e0 : ([] : List MPath).flatMap MPath.cells = [] := rfl
theorem mp_c (p : MPath) : p.cells = [.int .i64 p.loc, .sl p.steps.length (p.steps.flatMap cS)] := by simp [MPath.cells, encL]
theorem mp_set0 (a b : V) (p : MPath) : setCells [a, b] 0 p.cells = p.cells := by rw [mp_c]; rfl
theorem mp_set1 (p : MPath) (x : V) : setCells p.cells 1 [x] = [.int .i64 p.loc, x] := by rw [mp_c]; rfl
theorem mp_ld (a b : V) : ldV true 2 [a, b] 0 = some (.agg [a, b]) := rfl
end Go.Lg
namespace Go.Proofs.YtlkdcgfjmhjjpaaGreat
open Go Go.Lg Go.RowKit
set_option linter.unusedVariables false
set_option linter.unusedSimpArgs false

/-- Short enough to be copied. -/
def smallP (p : MPath) : Prop := p.steps.length ≤ 8796093022208
theorem copied_ret (p : MPath) (hp : smallP p) : PRet Tryz.prog 34 [.agg p.cells] (.agg p.cells) := by
  unfold smallP at hp
  refine pret_intro fdg34 (by simp) ?_
  simp only [lcg34, VCA, simprocAttr, encL, MCA, mp_set1, mp_set0, mp_ld, List.all_cons, List.all_nil, List.length_cons, List.length_nil, Bool.and_true]
  refine ⟨⟨by omega, by omega⟩, ?_⟩
  simp only [VCA, simprocAttr, encL, MCA, mp_set1, mp_set0, mp_ld, mp_c, List.all_cons, List.all_nil, List.length_cons, List.length_nil, Bool.and_true, List.map_cons, List.map_nil]

theorem all_own (l : List MPath) (hl : l.length ≤ 1000000) (hp : ∀ x ∈ l, smallP x) : PRetM Tryz.prog 31 [encL MPath.cells l] 2 l.length (l.flatMap MPath.cells) := by
  refine pretM_intro fdg31 (by simp) (mp_len l) ?_
  simp only [lcg31, VCA, simprocAttr, encL, MCA]
  refine loop_vcg (ι := Nat × (Nat → Nat)) (fun (k, c) => stO [(3, .own 2 k ((l.take k).flatMap MPath.cells)), (6, .val (encL MPath.cells l)), (7, .val (.int .i64 l.length)), (8, .val (.int .i64 k))] c)
    (fun (k, _) => k ≤ l.length) (fun (k, _) => l.length - k) (0, _) (Nat.zero_le _) (ent_of _ [] rfl rfl (by simp only [VCA, simprocAttr, encL, MCA, List.take_zero, mp_e0])) ?_
  rintro ⟨k, c⟩ hk
  have hk : k ≤ l.length := hk
  simp only [VCA, simprocAttr, encL, MCA]
  refine condD_of (fun h => ?_) (fun h => ?_)
  · have hk' : k < l.length := by omega
    have i1 : 0 ≤ (k : Int) ∧ (k : Int) < l.length := by omega
    have i2 : InI64 ((k : Int) + 1) := by unfold InI64; omega
    have hlen : (l.take k).length = k := by simp; omega
    have e : l.take (k + 1) = l.take k ++ [l[k]] := by rw [List.take_add_one, List.getElem?_eq_getElem hk']; rfl
    simp only [VCA, simprocAttr, encL, MCA, hk', i1, mp_set1, mp_set0, mp_ld, List.all_cons, List.all_nil, List.length_cons, List.length_nil, Bool.and_true]
    refine callX_of (copied_ret l[k] (hp _ (List.getElem_mem hk'))) (.inl rfl) ?_
    simp only [VCA, simprocAttr, encL, MCA, mp_set1, mp_set0, mp_ld, mp_len, hlen, i2, List.all_cons, List.all_nil, List.length_cons, List.length_nil, Bool.and_true]
    refine ⟨⟨by omega, by omega⟩, backTo_of (k + 1, _) hk' (by simp only []; omega) (ent_of _ [] rfl rfl ?_)⟩
    simp only [VCA, simprocAttr, encL, MCA, e, mp_imv, mp_app]
  · have hk' : k = l.length := by omega
    subst hk'
    simp only [VCA, simprocAttr, encL, MCA, List.take_length, ownR, mp_len, mp_snap]

theorem filt_take {l : List MPath} {k : Nat} (h : k < l.length) (f : MPath → Bool) : (l.take (k + 1)).filter f = (l.take k).filter f ++ (if f l[k] = true then [l[k]] else []) := by
  have e : l.take (k + 1) = l.take k ++ [l[k]] := by rw [List.take_add_one, List.getElem?_eq_getElem h]; rfl
  rw [e, List.filter_append]
  congr 1
  by_cases hf : f l[k] = true
  · rw [if_pos hf]; simp [hf]
  · rw [if_neg hf]; simp [hf]
theorem filt_len (l : List MPath) (k : Nat) (f : MPath → Bool) : ((l.take k).filter f).length ≤ k := Nat.le_trans (List.length_filter_le ..) (by simp; omega)
theorem without_own (l : List MPath) (p : MPath) (hl : l.length ≤ 1000000) (hp : smallP p) (hx : ∀ x ∈ l, smallP x) :
    PRetM Tryz.prog 33 [encL MPath.cells l, .agg p.cells] 2 (l.filter fun x => !prefS p x).length ((l.filter fun x => !prefS p x).flatMap MPath.cells) := by
  have hps : p.steps.length ≤ 4611686018427387904 := by unfold smallP at hp; omega
  refine pretM_intro fdg33 (by simp) (mp_len _) ?_
  simp only [lcg33, VCA, simprocAttr, encL, MCA]
  refine loop_vcg (ι := Nat × (Nat → Nat)) (fun (k, c) => stO [(3, .box p.cells), (5, .own 2 ((l.take k).filter fun x => !prefS p x).length (((l.take k).filter fun x => !prefS p x).flatMap MPath.cells)), (8, .val (encL MPath.cells l)), (9, .val (.int .i64 l.length)), (10, .val (.int .i64 k))] c)
    (fun (k, _) => k ≤ l.length) (fun (k, _) => l.length - k) (0, _) (Nat.zero_le _) (ent_of _ [] rfl rfl (by simp only [VCA, simprocAttr, encL, MCA, List.take_zero, mp_e0, List.filter_nil])) ?_
  rintro ⟨k, c⟩ hk
  have hk : k ≤ l.length := hk
  simp only [VCA, simprocAttr, encL, MCA]
  refine condD_of (fun h => ?_) (fun h => ?_)
  · have hk' : k < l.length := by omega
    have i1 : 0 ≤ (k : Int) ∧ (k : Int) < l.length := by omega
    have i2 : InI64 ((k : Int) + 1) := by unfold InI64; omega
    have hlen := filt_len l k fun x => !prefS p x
    have e := filt_take hk' fun x => !prefS p x
    simp only [VCA, simprocAttr, encL, MCA, hk', i1, mp_set1, mp_set0, mp_ld, List.all_cons, List.all_nil, List.length_cons, List.length_nil, Bool.and_true]
    refine callX_of (pref_ret p l[k] hps) (.inr rfl) ?_
    cases b1 : prefS p l[k] <;> simp only [VCA, simprocAttr, encL, MCA, b1, i2, mp_set1, mp_set0, mp_ld, List.all_cons, List.all_nil, List.length_cons, List.length_nil, Bool.and_true]
    · refine callX_of (copied_ret l[k] (hx _ (List.getElem_mem hk'))) (.inl rfl) ?_
      simp only [VCA, simprocAttr, encL, MCA, mp_set1, mp_set0, mp_ld, mp_len, i2, List.all_cons, List.all_nil, List.length_cons, List.length_nil, Bool.and_true]
      refine ⟨⟨by omega, by omega⟩, backTo_of (k + 1, _) hk' (by simp only []; omega) (ent_of _ [] rfl rfl ?_)⟩
      simp only [VCA, simprocAttr, encL, MCA, e, b1, Bool.not_false, if_true, mp_imv, mp_app, List.length_append, List.length_cons, List.length_nil]
    · refine backTo_of (k + 1, _) hk' (by simp only []; omega) (ent_of _ [] rfl rfl ?_)
      simp only [VCA, simprocAttr, encL, MCA, e, b1, Bool.not_true, Bool.false_eq_true, if_false, List.append_nil, mp_imv]
  · have hk' : k = l.length := by omega
    subst hk'
    simp only [VCA, simprocAttr, encL, MCA, List.take_length, ownR, mp_len, mp_snap]

theorem indexP_ret (l : List MPath) (g : FuncId) (cap : List V) (p : MPath → Bool) (hl : l.length ≤ maxLen) (hc : ∀ H, cap.all (sok H 8) = true) (hs : ∀ H, cap.map (snap H 8) = cap) (hf : ∀ x ∈ l, PRet Tryz.prog g (.agg x.cells :: cap) (.bool (p x))) :
    PRet Tryz.prog 57 [encL MPath.cells l, .fn g cap] (.int .i64 (idx p l 0)) := by
  refine pret_intro fdg57 (by simp) ?_
  simp only [lcg57, VCA, simprocAttr, encL]
  refine loop_vcg (ι := Nat × (Nat → Nat)) (fun (k, c) => ⟨tmk [(0, encL MPath.cells l), (1, .fn g cap), (7, .int .i64 l.length), (8, .int .i64 k)], hmk [], c⟩)
    (fun (k, _) => k ≤ l.length ∧ idx p l 0 = idx p (l.drop k) k) (fun (k, _) => l.length - k) (0, _) ⟨by omega, rfl⟩ (le_mk ?_ ?_ (fun s => Nat.le_refl _)) ?_
  · simp only [VCA, simprocAttr, encL]
  · simp only [VCA, simprocAttr, encL]
  · rintro ⟨k, c⟩ ⟨hk, hb⟩
    simp only [VCA, simprocAttr, encL]
    refine condV_of (fun h => ?_) (fun h => ?_)
    · simp only [decide_eq_true_eq] at h
      have hk' : k < l.length := by omega
      simp only [VCA, simprocAttr, encL, MCA, hk', hc, hs]
      refine ⟨by omega, callX_of (hf _ (List.getElem_mem hk')) (.inr rfl) ?_⟩
      simp only [VCA, simprocAttr, encL]
      rw [drop_idx p hk'] at hb
      refine condV_of (fun h1 => ?_) (fun h1 => ?_)
      · simp only [VCA, simprocAttr, encL]
        rw [hb, if_pos h1]
      · simp only [VCA, simprocAttr, encL]
        rw [maxLen_eq] at hl
        refine ⟨by unfold InI64; omega, backTo_of (k + 1, c) ⟨by omega, ?_⟩ (by simp only []; omega) (le_mk ?_ ?_ (fun s => Nat.le_refl _))⟩
        · rw [hb, if_neg (by rw [h1]; decide)]; rfl
        · simp only [VCA, simprocAttr, encL]
        · simp only [VCA, simprocAttr, encL]
    · simp only [decide_eq_false_iff_not] at h
      have hk' : k = l.length := by omega
      simp only [VCA, simprocAttr, encL]
      rw [hb, List.drop_eq_nil_of_le (by omega)]; rfl
theorem containsP_ret (l : List MPath) (g : FuncId) (cap : List V) (p : MPath → Bool) (hl : l.length ≤ maxLen) (hc : ∀ H, cap.all (sok H 8) = true) (hs : ∀ H, cap.map (snap H 8) = cap) (hs7 : ∀ H, cap.map (snap H 7) = cap) (hc7 : ∀ H, cap.all (sok H 7) = true) (hf : ∀ x ∈ l, PRet Tryz.prog g (.agg x.cells :: cap) (.bool (p x))) :
    PRet Tryz.prog 28 [encL MPath.cells l, .fn g cap] (.bool (l.any p)) := by
  refine pret_intro fdg28 (by simp) ?_
  simp only [lcg28, VCA, simprocAttr, encL, hc7, hs7]
  refine callX_of (indexP_ret l g cap p hl hc hs hf) (.inr rfl) ?_
  simp only [VCA, simprocAttr, encL, idx_any p l 0 (by decide)]
theorem add1_ret (x p : MPath) (hx : smallP x) : PRet Tryz.prog 29 [.agg x.cells, .ip p.cells 0] (.bool (prefS x p)) := by
  have hps : x.steps.length ≤ 4611686018427387904 := by unfold smallP at hx; omega
  refine pret_intro fdg29 (by simp) ?_
  simp only [lcg29, VCA, simprocAttr, encL, MCA]
  refine callX_of (pref_ret x p hps) (.inr rfl) ?_
  simp only [VCA, simprocAttr, encL, MCA]
end Go.Proofs.YtlkdcgfjmhjjpaaGreat

namespace Go.Proofs.YtlkdcgfjmhjjpaaGreat
open Go Go.Lg
set_option maxRecDepth 100000

def lcg32 : LC := .seq (.rego 0 [⟨some 2, .mov (.con .e0), none⟩]) (.seq (.rego 1 [⟨some 3, .mov (.tmp 0), none⟩, ⟨some 4, .call 59 [.tmp 3, .con (.fn 60 [])], none⟩]) (.seq (.rego 2 [⟨some 5, .mov (.tmp 0), none⟩, ⟨some 2, .mov (.tmp 5), none⟩]) .ret))
theorem fdg32 : fnData Tryz.prog 32 = some (6, lcg32.erase, [LRV.tmp 2]) := by kernel_rfl

end Go.Proofs.YtlkdcgfjmhjjpaaGreat

set_option linter.unusedSimpArgs false
set_option linter.unusedVariables false
namespace Go.Lg
open Go Go.RowKit
theorem srt_perm {l : List MPath} {p : MPath} (hs : Srt l) (hp : p ∉ l) : ∀ l2 : List MPath, l2.Perm (l ++ [p]) → l2.Pairwise (fun x y => ltP y x = false) → l2 = insP p l := by
  intro l2 hperm hpw
  have hmem : ∀ x, x ∈ l2 ↔ x ∈ insP p l := by
    intro x
    rw [hperm.mem_iff, mem_ins, List.mem_append, List.mem_singleton]
    exact ⟨fun h => h.elim .inr .inl, fun h => h.elim .inr .inl⟩
  have hnd : l2.Nodup := by
    rw [hperm.nodup_iff, List.nodup_append]
    refine ⟨?_, by simp, ?_⟩
    · exact hs.imp fun {a b} h e => by rw [e, ltP_irrefl] at h; cases h
    · intro a ha b hb e
      rw [List.mem_singleton] at hb
      exact hp (hb ▸ e ▸ ha)
  refine srt_uniq ?_ (srt_ins hs hp) hmem
  refine (hpw.and hnd).imp fun {a b} h => ?_
  cases e : ltP a b with
  | true => rfl
  | false => exact absurd (ltP_tri e h.1) h.2
theorem sok_fin (H : Heap) (d : Nat) (F : List MPath) (p : MPath) : (decide ((F.length + 1) * 2 ≤ F.length * 2 + 2) && (List.take ((F.length + 1) * 2) (F.flatMap MPath.cells ++ p.cells)).all (sok H (d + 1))) = true := by
  rw [mp_app, mp_take (by simp), mp_sok, Bool.and_true, decide_eq_true_eq]; omega
end Go.Lg
namespace Go.Proofs.YtlkdcgfjmhjjpaaGreat
open Go Go.Lg Go.RowKit
set_option linter.unusedVariables false
set_option linter.unusedSimpArgs false
set_option maxRecDepth 20000

/-- The library's sorting, at paths. -/
def SortsP : Prop := ∀ (l l' : List MPath), (∀ x ∈ l, smallP x) → l.length ≤ 2000000 → (∀ l2 : List MPath, l2.Perm l → l2.Pairwise (fun x y => ltP y x = false) → l2 = l') →
  PMut Tryz.prog 59 [.fn 60 []] 2 l.length (l.flatMap MPath.cells) none (l'.flatMap MPath.cells)

theorem add_own (hS : SortsP) (l : List MPath) (p : MPath) (hs : Srt l) (hl : l.length ≤ 1000000) (hp : smallP p) (hx : ∀ x ∈ l, smallP x) :
    PRetM Tryz.prog 11 [encL MPath.cells l, .agg p.cells] 2 (addS l p).length ((addS l p).flatMap MPath.cells) := by
  refine pretM_intro fdg11 (by simp) (mp_len _) ?_
  simp only [lcg11, VCA, simprocAttr, encL, MCA]
  refine callX_of (containsP_ret l _ [.ip p.cells 0] (fun x => prefS x p) (by rw [maxLen_eq]; omega) (fun H => rfl) (fun H => rfl) (fun H => rfl) (fun H => rfl) (fun x h => add1_ret x p (hx x h))) (.inr rfl) ?_
  cases b1 : l.any (fun x => prefS x p) <;> simp only [VCA, simprocAttr, encL, MCA, b1]
  case true =>
    have e : addS l p = l := by rw [addS, if_pos b1]
    rw [e]
    refine callX_own (all_own l hl hx) (.inl rfl) ?_
    simp only [VCA, simprocAttr, encL, MCA, ownR, mp_len, mp_snap]
  have e : addS l p = insP p (l.filter fun x => !prefS p x) := by rw [addS, if_neg (by rw [b1]; decide)]
  have hnm : p ∉ l.filter fun x => !prefS p x := fun h => by
    have := (List.mem_filter.1 h).2
    rw [prefS_refl] at this; cases this
  have hfl : (l.filter fun x => !prefS p x).length ≤ l.length := List.length_filter_le ..
  have hq := hS ((l.filter fun x => !prefS p x) ++ [p]) (addS l p) (fun x h => by
    rcases List.mem_append.1 h with h | h
    · exact hx x (List.mem_filter.1 h).1
    · rw [List.mem_singleton.1 h]; exact hp) (by rw [List.length_append]; simp only [List.length_cons, List.length_nil]; omega) (by rw [e]; exact srt_perm (srt_filter _ hs) hnm)
  have hal : (addS l p).length = (l.filter fun x => !prefS p x).length + 1 := by
    have : ∀ m : List MPath, (insP p m).length = m.length + 1 := by
      intro m
      induction m with
      | nil => rfl
      | cons x m ih => rw [insP]; split <;> simp [ih]
    rw [e, this]
  rw [List.length_append, ← mp_app] at hq
  simp only [List.length_cons, List.length_nil, Nat.zero_add] at hq
  refine ⟨by decide, ?_⟩
  repeat' (first
    | exact trivial
    | refine And.intro ?_ ?_
    | (refine callX_own (without_own l p hl hp hx) (.inl rfl) ?_; simp only [VCA, simprocAttr, encL, MCA])
    | (refine callX_of (copied_ret p hp) (.inl rfl) ?_; simp only [VCA, simprocAttr, encL, MCA, mp_set1, mp_set0, mp_ld, mp_len, List.all_cons, List.all_nil, List.length_cons, List.length_nil, Bool.and_true])
    | (refine callX_inl fdg32 (by simp) ?_; simp only [lcg32, VCA, simprocAttr, encL, MCA])
    | exact sok_fin _ _ _ _
    | (simp only [mp_len]; exact sok_fin _ _ _ _)
    | (refine callX_mut hq (by simp only [VCA, simprocAttr, encL, MCA]) ?_ rfl ?_ <;> simp only [VCA, simprocAttr, encL, MCA, mp_app, mp_snap, rmut, ownR, mp_len, hal])
    | omega)
end Go.Proofs.YtlkdcgfjmhjjpaaGreat

set_option linter.unusedSimpArgs false
set_option linter.unusedVariables false
namespace Go.Proofs.YtlkdcgfjmhjjpaaGreat
open Go Go.Lg Go.RowKit
set_option maxRecDepth 20000

def operB (o : MOper) (locals : Int) : Bool := if o.kind = 1 ∨ o.kind = 2 then true else if o.kind = 3 ∨ o.kind = 4 then inB o.path.loc locals else false
def valB (v : MVal) (locals regions : Int) : Bool :=
  if v.kind = 2 ∨ v.kind = 3 then inB v.path.loc locals && inB v.region regions
  else if v.kind = 5 then operB v.b locals && operB v.a locals
  else if v.kind = 1 ∨ v.kind = 4 then operB v.a locals
  else if v.kind = 6 ∨ v.kind = 7 then v.regions.all (fun i => inB i regions) && v.args.all (fun o => operB o locals)
  else false
def instB (x : MInst) (locals regions points : Int) : Bool :=
  (if x.kind = 1 then valB x.val locals regions && (!x.has || inB x.to.loc locals) else if x.kind = 2 ∨ x.kind = 3 then inB x.to.loc locals else if x.kind = 4 then operB x.val.a locals else decide (x.kind = 5 ∨ x.kind = 6)) &&
    (decide (x.next.length = if x.kind = 4 then 2 else if x.kind = 6 then 0 else 1) && x.next.all (fun i => inB i points))

theorem oper_ret (o : MOper) (n : Int) : PRet Tryz.prog 116 [.agg o.cells, .int .i64 n] (.bool (operB o n)) := by
  refine pret_intro fd116 (by simp) ?_
  simp only [lc116, VCA, simprocAttr, encL, MCA]
  repeat' (first | refine condDn_of (fun h => ?_) (fun h => ?_) <;> simp only [VCA, simprocAttr, encL, MCA, h] | refine condD_of (fun h => ?_) (fun h => ?_) <;> simp only [VCA, simprocAttr, encL, MCA, h] | refine condVn_of (fun h => ?_) (fun h => ?_) <;> simp only [VCA, simprocAttr, encL, MCA, h] | refine condV_of (fun h => ?_) (fun h => ?_) <;> simp only [VCA, simprocAttr, encL, MCA, h] | refine gdDn_of (fun h => ?_) (fun h => ?_) <;> simp only [VCA, simprocAttr, encL, MCA, h] | refine gdD_of (fun h => ?_) (fun h => ?_) <;> simp only [VCA, simprocAttr, encL, MCA, h] | refine gdVMn_of (fun h => ?_) (fun h => ?_) <;> simp only [VCA, simprocAttr, encL, MCA, h] | refine gdVM_of (fun h => ?_) (fun h => ?_) <;> simp only [VCA, simprocAttr, encL, MCA, h] | refine gpDn_of (fun h => ?_) (fun h => ?_) <;> simp only [VCA, simprocAttr, encL, MCA, h] | refine gpD_of (fun h => ?_) (fun h => ?_) <;> simp only [VCA, simprocAttr, encL, MCA, h] | refine gdVn_of (fun h => ?_) (fun h => ?_) <;> simp only [VCA, simprocAttr, encL, MCA, h] | refine gdV_of (fun h => ?_) (fun h => ?_) <;> simp only [VCA, simprocAttr, encL, MCA, h] | refine callX_of (within_ret _ _) (by first | exact Or.inr rfl | exact Or.inl rfl) ?_ <;> simp only [VCA, simprocAttr, encL, MCA] | (unfold InI64; omega) | refine And.intro ?_ ?_)
  all_goals simp [operB, *]

theorem value1_ret (o : MOper) (n : Int) : PRet Tryz.prog 121 [.agg o.cells, .ip (cI n) 0] (.bool (!operB o n)) := by
  refine pret_intro fd121 (by simp) ?_
  simp only [lc121, VCA, simprocAttr, encL, MCA]
  refine callX_of (oper_ret o n) (.inr rfl) ?_
  simp only [VCA, simprocAttr, encL]

theorem any_not {α : Type} (p : α → Bool) (l : List α) : (!l.any fun o => !p o) = l.all p := by
  induction l with
  | nil => rfl
  | cons x r ih => simp only [List.any_cons, List.all_cons, Bool.not_or, Bool.not_not, ih]

theorem value_ret (v : MVal) (hv : v.ok) (locals regions : Int) : PRet Tryz.prog 115 [.agg v.cells, .int .i64 locals, .int .i64 regions] (.bool (valB v locals regions)) := by
  obtain ⟨_, _, _, _, _, _, _, ⟨hr, _⟩, ha, _⟩ := hv
  refine pret_intro fd115 (by simp) ?_
  simp only [lc115, VCA, simprocAttr, encL, MCA]
  repeat' (first | refine condDn_of (fun h => ?_) (fun h => ?_) <;> simp only [VCA, simprocAttr, encL, MCA, h] | refine condD_of (fun h => ?_) (fun h => ?_) <;> simp only [VCA, simprocAttr, encL, MCA, h] | refine condVn_of (fun h => ?_) (fun h => ?_) <;> simp only [VCA, simprocAttr, encL, MCA, h] | refine condV_of (fun h => ?_) (fun h => ?_) <;> simp only [VCA, simprocAttr, encL, MCA, h] | refine gdDn_of (fun h => ?_) (fun h => ?_) <;> simp only [VCA, simprocAttr, encL, MCA, h] | refine gdD_of (fun h => ?_) (fun h => ?_) <;> simp only [VCA, simprocAttr, encL, MCA, h] | refine gdVMn_of (fun h => ?_) (fun h => ?_) <;> simp only [VCA, simprocAttr, encL, MCA, h] | refine gdVM_of (fun h => ?_) (fun h => ?_) <;> simp only [VCA, simprocAttr, encL, MCA, h] | refine gpDn_of (fun h => ?_) (fun h => ?_) <;> simp only [VCA, simprocAttr, encL, MCA, h] | refine gpD_of (fun h => ?_) (fun h => ?_) <;> simp only [VCA, simprocAttr, encL, MCA, h] | refine gdVn_of (fun h => ?_) (fun h => ?_) <;> simp only [VCA, simprocAttr, encL, MCA, h] | refine gdV_of (fun h => ?_) (fun h => ?_) <;> simp only [VCA, simprocAttr, encL, MCA, h] | refine callX_of (within_ret _ _) (by first | exact Or.inr rfl | exact Or.inl rfl) ?_ <;> simp only [VCA, simprocAttr, encL, MCA] | refine callX_of (oper_ret _ _) (by first | exact Or.inr rfl | exact Or.inl rfl) ?_ <;> simp only [VCA, simprocAttr, encL, MCA] | refine callX_of (all_ret _ _ hr) (by first | exact Or.inr rfl | exact Or.inl rfl) ?_ <;> simp only [VCA, simprocAttr, encL, MCA] | refine callX_of (containsOper_ret _ _ [.ip (cI locals) 0] (fun o => !operB o locals) ha (fun H => rfl) (fun H => rfl) (fun H => rfl) (fun H => rfl) (fun x _ => value1_ret x locals)) (by first | exact Or.inr rfl | exact Or.inl rfl) ?_ <;> simp only [VCA, simprocAttr, encL, MCA] | (unfold InI64; omega) | refine And.intro ?_ ?_)
  all_goals simp [valB, any_not, *]

theorem inst_ret (x : MInst) (hx : x.ok) (locals regions points : Int) : PRet Tryz.prog 102 [.agg x.cells, .int .i64 locals, .int .i64 regions, .int .i64 points] (.bool (instB x locals regions points)) := by
  obtain ⟨_, _, _, hv, hn, _⟩ := hx
  refine pret_intro fd102 (by simp) ?_
  simp only [lc102, VCA, simprocAttr, encL, MCA]
  repeat' (first | refine condDn_of (fun h => ?_) (fun h => ?_) <;> simp only [VCA, simprocAttr, encL, MCA, h] | refine condD_of (fun h => ?_) (fun h => ?_) <;> simp only [VCA, simprocAttr, encL, MCA, h] | refine condVn_of (fun h => ?_) (fun h => ?_) <;> simp only [VCA, simprocAttr, encL, MCA, h] | refine condV_of (fun h => ?_) (fun h => ?_) <;> simp only [VCA, simprocAttr, encL, MCA, h] | refine gdDn_of (fun h => ?_) (fun h => ?_) <;> simp only [VCA, simprocAttr, encL, MCA, h] | refine gdD_of (fun h => ?_) (fun h => ?_) <;> simp only [VCA, simprocAttr, encL, MCA, h] | refine gdVMn_of (fun h => ?_) (fun h => ?_) <;> simp only [VCA, simprocAttr, encL, MCA, h] | refine gdVM_of (fun h => ?_) (fun h => ?_) <;> simp only [VCA, simprocAttr, encL, MCA, h] | refine gpDn_of (fun h => ?_) (fun h => ?_) <;> simp only [VCA, simprocAttr, encL, MCA, h] | refine gpD_of (fun h => ?_) (fun h => ?_) <;> simp only [VCA, simprocAttr, encL, MCA, h] | refine gdVn_of (fun h => ?_) (fun h => ?_) <;> simp only [VCA, simprocAttr, encL, MCA, h] | refine gdV_of (fun h => ?_) (fun h => ?_) <;> simp only [VCA, simprocAttr, encL, MCA, h] | refine callX_of (value_ret _ hv _ _) (by first | exact Or.inr rfl | exact Or.inl rfl) ?_ <;> simp only [VCA, simprocAttr, encL, MCA] | refine callX_of (within_ret _ _) (by first | exact Or.inr rfl | exact Or.inl rfl) ?_ <;> simp only [VCA, simprocAttr, encL, MCA] | refine callX_of (oper_ret _ _) (by first | exact Or.inr rfl | exact Or.inl rfl) ?_ <;> simp only [VCA, simprocAttr, encL, MCA] | refine callX_of (all_ret _ _ hn) (by first | exact Or.inr rfl | exact Or.inl rfl) ?_ <;> simp only [VCA, simprocAttr, encL, MCA] | (unfold InI64; omega) | refine And.intro ?_ ?_)
  all_goals (simp [instB, -List.length_eq_zero_iff, *] <;> omega)

end Go.Proofs.YtlkdcgfjmhjjpaaGreat

set_option linter.unusedSimpArgs false
set_option linter.unusedVariables false
namespace Go.Proofs.YtlkdcgfjmhjjpaaGreat
open Go Go.Lg Go.RowKit
set_option maxRecDepth 20000

theorem any_drop {α : Type} (p : α → Bool) (l : List α) (k : Nat) (h : k < l.length) : (l.drop k).any p = (p l[k] || (l.drop (k + 1)).any p) := by
  rw [List.drop_eq_getElem_cons h, List.any_cons]
theorem all_drop {α : Type} (p : α → Bool) (l : List α) (k : Nat) (h : k < l.length) : (l.drop k).all p = (p l[k] && (l.drop (k + 1)).all p) := by
  rw [List.drop_eq_getElem_cons h, List.all_cons]

/-- Is a type's depth above a bound, or is there too much in it? -/
def deepB : Nat → RT → Bool
  | 0, _ => true
  | d + 1, t => decide (2 < t.elem.length) || decide (70 < t.regions.length) || t.elem.any (deepB d)

theorem deep_ret : ∀ (d : Nat) (t : RT), t.ok → d ≤ 100 → PRet Tryz.prog 41 [.agg t.cells, .int .i64 d] (.bool (deepB d t)) := by
  intro d
  induction d with
  | zero =>
    intro t ht hd
    refine pret_intro fd41 (by simp) ?_
    simp only [lc41, VCA, simprocAttr, encL, MCA, Int.le_refl]
    simp [deepB]
  | succ d ih =>
    intro t ht hd
    rw [RT.ok_iff] at ht
    obtain ⟨_, _, ⟨hr, _⟩, he, hok⟩ := ht
    rw [maxLen_eq] at he
    refine pret_intro fd41 (by simp) ?_
    have h0 : ¬ (((d + 1 : Nat) : Int) ≤ 0) := by omega
    simp only [lc41, VCA, simprocAttr, encL, MCA, h0]
    repeat' (first | refine condDn_of (fun h => ?_) (fun h => ?_) <;> simp only [VCA, simprocAttr, encL, MCA, h] | refine condD_of (fun h => ?_) (fun h => ?_) <;> simp only [VCA, simprocAttr, encL, MCA, h] | refine condVn_of (fun h => ?_) (fun h => ?_) <;> simp only [VCA, simprocAttr, encL, MCA, h] | refine condV_of (fun h => ?_) (fun h => ?_) <;> simp only [VCA, simprocAttr, encL, MCA, h] | refine gdDn_of (fun h => ?_) (fun h => ?_) <;> simp only [VCA, simprocAttr, encL, MCA, h] | refine gdD_of (fun h => ?_) (fun h => ?_) <;> simp only [VCA, simprocAttr, encL, MCA, h] | refine gdVMn_of (fun h => ?_) (fun h => ?_) <;> simp only [VCA, simprocAttr, encL, MCA, h] | refine gdVM_of (fun h => ?_) (fun h => ?_) <;> simp only [VCA, simprocAttr, encL, MCA, h] | refine gpDn_of (fun h => ?_) (fun h => ?_) <;> simp only [VCA, simprocAttr, encL, MCA, h] | refine gpD_of (fun h => ?_) (fun h => ?_) <;> simp only [VCA, simprocAttr, encL, MCA, h] | refine gdVn_of (fun h => ?_) (fun h => ?_) <;> simp only [VCA, simprocAttr, encL, MCA, h] | refine gdV_of (fun h => ?_) (fun h => ?_) <;> simp only [VCA, simprocAttr, encL, MCA, h] | (unfold InI64; omega) | refine And.intro ?_ ?_)
    all_goals try (simp only [deepB, V.bool.injEq] ; simp ; omega)
    refine loop_vcg (ι := Nat × (Nat → Nat)) (fun (k, c) => stO [(2, .box t.cells), (1, .val (.int .i64 ((d + 1 : Nat) : Int))), (5, .val (.int .i64 k))] c)
      (fun (k, _) => k ≤ t.elem.length ∧ (t.elem.drop k).any (deepB d) = t.elem.any (deepB d)) (fun (k, _) => t.elem.length - k) (0, _) ⟨by omega, rfl⟩ (ent_of _ [] rfl rfl (by simp only [VCA, simprocAttr, encL, MCA])) ?_
    rintro ⟨k, c⟩ ⟨hk, hb⟩
    simp only [VCA, simprocAttr, encL, MCA]
    refine condD_of (fun h => ?_) (fun h => ?_)
    · have hk' : k < t.elem.length := by omega
      rw [any_drop _ _ _ hk'] at hb
      simp only [VCA, simprocAttr, encL, MCA, hk']
      refine ⟨by omega, by unfold InI64; omega, callX_of (ih _ (hok _ (List.getElem_mem hk')) (by omega)) (.inr rfl) ?_⟩
      simp only [VCA, simprocAttr, encL, MCA]
      repeat' (first | refine condDn_of (fun h => ?_) (fun h => ?_) <;> simp only [VCA, simprocAttr, encL, MCA, h] | refine condD_of (fun h => ?_) (fun h => ?_) <;> simp only [VCA, simprocAttr, encL, MCA, h] | refine condVn_of (fun h => ?_) (fun h => ?_) <;> simp only [VCA, simprocAttr, encL, MCA, h] | refine condV_of (fun h => ?_) (fun h => ?_) <;> simp only [VCA, simprocAttr, encL, MCA, h] | refine gdDn_of (fun h => ?_) (fun h => ?_) <;> simp only [VCA, simprocAttr, encL, MCA, h] | refine gdD_of (fun h => ?_) (fun h => ?_) <;> simp only [VCA, simprocAttr, encL, MCA, h] | refine gdVMn_of (fun h => ?_) (fun h => ?_) <;> simp only [VCA, simprocAttr, encL, MCA, h] | refine gdVM_of (fun h => ?_) (fun h => ?_) <;> simp only [VCA, simprocAttr, encL, MCA, h] | refine gpDn_of (fun h => ?_) (fun h => ?_) <;> simp only [VCA, simprocAttr, encL, MCA, h] | refine gpD_of (fun h => ?_) (fun h => ?_) <;> simp only [VCA, simprocAttr, encL, MCA, h] | refine gdVn_of (fun h => ?_) (fun h => ?_) <;> simp only [VCA, simprocAttr, encL, MCA, h] | refine gdV_of (fun h => ?_) (fun h => ?_) <;> simp only [VCA, simprocAttr, encL, MCA, h] | (unfold InI64; omega) | refine And.intro ?_ ?_)
      · rw [h] at hb
        simp only [deepB, ← hb]; simp
      · rw [h] at hb
        exact backTo_of (k + 1, _) ⟨by omega, hb⟩ (by simp only []; omega) (ent_of _ [] rfl rfl (by simp only [VCA, simprocAttr, encL, MCA]))
    · have hk' : k = t.elem.length := by omega
      subst hk'
      simp only [List.drop_length, List.any_nil] at hb
      simp only [VCA, simprocAttr, encL, MCA]
      simp only [deepB, ← hb]; simp; omega

def greatI (x : MInst) : Bool :=
  decide (4 < x.next.length) || decide (20 < x.val.args.length) || decide (20 < x.val.regions.length) || decide (20 < x.val.path.steps.length) || decide (20 < x.to.steps.length)
/-- Is there more than is asked of? -/
def greatB (m : Mir) : Bool :=
  decide (60 < m.code.length) || decide (30 < m.locals.length) || decide (200 < m.regions) || decide (100 < m.known.length) || m.locals.any (fun l => deepB 67 l.type) ||
    m.code.any greatI

theorem great_ret (m : Mir) (hm : m.ok) : PRet Tryz.prog 21 [.agg m.cells] (.bool (greatB m)) := by
  obtain ⟨_, _, _, _, ⟨hl, hlo⟩, hc, hco⟩ := hm
  rw [maxLen_eq] at hl hc
  refine pret_intro fd21 (by simp) ?_
  simp only [lc21, VCA, simprocAttr, encL, MCA]
  repeat' (first | refine condDn_of (fun h => ?_) (fun h => ?_) <;> simp only [VCA, simprocAttr, encL, MCA, h] | refine condD_of (fun h => ?_) (fun h => ?_) <;> simp only [VCA, simprocAttr, encL, MCA, h] | refine condVn_of (fun h => ?_) (fun h => ?_) <;> simp only [VCA, simprocAttr, encL, MCA, h] | refine condV_of (fun h => ?_) (fun h => ?_) <;> simp only [VCA, simprocAttr, encL, MCA, h] | refine gdDn_of (fun h => ?_) (fun h => ?_) <;> simp only [VCA, simprocAttr, encL, MCA, h] | refine gdD_of (fun h => ?_) (fun h => ?_) <;> simp only [VCA, simprocAttr, encL, MCA, h] | refine gdVMn_of (fun h => ?_) (fun h => ?_) <;> simp only [VCA, simprocAttr, encL, MCA, h] | refine gdVM_of (fun h => ?_) (fun h => ?_) <;> simp only [VCA, simprocAttr, encL, MCA, h] | refine gpDn_of (fun h => ?_) (fun h => ?_) <;> simp only [VCA, simprocAttr, encL, MCA, h] | refine gpD_of (fun h => ?_) (fun h => ?_) <;> simp only [VCA, simprocAttr, encL, MCA, h] | refine gdVn_of (fun h => ?_) (fun h => ?_) <;> simp only [VCA, simprocAttr, encL, MCA, h] | refine gdV_of (fun h => ?_) (fun h => ?_) <;> simp only [VCA, simprocAttr, encL, MCA, h] | (unfold InI64; omega) | refine And.intro ?_ ?_)
  all_goals try (simp only [greatB, V.bool.injEq] ; simp ; omega)
  rename_i h1 h2 h3 h4
  refine loop_vcg (ι := Nat × (Nat → Nat)) (fun (k, c) => stO [(1, .box m.cells), (3, .val (.int .i64 k))] c)
    (fun (k, _) => k ≤ m.locals.length ∧ (m.locals.drop k).any (fun l => deepB 67 l.type) = m.locals.any (fun l => deepB 67 l.type)) (fun (k, _) => m.locals.length - k) (0, _) ⟨by omega, rfl⟩ (ent_of _ [] rfl rfl (by simp only [VCA, simprocAttr, encL, MCA])) ?_
  rintro ⟨k, c⟩ ⟨hk, hb⟩
  simp only [VCA, simprocAttr, encL, MCA]
  refine condD_of (fun h => ?_) (fun h => ?_)
  · have hk' : k < m.locals.length := by omega
    rw [any_drop _ _ _ hk'] at hb
    simp only [VCA, simprocAttr, encL, MCA, hk']
    refine ⟨by omega, callX_of (deep_ret 67 _ (hlo _ (List.getElem_mem hk')).2 (by decide)) (.inr rfl) ?_⟩
    simp only [VCA, simprocAttr, encL, MCA]
    repeat' (first | refine condDn_of (fun h => ?_) (fun h => ?_) <;> simp only [VCA, simprocAttr, encL, MCA, h] | refine condD_of (fun h => ?_) (fun h => ?_) <;> simp only [VCA, simprocAttr, encL, MCA, h] | refine condVn_of (fun h => ?_) (fun h => ?_) <;> simp only [VCA, simprocAttr, encL, MCA, h] | refine condV_of (fun h => ?_) (fun h => ?_) <;> simp only [VCA, simprocAttr, encL, MCA, h] | refine gdDn_of (fun h => ?_) (fun h => ?_) <;> simp only [VCA, simprocAttr, encL, MCA, h] | refine gdD_of (fun h => ?_) (fun h => ?_) <;> simp only [VCA, simprocAttr, encL, MCA, h] | refine gdVMn_of (fun h => ?_) (fun h => ?_) <;> simp only [VCA, simprocAttr, encL, MCA, h] | refine gdVM_of (fun h => ?_) (fun h => ?_) <;> simp only [VCA, simprocAttr, encL, MCA, h] | refine gpDn_of (fun h => ?_) (fun h => ?_) <;> simp only [VCA, simprocAttr, encL, MCA, h] | refine gpD_of (fun h => ?_) (fun h => ?_) <;> simp only [VCA, simprocAttr, encL, MCA, h] | refine gdVn_of (fun h => ?_) (fun h => ?_) <;> simp only [VCA, simprocAttr, encL, MCA, h] | refine gdV_of (fun h => ?_) (fun h => ?_) <;> simp only [VCA, simprocAttr, encL, MCA, h] | (unfold InI64; omega) | refine And.intro ?_ ?_)
    · rw [h] at hb
      simp only [greatB, ← hb]; simp
    · rw [h] at hb
      exact backTo_of (k + 1, _) ⟨by omega, hb⟩ (by simp only []; omega) (ent_of _ [] rfl rfl (by simp only [VCA, simprocAttr, encL, MCA]))
  · have hk' : k = m.locals.length := by omega
    subst hk'
    simp only [List.drop_length, List.any_nil] at hb
    simp only [VCA, simprocAttr, encL, MCA]
    refine loop_vcg (ι := Nat × (Nat → Nat)) (fun (k, c) => stO [(1, .box m.cells), (4, .val (.int .i64 k))] c)
      (fun (k, _) => k ≤ m.code.length ∧ (m.code.drop k).any greatI = m.code.any greatI) (fun (k, _) => m.code.length - k) (0, _) ⟨by omega, rfl⟩ (ent_of _ [] rfl rfl (by simp only [VCA, simprocAttr, encL, MCA])) ?_
    rintro ⟨k, c⟩ ⟨hk, hb2⟩
    simp only [VCA, simprocAttr, encL, MCA]
    refine condD_of (fun h => ?_) (fun h => ?_)
    · have hk' : k < m.code.length := by omega
      rw [any_drop _ _ _ hk'] at hb2
      simp only [VCA, simprocAttr, encL, MCA, hk']
      refine And.intro (by omega) (And.intro (by omega) ?_)
      repeat' (first | refine condDn_of (fun h => ?_) (fun h => ?_) <;> simp only [VCA, simprocAttr, encL, MCA, h, hk'] | refine condD_of (fun h => ?_) (fun h => ?_) <;> simp only [VCA, simprocAttr, encL, MCA, h, hk'] | refine condVn_of (fun h => ?_) (fun h => ?_) <;> simp only [VCA, simprocAttr, encL, MCA, h, hk'] | refine condV_of (fun h => ?_) (fun h => ?_) <;> simp only [VCA, simprocAttr, encL, MCA, h, hk'] | refine gdDn_of (fun h => ?_) (fun h => ?_) <;> simp only [VCA, simprocAttr, encL, MCA, h, hk'] | refine gdD_of (fun h => ?_) (fun h => ?_) <;> simp only [VCA, simprocAttr, encL, MCA, h, hk'] | refine gdVMn_of (fun h => ?_) (fun h => ?_) <;> simp only [VCA, simprocAttr, encL, MCA, h, hk'] | refine gdVM_of (fun h => ?_) (fun h => ?_) <;> simp only [VCA, simprocAttr, encL, MCA, h, hk'] | refine gpDn_of (fun h => ?_) (fun h => ?_) <;> simp only [VCA, simprocAttr, encL, MCA, h, hk'] | refine gpD_of (fun h => ?_) (fun h => ?_) <;> simp only [VCA, simprocAttr, encL, MCA, h, hk'] | refine gdVn_of (fun h => ?_) (fun h => ?_) <;> simp only [VCA, simprocAttr, encL, MCA, h, hk'] | refine gdV_of (fun h => ?_) (fun h => ?_) <;> simp only [VCA, simprocAttr, encL, MCA, h, hk'] | (unfold InI64; omega) | refine And.intro ?_ ?_)
      all_goals first
        | omega
        | (have hg : greatI m.code[k] = true := by (simp only [greatI]; simp; omega)
           simp [greatB, ← hb2, hg]; done)
        | exact backTo_of (k + 1, _) ⟨by omega, by rw [← hb2]; simp [greatI]; omega⟩ (by simp only []; omega) (ent_of _ [] rfl rfl (by simp only [VCA, simprocAttr, encL, MCA]))
    · have hk' : k = m.code.length := by omega
      subst hk'
      simp only [List.drop_length, List.any_nil] at hb2
      simp only [VCA, simprocAttr, encL, MCA]
      simp only [greatB, ← hb, ← hb2]; simp; omega

end Go.Proofs.YtlkdcgfjmhjjpaaGreat

set_option linter.unusedSimpArgs false
set_option linter.unusedVariables false
namespace Go.Proofs.YtlkdcgfjmhjjpaaGreat
open Go Go.Lg Go.RowKit
set_option maxRecDepth 20000

/-- May a type be, so deep? -/
def rtB (regions : Int) : Nat → RT → Bool
  | 0, _ => false
  | d + 1, t => t.regions.all (fun i => inB i regions) && (if t.kind = 4 ∨ t.kind = 5 then decide (t.elem.length = 1) && decide (t.regions.length = 1) && t.elem.all (rtB regions d) else if 0 ≤ t.kind ∧ t.kind ≤ 3 then decide (t.elem.length = 0) else false)

theorem rt_first {l : List RT} (h : 0 < l.length) : ldV true 4 (l.flatMap RT.cells) 0 = some (.agg (l[0]).cells) := by
  have := RT.ld0 (l := l) (i := 0) (n := 4) (agg := true) h (by decide) (by decide)
  rw [Nat.zero_mul] at this
  rw [this, RT.call]

theorem all_one {α : Type} {l : List α} (p : α → Bool) (h : l.length = 1) : l.all p = p (l[0]'(by omega)) := by
  match l, h with
  | [e], _ => simp

theorem kind_ret (regions : Int) : ∀ (d : Nat) (t : RT), t.ok → d ≤ 64 → PRet Tryz.prog 99 [.agg t.cells, .int .i64 regions, .int .i64 (65 - d : Nat)] (.bool (rtB regions d t)) := by
  intro d
  induction d with
  | zero =>
    intro t ht hd
    refine pret_intro fd99 (by simp) ?_
    simp [lc99, VC0, VC1, VC2, VC3, VC4, VC5, VC6, VC7, VC8, VC9, reduceIte, reduceCtorEq, Nat.reduceEqDiff, Nat.reduceAdd, Nat.reduceMul, Nat.reduceBEq, Nat.reduceLT, Nat.reduceLeDiff, Int.reduceEq, Int.reduceLT, Int.reduceLE, Int.reduceNeg, Int.reduceToNat, Int.reduceAdd, Nat.reduceDiv, Nat.reduceSub, Nat.reduceMod, encL, MC0, MC1, MC2, rtB]
  | succ d ih =>
    intro t ht hd
    rw [RT.ok_iff] at ht
    obtain ⟨_, _, ⟨hr, _⟩, he, hok⟩ := ht
    rw [maxLen_eq] at he
    have h0 : ¬ ((64 : Int) < ((65 - (d + 1) : Nat) : Int)) := by omega
    have h2 : (((65 - (d + 1) : Nat) : Int) + 1) = ((65 - d : Nat) : Int) := by omega
    have kind3 : (0 ≤ t.kind ∧ t.kind ≤ 3) ↔ (t.kind = 0 ∨ t.kind = 1 ∨ t.kind = 2 ∨ t.kind = 3) := by omega
    by_cases h1 : t.elem.length = 1
    · have hp : 0 < t.elem.length := by omega
      have hall : t.elem.all (rtB regions d) = rtB regions d t.elem[0] := all_one _ h1
      refine pret_intro fd99 (by simp) ?_
      simp only [lc99, VC0, VC1, VC2, VC3, VC4, VC5, VC6, VC7, VC8, VC9, reduceIte, reduceCtorEq, Nat.reduceEqDiff, Nat.reduceAdd, Nat.reduceMul, Nat.reduceBEq, Nat.reduceLT, Nat.reduceLeDiff, Int.reduceEq, Int.reduceLT, Int.reduceLE, Int.reduceNeg, Int.reduceToNat, Int.reduceAdd, Nat.reduceDiv, Nat.reduceSub, Nat.reduceMod, encL, MC0, MC1, MC2, h0]
      repeat' (first | refine condDn_of (fun h => ?_) (fun h => ?_) <;> simp only [VC0, VC1, VC2, VC3, VC4, VC5, VC6, VC7, VC8, VC9, reduceIte, reduceCtorEq, Nat.reduceEqDiff, Nat.reduceAdd, Nat.reduceMul, Nat.reduceBEq, Nat.reduceLT, Nat.reduceLeDiff, Int.reduceEq, Int.reduceLT, Int.reduceLE, Int.reduceNeg, Int.reduceToNat, Int.reduceAdd, Nat.reduceDiv, Nat.reduceSub, Nat.reduceMod, encL, MC0, MC1, MC2, h, h0, h1, h2, rt_first hp] | refine condD_of (fun h => ?_) (fun h => ?_) <;> simp only [VC0, VC1, VC2, VC3, VC4, VC5, VC6, VC7, VC8, VC9, reduceIte, reduceCtorEq, Nat.reduceEqDiff, Nat.reduceAdd, Nat.reduceMul, Nat.reduceBEq, Nat.reduceLT, Nat.reduceLeDiff, Int.reduceEq, Int.reduceLT, Int.reduceLE, Int.reduceNeg, Int.reduceToNat, Int.reduceAdd, Nat.reduceDiv, Nat.reduceSub, Nat.reduceMod, encL, MC0, MC1, MC2, h, h0, h1, h2, rt_first hp] | refine condVn_of (fun h => ?_) (fun h => ?_) <;> simp only [VC0, VC1, VC2, VC3, VC4, VC5, VC6, VC7, VC8, VC9, reduceIte, reduceCtorEq, Nat.reduceEqDiff, Nat.reduceAdd, Nat.reduceMul, Nat.reduceBEq, Nat.reduceLT, Nat.reduceLeDiff, Int.reduceEq, Int.reduceLT, Int.reduceLE, Int.reduceNeg, Int.reduceToNat, Int.reduceAdd, Nat.reduceDiv, Nat.reduceSub, Nat.reduceMod, encL, MC0, MC1, MC2, h, h0, h1, h2, rt_first hp] | refine condV_of (fun h => ?_) (fun h => ?_) <;> simp only [VC0, VC1, VC2, VC3, VC4, VC5, VC6, VC7, VC8, VC9, reduceIte, reduceCtorEq, Nat.reduceEqDiff, Nat.reduceAdd, Nat.reduceMul, Nat.reduceBEq, Nat.reduceLT, Nat.reduceLeDiff, Int.reduceEq, Int.reduceLT, Int.reduceLE, Int.reduceNeg, Int.reduceToNat, Int.reduceAdd, Nat.reduceDiv, Nat.reduceSub, Nat.reduceMod, encL, MC0, MC1, MC2, h, h0, h1, h2, rt_first hp] | refine gdDn_of (fun h => ?_) (fun h => ?_) <;> simp only [VC0, VC1, VC2, VC3, VC4, VC5, VC6, VC7, VC8, VC9, reduceIte, reduceCtorEq, Nat.reduceEqDiff, Nat.reduceAdd, Nat.reduceMul, Nat.reduceBEq, Nat.reduceLT, Nat.reduceLeDiff, Int.reduceEq, Int.reduceLT, Int.reduceLE, Int.reduceNeg, Int.reduceToNat, Int.reduceAdd, Nat.reduceDiv, Nat.reduceSub, Nat.reduceMod, encL, MC0, MC1, MC2, h, h0, h1, h2, rt_first hp] | refine gdD_of (fun h => ?_) (fun h => ?_) <;> simp only [VC0, VC1, VC2, VC3, VC4, VC5, VC6, VC7, VC8, VC9, reduceIte, reduceCtorEq, Nat.reduceEqDiff, Nat.reduceAdd, Nat.reduceMul, Nat.reduceBEq, Nat.reduceLT, Nat.reduceLeDiff, Int.reduceEq, Int.reduceLT, Int.reduceLE, Int.reduceNeg, Int.reduceToNat, Int.reduceAdd, Nat.reduceDiv, Nat.reduceSub, Nat.reduceMod, encL, MC0, MC1, MC2, h, h0, h1, h2, rt_first hp] | refine gdVMn_of (fun h => ?_) (fun h => ?_) <;> simp only [VC0, VC1, VC2, VC3, VC4, VC5, VC6, VC7, VC8, VC9, reduceIte, reduceCtorEq, Nat.reduceEqDiff, Nat.reduceAdd, Nat.reduceMul, Nat.reduceBEq, Nat.reduceLT, Nat.reduceLeDiff, Int.reduceEq, Int.reduceLT, Int.reduceLE, Int.reduceNeg, Int.reduceToNat, Int.reduceAdd, Nat.reduceDiv, Nat.reduceSub, Nat.reduceMod, encL, MC0, MC1, MC2, h, h0, h1, h2, rt_first hp] | refine gdVM_of (fun h => ?_) (fun h => ?_) <;> simp only [VC0, VC1, VC2, VC3, VC4, VC5, VC6, VC7, VC8, VC9, reduceIte, reduceCtorEq, Nat.reduceEqDiff, Nat.reduceAdd, Nat.reduceMul, Nat.reduceBEq, Nat.reduceLT, Nat.reduceLeDiff, Int.reduceEq, Int.reduceLT, Int.reduceLE, Int.reduceNeg, Int.reduceToNat, Int.reduceAdd, Nat.reduceDiv, Nat.reduceSub, Nat.reduceMod, encL, MC0, MC1, MC2, h, h0, h1, h2, rt_first hp] | refine gpDn_of (fun h => ?_) (fun h => ?_) <;> simp only [VC0, VC1, VC2, VC3, VC4, VC5, VC6, VC7, VC8, VC9, reduceIte, reduceCtorEq, Nat.reduceEqDiff, Nat.reduceAdd, Nat.reduceMul, Nat.reduceBEq, Nat.reduceLT, Nat.reduceLeDiff, Int.reduceEq, Int.reduceLT, Int.reduceLE, Int.reduceNeg, Int.reduceToNat, Int.reduceAdd, Nat.reduceDiv, Nat.reduceSub, Nat.reduceMod, encL, MC0, MC1, MC2, h, h0, h1, h2, rt_first hp] | refine gpD_of (fun h => ?_) (fun h => ?_) <;> simp only [VC0, VC1, VC2, VC3, VC4, VC5, VC6, VC7, VC8, VC9, reduceIte, reduceCtorEq, Nat.reduceEqDiff, Nat.reduceAdd, Nat.reduceMul, Nat.reduceBEq, Nat.reduceLT, Nat.reduceLeDiff, Int.reduceEq, Int.reduceLT, Int.reduceLE, Int.reduceNeg, Int.reduceToNat, Int.reduceAdd, Nat.reduceDiv, Nat.reduceSub, Nat.reduceMod, encL, MC0, MC1, MC2, h, h0, h1, h2, rt_first hp] | refine gdVn_of (fun h => ?_) (fun h => ?_) <;> simp only [VC0, VC1, VC2, VC3, VC4, VC5, VC6, VC7, VC8, VC9, reduceIte, reduceCtorEq, Nat.reduceEqDiff, Nat.reduceAdd, Nat.reduceMul, Nat.reduceBEq, Nat.reduceLT, Nat.reduceLeDiff, Int.reduceEq, Int.reduceLT, Int.reduceLE, Int.reduceNeg, Int.reduceToNat, Int.reduceAdd, Nat.reduceDiv, Nat.reduceSub, Nat.reduceMod, encL, MC0, MC1, MC2, h, h0, h1, h2, rt_first hp] | refine gdV_of (fun h => ?_) (fun h => ?_) <;> simp only [VC0, VC1, VC2, VC3, VC4, VC5, VC6, VC7, VC8, VC9, reduceIte, reduceCtorEq, Nat.reduceEqDiff, Nat.reduceAdd, Nat.reduceMul, Nat.reduceBEq, Nat.reduceLT, Nat.reduceLeDiff, Int.reduceEq, Int.reduceLT, Int.reduceLE, Int.reduceNeg, Int.reduceToNat, Int.reduceAdd, Nat.reduceDiv, Nat.reduceSub, Nat.reduceMod, encL, MC0, MC1, MC2, h, h0, h1, h2, rt_first hp] | refine callX_of (all_ret _ _ hr) (by first | exact Or.inr rfl | exact Or.inl rfl) ?_ <;> simp only [VC0, VC1, VC2, VC3, VC4, VC5, VC6, VC7, VC8, VC9, reduceIte, reduceCtorEq, Nat.reduceEqDiff, Nat.reduceAdd, Nat.reduceMul, Nat.reduceBEq, Nat.reduceLT, Nat.reduceLeDiff, Int.reduceEq, Int.reduceLT, Int.reduceLE, Int.reduceNeg, Int.reduceToNat, Int.reduceAdd, Nat.reduceDiv, Nat.reduceSub, Nat.reduceMod, encL, MC0, MC1, MC2, h0, h1, h2, rt_first hp] | refine callX_of (ih t.elem[0] (hok _ (List.getElem_mem hp)) (by omega)) (by first | exact Or.inr rfl | exact Or.inl rfl) ?_ <;> simp only [VC0, VC1, VC2, VC3, VC4, VC5, VC6, VC7, VC8, VC9, reduceIte, reduceCtorEq, Nat.reduceEqDiff, Nat.reduceAdd, Nat.reduceMul, Nat.reduceBEq, Nat.reduceLT, Nat.reduceLeDiff, Int.reduceEq, Int.reduceLT, Int.reduceLE, Int.reduceNeg, Int.reduceToNat, Int.reduceAdd, Nat.reduceDiv, Nat.reduceSub, Nat.reduceMod, encL, MC0, MC1, MC2, h0, h1, h2, rt_first hp] | (unfold InI64; omega) | refine And.intro ?_ ?_)
      all_goals first
        | omega
        | (simp only [rtB, hall, kind3]; simp [*]; done)
        | (simp only [rtB, hall, kind3]; simp [*]; omega)
    · have h1' : ¬ ((t.elem.length : Int) = 1) := by omega
      refine pret_intro fd99 (by simp) ?_
      simp only [lc99, VC0, VC1, VC2, VC3, VC4, VC5, VC6, VC7, VC8, VC9, reduceIte, reduceCtorEq, Nat.reduceEqDiff, Nat.reduceAdd, Nat.reduceMul, Nat.reduceBEq, Nat.reduceLT, Nat.reduceLeDiff, Int.reduceEq, Int.reduceLT, Int.reduceLE, Int.reduceNeg, Int.reduceToNat, Int.reduceAdd, Nat.reduceDiv, Nat.reduceSub, Nat.reduceMod, encL, MC0, MC1, MC2, h0]
      repeat' (first | refine condDn_of (fun h => ?_) (fun h => ?_) <;> simp only [VC0, VC1, VC2, VC3, VC4, VC5, VC6, VC7, VC8, VC9, reduceIte, reduceCtorEq, Nat.reduceEqDiff, Nat.reduceAdd, Nat.reduceMul, Nat.reduceBEq, Nat.reduceLT, Nat.reduceLeDiff, Int.reduceEq, Int.reduceLT, Int.reduceLE, Int.reduceNeg, Int.reduceToNat, Int.reduceAdd, Nat.reduceDiv, Nat.reduceSub, Nat.reduceMod, encL, MC0, MC1, MC2, h, h0, h1'] | refine condD_of (fun h => ?_) (fun h => ?_) <;> simp only [VC0, VC1, VC2, VC3, VC4, VC5, VC6, VC7, VC8, VC9, reduceIte, reduceCtorEq, Nat.reduceEqDiff, Nat.reduceAdd, Nat.reduceMul, Nat.reduceBEq, Nat.reduceLT, Nat.reduceLeDiff, Int.reduceEq, Int.reduceLT, Int.reduceLE, Int.reduceNeg, Int.reduceToNat, Int.reduceAdd, Nat.reduceDiv, Nat.reduceSub, Nat.reduceMod, encL, MC0, MC1, MC2, h, h0, h1'] | refine condVn_of (fun h => ?_) (fun h => ?_) <;> simp only [VC0, VC1, VC2, VC3, VC4, VC5, VC6, VC7, VC8, VC9, reduceIte, reduceCtorEq, Nat.reduceEqDiff, Nat.reduceAdd, Nat.reduceMul, Nat.reduceBEq, Nat.reduceLT, Nat.reduceLeDiff, Int.reduceEq, Int.reduceLT, Int.reduceLE, Int.reduceNeg, Int.reduceToNat, Int.reduceAdd, Nat.reduceDiv, Nat.reduceSub, Nat.reduceMod, encL, MC0, MC1, MC2, h, h0, h1'] | refine condV_of (fun h => ?_) (fun h => ?_) <;> simp only [VC0, VC1, VC2, VC3, VC4, VC5, VC6, VC7, VC8, VC9, reduceIte, reduceCtorEq, Nat.reduceEqDiff, Nat.reduceAdd, Nat.reduceMul, Nat.reduceBEq, Nat.reduceLT, Nat.reduceLeDiff, Int.reduceEq, Int.reduceLT, Int.reduceLE, Int.reduceNeg, Int.reduceToNat, Int.reduceAdd, Nat.reduceDiv, Nat.reduceSub, Nat.reduceMod, encL, MC0, MC1, MC2, h, h0, h1'] | refine gdDn_of (fun h => ?_) (fun h => ?_) <;> simp only [VC0, VC1, VC2, VC3, VC4, VC5, VC6, VC7, VC8, VC9, reduceIte, reduceCtorEq, Nat.reduceEqDiff, Nat.reduceAdd, Nat.reduceMul, Nat.reduceBEq, Nat.reduceLT, Nat.reduceLeDiff, Int.reduceEq, Int.reduceLT, Int.reduceLE, Int.reduceNeg, Int.reduceToNat, Int.reduceAdd, Nat.reduceDiv, Nat.reduceSub, Nat.reduceMod, encL, MC0, MC1, MC2, h, h0, h1'] | refine gdD_of (fun h => ?_) (fun h => ?_) <;> simp only [VC0, VC1, VC2, VC3, VC4, VC5, VC6, VC7, VC8, VC9, reduceIte, reduceCtorEq, Nat.reduceEqDiff, Nat.reduceAdd, Nat.reduceMul, Nat.reduceBEq, Nat.reduceLT, Nat.reduceLeDiff, Int.reduceEq, Int.reduceLT, Int.reduceLE, Int.reduceNeg, Int.reduceToNat, Int.reduceAdd, Nat.reduceDiv, Nat.reduceSub, Nat.reduceMod, encL, MC0, MC1, MC2, h, h0, h1'] | refine gdVMn_of (fun h => ?_) (fun h => ?_) <;> simp only [VC0, VC1, VC2, VC3, VC4, VC5, VC6, VC7, VC8, VC9, reduceIte, reduceCtorEq, Nat.reduceEqDiff, Nat.reduceAdd, Nat.reduceMul, Nat.reduceBEq, Nat.reduceLT, Nat.reduceLeDiff, Int.reduceEq, Int.reduceLT, Int.reduceLE, Int.reduceNeg, Int.reduceToNat, Int.reduceAdd, Nat.reduceDiv, Nat.reduceSub, Nat.reduceMod, encL, MC0, MC1, MC2, h, h0, h1'] | refine gdVM_of (fun h => ?_) (fun h => ?_) <;> simp only [VC0, VC1, VC2, VC3, VC4, VC5, VC6, VC7, VC8, VC9, reduceIte, reduceCtorEq, Nat.reduceEqDiff, Nat.reduceAdd, Nat.reduceMul, Nat.reduceBEq, Nat.reduceLT, Nat.reduceLeDiff, Int.reduceEq, Int.reduceLT, Int.reduceLE, Int.reduceNeg, Int.reduceToNat, Int.reduceAdd, Nat.reduceDiv, Nat.reduceSub, Nat.reduceMod, encL, MC0, MC1, MC2, h, h0, h1'] | refine gpDn_of (fun h => ?_) (fun h => ?_) <;> simp only [VC0, VC1, VC2, VC3, VC4, VC5, VC6, VC7, VC8, VC9, reduceIte, reduceCtorEq, Nat.reduceEqDiff, Nat.reduceAdd, Nat.reduceMul, Nat.reduceBEq, Nat.reduceLT, Nat.reduceLeDiff, Int.reduceEq, Int.reduceLT, Int.reduceLE, Int.reduceNeg, Int.reduceToNat, Int.reduceAdd, Nat.reduceDiv, Nat.reduceSub, Nat.reduceMod, encL, MC0, MC1, MC2, h, h0, h1'] | refine gpD_of (fun h => ?_) (fun h => ?_) <;> simp only [VC0, VC1, VC2, VC3, VC4, VC5, VC6, VC7, VC8, VC9, reduceIte, reduceCtorEq, Nat.reduceEqDiff, Nat.reduceAdd, Nat.reduceMul, Nat.reduceBEq, Nat.reduceLT, Nat.reduceLeDiff, Int.reduceEq, Int.reduceLT, Int.reduceLE, Int.reduceNeg, Int.reduceToNat, Int.reduceAdd, Nat.reduceDiv, Nat.reduceSub, Nat.reduceMod, encL, MC0, MC1, MC2, h, h0, h1'] | refine gdVn_of (fun h => ?_) (fun h => ?_) <;> simp only [VC0, VC1, VC2, VC3, VC4, VC5, VC6, VC7, VC8, VC9, reduceIte, reduceCtorEq, Nat.reduceEqDiff, Nat.reduceAdd, Nat.reduceMul, Nat.reduceBEq, Nat.reduceLT, Nat.reduceLeDiff, Int.reduceEq, Int.reduceLT, Int.reduceLE, Int.reduceNeg, Int.reduceToNat, Int.reduceAdd, Nat.reduceDiv, Nat.reduceSub, Nat.reduceMod, encL, MC0, MC1, MC2, h, h0, h1'] | refine gdV_of (fun h => ?_) (fun h => ?_) <;> simp only [VC0, VC1, VC2, VC3, VC4, VC5, VC6, VC7, VC8, VC9, reduceIte, reduceCtorEq, Nat.reduceEqDiff, Nat.reduceAdd, Nat.reduceMul, Nat.reduceBEq, Nat.reduceLT, Nat.reduceLeDiff, Int.reduceEq, Int.reduceLT, Int.reduceLE, Int.reduceNeg, Int.reduceToNat, Int.reduceAdd, Nat.reduceDiv, Nat.reduceSub, Nat.reduceMod, encL, MC0, MC1, MC2, h, h0, h1'] | refine callX_of (all_ret _ _ hr) (by first | exact Or.inr rfl | exact Or.inl rfl) ?_ <;> simp only [VC0, VC1, VC2, VC3, VC4, VC5, VC6, VC7, VC8, VC9, reduceIte, reduceCtorEq, Nat.reduceEqDiff, Nat.reduceAdd, Nat.reduceMul, Nat.reduceBEq, Nat.reduceLT, Nat.reduceLeDiff, Int.reduceEq, Int.reduceLT, Int.reduceLE, Int.reduceNeg, Int.reduceToNat, Int.reduceAdd, Nat.reduceDiv, Nat.reduceSub, Nat.reduceMod, encL, MC0, MC1, MC2, h0, h1'] | (unfold InI64; omega) | refine And.intro ?_ ?_)
      all_goals first
        | omega
        | (simp only [rtB, kind3]; simp [*]; done)
        | (simp only [rtB, kind3]; simp [*]; omega)

theorem may1_ret (x : MInst) (hx : x.ok) (m : Mir) : PRet Tryz.prog 101 [.agg x.cells, .ip m.cells 0] (.bool (!instB x m.locals.length m.regions m.code.length)) := by
  refine pret_intro fd101 (by simp) ?_
  simp only [lc101, VC0, VC1, VC2, VC3, VC4, VC5, VC6, VC7, VC8, VC9, reduceIte, reduceCtorEq, Nat.reduceEqDiff, Nat.reduceAdd, Nat.reduceMul, Nat.reduceBEq, Nat.reduceLT, Nat.reduceLeDiff, Int.reduceEq, Int.reduceLT, Int.reduceLE, Int.reduceNeg, Int.reduceToNat, Int.reduceAdd, Nat.reduceDiv, Nat.reduceSub, Nat.reduceMod, encL, MC0, MC1, MC2]
  repeat' (first | refine condDn_of (fun h => ?_) (fun h => ?_) <;> simp only [VC0, VC1, VC2, VC3, VC4, VC5, VC6, VC7, VC8, VC9, reduceIte, reduceCtorEq, Nat.reduceEqDiff, Nat.reduceAdd, Nat.reduceMul, Nat.reduceBEq, Nat.reduceLT, Nat.reduceLeDiff, Int.reduceEq, Int.reduceLT, Int.reduceLE, Int.reduceNeg, Int.reduceToNat, Int.reduceAdd, Nat.reduceDiv, Nat.reduceSub, Nat.reduceMod, encL, MC0, MC1, MC2, h] | refine condD_of (fun h => ?_) (fun h => ?_) <;> simp only [VC0, VC1, VC2, VC3, VC4, VC5, VC6, VC7, VC8, VC9, reduceIte, reduceCtorEq, Nat.reduceEqDiff, Nat.reduceAdd, Nat.reduceMul, Nat.reduceBEq, Nat.reduceLT, Nat.reduceLeDiff, Int.reduceEq, Int.reduceLT, Int.reduceLE, Int.reduceNeg, Int.reduceToNat, Int.reduceAdd, Nat.reduceDiv, Nat.reduceSub, Nat.reduceMod, encL, MC0, MC1, MC2, h] | refine condVn_of (fun h => ?_) (fun h => ?_) <;> simp only [VC0, VC1, VC2, VC3, VC4, VC5, VC6, VC7, VC8, VC9, reduceIte, reduceCtorEq, Nat.reduceEqDiff, Nat.reduceAdd, Nat.reduceMul, Nat.reduceBEq, Nat.reduceLT, Nat.reduceLeDiff, Int.reduceEq, Int.reduceLT, Int.reduceLE, Int.reduceNeg, Int.reduceToNat, Int.reduceAdd, Nat.reduceDiv, Nat.reduceSub, Nat.reduceMod, encL, MC0, MC1, MC2, h] | refine condV_of (fun h => ?_) (fun h => ?_) <;> simp only [VC0, VC1, VC2, VC3, VC4, VC5, VC6, VC7, VC8, VC9, reduceIte, reduceCtorEq, Nat.reduceEqDiff, Nat.reduceAdd, Nat.reduceMul, Nat.reduceBEq, Nat.reduceLT, Nat.reduceLeDiff, Int.reduceEq, Int.reduceLT, Int.reduceLE, Int.reduceNeg, Int.reduceToNat, Int.reduceAdd, Nat.reduceDiv, Nat.reduceSub, Nat.reduceMod, encL, MC0, MC1, MC2, h] | refine gdDn_of (fun h => ?_) (fun h => ?_) <;> simp only [VC0, VC1, VC2, VC3, VC4, VC5, VC6, VC7, VC8, VC9, reduceIte, reduceCtorEq, Nat.reduceEqDiff, Nat.reduceAdd, Nat.reduceMul, Nat.reduceBEq, Nat.reduceLT, Nat.reduceLeDiff, Int.reduceEq, Int.reduceLT, Int.reduceLE, Int.reduceNeg, Int.reduceToNat, Int.reduceAdd, Nat.reduceDiv, Nat.reduceSub, Nat.reduceMod, encL, MC0, MC1, MC2, h] | refine gdD_of (fun h => ?_) (fun h => ?_) <;> simp only [VC0, VC1, VC2, VC3, VC4, VC5, VC6, VC7, VC8, VC9, reduceIte, reduceCtorEq, Nat.reduceEqDiff, Nat.reduceAdd, Nat.reduceMul, Nat.reduceBEq, Nat.reduceLT, Nat.reduceLeDiff, Int.reduceEq, Int.reduceLT, Int.reduceLE, Int.reduceNeg, Int.reduceToNat, Int.reduceAdd, Nat.reduceDiv, Nat.reduceSub, Nat.reduceMod, encL, MC0, MC1, MC2, h] | refine gdVMn_of (fun h => ?_) (fun h => ?_) <;> simp only [VC0, VC1, VC2, VC3, VC4, VC5, VC6, VC7, VC8, VC9, reduceIte, reduceCtorEq, Nat.reduceEqDiff, Nat.reduceAdd, Nat.reduceMul, Nat.reduceBEq, Nat.reduceLT, Nat.reduceLeDiff, Int.reduceEq, Int.reduceLT, Int.reduceLE, Int.reduceNeg, Int.reduceToNat, Int.reduceAdd, Nat.reduceDiv, Nat.reduceSub, Nat.reduceMod, encL, MC0, MC1, MC2, h] | refine gdVM_of (fun h => ?_) (fun h => ?_) <;> simp only [VC0, VC1, VC2, VC3, VC4, VC5, VC6, VC7, VC8, VC9, reduceIte, reduceCtorEq, Nat.reduceEqDiff, Nat.reduceAdd, Nat.reduceMul, Nat.reduceBEq, Nat.reduceLT, Nat.reduceLeDiff, Int.reduceEq, Int.reduceLT, Int.reduceLE, Int.reduceNeg, Int.reduceToNat, Int.reduceAdd, Nat.reduceDiv, Nat.reduceSub, Nat.reduceMod, encL, MC0, MC1, MC2, h] | refine gpDn_of (fun h => ?_) (fun h => ?_) <;> simp only [VC0, VC1, VC2, VC3, VC4, VC5, VC6, VC7, VC8, VC9, reduceIte, reduceCtorEq, Nat.reduceEqDiff, Nat.reduceAdd, Nat.reduceMul, Nat.reduceBEq, Nat.reduceLT, Nat.reduceLeDiff, Int.reduceEq, Int.reduceLT, Int.reduceLE, Int.reduceNeg, Int.reduceToNat, Int.reduceAdd, Nat.reduceDiv, Nat.reduceSub, Nat.reduceMod, encL, MC0, MC1, MC2, h] | refine gpD_of (fun h => ?_) (fun h => ?_) <;> simp only [VC0, VC1, VC2, VC3, VC4, VC5, VC6, VC7, VC8, VC9, reduceIte, reduceCtorEq, Nat.reduceEqDiff, Nat.reduceAdd, Nat.reduceMul, Nat.reduceBEq, Nat.reduceLT, Nat.reduceLeDiff, Int.reduceEq, Int.reduceLT, Int.reduceLE, Int.reduceNeg, Int.reduceToNat, Int.reduceAdd, Nat.reduceDiv, Nat.reduceSub, Nat.reduceMod, encL, MC0, MC1, MC2, h] | refine gdVn_of (fun h => ?_) (fun h => ?_) <;> simp only [VC0, VC1, VC2, VC3, VC4, VC5, VC6, VC7, VC8, VC9, reduceIte, reduceCtorEq, Nat.reduceEqDiff, Nat.reduceAdd, Nat.reduceMul, Nat.reduceBEq, Nat.reduceLT, Nat.reduceLeDiff, Int.reduceEq, Int.reduceLT, Int.reduceLE, Int.reduceNeg, Int.reduceToNat, Int.reduceAdd, Nat.reduceDiv, Nat.reduceSub, Nat.reduceMod, encL, MC0, MC1, MC2, h] | refine gdV_of (fun h => ?_) (fun h => ?_) <;> simp only [VC0, VC1, VC2, VC3, VC4, VC5, VC6, VC7, VC8, VC9, reduceIte, reduceCtorEq, Nat.reduceEqDiff, Nat.reduceAdd, Nat.reduceMul, Nat.reduceBEq, Nat.reduceLT, Nat.reduceLeDiff, Int.reduceEq, Int.reduceLT, Int.reduceLE, Int.reduceNeg, Int.reduceToNat, Int.reduceAdd, Nat.reduceDiv, Nat.reduceSub, Nat.reduceMod, encL, MC0, MC1, MC2, h] | refine callX_of (inst_ret x hx _ _ _) (by first | exact Or.inr rfl | exact Or.inl rfl) ?_ <;> simp only [VC0, VC1, VC2, VC3, VC4, VC5, VC6, VC7, VC8, VC9, reduceIte, reduceCtorEq, Nat.reduceEqDiff, Nat.reduceAdd, Nat.reduceMul, Nat.reduceBEq, Nat.reduceLT, Nat.reduceLeDiff, Int.reduceEq, Int.reduceLT, Int.reduceLE, Int.reduceNeg, Int.reduceToNat, Int.reduceAdd, Nat.reduceDiv, Nat.reduceSub, Nat.reduceMod, encL, MC0, MC1, MC2] | (unfold InI64; omega) | refine And.intro ?_ ?_)

def mayHead (m : Mir) : Bool := !decide (m.free < 0) && !decide (m.regions < m.free) && !decide (1048576 < m.regions) && inB (m.locals.length - 1) 6000 && inB (m.code.length - 1) 6000
/-- May a function as points be? -/
def mayB (m : Mir) : Bool :=
  mayHead m && m.known.all (fun k => k.all fun i => inB i m.free) && m.locals.all (fun l => rtB m.regions 64 l.type) && m.code.all (fun x => instB x m.locals.length m.regions m.code.length)

theorem known_ld {l : List (List Int)} {i : Nat} (hl : ∀ k ∈ l, k.length = 2) (h : i < l.length) : ldV true 2 (l.flatMap fun k => k.flatMap cI) (i * 2) = some (.agg (l[i].flatMap cI)) := by
  have hf : ∀ (l : List (List Int)), (∀ k ∈ l, k.length = 2) → (l.flatMap fun k => k.flatMap cI).length = l.length * 2 := by
    intro l
    induction l with
    | nil => intro _; rfl
    | cons x r ih =>
      intro h
      rw [List.flatMap_cons, List.length_append, ih fun k hk => h k (List.mem_cons_of_mem _ hk), flat_len cI_len, h x (List.mem_cons_self ..), List.length_cons]; omega
  have hg : ∀ (l : List (List Int)) (i : Nat) (h : i < l.length), (∀ k ∈ l, k.length = 2) → ((l.flatMap fun k => k.flatMap cI).drop (i * 2)).take 2 = l[i].flatMap cI := by
    intro l
    induction l with
    | nil => intro i h; cases h
    | cons x r ih =>
      intro i h hk
      have hx : (x.flatMap cI).length = 2 := by rw [flat_len cI_len, hk x (List.mem_cons_self ..)]
      cases i with
      | zero =>
        rw [List.flatMap_cons, Nat.zero_mul, List.drop_zero, List.take_append_of_le_length (by omega), List.take_of_length_le (by omega)]; rfl
      | succ i =>
        rw [List.flatMap_cons, show (i + 1) * 2 = (x.flatMap cI).length + i * 2 by omega, List.drop_length_add_append]
        exact ih i (by simpa using h) fun k hk' => hk k (List.mem_cons_of_mem _ hk')
  simp only [ldV, if_true]
  rw [if_pos (by rw [hf l hl]; omega), hg l i h hl]

theorem may_ret (m : Mir) (hm : m.ok) : PRet Tryz.prog 74 [.agg m.cells] (.bool (mayB m)) := by
  obtain ⟨_, hfr, hrg, ⟨hkn, hkno⟩, ⟨hl, hlo⟩, hc, hco⟩ := hm
  have hc' := hc
  rw [maxLen_eq] at hl hc' hkn
  refine pret_intro fd74 (by simp) ?_
  simp only [lc74, VC0, VC1, VC2, VC3, VC4, VC5, VC6, VC7, VC8, VC9, reduceIte, reduceCtorEq, Nat.reduceEqDiff, Nat.reduceAdd, Nat.reduceMul, Nat.reduceBEq, Nat.reduceLT, Nat.reduceLeDiff, Int.reduceEq, Int.reduceLT, Int.reduceLE, Int.reduceNeg, Int.reduceToNat, Int.reduceAdd, Nat.reduceDiv, Nat.reduceSub, Nat.reduceMod, encL, MC0, MC1, MC2]
  repeat' (first | refine condDn_of (fun h => ?_) (fun h => ?_) <;> simp only [VC0, VC1, VC2, VC3, VC4, VC5, VC6, VC7, VC8, VC9, reduceIte, reduceCtorEq, Nat.reduceEqDiff, Nat.reduceAdd, Nat.reduceMul, Nat.reduceBEq, Nat.reduceLT, Nat.reduceLeDiff, Int.reduceEq, Int.reduceLT, Int.reduceLE, Int.reduceNeg, Int.reduceToNat, Int.reduceAdd, Nat.reduceDiv, Nat.reduceSub, Nat.reduceMod, encL, MC0, MC1, MC2, h] | refine condD_of (fun h => ?_) (fun h => ?_) <;> simp only [VC0, VC1, VC2, VC3, VC4, VC5, VC6, VC7, VC8, VC9, reduceIte, reduceCtorEq, Nat.reduceEqDiff, Nat.reduceAdd, Nat.reduceMul, Nat.reduceBEq, Nat.reduceLT, Nat.reduceLeDiff, Int.reduceEq, Int.reduceLT, Int.reduceLE, Int.reduceNeg, Int.reduceToNat, Int.reduceAdd, Nat.reduceDiv, Nat.reduceSub, Nat.reduceMod, encL, MC0, MC1, MC2, h] | refine condVn_of (fun h => ?_) (fun h => ?_) <;> simp only [VC0, VC1, VC2, VC3, VC4, VC5, VC6, VC7, VC8, VC9, reduceIte, reduceCtorEq, Nat.reduceEqDiff, Nat.reduceAdd, Nat.reduceMul, Nat.reduceBEq, Nat.reduceLT, Nat.reduceLeDiff, Int.reduceEq, Int.reduceLT, Int.reduceLE, Int.reduceNeg, Int.reduceToNat, Int.reduceAdd, Nat.reduceDiv, Nat.reduceSub, Nat.reduceMod, encL, MC0, MC1, MC2, h] | refine condV_of (fun h => ?_) (fun h => ?_) <;> simp only [VC0, VC1, VC2, VC3, VC4, VC5, VC6, VC7, VC8, VC9, reduceIte, reduceCtorEq, Nat.reduceEqDiff, Nat.reduceAdd, Nat.reduceMul, Nat.reduceBEq, Nat.reduceLT, Nat.reduceLeDiff, Int.reduceEq, Int.reduceLT, Int.reduceLE, Int.reduceNeg, Int.reduceToNat, Int.reduceAdd, Nat.reduceDiv, Nat.reduceSub, Nat.reduceMod, encL, MC0, MC1, MC2, h] | refine gdDn_of (fun h => ?_) (fun h => ?_) <;> simp only [VC0, VC1, VC2, VC3, VC4, VC5, VC6, VC7, VC8, VC9, reduceIte, reduceCtorEq, Nat.reduceEqDiff, Nat.reduceAdd, Nat.reduceMul, Nat.reduceBEq, Nat.reduceLT, Nat.reduceLeDiff, Int.reduceEq, Int.reduceLT, Int.reduceLE, Int.reduceNeg, Int.reduceToNat, Int.reduceAdd, Nat.reduceDiv, Nat.reduceSub, Nat.reduceMod, encL, MC0, MC1, MC2, h] | refine gdD_of (fun h => ?_) (fun h => ?_) <;> simp only [VC0, VC1, VC2, VC3, VC4, VC5, VC6, VC7, VC8, VC9, reduceIte, reduceCtorEq, Nat.reduceEqDiff, Nat.reduceAdd, Nat.reduceMul, Nat.reduceBEq, Nat.reduceLT, Nat.reduceLeDiff, Int.reduceEq, Int.reduceLT, Int.reduceLE, Int.reduceNeg, Int.reduceToNat, Int.reduceAdd, Nat.reduceDiv, Nat.reduceSub, Nat.reduceMod, encL, MC0, MC1, MC2, h] | refine gdVMn_of (fun h => ?_) (fun h => ?_) <;> simp only [VC0, VC1, VC2, VC3, VC4, VC5, VC6, VC7, VC8, VC9, reduceIte, reduceCtorEq, Nat.reduceEqDiff, Nat.reduceAdd, Nat.reduceMul, Nat.reduceBEq, Nat.reduceLT, Nat.reduceLeDiff, Int.reduceEq, Int.reduceLT, Int.reduceLE, Int.reduceNeg, Int.reduceToNat, Int.reduceAdd, Nat.reduceDiv, Nat.reduceSub, Nat.reduceMod, encL, MC0, MC1, MC2, h] | refine gdVM_of (fun h => ?_) (fun h => ?_) <;> simp only [VC0, VC1, VC2, VC3, VC4, VC5, VC6, VC7, VC8, VC9, reduceIte, reduceCtorEq, Nat.reduceEqDiff, Nat.reduceAdd, Nat.reduceMul, Nat.reduceBEq, Nat.reduceLT, Nat.reduceLeDiff, Int.reduceEq, Int.reduceLT, Int.reduceLE, Int.reduceNeg, Int.reduceToNat, Int.reduceAdd, Nat.reduceDiv, Nat.reduceSub, Nat.reduceMod, encL, MC0, MC1, MC2, h] | refine gpDn_of (fun h => ?_) (fun h => ?_) <;> simp only [VC0, VC1, VC2, VC3, VC4, VC5, VC6, VC7, VC8, VC9, reduceIte, reduceCtorEq, Nat.reduceEqDiff, Nat.reduceAdd, Nat.reduceMul, Nat.reduceBEq, Nat.reduceLT, Nat.reduceLeDiff, Int.reduceEq, Int.reduceLT, Int.reduceLE, Int.reduceNeg, Int.reduceToNat, Int.reduceAdd, Nat.reduceDiv, Nat.reduceSub, Nat.reduceMod, encL, MC0, MC1, MC2, h] | refine gpD_of (fun h => ?_) (fun h => ?_) <;> simp only [VC0, VC1, VC2, VC3, VC4, VC5, VC6, VC7, VC8, VC9, reduceIte, reduceCtorEq, Nat.reduceEqDiff, Nat.reduceAdd, Nat.reduceMul, Nat.reduceBEq, Nat.reduceLT, Nat.reduceLeDiff, Int.reduceEq, Int.reduceLT, Int.reduceLE, Int.reduceNeg, Int.reduceToNat, Int.reduceAdd, Nat.reduceDiv, Nat.reduceSub, Nat.reduceMod, encL, MC0, MC1, MC2, h] | refine gdVn_of (fun h => ?_) (fun h => ?_) <;> simp only [VC0, VC1, VC2, VC3, VC4, VC5, VC6, VC7, VC8, VC9, reduceIte, reduceCtorEq, Nat.reduceEqDiff, Nat.reduceAdd, Nat.reduceMul, Nat.reduceBEq, Nat.reduceLT, Nat.reduceLeDiff, Int.reduceEq, Int.reduceLT, Int.reduceLE, Int.reduceNeg, Int.reduceToNat, Int.reduceAdd, Nat.reduceDiv, Nat.reduceSub, Nat.reduceMod, encL, MC0, MC1, MC2, h] | refine gdV_of (fun h => ?_) (fun h => ?_) <;> simp only [VC0, VC1, VC2, VC3, VC4, VC5, VC6, VC7, VC8, VC9, reduceIte, reduceCtorEq, Nat.reduceEqDiff, Nat.reduceAdd, Nat.reduceMul, Nat.reduceBEq, Nat.reduceLT, Nat.reduceLeDiff, Int.reduceEq, Int.reduceLT, Int.reduceLE, Int.reduceNeg, Int.reduceToNat, Int.reduceAdd, Nat.reduceDiv, Nat.reduceSub, Nat.reduceMod, encL, MC0, MC1, MC2, h] | refine callX_of (within_ret _ _) (by first | exact Or.inr rfl | exact Or.inl rfl) ?_ <;> simp only [VC0, VC1, VC2, VC3, VC4, VC5, VC6, VC7, VC8, VC9, reduceIte, reduceCtorEq, Nat.reduceEqDiff, Nat.reduceAdd, Nat.reduceMul, Nat.reduceBEq, Nat.reduceLT, Nat.reduceLeDiff, Int.reduceEq, Int.reduceLT, Int.reduceLE, Int.reduceNeg, Int.reduceToNat, Int.reduceAdd, Nat.reduceDiv, Nat.reduceSub, Nat.reduceMod, encL, MC0, MC1, MC2] | (unfold InI64; omega) | refine And.intro ?_ ?_)
  all_goals try omega
  all_goals try (simp [mayB, mayHead, *]; done)
  rename_i h1 h2 h3 h4
  have hhead : mayHead m = true := by simp [mayHead, *]
  clear h1 h2 h3 h4 h
  refine loop_vcg (ι := Nat × (Nat → Nat)) (fun (k, c) => stO [(1, .box m.cells), (39, .val (encL (fun k : List Int => k.flatMap cI) m.known)), (40, .val (.int .i64 m.known.length)), (41, .val (.int .i64 k))] c)
    (fun (k, _) => k ≤ m.known.length ∧ (m.known.drop k).all (fun k => k.all fun i => inB i m.free) = m.known.all (fun k => k.all fun i => inB i m.free)) (fun (k, _) => m.known.length - k) (0, _) ⟨by omega, rfl⟩ (ent_of _ [] rfl rfl (by simp only [VC0, VC1, VC2, VC3, VC4, VC5, VC6, VC7, VC8, VC9, reduceIte, reduceCtorEq, Nat.reduceEqDiff, Nat.reduceAdd, Nat.reduceMul, Nat.reduceBEq, Nat.reduceLT, Nat.reduceLeDiff, Int.reduceEq, Int.reduceLT, Int.reduceLE, Int.reduceNeg, Int.reduceToNat, Int.reduceAdd, Nat.reduceDiv, Nat.reduceSub, Nat.reduceMod, encL, MC0, MC1, MC2])) ?_
  rintro ⟨k, c⟩ ⟨hk, hb⟩
  simp only [VC0, VC1, VC2, VC3, VC4, VC5, VC6, VC7, VC8, VC9, reduceIte, reduceCtorEq, Nat.reduceEqDiff, Nat.reduceAdd, Nat.reduceMul, Nat.reduceBEq, Nat.reduceLT, Nat.reduceLeDiff, Int.reduceEq, Int.reduceLT, Int.reduceLE, Int.reduceNeg, Int.reduceToNat, Int.reduceAdd, Nat.reduceDiv, Nat.reduceSub, Nat.reduceMod, encL, MC0, MC1, MC2]
  refine condD_of (fun h => ?_) (fun h => ?_)
  · have hk' : k < m.known.length := by omega
    rw [all_drop _ _ _ hk'] at hb
    have h2 := (hkno _ (List.getElem_mem hk')).1
    have hld := known_ld (fun k hk => (hkno k hk).1) hk'
    have hin : 0 ≤ (k : Int) ∧ (k : Int) < m.known.length := by omega
    generalize m.known[k] = kk at hld hb h2
    match kk, h2 with
    | [p, q], _ =>
      simp only [VC0, VC1, VC2, VC3, VC4, VC5, VC6, VC7, VC8, VC9, reduceIte, reduceCtorEq, Nat.reduceEqDiff, Nat.reduceAdd, Nat.reduceMul, Nat.reduceBEq, Nat.reduceLT, Nat.reduceLeDiff, Int.reduceEq, Int.reduceLT, Int.reduceLE, Int.reduceNeg, Int.reduceToNat, Int.reduceAdd, Nat.reduceDiv, Nat.reduceSub, Nat.reduceMod, encL, MC0, MC1, MC2, hld, hin, List.flatMap_cons, List.flatMap_nil, cI, setCells, List.take_zero, List.drop_nil, List.take_succ_cons, List.drop_zero, List.drop_succ_cons]
      refine callV_of (all_ret [p, q] m.free (by simp [maxLen_eq])) (.inr rfl) ?_
      simp only [VC0, VC1, VC2, VC3, VC4, VC5, VC6, VC7, VC8, VC9, reduceIte, reduceCtorEq, Nat.reduceEqDiff, Nat.reduceAdd, Nat.reduceMul, Nat.reduceBEq, Nat.reduceLT, Nat.reduceLeDiff, Int.reduceEq, Int.reduceLT, Int.reduceLE, Int.reduceNeg, Int.reduceToNat, Int.reduceAdd, Nat.reduceDiv, Nat.reduceSub, Nat.reduceMod, encL, MC0, MC1, MC2]
      simp only [List.all_cons, List.all_nil, Bool.and_true] at hb
      repeat' (first | refine condDn_of (fun h => ?_) (fun h => ?_) <;> simp only [VC0, VC1, VC2, VC3, VC4, VC5, VC6, VC7, VC8, VC9, reduceIte, reduceCtorEq, Nat.reduceEqDiff, Nat.reduceAdd, Nat.reduceMul, Nat.reduceBEq, Nat.reduceLT, Nat.reduceLeDiff, Int.reduceEq, Int.reduceLT, Int.reduceLE, Int.reduceNeg, Int.reduceToNat, Int.reduceAdd, Nat.reduceDiv, Nat.reduceSub, Nat.reduceMod, encL, MC0, MC1, MC2, h] | refine condD_of (fun h => ?_) (fun h => ?_) <;> simp only [VC0, VC1, VC2, VC3, VC4, VC5, VC6, VC7, VC8, VC9, reduceIte, reduceCtorEq, Nat.reduceEqDiff, Nat.reduceAdd, Nat.reduceMul, Nat.reduceBEq, Nat.reduceLT, Nat.reduceLeDiff, Int.reduceEq, Int.reduceLT, Int.reduceLE, Int.reduceNeg, Int.reduceToNat, Int.reduceAdd, Nat.reduceDiv, Nat.reduceSub, Nat.reduceMod, encL, MC0, MC1, MC2, h] | refine condVn_of (fun h => ?_) (fun h => ?_) <;> simp only [VC0, VC1, VC2, VC3, VC4, VC5, VC6, VC7, VC8, VC9, reduceIte, reduceCtorEq, Nat.reduceEqDiff, Nat.reduceAdd, Nat.reduceMul, Nat.reduceBEq, Nat.reduceLT, Nat.reduceLeDiff, Int.reduceEq, Int.reduceLT, Int.reduceLE, Int.reduceNeg, Int.reduceToNat, Int.reduceAdd, Nat.reduceDiv, Nat.reduceSub, Nat.reduceMod, encL, MC0, MC1, MC2, h] | refine condV_of (fun h => ?_) (fun h => ?_) <;> simp only [VC0, VC1, VC2, VC3, VC4, VC5, VC6, VC7, VC8, VC9, reduceIte, reduceCtorEq, Nat.reduceEqDiff, Nat.reduceAdd, Nat.reduceMul, Nat.reduceBEq, Nat.reduceLT, Nat.reduceLeDiff, Int.reduceEq, Int.reduceLT, Int.reduceLE, Int.reduceNeg, Int.reduceToNat, Int.reduceAdd, Nat.reduceDiv, Nat.reduceSub, Nat.reduceMod, encL, MC0, MC1, MC2, h] | refine gdDn_of (fun h => ?_) (fun h => ?_) <;> simp only [VC0, VC1, VC2, VC3, VC4, VC5, VC6, VC7, VC8, VC9, reduceIte, reduceCtorEq, Nat.reduceEqDiff, Nat.reduceAdd, Nat.reduceMul, Nat.reduceBEq, Nat.reduceLT, Nat.reduceLeDiff, Int.reduceEq, Int.reduceLT, Int.reduceLE, Int.reduceNeg, Int.reduceToNat, Int.reduceAdd, Nat.reduceDiv, Nat.reduceSub, Nat.reduceMod, encL, MC0, MC1, MC2, h] | refine gdD_of (fun h => ?_) (fun h => ?_) <;> simp only [VC0, VC1, VC2, VC3, VC4, VC5, VC6, VC7, VC8, VC9, reduceIte, reduceCtorEq, Nat.reduceEqDiff, Nat.reduceAdd, Nat.reduceMul, Nat.reduceBEq, Nat.reduceLT, Nat.reduceLeDiff, Int.reduceEq, Int.reduceLT, Int.reduceLE, Int.reduceNeg, Int.reduceToNat, Int.reduceAdd, Nat.reduceDiv, Nat.reduceSub, Nat.reduceMod, encL, MC0, MC1, MC2, h] | refine gdVMn_of (fun h => ?_) (fun h => ?_) <;> simp only [VC0, VC1, VC2, VC3, VC4, VC5, VC6, VC7, VC8, VC9, reduceIte, reduceCtorEq, Nat.reduceEqDiff, Nat.reduceAdd, Nat.reduceMul, Nat.reduceBEq, Nat.reduceLT, Nat.reduceLeDiff, Int.reduceEq, Int.reduceLT, Int.reduceLE, Int.reduceNeg, Int.reduceToNat, Int.reduceAdd, Nat.reduceDiv, Nat.reduceSub, Nat.reduceMod, encL, MC0, MC1, MC2, h] | refine gdVM_of (fun h => ?_) (fun h => ?_) <;> simp only [VC0, VC1, VC2, VC3, VC4, VC5, VC6, VC7, VC8, VC9, reduceIte, reduceCtorEq, Nat.reduceEqDiff, Nat.reduceAdd, Nat.reduceMul, Nat.reduceBEq, Nat.reduceLT, Nat.reduceLeDiff, Int.reduceEq, Int.reduceLT, Int.reduceLE, Int.reduceNeg, Int.reduceToNat, Int.reduceAdd, Nat.reduceDiv, Nat.reduceSub, Nat.reduceMod, encL, MC0, MC1, MC2, h] | refine gpDn_of (fun h => ?_) (fun h => ?_) <;> simp only [VC0, VC1, VC2, VC3, VC4, VC5, VC6, VC7, VC8, VC9, reduceIte, reduceCtorEq, Nat.reduceEqDiff, Nat.reduceAdd, Nat.reduceMul, Nat.reduceBEq, Nat.reduceLT, Nat.reduceLeDiff, Int.reduceEq, Int.reduceLT, Int.reduceLE, Int.reduceNeg, Int.reduceToNat, Int.reduceAdd, Nat.reduceDiv, Nat.reduceSub, Nat.reduceMod, encL, MC0, MC1, MC2, h] | refine gpD_of (fun h => ?_) (fun h => ?_) <;> simp only [VC0, VC1, VC2, VC3, VC4, VC5, VC6, VC7, VC8, VC9, reduceIte, reduceCtorEq, Nat.reduceEqDiff, Nat.reduceAdd, Nat.reduceMul, Nat.reduceBEq, Nat.reduceLT, Nat.reduceLeDiff, Int.reduceEq, Int.reduceLT, Int.reduceLE, Int.reduceNeg, Int.reduceToNat, Int.reduceAdd, Nat.reduceDiv, Nat.reduceSub, Nat.reduceMod, encL, MC0, MC1, MC2, h] | refine gdVn_of (fun h => ?_) (fun h => ?_) <;> simp only [VC0, VC1, VC2, VC3, VC4, VC5, VC6, VC7, VC8, VC9, reduceIte, reduceCtorEq, Nat.reduceEqDiff, Nat.reduceAdd, Nat.reduceMul, Nat.reduceBEq, Nat.reduceLT, Nat.reduceLeDiff, Int.reduceEq, Int.reduceLT, Int.reduceLE, Int.reduceNeg, Int.reduceToNat, Int.reduceAdd, Nat.reduceDiv, Nat.reduceSub, Nat.reduceMod, encL, MC0, MC1, MC2, h] | refine gdV_of (fun h => ?_) (fun h => ?_) <;> simp only [VC0, VC1, VC2, VC3, VC4, VC5, VC6, VC7, VC8, VC9, reduceIte, reduceCtorEq, Nat.reduceEqDiff, Nat.reduceAdd, Nat.reduceMul, Nat.reduceBEq, Nat.reduceLT, Nat.reduceLeDiff, Int.reduceEq, Int.reduceLT, Int.reduceLE, Int.reduceNeg, Int.reduceToNat, Int.reduceAdd, Nat.reduceDiv, Nat.reduceSub, Nat.reduceMod, encL, MC0, MC1, MC2, h] | (unfold InI64; omega) | refine And.intro ?_ ?_)
      · rw [h] at hb
        simp only [V.bool.injEq, mayB, ← hb]; simp
      · rw [h] at hb
        exact backTo_of (k + 1, _) ⟨by omega, hb⟩ (by simp only []; omega) (ent_of _ [] rfl rfl (by simp only [VC0, VC1, VC2, VC3, VC4, VC5, VC6, VC7, VC8, VC9, reduceIte, reduceCtorEq, Nat.reduceEqDiff, Nat.reduceAdd, Nat.reduceMul, Nat.reduceBEq, Nat.reduceLT, Nat.reduceLeDiff, Int.reduceEq, Int.reduceLT, Int.reduceLE, Int.reduceNeg, Int.reduceToNat, Int.reduceAdd, Nat.reduceDiv, Nat.reduceSub, Nat.reduceMod, encL, MC0, MC1, MC2]))
  · have hk' : k = m.known.length := by omega
    subst hk'
    simp only [List.drop_length, List.all_nil] at hb
    clear h hk
    simp only [VC0, VC1, VC2, VC3, VC4, VC5, VC6, VC7, VC8, VC9, reduceIte, reduceCtorEq, Nat.reduceEqDiff, Nat.reduceAdd, Nat.reduceMul, Nat.reduceBEq, Nat.reduceLT, Nat.reduceLeDiff, Int.reduceEq, Int.reduceLT, Int.reduceLE, Int.reduceNeg, Int.reduceToNat, Int.reduceAdd, Nat.reduceDiv, Nat.reduceSub, Nat.reduceMod, encL, MC0, MC1, MC2]
    refine loop_vcg (ι := Nat × (Nat → Nat)) (fun (k, c) => stO [(1, .box m.cells), (52, .val (encL MLocal.cells m.locals)), (53, .val (.int .i64 m.locals.length)), (54, .val (.int .i64 k))] c)
      (fun (k, _) => k ≤ m.locals.length ∧ (m.locals.drop k).all (fun l => rtB m.regions 64 l.type) = m.locals.all (fun l => rtB m.regions 64 l.type)) (fun (k, _) => m.locals.length - k) (0, _) ⟨by omega, rfl⟩ (ent_of _ [] rfl rfl (by simp only [VC0, VC1, VC2, VC3, VC4, VC5, VC6, VC7, VC8, VC9, reduceIte, reduceCtorEq, Nat.reduceEqDiff, Nat.reduceAdd, Nat.reduceMul, Nat.reduceBEq, Nat.reduceLT, Nat.reduceLeDiff, Int.reduceEq, Int.reduceLT, Int.reduceLE, Int.reduceNeg, Int.reduceToNat, Int.reduceAdd, Nat.reduceDiv, Nat.reduceSub, Nat.reduceMod, encL, MC0, MC1, MC2])) ?_
    rintro ⟨k, c⟩ ⟨hk, hb2⟩
    simp only [VC0, VC1, VC2, VC3, VC4, VC5, VC6, VC7, VC8, VC9, reduceIte, reduceCtorEq, Nat.reduceEqDiff, Nat.reduceAdd, Nat.reduceMul, Nat.reduceBEq, Nat.reduceLT, Nat.reduceLeDiff, Int.reduceEq, Int.reduceLT, Int.reduceLE, Int.reduceNeg, Int.reduceToNat, Int.reduceAdd, Nat.reduceDiv, Nat.reduceSub, Nat.reduceMod, encL, MC0, MC1, MC2]
    refine condD_of (fun h => ?_) (fun h => ?_)
    · have hk' : k < m.locals.length := by omega
      rw [all_drop _ _ _ hk'] at hb2
      have hin : 0 ≤ (k : Int) ∧ (k : Int) < m.locals.length := by omega
      simp only [VC0, VC1, VC2, VC3, VC4, VC5, VC6, VC7, VC8, VC9, reduceIte, reduceCtorEq, Nat.reduceEqDiff, Nat.reduceAdd, Nat.reduceMul, Nat.reduceBEq, Nat.reduceLT, Nat.reduceLeDiff, Int.reduceEq, Int.reduceLT, Int.reduceLE, Int.reduceNeg, Int.reduceToNat, Int.reduceAdd, Nat.reduceDiv, Nat.reduceSub, Nat.reduceMod, encL, MC0, MC1, MC2, hk', hin]
      repeat' (first | refine condDn_of (fun h => ?_) (fun h => ?_) <;> simp only [VC0, VC1, VC2, VC3, VC4, VC5, VC6, VC7, VC8, VC9, reduceIte, reduceCtorEq, Nat.reduceEqDiff, Nat.reduceAdd, Nat.reduceMul, Nat.reduceBEq, Nat.reduceLT, Nat.reduceLeDiff, Int.reduceEq, Int.reduceLT, Int.reduceLE, Int.reduceNeg, Int.reduceToNat, Int.reduceAdd, Nat.reduceDiv, Nat.reduceSub, Nat.reduceMod, encL, MC0, MC1, MC2, h] | refine condD_of (fun h => ?_) (fun h => ?_) <;> simp only [VC0, VC1, VC2, VC3, VC4, VC5, VC6, VC7, VC8, VC9, reduceIte, reduceCtorEq, Nat.reduceEqDiff, Nat.reduceAdd, Nat.reduceMul, Nat.reduceBEq, Nat.reduceLT, Nat.reduceLeDiff, Int.reduceEq, Int.reduceLT, Int.reduceLE, Int.reduceNeg, Int.reduceToNat, Int.reduceAdd, Nat.reduceDiv, Nat.reduceSub, Nat.reduceMod, encL, MC0, MC1, MC2, h] | refine condVn_of (fun h => ?_) (fun h => ?_) <;> simp only [VC0, VC1, VC2, VC3, VC4, VC5, VC6, VC7, VC8, VC9, reduceIte, reduceCtorEq, Nat.reduceEqDiff, Nat.reduceAdd, Nat.reduceMul, Nat.reduceBEq, Nat.reduceLT, Nat.reduceLeDiff, Int.reduceEq, Int.reduceLT, Int.reduceLE, Int.reduceNeg, Int.reduceToNat, Int.reduceAdd, Nat.reduceDiv, Nat.reduceSub, Nat.reduceMod, encL, MC0, MC1, MC2, h] | refine condV_of (fun h => ?_) (fun h => ?_) <;> simp only [VC0, VC1, VC2, VC3, VC4, VC5, VC6, VC7, VC8, VC9, reduceIte, reduceCtorEq, Nat.reduceEqDiff, Nat.reduceAdd, Nat.reduceMul, Nat.reduceBEq, Nat.reduceLT, Nat.reduceLeDiff, Int.reduceEq, Int.reduceLT, Int.reduceLE, Int.reduceNeg, Int.reduceToNat, Int.reduceAdd, Nat.reduceDiv, Nat.reduceSub, Nat.reduceMod, encL, MC0, MC1, MC2, h] | refine gdDn_of (fun h => ?_) (fun h => ?_) <;> simp only [VC0, VC1, VC2, VC3, VC4, VC5, VC6, VC7, VC8, VC9, reduceIte, reduceCtorEq, Nat.reduceEqDiff, Nat.reduceAdd, Nat.reduceMul, Nat.reduceBEq, Nat.reduceLT, Nat.reduceLeDiff, Int.reduceEq, Int.reduceLT, Int.reduceLE, Int.reduceNeg, Int.reduceToNat, Int.reduceAdd, Nat.reduceDiv, Nat.reduceSub, Nat.reduceMod, encL, MC0, MC1, MC2, h] | refine gdD_of (fun h => ?_) (fun h => ?_) <;> simp only [VC0, VC1, VC2, VC3, VC4, VC5, VC6, VC7, VC8, VC9, reduceIte, reduceCtorEq, Nat.reduceEqDiff, Nat.reduceAdd, Nat.reduceMul, Nat.reduceBEq, Nat.reduceLT, Nat.reduceLeDiff, Int.reduceEq, Int.reduceLT, Int.reduceLE, Int.reduceNeg, Int.reduceToNat, Int.reduceAdd, Nat.reduceDiv, Nat.reduceSub, Nat.reduceMod, encL, MC0, MC1, MC2, h] | refine gdVMn_of (fun h => ?_) (fun h => ?_) <;> simp only [VC0, VC1, VC2, VC3, VC4, VC5, VC6, VC7, VC8, VC9, reduceIte, reduceCtorEq, Nat.reduceEqDiff, Nat.reduceAdd, Nat.reduceMul, Nat.reduceBEq, Nat.reduceLT, Nat.reduceLeDiff, Int.reduceEq, Int.reduceLT, Int.reduceLE, Int.reduceNeg, Int.reduceToNat, Int.reduceAdd, Nat.reduceDiv, Nat.reduceSub, Nat.reduceMod, encL, MC0, MC1, MC2, h] | refine gdVM_of (fun h => ?_) (fun h => ?_) <;> simp only [VC0, VC1, VC2, VC3, VC4, VC5, VC6, VC7, VC8, VC9, reduceIte, reduceCtorEq, Nat.reduceEqDiff, Nat.reduceAdd, Nat.reduceMul, Nat.reduceBEq, Nat.reduceLT, Nat.reduceLeDiff, Int.reduceEq, Int.reduceLT, Int.reduceLE, Int.reduceNeg, Int.reduceToNat, Int.reduceAdd, Nat.reduceDiv, Nat.reduceSub, Nat.reduceMod, encL, MC0, MC1, MC2, h] | refine gpDn_of (fun h => ?_) (fun h => ?_) <;> simp only [VC0, VC1, VC2, VC3, VC4, VC5, VC6, VC7, VC8, VC9, reduceIte, reduceCtorEq, Nat.reduceEqDiff, Nat.reduceAdd, Nat.reduceMul, Nat.reduceBEq, Nat.reduceLT, Nat.reduceLeDiff, Int.reduceEq, Int.reduceLT, Int.reduceLE, Int.reduceNeg, Int.reduceToNat, Int.reduceAdd, Nat.reduceDiv, Nat.reduceSub, Nat.reduceMod, encL, MC0, MC1, MC2, h] | refine gpD_of (fun h => ?_) (fun h => ?_) <;> simp only [VC0, VC1, VC2, VC3, VC4, VC5, VC6, VC7, VC8, VC9, reduceIte, reduceCtorEq, Nat.reduceEqDiff, Nat.reduceAdd, Nat.reduceMul, Nat.reduceBEq, Nat.reduceLT, Nat.reduceLeDiff, Int.reduceEq, Int.reduceLT, Int.reduceLE, Int.reduceNeg, Int.reduceToNat, Int.reduceAdd, Nat.reduceDiv, Nat.reduceSub, Nat.reduceMod, encL, MC0, MC1, MC2, h] | refine gdVn_of (fun h => ?_) (fun h => ?_) <;> simp only [VC0, VC1, VC2, VC3, VC4, VC5, VC6, VC7, VC8, VC9, reduceIte, reduceCtorEq, Nat.reduceEqDiff, Nat.reduceAdd, Nat.reduceMul, Nat.reduceBEq, Nat.reduceLT, Nat.reduceLeDiff, Int.reduceEq, Int.reduceLT, Int.reduceLE, Int.reduceNeg, Int.reduceToNat, Int.reduceAdd, Nat.reduceDiv, Nat.reduceSub, Nat.reduceMod, encL, MC0, MC1, MC2, h] | refine gdV_of (fun h => ?_) (fun h => ?_) <;> simp only [VC0, VC1, VC2, VC3, VC4, VC5, VC6, VC7, VC8, VC9, reduceIte, reduceCtorEq, Nat.reduceEqDiff, Nat.reduceAdd, Nat.reduceMul, Nat.reduceBEq, Nat.reduceLT, Nat.reduceLeDiff, Int.reduceEq, Int.reduceLT, Int.reduceLE, Int.reduceNeg, Int.reduceToNat, Int.reduceAdd, Nat.reduceDiv, Nat.reduceSub, Nat.reduceMod, encL, MC0, MC1, MC2, h] | refine callX_of (kind_ret m.regions 64 _ (hlo _ (List.getElem_mem hk')).2 (by decide)) (by first | exact Or.inr rfl | exact Or.inl rfl) ?_ <;> simp only [VC0, VC1, VC2, VC3, VC4, VC5, VC6, VC7, VC8, VC9, reduceIte, reduceCtorEq, Nat.reduceEqDiff, Nat.reduceAdd, Nat.reduceMul, Nat.reduceBEq, Nat.reduceLT, Nat.reduceLeDiff, Int.reduceEq, Int.reduceLT, Int.reduceLE, Int.reduceNeg, Int.reduceToNat, Int.reduceAdd, Nat.reduceDiv, Nat.reduceSub, Nat.reduceMod, encL, MC0, MC1, MC2] | (unfold InI64; omega) | refine And.intro ?_ ?_)
      · rw [h] at hb2
        simp only [V.bool.injEq, mayB, ← hb2]; simp
      · rw [h] at hb2
        exact backTo_of (k + 1, _) ⟨by omega, hb2⟩ (by simp only []; omega) (ent_of _ [] rfl rfl (by simp only [VC0, VC1, VC2, VC3, VC4, VC5, VC6, VC7, VC8, VC9, reduceIte, reduceCtorEq, Nat.reduceEqDiff, Nat.reduceAdd, Nat.reduceMul, Nat.reduceBEq, Nat.reduceLT, Nat.reduceLeDiff, Int.reduceEq, Int.reduceLT, Int.reduceLE, Int.reduceNeg, Int.reduceToNat, Int.reduceAdd, Nat.reduceDiv, Nat.reduceSub, Nat.reduceMod, encL, MC0, MC1, MC2]))
    · have hk' : k = m.locals.length := by omega
      subst hk'
      simp only [List.drop_length, List.all_nil] at hb2
      simp only [VC0, VC1, VC2, VC3, VC4, VC5, VC6, VC7, VC8, VC9, reduceIte, reduceCtorEq, Nat.reduceEqDiff, Nat.reduceAdd, Nat.reduceMul, Nat.reduceBEq, Nat.reduceLT, Nat.reduceLeDiff, Int.reduceEq, Int.reduceLT, Int.reduceLE, Int.reduceNeg, Int.reduceToNat, Int.reduceAdd, Nat.reduceDiv, Nat.reduceSub, Nat.reduceMod, encL, MC0, MC1, MC2]
      refine callX_of (containsInst_ret m.code _ [.ip m.cells 0] (fun x => !instB x m.locals.length m.regions m.code.length) hc (fun H => rfl) (fun H => rfl) (fun H => rfl) (fun H => rfl) (fun x hx => may1_ret x (hco x hx) m)) (.inr rfl) ?_
      simp only [VC0, VC1, VC2, VC3, VC4, VC5, VC6, VC7, VC8, VC9, reduceIte, reduceCtorEq, Nat.reduceEqDiff, Nat.reduceAdd, Nat.reduceMul, Nat.reduceBEq, Nat.reduceLT, Nat.reduceLeDiff, Int.reduceEq, Int.reduceLT, Int.reduceLE, Int.reduceNeg, Int.reduceToNat, Int.reduceAdd, Nat.reduceDiv, Nat.reduceSub, Nat.reduceMod, encL, MC0, MC1, MC2, any_not]
      simp only [mayB, hhead, ← hb, ← hb2, Bool.true_and]

end Go.Proofs.YtlkdcgfjmhjjpaaGreat
