/-
  Fh Gx Gy Gz GA GB MirB RowA RowP: put together.
-/
import Derived.Test.YtlkdcgfjmhjjpaaGreatProg
import Derived.Test.YtlkdcgfjmhjjpaaGreatGOc
import Derived.Test.YtlkdcgfjmhjjpaaGreatGOf
import Derived.Test.YtlkdcgfjmhjjpaaGreatGOe
import Derived.Test.YtlkdcgfjmhjjpaaGreatGOd
import Derived.Test.YtlkdcgfjmhjjpaaGreatRows
import Derived.WalkKit
import Derived.ProofKit
import Derived.OpenShut
import Derived.ShutString
import Derived.ChangeOld
import Derived.Below
namespace Go.Proofs.YtlkdcgfjmhjjpaaGreat
open Go Go.Lg
set_option maxRecDepth 100000

def lch49 : LC := .seq (.rego 0 [⟨some 3, .box (.tmp 1), none⟩, ⟨some 4, .mov (.con (.bool false)), none⟩, ⟨some 5, .mov (.con .e0), none⟩]) (.keep [0, 3] (.seq (.rego 1 [⟨some 6, .new [.bool false], none⟩, ⟨none, .store 1 (.tmp 6) (.con (.bool false)), none⟩]) (.keep [0, 3, 6] (.seq (.rego 2 [⟨some 8, .mkfn 66 [.tmp 6], none⟩, ⟨some 7, .mov (.tmp 8), none⟩]) (.keep [0, 3, 6, 7] (.seq (.seq (.rego 3 [⟨some 9, .fad 0 (.tmp 3), none⟩, ⟨some 10, .load false 1 (.tmp 9), none⟩]) (.keep [0, 3, 6, 7, 10] (.block 0 (.seq (.rego 4 [⟨some 12, .bin .eql (.tmp 10) (.con (.int .i64 1)), none⟩, ⟨some 11, .mov (.tmp 12), none⟩]) (.keep [0, 3, 6, 7, 10, 11] (.cond (.tmp 11) (.keep [0, 3, 6, 7] (.seq (.seq (.rego 5 [⟨some 13, .fad 5 (.tmp 3), none⟩, ⟨some 14, .fad 0 (.tmp 13), none⟩, ⟨some 15, .load false 1 (.tmp 14), none⟩, ⟨some 16, .bin .eql (.tmp 15) (.con (.int .i64 2)), none⟩, ⟨some 17, .mov (.tmp 16), none⟩, ⟨some 18, .fad 5 (.tmp 3), some ⟨17, false⟩⟩, ⟨some 19, .fad 0 (.tmp 18), some ⟨17, false⟩⟩, ⟨some 20, .load false 1 (.tmp 19), some ⟨17, false⟩⟩, ⟨some 21, .bin .eql (.tmp 20) (.con (.int .i64 3)), some ⟨17, false⟩⟩, ⟨some 22, .pick (.tmp 17) (.con (.bool true)) (.tmp 21), none⟩]) (.keep [0, 3, 6, 7, 22] (.cond (.tmp 22) (.keep [0, 3, 6, 7] (.rego 6 [⟨some 23, .mov (.tmp 0), none⟩, ⟨some 24, .fad 5 (.tmp 3), none⟩, ⟨some 25, .fad 10 (.tmp 24), none⟩, ⟨some 26, .load true 2 (.tmp 25), none⟩, ⟨some 27, .call 67 [.tmp 23, .tmp 26], none⟩, ⟨none, .store 1 (.tmp 6) (.tmp 27), none⟩])) .skip))) (.keep [0, 3, 6, 7] (.seq (.rego 7 [⟨some 28, .mov (.tmp 0), none⟩, ⟨some 29, .fad 5 (.tmp 3), none⟩, ⟨some 30, .load true 16 (.tmp 29), none⟩, ⟨some 31, .mov (.tmp 7), none⟩, ⟨some 32, .call 40 [.tmp 28, .tmp 30, .tmp 31], none⟩, ⟨some 0, .mov (.tmp 32), none⟩]) (.keep [0, 3, 6] (.rego 8 [⟨some 33, .load false 1 (.tmp 6), none⟩, ⟨some 34, .mov (.tmp 33), none⟩, ⟨some 35, .fad 2 (.tmp 3), some ⟨34, false⟩⟩, ⟨some 36, .load false 1 (.tmp 35), some ⟨34, false⟩⟩, ⟨some 37, .mov (.tmp 36), some ⟨34, false⟩⟩, ⟨some 38, .fad 3 (.tmp 3), some ⟨37, true⟩⟩, ⟨some 39, .fad 1 (.tmp 38), some ⟨37, true⟩⟩, ⟨some 40, .load false 1 (.tmp 39), some ⟨37, true⟩⟩, ⟨some 41, .call 35 [.tmp 40, .con (.str { data := #[42] })], some ⟨37, true⟩⟩, ⟨some 42, .pick (.tmp 37) (.tmp 41) (.con (.bool false)), some ⟨34, false⟩⟩, ⟨some 43, .mov (.tmp 42), some ⟨34, false⟩⟩, ⟨some 44, .mov (.tmp 0), some ⟨43, true⟩⟩, ⟨some 45, .fad 3 (.tmp 3), some ⟨43, true⟩⟩, ⟨some 46, .load true 2 (.tmp 45), some ⟨43, true⟩⟩, ⟨some 47, .call 67 [.tmp 44, .tmp 46], some ⟨43, true⟩⟩, ⟨some 48, .pick (.tmp 43) (.tmp 47) (.con (.bool false)), some ⟨34, false⟩⟩, ⟨some 49, .pick (.tmp 34) (.con (.bool true)) (.tmp 48), none⟩, ⟨none, .store 1 (.tmp 6) (.tmp 49), none⟩])))))) (.keep [0, 3, 6, 7, 10] (.seq (.rego 9 [⟨some 51, .bin .eql (.tmp 10) (.con (.int .i64 3)), none⟩, ⟨some 50, .mov (.tmp 51), none⟩]) (.keep [0, 3, 6, 7, 10, 50] (.cond (.tmp 50) (.keep [0, 3, 6] (.rego 10 [⟨some 52, .mov (.tmp 0), none⟩, ⟨some 53, .fad 3 (.tmp 3), none⟩, ⟨some 54, .load true 2 (.tmp 53), none⟩, ⟨some 55, .call 67 [.tmp 52, .tmp 54], none⟩, ⟨none, .store 1 (.tmp 6) (.tmp 55), none⟩])) (.keep [0, 3, 6, 7, 10] (.seq (.rego 11 [⟨some 57, .bin .eql (.tmp 10) (.con (.int .i64 4)), none⟩, ⟨some 56, .mov (.tmp 57), none⟩]) (.keep [0, 3, 6, 7, 56] (.cond (.tmp 56) (.keep [0, 3, 6, 7] (.rego 12 [⟨some 58, .mov (.tmp 7), none⟩, ⟨some 59, .mov (.tmp 0), none⟩, ⟨some 60, .fad 5 (.tmp 3), none⟩, ⟨some 61, .fad 1 (.tmp 60), none⟩, ⟨some 62, .load true 4 (.tmp 61), none⟩, ⟨some 63, .callv (.tmp 58) [.tmp 59, .tmp 62], none⟩])) .skip)))))))))))))) (.keep [0, 6] (.seq (.rego 13 [⟨some 64, .load false 1 (.tmp 6), none⟩, ⟨some 65, .mov (.tmp 0), none⟩, ⟨some 4, .mov (.tmp 64), none⟩, ⟨some 5, .mov (.tmp 65), none⟩]) .ret))))))))
theorem fdh49 : fnData Tryz.prog 49 = some (66, lch49.erase, [LRV.tmp 4, LRV.tmp 5]) := by kernel_rfl

def lch66 : LC := .seq (.rego 0 [⟨some 4, .box (.tmp 1), none⟩]) (.rego 1 [⟨some 5, .load false 1 (.tmp 2), none⟩, ⟨some 6, .mov (.tmp 5), none⟩, ⟨some 7, .fad 0 (.tmp 4), some ⟨6, false⟩⟩, ⟨some 8, .load false 1 (.tmp 7), some ⟨6, false⟩⟩, ⟨some 9, .bin .eql (.tmp 8) (.con (.int .i64 3)), some ⟨6, false⟩⟩, ⟨some 10, .mov (.tmp 9), some ⟨6, false⟩⟩, ⟨some 11, .fad 0 (.tmp 4), some ⟨10, false⟩⟩, ⟨some 12, .load false 1 (.tmp 11), some ⟨10, false⟩⟩, ⟨some 13, .bin .eql (.tmp 12) (.con (.int .i64 4)), some ⟨10, false⟩⟩, ⟨some 14, .pick (.tmp 10) (.con (.bool true)) (.tmp 13), some ⟨6, false⟩⟩, ⟨some 15, .mov (.tmp 14), some ⟨6, false⟩⟩, ⟨some 16, .mov (.tmp 0), some ⟨15, true⟩⟩, ⟨some 17, .fad 2 (.tmp 4), some ⟨15, true⟩⟩, ⟨some 18, .load true 2 (.tmp 17), some ⟨15, true⟩⟩, ⟨some 19, .call 67 [.tmp 16, .tmp 18], some ⟨15, true⟩⟩, ⟨some 20, .pick (.tmp 15) (.tmp 19) (.con (.bool false)), some ⟨6, false⟩⟩, ⟨some 21, .pick (.tmp 6) (.con (.bool true)) (.tmp 20), none⟩, ⟨none, .store 1 (.tmp 2) (.tmp 21), none⟩])
theorem fdh66 : fnData Tryz.prog 66 = some (22, lch66.erase, []) := by kernel_rfl

def lch40 : LC := .seq (.rego 0 [⟨some 4, .box (.tmp 1), none⟩, ⟨some 6, .mov (.con .e0), none⟩]) (.seq (.seq (.rego 1 [⟨some 9, .load true 16 (.tmp 4), none⟩, ⟨some 10, .call 63 [.tmp 9], none⟩, ⟨some 11, .len false (.tmp 10), none⟩, ⟨some 12, .mov (.con (.int .i64 0)), none⟩]) (.block 0 (.loop (.seq (.rego 2 [⟨some 13, .bin .lss (.tmp 12) (.tmp 11), none⟩]) (.seq (.cond (.tmp 13) .skip (.exit 0)) (.seq (.block 1 (.seq (.rego 3 [⟨some 14, .iaS 4 (.tmp 10) (.tmp 12), none⟩, ⟨some 15, .load true 4 (.tmp 14), none⟩, ⟨some 8, .new [.int .i64 0, .int .i64 0, .int .i64 0, .e0], none⟩, ⟨none, .store 4 (.tmp 8) (.tmp 15), none⟩]) (.seq (.seq (.rego 4 [⟨some 16, .mov (.tmp 2), none⟩, ⟨some 17, .eqf true (.tmp 16) (.con .nilf), none⟩]) (.cond (.tmp 17) (.rego 5 [⟨some 18, .mov (.tmp 2), none⟩, ⟨some 19, .mov (.tmp 0), none⟩, ⟨some 20, .load true 4 (.tmp 8), none⟩, ⟨some 21, .callv (.tmp 18) [.tmp 19, .tmp 20], none⟩]) .skip)) (.seq (.rego 6 [⟨some 22, .fad 0 (.tmp 8), none⟩, ⟨some 23, .load false 1 (.tmp 22), none⟩, ⟨some 24, .bin .eql (.tmp 23) (.con (.int .i64 4)), none⟩]) (.cond (.tmp 24) (.rego 7 [⟨some 25, .mov (.tmp 0), none⟩, ⟨some 26, .fad 2 (.tmp 8), none⟩, ⟨some 27, .load true 2 (.tmp 26), none⟩, ⟨some 28, .call 11 [.tmp 25, .tmp 27], none⟩, ⟨some 0, .mov (.tmp 28), none⟩]) .skip))))) (.rego 8 [⟨some 29, .bin .add (.tmp 12) (.con (.int .i64 1)), none⟩, ⟨some 12, .mov (.tmp 29), none⟩]))))))) (.seq (.rego 9 [⟨some 30, .mov (.tmp 0), none⟩, ⟨some 6, .mov (.tmp 30), none⟩]) .ret))
theorem fdh40 : fnData Tryz.prog 40 = some (31, lch40.erase, [LRV.tmp 6]) := by kernel_rfl

def lch25 : LC := .seq (.rego 0 [⟨some 1, .box (.tmp 0), none⟩, ⟨some 2, .mov (.con .e0), none⟩]) (.keep [1] (.seq (.rego 1 [⟨some 9, .load true 6 (.tmp 1), none⟩, ⟨some 10, .call 23 [.tmp 9], none⟩, ⟨some 3, .mov (.tmp 10), none⟩]) (.keep [1, 3] (.seq (.rego 2 [⟨some 4, .mov (.con .e0), none⟩]) (.keep [1, 3, 4] (.seq (.seq (.rego 3 [⟨some 11, .load true 6 (.tmp 1), none⟩, ⟨some 12, .call 46 [.tmp 11], none⟩, ⟨some 13, .len false (.tmp 12), none⟩, ⟨some 14, .mov (.con (.int .i64 0)), none⟩]) (.keep [1, 3, 4, 12, 13, 14] (.block 0 (.loop (.seq (.rego 4 [⟨some 15, .bin .lss (.tmp 14) (.tmp 13), none⟩]) (.keep [1, 3, 4, 12, 13, 14, 15] (.seq (.cond (.tmp 15) .skip (.exit 0)) (.keep [1, 3, 4, 12, 13, 14] (.seq (.block 1 (.seq (.rego 5 [⟨some 16, .mov (.tmp 14), none⟩, ⟨some 17, .iaS 1 (.tmp 12) (.tmp 14), none⟩, ⟨some 18, .load false 1 (.tmp 17), none⟩, ⟨some 5, .mov (.tmp 16), none⟩, ⟨some 6, .mov (.tmp 18), none⟩]) (.keep [1, 3, 4, 5, 6, 12, 13, 14] (.seq (.seq (.rego 6 [⟨some 19, .mov (.tmp 6), none⟩, ⟨some 20, .un .not (.tmp 19), none⟩]) (.keep [1, 3, 4, 5, 12, 13, 14, 20] (.cond (.tmp 20) (.exit 1) .skip))) (.keep [1, 3, 4, 5, 12, 13, 14] (.seq (.regf 7 [0, 0, 3, 7, 0, 16, 0, 112, 240, 511, 1023, 2047, 2047, 4095, 16383] [⟨some 22, .mov (.tmp 3), none⟩, ⟨some 23, .mov (.tmp 5), none⟩, ⟨some 24, .iaS 1 (.tmp 22) (.tmp 23), none⟩, ⟨some 25, .load false 1 (.tmp 24), none⟩, ⟨some 26, .fad 5 (.tmp 1), none⟩, ⟨some 27, .load false 1 (.tmp 26), none⟩, ⟨some 28, .mov (.tmp 5), none⟩, ⟨some 29, .iaS 22 (.tmp 27) (.tmp 28), none⟩, ⟨some 30, .load true 22 (.tmp 29), none⟩, ⟨some 31, .call 49 [.tmp 25, .tmp 30], none⟩, ⟨some 21, .mov (.tmp 31), none⟩, ⟨some 32, .ext (.tmp 21) 0, none⟩, ⟨some 33, .ext (.tmp 21) 1, none⟩, ⟨some 7, .mov (.tmp 32), none⟩, ⟨some 8, .mov (.tmp 33), none⟩]) (.keep [1, 3, 4, 5, 7, 8, 12, 13, 14] (.seq (.seq (.rego 8 [⟨some 34, .mov (.tmp 7), none⟩]) (.keep [1, 3, 4, 5, 8, 12, 13, 14, 34] (.cond (.tmp 34) (.keep [1, 3, 4, 5, 8, 12, 13, 14] (.rego 9 [⟨some 35, .mov (.tmp 4), none⟩, ⟨some 36, .fad 5 (.tmp 1), none⟩, ⟨some 37, .load false 1 (.tmp 36), none⟩, ⟨some 38, .mov (.tmp 5), none⟩, ⟨some 39, .iaS 22 (.tmp 37) (.tmp 38), none⟩, ⟨some 40, .fad 1 (.tmp 39), none⟩, ⟨some 41, .load false 1 (.tmp 40), none⟩, ⟨some 42, .build [.int .i64 0, .int .i64 0, .int .i64 0, .int .i64 0] [⟨0, 1, .tmp 41⟩, ⟨1, 1, .con (.int .i64 1)⟩], none⟩, ⟨some 43, .bsl 1 [.int .i64 0, .int .i64 0, .int .i64 0, .int .i64 0] [⟨0, 4, .tmp 42⟩], none⟩, ⟨some 44, .app 4 32 (.tmp 35) (.tmp 43), none⟩, ⟨some 4, .mov (.tmp 44), none⟩])) .skip))) (.keep [1, 3, 4, 5, 8, 12, 13, 14] (.seq (.rego 10 [⟨some 45, .mov (.tmp 8), none⟩, ⟨some 46, .fad 5 (.tmp 1), none⟩, ⟨some 47, .load false 1 (.tmp 46), none⟩, ⟨some 48, .mov (.tmp 5), none⟩, ⟨some 49, .iaS 22 (.tmp 47) (.tmp 48), none⟩, ⟨some 50, .load true 22 (.tmp 49), none⟩, ⟨some 51, .call 50 [.tmp 45, .tmp 50], none⟩]) (.keep [1, 3, 4, 5, 12, 13, 14, 51] (.cond (.tmp 51) (.keep [1, 3, 4, 5, 12, 13, 14] (.rego 11 [⟨some 52, .mov (.tmp 4), none⟩, ⟨some 53, .fad 5 (.tmp 1), none⟩, ⟨some 54, .load false 1 (.tmp 53), none⟩, ⟨some 55, .mov (.tmp 5), none⟩, ⟨some 56, .iaS 22 (.tmp 54) (.tmp 55), none⟩, ⟨some 57, .fad 1 (.tmp 56), none⟩, ⟨some 58, .load false 1 (.tmp 57), none⟩, ⟨some 59, .build [.int .i64 0, .int .i64 0, .int .i64 0, .int .i64 0] [⟨0, 1, .tmp 58⟩, ⟨1, 1, .con (.int .i64 2)⟩], none⟩, ⟨some 60, .bsl 1 [.int .i64 0, .int .i64 0, .int .i64 0, .int .i64 0] [⟨0, 4, .tmp 59⟩], none⟩, ⟨some 61, .app 4 32 (.tmp 52) (.tmp 60), none⟩, ⟨some 4, .mov (.tmp 61), none⟩])) .skip)))))))))))) (.keep [1, 3, 4, 12, 13, 14] (.rego 12 [⟨some 62, .bin .add (.tmp 14) (.con (.int .i64 1)), none⟩, ⟨some 14, .mov (.tmp 62), none⟩]))))))))))) (.keep [4] (.seq (.rego 13 [⟨some 63, .mov (.tmp 4), none⟩, ⟨some 64, .call 51 [.tmp 63, .con (.fn 52 [])], none⟩]) (.keep [4] (.seq (.rego 14 [⟨some 65, .mov (.tmp 4), none⟩, ⟨some 66, .call 55 [.tmp 65], none⟩, ⟨some 2, .mov (.tmp 66), none⟩]) .ret))))))))))
theorem fdh25 : fnData Tryz.prog 25 = some (67, lch25.erase, [LRV.tmp 2]) := by kernel_rfl

def lch26 : LC := .seq (.rego 0 [⟨some 4, .mov (.con (.bool false)), none⟩]) (.keep [0, 1] (.seq (.seq (.rego 1 [⟨some 6, .mov (.tmp 0), none⟩, ⟨some 7, .len false (.tmp 6), none⟩, ⟨some 8, .mov (.tmp 1), none⟩, ⟨some 9, .len false (.tmp 8), none⟩, ⟨some 10, .bin .neq (.tmp 7) (.tmp 9), none⟩]) (.keep [0, 1, 10] (.cond (.tmp 10) (.keep [] (.seq (.rego 2 [⟨some 4, .mov (.con (.bool false)), none⟩]) .ret)) .skip))) (.keep [0, 1] (.seq (.seq (.rego 3 [⟨some 5, .mov (.con (.int .i64 0)), none⟩]) (.keep [0, 1, 5] (.block 0 (.loop (.seq (.seq (.rego 4 [⟨some 11, .mov (.tmp 5), none⟩, ⟨some 12, .mov (.tmp 0), none⟩, ⟨some 13, .len false (.tmp 12), none⟩, ⟨some 14, .bin .lss (.tmp 11) (.tmp 13), none⟩]) (.keep [0, 1, 5, 14] (.cond (.tmp 14) .skip (.exit 0)))) (.keep [0, 1, 5] (.seq (.block 1 (.seq (.reg 6 [⟨some 17, .mov (.tmp 0), none⟩, ⟨some 18, .mov (.tmp 5), none⟩, ⟨some 19, .iaS 4 (.tmp 17) (.tmp 18), none⟩, ⟨some 20, .load true 4 (.tmp 19), none⟩, ⟨some 21, .mov (.tmp 1), none⟩, ⟨some 22, .mov (.tmp 5), none⟩, ⟨some 23, .iaS 4 (.tmp 21) (.tmp 22), none⟩, ⟨some 24, .load true 4 (.tmp 23), none⟩, ⟨some 25, .eqa 4 .i64 true (.tmp 20) (.tmp 24), none⟩]) (.keep [0, 1, 5, 25] (.cond (.tmp 25) (.keep [] (.seq (.rego 7 [⟨some 4, .mov (.con (.bool false)), none⟩]) .ret)) .skip)))) (.keep [0, 1, 5] (.rego 5 [⟨some 15, .mov (.tmp 5), none⟩, ⟨some 16, .bin .add (.tmp 15) (.con (.int .i64 1)), none⟩, ⟨some 5, .mov (.tmp 16), none⟩]))))))))) (.keep [] (.seq (.rego 8 [⟨some 4, .mov (.con (.bool true)), none⟩]) .ret))))))
theorem fdh26 : fnData Tryz.prog 26 = some (26, lch26.erase, [LRV.tmp 4]) := by kernel_rfl

def lch55 : LC := .seq (.rego 0 [⟨some 2, .mov (.con .e0), none⟩]) (.seq (.seq (.rego 1 [⟨some 6, .mov (.tmp 0), none⟩, ⟨some 7, .len false (.tmp 6), none⟩, ⟨some 8, .bin .lss (.tmp 7) (.con (.int .i64 2)), none⟩]) (.cond (.tmp 8) (.seq (.rego 2 [⟨some 9, .mov (.tmp 0), none⟩, ⟨some 2, .mov (.tmp 9), none⟩]) .ret) .skip)) (.seq (.seq (.rego 3 [⟨some 3, .mov (.con (.int .i64 1)), none⟩]) (.block 0 (.loop (.seq (.seq (.rego 4 [⟨some 10, .mov (.tmp 3), none⟩, ⟨some 11, .mov (.tmp 0), none⟩, ⟨some 12, .len false (.tmp 11), none⟩, ⟨some 13, .bin .lss (.tmp 10) (.tmp 12), none⟩]) (.cond (.tmp 13) .skip (.exit 0))) (.seq (.block 1 (.seq (.reg 6 [⟨some 16, .mov (.tmp 0), none⟩, ⟨some 17, .mov (.tmp 3), none⟩, ⟨some 18, .iaS 4 (.tmp 16) (.tmp 17), none⟩, ⟨some 19, .load true 4 (.tmp 18), none⟩, ⟨some 20, .mov (.tmp 0), none⟩, ⟨some 21, .mov (.tmp 3), none⟩, ⟨some 22, .bin .sub (.tmp 21) (.con (.int .i64 1)), none⟩, ⟨some 23, .iaS 4 (.tmp 20) (.tmp 22), none⟩, ⟨some 24, .load true 4 (.tmp 23), none⟩, ⟨some 25, .eqa 4 .i64 false (.tmp 19) (.tmp 24), none⟩]) (.cond (.tmp 25) (.seq (.rego 7 [⟨some 26, .mov (.tmp 0), none⟩, ⟨some 27, .mov (.tmp 3), none⟩, ⟨some 28, .slV 4 (.tmp 26) (some (.tmp 27)) none, none⟩, ⟨some 4, .mov (.tmp 28), none⟩]) (.seq (.seq (.rego 8 [⟨some 5, .mov (.con (.int .i64 1)), none⟩]) (.block 2 (.loop (.seq (.seq (.rego 9 [⟨some 29, .mov (.tmp 5), none⟩, ⟨some 30, .mov (.tmp 4), none⟩, ⟨some 31, .len false (.tmp 30), none⟩, ⟨some 32, .bin .lss (.tmp 29) (.tmp 31), none⟩]) (.cond (.tmp 32) .skip (.exit 2))) (.seq (.block 3 (.seq (.reg 11 [⟨some 35, .mov (.tmp 4), none⟩, ⟨some 36, .mov (.tmp 5), none⟩, ⟨some 37, .iaS 4 (.tmp 35) (.tmp 36), none⟩, ⟨some 38, .load true 4 (.tmp 37), none⟩, ⟨some 39, .mov (.tmp 4), none⟩, ⟨some 40, .mov (.tmp 5), none⟩, ⟨some 41, .bin .sub (.tmp 40) (.con (.int .i64 1)), none⟩, ⟨some 42, .iaS 4 (.tmp 39) (.tmp 41), none⟩, ⟨some 43, .load true 4 (.tmp 42), none⟩, ⟨some 44, .eqa 4 .i64 true (.tmp 38) (.tmp 43), none⟩]) (.cond (.tmp 44) (.seq (.rego 12 [⟨some 45, .mov (.tmp 0), none⟩, ⟨some 46, .mov (.tmp 3), none⟩, ⟨some 47, .mov (.tmp 4), none⟩, ⟨some 48, .mov (.tmp 5), none⟩, ⟨some 49, .iaS 4 (.tmp 47) (.tmp 48), none⟩, ⟨some 50, .load true 4 (.tmp 49), none⟩, ⟨some 51, .iaS 4 (.tmp 45) (.tmp 46), none⟩, ⟨none, .store 4 (.tmp 51) (.tmp 50), none⟩]) (.rego 13 [⟨some 52, .mov (.tmp 3), none⟩, ⟨some 53, .bin .add (.tmp 52) (.con (.int .i64 1)), none⟩, ⟨some 3, .mov (.tmp 53), none⟩])) .skip))) (.rego 10 [⟨some 33, .mov (.tmp 5), none⟩, ⟨some 34, .bin .add (.tmp 33) (.con (.int .i64 1)), none⟩, ⟨some 5, .mov (.tmp 34), none⟩])))))) (.seq (.rego 14 [⟨some 54, .mov (.tmp 0), none⟩, ⟨some 55, .mov (.tmp 3), none⟩, ⟨some 56, .slV 4 (.tmp 54) (some (.tmp 55)) none, none⟩, ⟨none, .bad, none⟩]) (.seq (.rego 15 [⟨some 57, .mov (.tmp 0), none⟩, ⟨some 58, .mov (.tmp 3), none⟩, ⟨some 59, .slV 4 (.tmp 57) none (some (.tmp 58)), none⟩, ⟨some 2, .mov (.tmp 59), none⟩]) .ret)))) .skip))) (.rego 5 [⟨some 14, .mov (.tmp 3), none⟩, ⟨some 15, .bin .add (.tmp 14) (.con (.int .i64 1)), none⟩, ⟨some 3, .mov (.tmp 15), none⟩])))))) (.seq (.rego 16 [⟨some 60, .mov (.tmp 0), none⟩, ⟨some 2, .mov (.tmp 60), none⟩]) .ret)))
theorem fdh55 : fnData Tryz.prog 55 = some (61, lch55.erase, [LRV.tmp 2]) := by kernel_rfl

def lch8 : LC := .seq (.rego 0 [⟨some 0, .mov (.con (.bool false)), none⟩]) (.keep [] (.seq (.rego 1 [⟨some 7, .build [.int .i64 0, .e0] [⟨0, 1, .con (.int .i64 1)⟩], none⟩, ⟨some 8, .bsl 1 [.str { data := #[] }] [⟨0, 1, .con (.str { data := #[102] })⟩], none⟩, ⟨some 9, .build [.int .i64 0, .e0] [⟨0, 1, .con (.int .i64 1)⟩, ⟨1, 1, .tmp 8⟩], none⟩, ⟨some 10, .build [.int .i64 0, .e0] [⟨0, 1, .con (.int .i64 2)⟩], none⟩, ⟨some 1, .new [.int .i64 0, .e0], none⟩, ⟨some 2, .new [.int .i64 0, .e0], none⟩, ⟨some 3, .new [.int .i64 0, .e0], none⟩, ⟨none, .store 2 (.tmp 1) (.tmp 7), none⟩, ⟨none, .store 2 (.tmp 2) (.tmp 9), none⟩, ⟨none, .store 2 (.tmp 3) (.tmp 10), none⟩]) (.keep [1, 2, 3] (.seq (.regf 2 [0, 1, 0, 7, 15] [⟨some 11, .load true 2 (.tmp 3), none⟩, ⟨some 12, .call 11 [.con .e0, .tmp 11], none⟩, ⟨some 13, .load true 2 (.tmp 2), none⟩, ⟨some 14, .call 11 [.tmp 12, .tmp 13], none⟩, ⟨some 4, .mov (.tmp 14), none⟩]) (.keep [1, 2, 3, 4] (.seq (.rego 3 [⟨some 15, .bsl 1 [.int .i64 0] [⟨0, 1, .con (.int .i64 1)⟩], none⟩, ⟨some 16, .load true 2 (.tmp 1), none⟩, ⟨some 17, .build [.int .i64 0, .int .i64 0, .bool false, .int .i64 0, .e0, .int .i64 0, .int .i64 0, .int .i64 0, .int .i64 0, .e0, .int .i64 0, .int .i64 0, .int .i64 0, .e0, .int .i64 0, .int .i64 0, .e0, .int .i64 0, .str { data := #[] }, .e0, .e0, .e0] [⟨0, 1, .con (.int .i64 3)⟩, ⟨21, 1, .tmp 15⟩, ⟨3, 2, .tmp 16⟩], none⟩, ⟨some 5, .new [.int .i64 0, .int .i64 0, .bool false, .int .i64 0, .e0, .int .i64 0, .int .i64 0, .int .i64 0, .int .i64 0, .e0, .int .i64 0, .int .i64 0, .int .i64 0, .e0, .int .i64 0, .int .i64 0, .e0, .int .i64 0, .str { data := #[] }, .e0, .e0, .e0], none⟩, ⟨none, .store 22 (.tmp 5) (.tmp 17), none⟩]) (.keep [1, 2, 3, 4, 5] (.seq (.rego 4 [⟨some 18, .build [.str { data := #[] }, .int .i64 0, .str { data := #[] }, .e0, .e0, .bool false] [], none⟩, ⟨some 19, .build [.str { data := #[] }, .int .i64 0, .str { data := #[] }, .e0, .e0, .bool false] [⟨5, 1, .con (.bool true)⟩], none⟩, ⟨some 20, .bsl 2 [.str { data := #[] }, .int .i64 0, .str { data := #[] }, .e0, .e0, .bool false, .str { data := #[] }, .int .i64 0, .str { data := #[] }, .e0, .e0, .bool false] [⟨0, 6, .tmp 18⟩, ⟨6, 6, .tmp 19⟩], none⟩, ⟨some 21, .load true 22 (.tmp 5), none⟩, ⟨some 22, .bsl 1 [.int .i64 0] [⟨0, 1, .con (.int .i64 0)⟩], none⟩, ⟨some 23, .build [.int .i64 0, .int .i64 0, .bool false, .int .i64 0, .e0, .int .i64 0, .int .i64 0, .int .i64 0, .int .i64 0, .e0, .int .i64 0, .int .i64 0, .int .i64 0, .e0, .int .i64 0, .int .i64 0, .e0, .int .i64 0, .str { data := #[] }, .e0, .e0, .e0] [⟨0, 1, .con (.int .i64 5)⟩, ⟨21, 1, .tmp 22⟩], none⟩, ⟨some 24, .bsl 2 [.int .i64 0, .int .i64 0, .bool false, .int .i64 0, .e0, .int .i64 0, .int .i64 0, .int .i64 0, .int .i64 0, .e0, .int .i64 0, .int .i64 0, .int .i64 0, .e0, .int .i64 0, .int .i64 0, .e0, .int .i64 0, .str { data := #[] }, .e0, .e0, .e0, .int .i64 0, .int .i64 0, .bool false, .int .i64 0, .e0, .int .i64 0, .int .i64 0, .int .i64 0, .int .i64 0, .e0, .int .i64 0, .int .i64 0, .int .i64 0, .e0, .int .i64 0, .int .i64 0, .e0, .int .i64 0, .str { data := #[] }, .e0, .e0, .e0] [⟨0, 22, .tmp 21⟩, ⟨22, 22, .tmp 23⟩], none⟩, ⟨some 25, .build [.int .i64 0, .int .i64 0, .int .i64 0, .e0, .e0, .e0] [⟨4, 1, .tmp 20⟩, ⟨5, 1, .tmp 24⟩], none⟩, ⟨some 6, .new [.int .i64 0, .int .i64 0, .int .i64 0, .e0, .e0, .e0], none⟩, ⟨none, .store 6 (.tmp 6) (.tmp 25), none⟩]) (.keep [1, 2, 3, 4, 6] (.seq (.regf 5 [0, 0, 0, 6, 15, 31, 63, 63, 255, 63, 63, 1599, 4095, 8191, 16383, 32767, 32767, 131071, 32767, 294911, 1048575, 2097151, 4194303, 8388607, 16777215, 8388607, 41943039, 134217727, 268435455, 536870911] [⟨some 26, .mov (.tmp 4), none⟩, ⟨some 27, .load true 2 (.tmp 2), none⟩, ⟨some 28, .load true 2 (.tmp 3), none⟩, ⟨some 29, .bsl 2 [.int .i64 0, .e0, .int .i64 0, .e0] [⟨0, 2, .tmp 27⟩, ⟨2, 2, .tmp 28⟩], none⟩, ⟨some 30, .call 10 [.tmp 26, .tmp 29], none⟩, ⟨some 31, .mov (.tmp 30), none⟩, ⟨some 32, .mov (.tmp 4), some ⟨31, true⟩⟩, ⟨some 33, .load true 2 (.tmp 1), some ⟨31, true⟩⟩, ⟨some 34, .call 11 [.tmp 32, .tmp 33], some ⟨31, true⟩⟩, ⟨some 35, .load true 2 (.tmp 1), some ⟨31, true⟩⟩, ⟨some 36, .load true 2 (.tmp 3), some ⟨31, true⟩⟩, ⟨some 37, .bsl 2 [.int .i64 0, .e0, .int .i64 0, .e0] [⟨0, 2, .tmp 35⟩, ⟨2, 2, .tmp 36⟩], some ⟨31, true⟩⟩, ⟨some 38, .call 10 [.tmp 34, .tmp 37], some ⟨31, true⟩⟩, ⟨some 39, .pick (.tmp 31) (.tmp 38) (.con (.bool false)), none⟩, ⟨some 40, .mov (.tmp 39), none⟩, ⟨some 41, .mov (.tmp 4), some ⟨40, true⟩⟩, ⟨some 42, .load true 2 (.tmp 1), some ⟨40, true⟩⟩, ⟨some 43, .call 13 [.tmp 41, .tmp 42], some ⟨40, true⟩⟩, ⟨some 44, .load true 2 (.tmp 3), some ⟨40, true⟩⟩, ⟨some 45, .bsl 1 [.int .i64 0, .e0] [⟨0, 2, .tmp 44⟩], some ⟨40, true⟩⟩, ⟨some 46, .call 10 [.tmp 43, .tmp 45], some ⟨40, true⟩⟩, ⟨some 47, .pick (.tmp 40) (.tmp 46) (.con (.bool false)), none⟩, ⟨some 48, .mov (.tmp 47), none⟩, ⟨some 49, .load true 6 (.tmp 6), some ⟨48, true⟩⟩, ⟨some 50, .call 25 [.tmp 49], some ⟨48, true⟩⟩, ⟨some 51, .build [.int .i64 0, .int .i64 0, .int .i64 0, .int .i64 0] [⟨1, 1, .con (.int .i64 1)⟩], some ⟨48, true⟩⟩, ⟨some 52, .bsl 1 [.int .i64 0, .int .i64 0, .int .i64 0, .int .i64 0] [⟨0, 4, .tmp 51⟩], some ⟨48, true⟩⟩, ⟨some 53, .call 26 [.tmp 50, .tmp 52], some ⟨48, true⟩⟩, ⟨some 54, .pick (.tmp 48) (.tmp 53) (.con (.bool false)), none⟩, ⟨some 0, .mov (.tmp 54), none⟩]) .ret))))))))))
theorem fdh8 : fnData Tryz.prog 8 = some (55, lch8.erase, [LRV.tmp 0]) := by kernel_rfl

def lch4 : LC := .seq (.rego 0 [⟨some 3, .box (.tmp 1), none⟩, ⟨some 4, .mov (.con (.bool false)), none⟩]) (.keep [0, 3] (.seq (.seq (.rego 1 [⟨some 18, .mov (.tmp 0), none⟩, ⟨some 19, .load true 2 (.tmp 3), none⟩, ⟨some 20, .build [.int .i64 0, .int .i64 0, .bool false, .int .i64 0, .e0, .int .i64 0, .int .i64 0, .int .i64 0, .int .i64 0, .e0, .int .i64 0, .int .i64 0, .int .i64 0, .e0, .int .i64 0, .int .i64 0, .e0, .int .i64 0, .str { data := #[] }, .e0, .e0, .e0] [], none⟩, ⟨some 21, .call 7 [.tmp 18, .tmp 19, .tmp 20], none⟩, ⟨some 22, .un .not (.tmp 21), none⟩]) (.keep [0, 3, 22] (.cond (.tmp 22) (.keep [] (.seq (.rego 2 [⟨some 23, .call 8 [], none⟩, ⟨some 4, .mov (.tmp 23), none⟩]) .ret)) .skip))) (.keep [0, 3] (.seq (.rego 3 [⟨some 5, .mov (.con .e0), none⟩, ⟨some 6, .mov (.con .e0), none⟩]) (.keep [0, 3, 5, 6] (.seq (.rego 4 [⟨some 24, .mov (.tmp 0), none⟩, ⟨some 25, .len false (.tmp 24), none⟩, ⟨some 26, .mn false (.tmp 25) (.con (.int .i64 12)), none⟩, ⟨some 7, .mov (.tmp 26), none⟩]) (.keep [0, 3, 5, 6, 7] (.seq (.seq (.rego 5 [⟨some 8, .mov (.con (.int .i64 0)), none⟩]) (.keep [0, 3, 5, 6, 7, 8] (.block 0 (.loop (.seq (.seq (.rego 6 [⟨some 27, .mov (.tmp 8), none⟩, ⟨some 28, .mov (.tmp 7), none⟩, ⟨some 29, .bin .lss (.tmp 27) (.tmp 28), none⟩]) (.keep [0, 3, 5, 6, 7, 8, 29] (.cond (.tmp 29) .skip (.exit 0)))) (.keep [0, 3, 5, 6, 7, 8] (.seq (.block 1 (.seq (.rego 8 [⟨some 32, .mov (.tmp 5), none⟩, ⟨some 33, .mov (.tmp 0), none⟩, ⟨some 34, .mov (.tmp 8), none⟩, ⟨some 35, .iaS 2 (.tmp 33) (.tmp 34), none⟩, ⟨some 36, .load true 2 (.tmp 35), none⟩, ⟨some 37, .call 11 [.tmp 32, .tmp 36], none⟩, ⟨some 5, .mov (.tmp 37), none⟩]) (.keep [0, 3, 5, 6, 7, 8] (.rego 9 [⟨some 38, .mov (.tmp 6), none⟩, ⟨some 39, .mov (.tmp 0), none⟩, ⟨some 40, .mov (.tmp 7), none⟩, ⟨some 41, .bin .sub (.tmp 40) (.con (.int .i64 1)), none⟩, ⟨some 42, .mov (.tmp 8), none⟩, ⟨some 43, .bin .sub (.tmp 41) (.tmp 42), none⟩, ⟨some 44, .iaS 2 (.tmp 39) (.tmp 43), none⟩, ⟨some 45, .load true 2 (.tmp 44), none⟩, ⟨some 46, .call 11 [.tmp 38, .tmp 45], none⟩, ⟨some 6, .mov (.tmp 46), none⟩])))) (.keep [0, 3, 5, 6, 7, 8] (.rego 7 [⟨some 30, .mov (.tmp 8), none⟩, ⟨some 31, .bin .add (.tmp 30) (.con (.int .i64 1)), none⟩, ⟨some 8, .mov (.tmp 31), none⟩]))))))))) (.keep [0, 3, 5, 6, 7] (.seq (.rego 10 [⟨some 47, .mov (.tmp 5), none⟩, ⟨some 9, .mov (.tmp 47), none⟩]) (.keep [0, 3, 5, 6, 7, 9] (.seq (.seq (.rego 11 [⟨some 10, .mov (.con (.int .i64 0)), none⟩]) (.keep [0, 3, 5, 6, 7, 9, 10] (.block 2 (.loop (.seq (.seq (.rego 12 [⟨some 48, .mov (.tmp 10), none⟩, ⟨some 49, .mov (.tmp 7), none⟩, ⟨some 50, .bin .lss (.tmp 48) (.tmp 49), none⟩]) (.keep [0, 3, 5, 6, 7, 9, 10, 50] (.cond (.tmp 50) .skip (.exit 2)))) (.keep [0, 3, 5, 6, 7, 9, 10] (.seq (.block 3 (.rego 14 [⟨some 53, .mov (.tmp 9), none⟩, ⟨some 54, .mov (.tmp 0), none⟩, ⟨some 55, .mov (.tmp 10), none⟩, ⟨some 56, .iaS 2 (.tmp 54) (.tmp 55), none⟩, ⟨some 57, .load true 2 (.tmp 56), none⟩, ⟨some 58, .call 11 [.tmp 53, .tmp 57], none⟩, ⟨some 9, .mov (.tmp 58), none⟩])) (.keep [0, 3, 5, 6, 7, 9, 10] (.rego 13 [⟨some 51, .mov (.tmp 10), none⟩, ⟨some 52, .bin .add (.tmp 51) (.con (.int .i64 1)), none⟩, ⟨some 10, .mov (.tmp 52), none⟩]))))))))) (.keep [0, 3, 5, 6, 7, 9] (.seq (.seq (.rego 15 [⟨some 59, .mov (.tmp 5), none⟩, ⟨some 60, .mov (.tmp 6), none⟩, ⟨some 61, .call 10 [.tmp 59, .tmp 60], none⟩, ⟨some 62, .un .not (.tmp 61), none⟩, ⟨some 63, .mov (.tmp 62), none⟩, ⟨some 64, .mov (.tmp 5), some ⟨63, false⟩⟩, ⟨some 65, .mov (.tmp 9), some ⟨63, false⟩⟩, ⟨some 66, .call 10 [.tmp 64, .tmp 65], some ⟨63, false⟩⟩, ⟨some 67, .un .not (.tmp 66), some ⟨63, false⟩⟩, ⟨some 68, .pick (.tmp 63) (.con (.bool true)) (.tmp 67), none⟩]) (.keep [0, 3, 5, 7, 68] (.cond (.tmp 68) (.keep [] (.seq (.rego 16 [⟨some 4, .mov (.con (.bool false)), none⟩]) .ret)) .skip))) (.keep [0, 3, 5, 7] (.seq (.seq (.rego 17 [⟨some 11, .mov (.con (.int .i64 0)), none⟩]) (.keep [0, 3, 5, 7, 11] (.block 4 (.loop (.seq (.seq (.rego 18 [⟨some 69, .mov (.tmp 11), none⟩, ⟨some 70, .mov (.tmp 7), none⟩, ⟨some 71, .bin .lss (.tmp 69) (.tmp 70), none⟩]) (.keep [0, 3, 5, 7, 11, 71] (.cond (.tmp 71) .skip (.exit 4)))) (.keep [0, 3, 5, 7, 11] (.seq (.block 5 (.seq (.rego 20 [⟨some 12, .mov (.con (.bool false)), none⟩]) (.keep [0, 3, 5, 7, 11, 12] (.seq (.seq (.rego 21 [⟨some 13, .mov (.con (.int .i64 0)), none⟩]) (.keep [0, 3, 5, 7, 11, 12, 13] (.block 6 (.loop (.seq (.seq (.rego 22 [⟨some 74, .mov (.tmp 13), none⟩, ⟨some 75, .mov (.tmp 5), none⟩, ⟨some 76, .len false (.tmp 75), none⟩, ⟨some 77, .bin .lss (.tmp 74) (.tmp 76), none⟩]) (.keep [0, 3, 5, 7, 11, 12, 13, 77] (.cond (.tmp 77) .skip (.exit 6)))) (.keep [0, 3, 5, 7, 11, 12, 13] (.seq (.block 7 (.regf 24 [0, 1, 3, 3, 15, 31, 3, 3, 195, 451, 1023, 2047, 4095] [⟨some 80, .mov (.tmp 12), none⟩, ⟨some 81, .mov (.tmp 80), none⟩, ⟨some 82, .mov (.tmp 5), some ⟨81, false⟩⟩, ⟨some 83, .mov (.tmp 13), some ⟨81, false⟩⟩, ⟨some 84, .iaS 2 (.tmp 82) (.tmp 83), some ⟨81, false⟩⟩, ⟨some 85, .load true 2 (.tmp 84), some ⟨81, false⟩⟩, ⟨some 86, .mov (.tmp 0), some ⟨81, false⟩⟩, ⟨some 87, .mov (.tmp 11), some ⟨81, false⟩⟩, ⟨some 88, .iaS 2 (.tmp 86) (.tmp 87), some ⟨81, false⟩⟩, ⟨some 89, .load true 2 (.tmp 88), some ⟨81, false⟩⟩, ⟨some 90, .call 17 [.tmp 85, .tmp 89], some ⟨81, false⟩⟩, ⟨some 91, .pick (.tmp 81) (.con (.bool true)) (.tmp 90), none⟩, ⟨some 12, .mov (.tmp 91), none⟩])) (.keep [0, 3, 5, 7, 11, 12, 13] (.rego 23 [⟨some 78, .mov (.tmp 13), none⟩, ⟨some 79, .bin .add (.tmp 78) (.con (.int .i64 1)), none⟩, ⟨some 13, .mov (.tmp 79), none⟩]))))))))) (.keep [0, 3, 5, 7, 11, 12] (.seq (.rego 25 [⟨some 92, .mov (.tmp 12), none⟩, ⟨some 93, .un .not (.tmp 92), none⟩]) (.keep [0, 3, 5, 7, 11, 93] (.cond (.tmp 93) (.keep [] (.seq (.rego 26 [⟨some 4, .mov (.con (.bool false)), none⟩]) .ret)) .skip)))))))) (.keep [0, 3, 5, 7, 11] (.rego 19 [⟨some 72, .mov (.tmp 11), none⟩, ⟨some 73, .bin .add (.tmp 72) (.con (.int .i64 1)), none⟩, ⟨some 11, .mov (.tmp 73), none⟩]))))))))) (.keep [3, 5] (.seq (.seq (.rego 27 [⟨some 14, .mov (.con (.int .i64 0)), none⟩]) (.keep [3, 5, 14] (.block 8 (.loop (.seq (.seq (.rego 28 [⟨some 94, .mov (.tmp 14), none⟩, ⟨some 95, .bin .add (.tmp 94) (.con (.int .i64 1)), none⟩, ⟨some 96, .mov (.tmp 5), none⟩, ⟨some 97, .len false (.tmp 96), none⟩, ⟨some 98, .bin .lss (.tmp 95) (.tmp 97), none⟩]) (.keep [3, 5, 14, 98] (.cond (.tmp 98) .skip (.exit 8)))) (.keep [3, 5, 14] (.seq (.block 9 (.seq (.regf 30 [0, 0, 3, 7, 0, 0, 32, 112, 240, 511, 1023] [⟨some 101, .mov (.tmp 5), none⟩, ⟨some 102, .mov (.tmp 14), none⟩, ⟨some 103, .iaS 2 (.tmp 101) (.tmp 102), none⟩, ⟨some 104, .load true 2 (.tmp 103), none⟩, ⟨some 105, .mov (.tmp 5), none⟩, ⟨some 106, .mov (.tmp 14), none⟩, ⟨some 107, .bin .add (.tmp 106) (.con (.int .i64 1)), none⟩, ⟨some 108, .iaS 2 (.tmp 105) (.tmp 107), none⟩, ⟨some 109, .load true 2 (.tmp 108), none⟩, ⟨some 110, .call 18 [.tmp 104, .tmp 109], none⟩, ⟨some 111, .un .not (.tmp 110), none⟩]) (.keep [3, 5, 14, 111] (.cond (.tmp 111) (.keep [] (.seq (.rego 31 [⟨some 4, .mov (.con (.bool false)), none⟩]) .ret)) .skip)))) (.keep [3, 5, 14] (.rego 29 [⟨some 99, .mov (.tmp 14), none⟩, ⟨some 100, .bin .add (.tmp 99) (.con (.int .i64 1)), none⟩, ⟨some 14, .mov (.tmp 100), none⟩]))))))))) (.keep [3, 5] (.seq (.rego 32 [⟨some 112, .mov (.tmp 5), none⟩, ⟨some 113, .load true 2 (.tmp 3), none⟩, ⟨some 114, .call 11 [.tmp 112, .tmp 113], none⟩, ⟨some 15, .mov (.tmp 114), none⟩]) (.keep [3, 15] (.seq (.rego 33 [⟨some 115, .mov (.tmp 15), none⟩, ⟨some 116, .load true 2 (.tmp 3), none⟩, ⟨some 117, .call 13 [.tmp 115, .tmp 116], none⟩, ⟨some 16, .mov (.tmp 117), none⟩]) (.keep [3, 15, 16] (.seq (.seq (.rego 34 [⟨some 17, .mov (.con (.int .i64 0)), none⟩]) (.keep [3, 15, 16, 17] (.block 10 (.loop (.seq (.seq (.rego 35 [⟨some 118, .mov (.tmp 17), none⟩, ⟨some 119, .mov (.tmp 16), none⟩, ⟨some 120, .len false (.tmp 119), none⟩, ⟨some 121, .bin .lss (.tmp 118) (.tmp 120), none⟩]) (.keep [3, 15, 16, 17, 121] (.cond (.tmp 121) .skip (.exit 10)))) (.keep [3, 15, 16, 17] (.seq (.block 11 (.seq (.regf 37 [0, 0, 0, 6, 14, 31, 63, 127, 255, 511, 1023, 127, 2175, 6271, 16383, 32767, 65535, 131071, 131071, 524287, 1048575, 2097151] [⟨some 124, .load true 2 (.tmp 3), none⟩, ⟨some 125, .mov (.tmp 16), none⟩, ⟨some 126, .mov (.tmp 17), none⟩, ⟨some 127, .iaS 2 (.tmp 125) (.tmp 126), none⟩, ⟨some 128, .load true 2 (.tmp 127), none⟩, ⟨some 129, .call 17 [.tmp 124, .tmp 128], none⟩, ⟨some 130, .mov (.tmp 129), none⟩, ⟨some 131, .load true 2 (.tmp 3), some ⟨130, true⟩⟩, ⟨some 132, .call 19 [.tmp 131], some ⟨130, true⟩⟩, ⟨some 133, .fld false 1 1 (.tmp 132), some ⟨130, true⟩⟩, ⟨some 134, .len false (.tmp 133), some ⟨130, true⟩⟩, ⟨some 135, .fad 1 (.tmp 3), some ⟨130, true⟩⟩, ⟨some 136, .load false 1 (.tmp 135), some ⟨130, true⟩⟩, ⟨some 137, .len false (.tmp 136), some ⟨130, true⟩⟩, ⟨some 138, .bin .eql (.tmp 134) (.tmp 137), some ⟨130, true⟩⟩, ⟨some 139, .pick (.tmp 130) (.tmp 138) (.con (.bool false)), none⟩, ⟨some 140, .mov (.tmp 139), none⟩, ⟨some 141, .mov (.tmp 15), some ⟨140, true⟩⟩, ⟨some 142, .load true 2 (.tmp 3), some ⟨140, true⟩⟩, ⟨some 143, .call 20 [.tmp 141, .tmp 142], some ⟨140, true⟩⟩, ⟨some 144, .un .not (.tmp 143), some ⟨140, true⟩⟩, ⟨some 145, .pick (.tmp 140) (.tmp 144) (.con (.bool false)), none⟩]) (.keep [3, 15, 16, 17, 145] (.cond (.tmp 145) (.keep [] (.seq (.rego 38 [⟨some 4, .mov (.con (.bool false)), none⟩]) .ret)) .skip)))) (.keep [3, 15, 16, 17] (.rego 36 [⟨some 122, .mov (.tmp 17), none⟩, ⟨some 123, .bin .add (.tmp 122) (.con (.int .i64 1)), none⟩, ⟨some 17, .mov (.tmp 123), none⟩]))))))))) (.keep [] (.seq (.rego 39 [⟨some 146, .call 8 [], none⟩, ⟨some 4, .mov (.tmp 146), none⟩]) .ret))))))))))))))))))))))))))
theorem fdh4 : fnData Tryz.prog 4 = some (147, lch4.erase, [LRV.tmp 4]) := by kernel_rfl

end Go.Proofs.YtlkdcgfjmhjjpaaGreat

set_option linter.unusedSimpArgs false
set_option linter.unusedVariables false
namespace Go.Proofs.YtlkdcgfjmhjjpaaGreat
open Go Go.Lg Go.RowKit
set_option linter.unusedVariables false
set_option linter.unusedSimpArgs false
set_option maxRecDepth 20000

theorem idx_front : ∀ (l : List ByteArray) (k : Int), idx (fun x => decide ((⟨#[42]⟩ : ByteArray) = x)) l k = if frontN l = l.length then -1 else k + frontN l
  | [], _ => rfl
  | x :: r, k => by
    rw [idx, frontN]
    by_cases h : x = (⟨#[42]⟩ : ByteArray)
    · rw [if_pos (by rw [h]; simp), if_pos h, if_neg (by simp)]; omega
    · rw [if_neg (by simpa using fun e => h e.symm), if_neg h, idx_front r (k + 1)]
      have : (frontN r + 1 = (x :: r).length) ↔ frontN r = r.length := by rw [List.length_cons]; omega
      by_cases h2 : frontN r = r.length
      · rw [if_pos h2, if_pos (this.2 h2)]
      · rw [if_neg h2, if_neg (fun e => h2 (this.1 e))]; omega
theorem ls_takeN : ∀ (n : Nat) (l : List ByteArray), List.take n (l.flatMap cS) = (l.take n).flatMap cS
  | 0, _ => rfl
  | _ + 1, [] => rfl
  | n + 1, x :: l => by
    have := ls_takeN n l
    rw [List.flatMap_cons, List.take_succ_cons, List.flatMap_cons, ← this]; rfl
theorem mp_setB (a b c : V) : setCells [a, b] 1 [c] = [a, c] := rfl
theorem mp_setC' (a b : V) (p : MPath) : setCells [a, b] 0 p.cells = p.cells := mp_set0 a b p
theorem mp_setC (a b c d : V) : setCells [a, b] 0 [c, d] = [c, d] := rfl
theorem frontM_ret (p : MPath) (hp : smallP p) : PRet Tryz.prog 76 [.agg p.cells] (.agg (frontP p).cells) := by
  unfold smallP at hp
  have hle := frontN_le p.steps
  refine pret_intro fdg76 (by simp) ?_
  simp only [lcg76, VC0, VC1, VC2, VC3, VC4, VC5, VC6, VC7, VC8, VC9, reduceIte, reduceCtorEq, Nat.reduceEqDiff, Nat.reduceAdd, Nat.reduceMul, Nat.reduceBEq, Nat.reduceLT, Nat.reduceLeDiff, Int.reduceEq, Int.reduceLT, Int.reduceLE, Int.reduceNeg, Int.reduceToNat, Int.reduceAdd, Nat.reduceDiv, Nat.reduceSub, Nat.reduceMod, encL, MC0, MC1, MC2]
  refine callX_of (idxS_ret p.steps _ (by omega)) (.inr rfl) ?_
  simp only [VC0, VC1, VC2, VC3, VC4, VC5, VC6, VC7, VC8, VC9, reduceIte, reduceCtorEq, Nat.reduceEqDiff, Nat.reduceAdd, Nat.reduceMul, Nat.reduceBEq, Nat.reduceLT, Nat.reduceLeDiff, Int.reduceEq, Int.reduceLT, Int.reduceLE, Int.reduceNeg, Int.reduceToNat, Int.reduceAdd, Nat.reduceDiv, Nat.reduceSub, Nat.reduceMod, encL, MC0, MC1, MC2]
  rw [idx_front]
  by_cases h : frontN p.steps = p.steps.length
  · rw [if_pos h]
    simp only [VC0, VC1, VC2, VC3, VC4, VC5, VC6, VC7, VC8, VC9, reduceIte, reduceCtorEq, Nat.reduceEqDiff, Nat.reduceAdd, Nat.reduceMul, Nat.reduceBEq, Nat.reduceLT, Nat.reduceLeDiff, Int.reduceEq, Int.reduceLT, Int.reduceLE, Int.reduceNeg, Int.reduceToNat, Int.reduceAdd, Nat.reduceDiv, Nat.reduceSub, Nat.reduceMod, encL, MC0, MC1, MC2, mp_setA, mp_setB, mp_setC, mp_ld, List.all_cons, List.all_nil, Bool.and_true, List.length_cons, List.length_nil]
    have e : frontP p = p := by rw [frontP, h, List.take_length]
    refine ⟨by omega, ⟨by omega, by omega⟩, ?_⟩
    rw [e]
    simp only [VC0, VC1, VC2, VC3, VC4, VC5, VC6, VC7, VC8, VC9, reduceIte, reduceCtorEq, Nat.reduceEqDiff, Nat.reduceAdd, Nat.reduceMul, Nat.reduceBEq, Nat.reduceLT, Nat.reduceLeDiff, Int.reduceEq, Int.reduceLT, Int.reduceLE, Int.reduceNeg, Int.reduceToNat, Int.reduceAdd, Nat.reduceDiv, Nat.reduceSub, Nat.reduceMod, encL, MC0, MC1, MC2, mp_c, List.map_cons, List.map_nil]
  · rw [if_neg h]
    have h1 : ¬ (0 + (frontN p.steps : Int) < 0) := by omega
    have h2 : (0 : Int) ≤ 0 + (frontN p.steps : Int) ∧ 0 + (frontN p.steps : Int) ≤ p.steps.length := by omega
    have h3 : (0 + (frontN p.steps : Int)).toNat = frontN p.steps := by omega
    simp only [VC0, VC1, VC2, VC3, VC4, VC5, VC6, VC7, VC8, VC9, reduceIte, reduceCtorEq, Nat.reduceEqDiff, Nat.reduceAdd, Nat.reduceMul, Nat.reduceBEq, Nat.reduceLT, Nat.reduceLeDiff, Int.reduceEq, Int.reduceLT, Int.reduceLE, Int.reduceNeg, Int.reduceToNat, Int.reduceAdd, Nat.reduceDiv, Nat.reduceSub, Nat.reduceMod, encL, MC0, MC1, MC2, h1, decide_false, h2, h3, mp_setA, mp_setB, mp_setC, mp_ld, List.all_cons, List.all_nil, Bool.and_true, List.length_cons, List.length_nil]
    have e1 : List.take (frontN p.steps) (p.steps.flatMap cS) = (frontP p).steps.flatMap cS := ls_takeN _ _
    have e2 : (frontP p).steps.length = frontN p.steps := by rw [frontP, List.length_take]; omega
    simp only [VC0, VC1, VC2, VC3, VC4, VC5, VC6, VC7, VC8, VC9, reduceIte, reduceCtorEq, Nat.reduceEqDiff, Nat.reduceAdd, Nat.reduceMul, Nat.reduceBEq, Nat.reduceLT, Nat.reduceLeDiff, Int.reduceEq, Int.reduceLT, Int.reduceLE, Int.reduceNeg, Int.reduceToNat, Int.reduceAdd, Nat.reduceDiv, Nat.reduceSub, Nat.reduceMod, encL, MC0, MC1, MC2, e1, ls_len, e2, if_true, ls_one, mp_setA, mp_setB, mp_setC, mp_ld, List.all_cons, List.all_nil, Bool.and_true, List.length_cons, List.length_nil]
    refine ⟨hle, ⟨by omega, by omega⟩, ?_⟩
    rw [mp_c, e2]
    rfl
theorem small_front {p : MPath} (h : smallP p) : smallP (frontP p) := by
  unfold smallP at h ⊢
  have : (frontP p).steps.length ≤ p.steps.length := by rw [frontP, List.length_take]; exact Nat.min_le_right _ _
  omega
theorem lost1_ret (x f : MPath) (hx : smallP x) (hf : smallP f) : PRet Tryz.prog 77 [.agg x.cells, .ip f.cells 0] (.bool (prefS f x || prefS x f)) := by
  have h1 : x.steps.length ≤ 4611686018427387904 := by unfold smallP at hx; omega
  have h2 : f.steps.length ≤ 4611686018427387904 := by unfold smallP at hf; omega
  refine pret_intro fdg77 (by simp) ?_
  simp only [lcg77, VC0, VC1, VC2, VC3, VC4, VC5, VC6, VC7, VC8, VC9, reduceIte, reduceCtorEq, Nat.reduceEqDiff, Nat.reduceAdd, Nat.reduceMul, Nat.reduceBEq, Nat.reduceLT, Nat.reduceLeDiff, Int.reduceEq, Int.reduceLT, Int.reduceLE, Int.reduceNeg, Int.reduceToNat, Int.reduceAdd, Nat.reduceDiv, Nat.reduceSub, Nat.reduceMod, encL, MC0, MC1, MC2]
  refine callX_of (pref_ret f x h2) (.inr rfl) ?_
  cases b1 : prefS f x <;> simp only [VC0, VC1, VC2, VC3, VC4, VC5, VC6, VC7, VC8, VC9, reduceIte, reduceCtorEq, Nat.reduceEqDiff, Nat.reduceAdd, Nat.reduceMul, Nat.reduceBEq, Nat.reduceLT, Nat.reduceLeDiff, Int.reduceEq, Int.reduceLT, Int.reduceLE, Int.reduceNeg, Int.reduceToNat, Int.reduceAdd, Nat.reduceDiv, Nat.reduceSub, Nat.reduceMod, encL, MC0, MC1, MC2, b1, Bool.false_or, Bool.true_or]
  refine callX_of (pref_ret x f h1) (.inr rfl) ?_
  simp only [VC0, VC1, VC2, VC3, VC4, VC5, VC6, VC7, VC8, VC9, reduceIte, reduceCtorEq, Nat.reduceEqDiff, Nat.reduceAdd, Nat.reduceMul, Nat.reduceBEq, Nat.reduceLT, Nat.reduceLeDiff, Int.reduceEq, Int.reduceLT, Int.reduceLE, Int.reduceNeg, Int.reduceToNat, Int.reduceAdd, Nat.reduceDiv, Nat.reduceSub, Nat.reduceMod, encL, MC0, MC1, MC2]
/-- May a path, or a part of it, be gone? -/
def lostS (l : List MPath) (p : MPath) : Bool := l.any fun x => prefS (frontP p) x || prefS x (frontP p)
theorem lost_ret (l : List MPath) (p : MPath) (hl : l.length ≤ 1000000) (hp : smallP p) (hx : ∀ x ∈ l, smallP x) : PRet Tryz.prog 67 [encL MPath.cells l, .agg p.cells] (.bool (lostS l p)) := by
  refine pret_intro fdg67 (by simp) ?_
  simp only [lcg67, VC0, VC1, VC2, VC3, VC4, VC5, VC6, VC7, VC8, VC9, reduceIte, reduceCtorEq, Nat.reduceEqDiff, Nat.reduceAdd, Nat.reduceMul, Nat.reduceBEq, Nat.reduceLT, Nat.reduceLeDiff, Int.reduceEq, Int.reduceLT, Int.reduceLE, Int.reduceNeg, Int.reduceToNat, Int.reduceAdd, Nat.reduceDiv, Nat.reduceSub, Nat.reduceMod, encL, MC0, MC1, MC2]
  refine callX_of (frontM_ret p hp) (.inl rfl) ?_
  simp only [VC0, VC1, VC2, VC3, VC4, VC5, VC6, VC7, VC8, VC9, reduceIte, reduceCtorEq, Nat.reduceEqDiff, Nat.reduceAdd, Nat.reduceMul, Nat.reduceBEq, Nat.reduceLT, Nat.reduceLeDiff, Int.reduceEq, Int.reduceLT, Int.reduceLE, Int.reduceNeg, Int.reduceToNat, Int.reduceAdd, Nat.reduceDiv, Nat.reduceSub, Nat.reduceMod, encL, MC0, MC1, MC2, mp_setC', mp_ld]
  refine callX_of (containsP_ret l _ [.ip (frontP p).cells 0] (fun x => prefS (frontP p) x || prefS x (frontP p)) (by rw [maxLen_eq]; omega) (fun H => rfl) (fun H => rfl) (fun H => rfl) (fun H => rfl) (fun x h => lost1_ret x (frontP p) (hx x h) (small_front hp))) (.inr rfl) ?_
  simp only [VC0, VC1, VC2, VC3, VC4, VC5, VC6, VC7, VC8, VC9, reduceIte, reduceCtorEq, Nat.reduceEqDiff, Nat.reduceAdd, Nat.reduceMul, Nat.reduceBEq, Nat.reduceLT, Nat.reduceLeDiff, Int.reduceEq, Int.reduceLT, Int.reduceLE, Int.reduceNeg, Int.reduceToNat, Int.reduceAdd, Nat.reduceDiv, Nat.reduceSub, Nat.reduceMod, encL, MC0, MC1, MC2, lostS]
theorem part_no (l : List MPath) (x : MInst) (h : x.kind ≠ 1 ∨ l = []) (ht : smallP x.to) : PRet Tryz.prog 50 [encL MPath.cells l, .agg x.cells] (.bool false) := by
  have hps : x.to.steps.length ≤ 4611686018427387904 := by unfold smallP at ht; omega
  refine pret_intro fdg50 (by simp) ?_
  simp only [lcg50, VC0, VC1, VC2, VC3, VC4, VC5, VC6, VC7, VC8, VC9, reduceIte, reduceCtorEq, Nat.reduceEqDiff, Nat.reduceAdd, Nat.reduceMul, Nat.reduceBEq, Nat.reduceLT, Nat.reduceLeDiff, Int.reduceEq, Int.reduceLT, Int.reduceLE, Int.reduceNeg, Int.reduceToNat, Int.reduceAdd, Nat.reduceDiv, Nat.reduceSub, Nat.reduceMod, encL, MC0, MC1, MC2]
  cases b1 : decide (x.kind = 1) <;> simp only [VC0, VC1, VC2, VC3, VC4, VC5, VC6, VC7, VC8, VC9, reduceIte, reduceCtorEq, Nat.reduceEqDiff, Nat.reduceAdd, Nat.reduceMul, Nat.reduceBEq, Nat.reduceLT, Nat.reduceLeDiff, Int.reduceEq, Int.reduceLT, Int.reduceLE, Int.reduceNeg, Int.reduceToNat, Int.reduceAdd, Nat.reduceDiv, Nat.reduceSub, Nat.reduceMod, encL, MC0, MC1, MC2, b1]
  cases b2 : x.has <;> simp only [VC0, VC1, VC2, VC3, VC4, VC5, VC6, VC7, VC8, VC9, reduceIte, reduceCtorEq, Nat.reduceEqDiff, Nat.reduceAdd, Nat.reduceMul, Nat.reduceBEq, Nat.reduceLT, Nat.reduceLeDiff, Int.reduceEq, Int.reduceLT, Int.reduceLE, Int.reduceNeg, Int.reduceToNat, Int.reduceAdd, Nat.reduceDiv, Nat.reduceSub, Nat.reduceMod, encL, MC0, MC1, MC2, b2]
  cases b3 : decide ((x.to.steps.length : Int) = 0) <;> simp only [VC0, VC1, VC2, VC3, VC4, VC5, VC6, VC7, VC8, VC9, reduceIte, reduceCtorEq, Nat.reduceEqDiff, Nat.reduceAdd, Nat.reduceMul, Nat.reduceBEq, Nat.reduceLT, Nat.reduceLeDiff, Int.reduceEq, Int.reduceLT, Int.reduceLE, Int.reduceNeg, Int.reduceToNat, Int.reduceAdd, Nat.reduceDiv, Nat.reduceSub, Nat.reduceMod, encL, MC0, MC1, MC2, b3]
  refine callX_of (hasS_ret x.to.steps _ hps) (.inr rfl) ?_
  cases b4 : x.to.steps.any (fun y => decide ((⟨#[42]⟩ : ByteArray) = y)) <;> simp only [VC0, VC1, VC2, VC3, VC4, VC5, VC6, VC7, VC8, VC9, reduceIte, reduceCtorEq, Nat.reduceEqDiff, Nat.reduceAdd, Nat.reduceMul, Nat.reduceBEq, Nat.reduceLT, Nat.reduceLeDiff, Int.reduceEq, Int.reduceLT, Int.reduceLE, Int.reduceNeg, Int.reduceToNat, Int.reduceAdd, Nat.reduceDiv, Nat.reduceSub, Nat.reduceMod, encL, MC0, MC1, MC2, b4]
  have hl : l = [] := by
    rcases h with h | h
    · exact absurd (of_decide_eq_true b1) h
    · exact h
  subst hl
  refine callX_of (containsP_ret [] _ [.ip x.cells 0] (fun _ => false) (Nat.zero_le _) (fun H => by simp only [VC0, VC1, VC2, VC3, VC4, VC5, VC6, VC7, VC8, VC9, reduceIte, reduceCtorEq, Nat.reduceEqDiff, Nat.reduceAdd, Nat.reduceMul, Nat.reduceBEq, Nat.reduceLT, Nat.reduceLeDiff, Int.reduceEq, Int.reduceLT, Int.reduceLE, Int.reduceNeg, Int.reduceToNat, Int.reduceAdd, Nat.reduceDiv, Nat.reduceSub, Nat.reduceMod, encL, MC0, MC1, MC2, List.all_cons, List.all_nil, Bool.and_true]) (fun H => by simp only [VC0, VC1, VC2, VC3, VC4, VC5, VC6, VC7, VC8, VC9, reduceIte, reduceCtorEq, Nat.reduceEqDiff, Nat.reduceAdd, Nat.reduceMul, Nat.reduceBEq, Nat.reduceLT, Nat.reduceLeDiff, Int.reduceEq, Int.reduceLT, Int.reduceLE, Int.reduceNeg, Int.reduceToNat, Int.reduceAdd, Nat.reduceDiv, Nat.reduceSub, Nat.reduceMod, encL, MC0, MC1, MC2, List.map_cons, List.map_nil]) (fun H => by simp only [VC0, VC1, VC2, VC3, VC4, VC5, VC6, VC7, VC8, VC9, reduceIte, reduceCtorEq, Nat.reduceEqDiff, Nat.reduceAdd, Nat.reduceMul, Nat.reduceBEq, Nat.reduceLT, Nat.reduceLeDiff, Int.reduceEq, Int.reduceLT, Int.reduceLE, Int.reduceNeg, Int.reduceToNat, Int.reduceAdd, Nat.reduceDiv, Nat.reduceSub, Nat.reduceMod, encL, MC0, MC1, MC2, List.map_cons, List.map_nil]) (fun H => by simp only [VC0, VC1, VC2, VC3, VC4, VC5, VC6, VC7, VC8, VC9, reduceIte, reduceCtorEq, Nat.reduceEqDiff, Nat.reduceAdd, Nat.reduceMul, Nat.reduceBEq, Nat.reduceLT, Nat.reduceLeDiff, Int.reduceEq, Int.reduceLT, Int.reduceLE, Int.reduceNeg, Int.reduceToNat, Int.reduceAdd, Nat.reduceDiv, Nat.reduceSub, Nat.reduceMod, encL, MC0, MC1, MC2, List.all_cons, List.all_nil, Bool.and_true]) (fun x h => by cases h)) (.inr rfl) ?_
  simp only [VC0, VC1, VC2, VC3, VC4, VC5, VC6, VC7, VC8, VC9, reduceIte, reduceCtorEq, Nat.reduceEqDiff, Nat.reduceAdd, Nat.reduceMul, Nat.reduceBEq, Nat.reduceLT, Nat.reduceLeDiff, Int.reduceEq, Int.reduceLT, Int.reduceLE, Int.reduceNeg, Int.reduceToNat, Int.reduceAdd, Nat.reduceDiv, Nat.reduceSub, Nat.reduceMod, encL, MC0, MC1, MC2, List.any_nil]
/-! What is told, in order. -/
def cD (d : Int × Int) : List V := [.int .i64 d.1, .int .i64 d.2, .int .i64 0, .int .i64 0]
theorem cD_len (d : Int × Int) : (cD d).length = 4 := rfl
theorem ld_len (l : List (Int × Int)) : (l.flatMap cD).length = l.length * 4 := flat_len cD_len l
theorem ld_snap (H : Heap) (d : Nat) (l : List (Int × Int)) : (l.flatMap cD).map (snap H (d + 1)) = l.flatMap cD := by
  induction l with
  | nil => rfl
  | cons x r ih => rw [List.flatMap_cons, List.map_append, ih]; rfl
theorem ld_sok (H : Heap) (d : Nat) (l : List (Int × Int)) : (l.flatMap cD).all (sok H (d + 1)) = true := by
  induction l with
  | nil => rfl
  | cons x r ih => rw [List.flatMap_cons, List.all_append, ih]; rfl
theorem ld_imv (d : Nat) (l : List (Int × Int)) : (l.flatMap cD).all (imV d) = true := by
  induction l with
  | nil => rfl
  | cons x r ih => rw [List.flatMap_cons, List.all_append, ih]; cases d <;> rfl
theorem ld_take {l : List (Int × Int)} {n : Nat} (h : l.length * 4 ≤ n) : (l.flatMap cD).take n = l.flatMap cD := List.take_of_length_le (by rw [ld_len]; exact h)
theorem ld_app (l : List (Int × Int)) (a c : Int) : l.flatMap cD ++ [.int .i64 a, .int .i64 c, .int .i64 0, .int .i64 0] = (l ++ [(a, c)]).flatMap cD := by rw [List.flatMap_append]; rfl
theorem nanI_ret (a : Int) : PRet Tryz.prog 71 [.int .i64 a] (.bool false) := by
  refine pret_intro fdg71 (by simp) ?_
  simp only [lcg71, VC0, VC1, VC2, VC3, VC4, VC5, VC6, VC7, VC8, VC9, reduceIte, reduceCtorEq, Nat.reduceEqDiff, Nat.reduceAdd, Nat.reduceMul, Nat.reduceBEq, Nat.reduceLT, Nat.reduceLeDiff, Int.reduceEq, Int.reduceLT, Int.reduceLE, Int.reduceNeg, Int.reduceToNat, Int.reduceAdd, Nat.reduceDiv, Nat.reduceSub, Nat.reduceMod, encL, MC0, MC1, MC2]
theorem cmpI_ret (a : Int) : PRet Tryz.prog 54 [.int .i64 a, .int .i64 a] (.int .i64 0) := by
  refine pret_intro fdg54 (by simp) ?_
  simp only [lcg54, VC0, VC1, VC2, VC3, VC4, VC5, VC6, VC7, VC8, VC9, reduceIte, reduceCtorEq, Nat.reduceEqDiff, Nat.reduceAdd, Nat.reduceMul, Nat.reduceBEq, Nat.reduceLT, Nat.reduceLeDiff, Int.reduceEq, Int.reduceLT, Int.reduceLE, Int.reduceNeg, Int.reduceToNat, Int.reduceAdd, Nat.reduceDiv, Nat.reduceSub, Nat.reduceMod, encL, MC0, MC1, MC2]
  refine callX_of (nanI_ret a) (.inr rfl) ?_
  simp only [VC0, VC1, VC2, VC3, VC4, VC5, VC6, VC7, VC8, VC9, reduceIte, reduceCtorEq, Nat.reduceEqDiff, Nat.reduceAdd, Nat.reduceMul, Nat.reduceBEq, Nat.reduceLT, Nat.reduceLeDiff, Int.reduceEq, Int.reduceLT, Int.reduceLE, Int.reduceNeg, Int.reduceToNat, Int.reduceAdd, Nat.reduceDiv, Nat.reduceSub, Nat.reduceMod, encL, MC0, MC1, MC2]
  refine callX_of (nanI_ret a) (.inr rfl) ?_
  have h : decide (a < a) = false := by simp
  simp only [VC0, VC1, VC2, VC3, VC4, VC5, VC6, VC7, VC8, VC9, reduceIte, reduceCtorEq, Nat.reduceEqDiff, Nat.reduceAdd, Nat.reduceMul, Nat.reduceBEq, Nat.reduceLT, Nat.reduceLeDiff, Int.reduceEq, Int.reduceLT, Int.reduceLE, Int.reduceNeg, Int.reduceToNat, Int.reduceAdd, Nat.reduceDiv, Nat.reduceSub, Nat.reduceMod, encL, MC0, MC1, MC2, h]
theorem orI_ret (l : List Int) (hl : ∀ x ∈ l, x = 0) (hn : l.length ≤ 100) : PRet Tryz.prog 53 [encL cI l] (.int .i64 0) := by
  refine pret_intro fdg53 (by simp) ?_
  simp only [lcg53, VC0, VC1, VC2, VC3, VC4, VC5, VC6, VC7, VC8, VC9, reduceIte, reduceCtorEq, Nat.reduceEqDiff, Nat.reduceAdd, Nat.reduceMul, Nat.reduceBEq, Nat.reduceLT, Nat.reduceLeDiff, Int.reduceEq, Int.reduceLT, Int.reduceLE, Int.reduceNeg, Int.reduceToNat, Int.reduceAdd, Nat.reduceDiv, Nat.reduceSub, Nat.reduceMod, encL, MC0, MC1, MC2]
  refine loop_vcg (ι := Nat × (Nat → Nat)) (fun y => stO [(3, .val (.int .i64 0)), (6, .val (encL cI l)), (7, .val (.int .i64 l.length)), (8, .val (.int .i64 y.1))] y.2)
    (fun y => y.1 ≤ l.length) (fun y => l.length - y.1) (0, _) (Nat.zero_le _) (ent_of _ [] rfl rfl (by simp only [VC0, VC1, VC2, VC3, VC4, VC5, VC6, VC7, VC8, VC9, reduceIte, reduceCtorEq, Nat.reduceEqDiff, Nat.reduceAdd, Nat.reduceMul, Nat.reduceBEq, Nat.reduceLT, Nat.reduceLeDiff, Int.reduceEq, Int.reduceLT, Int.reduceLE, Int.reduceNeg, Int.reduceToNat, Int.reduceAdd, Nat.reduceDiv, Nat.reduceSub, Nat.reduceMod, encL, MC0, MC1, MC2])) ?_
  rintro ⟨k, c⟩ hk
  have hk : k ≤ l.length := hk
  simp only [VC0, VC1, VC2, VC3, VC4, VC5, VC6, VC7, VC8, VC9, reduceIte, reduceCtorEq, Nat.reduceEqDiff, Nat.reduceAdd, Nat.reduceMul, Nat.reduceBEq, Nat.reduceLT, Nat.reduceLeDiff, Int.reduceEq, Int.reduceLT, Int.reduceLE, Int.reduceNeg, Int.reduceToNat, Int.reduceAdd, Nat.reduceDiv, Nat.reduceSub, Nat.reduceMod, encL, MC0, MC1, MC2]
  refine condD_of (fun h => ?_) (fun h => ?_)
  · have hk' : k < l.length := by omega
    have i1 : 0 ≤ (k : Int) ∧ (k : Int) < l.length := by omega
    have i2 : InI64 ((k : Int) + 1) := by unfold InI64; omega
    have e : l[k] = 0 := hl _ (List.getElem_mem hk')
    have e2 : decide ((0 : Int) = 0) = true := rfl
    simp only [VC0, VC1, VC2, VC3, VC4, VC5, VC6, VC7, VC8, VC9, reduceIte, reduceCtorEq, Nat.reduceEqDiff, Nat.reduceAdd, Nat.reduceMul, Nat.reduceBEq, Nat.reduceLT, Nat.reduceLeDiff, Int.reduceEq, Int.reduceLT, Int.reduceLE, Int.reduceNeg, Int.reduceToNat, Int.reduceAdd, Nat.reduceDiv, Nat.reduceSub, Nat.reduceMod, encL, MC0, MC1, MC2, hk', i1, i2, e, e2]
    exact backTo_of (k + 1, _) hk' (by first | omega | (simp only []; omega)) (ent_of _ [] rfl rfl (by simp only [VC0, VC1, VC2, VC3, VC4, VC5, VC6, VC7, VC8, VC9, reduceIte, reduceCtorEq, Nat.reduceEqDiff, Nat.reduceAdd, Nat.reduceMul, Nat.reduceBEq, Nat.reduceLT, Nat.reduceLeDiff, Int.reduceEq, Int.reduceLT, Int.reduceLE, Int.reduceNeg, Int.reduceToNat, Int.reduceAdd, Nat.reduceDiv, Nat.reduceSub, Nat.reduceMod, encL, MC0, MC1, MC2]))
  · simp only [VC0, VC1, VC2, VC3, VC4, VC5, VC6, VC7, VC8, VC9, reduceIte, reduceCtorEq, Nat.reduceEqDiff, Nat.reduceAdd, Nat.reduceMul, Nat.reduceBEq, Nat.reduceLT, Nat.reduceLeDiff, Int.reduceEq, Int.reduceLT, Int.reduceLE, Int.reduceNeg, Int.reduceToNat, Int.reduceAdd, Nat.reduceDiv, Nat.reduceSub, Nat.reduceMod, encL, MC0, MC1, MC2]
theorem diags1_ret (d : Int × Int) : PRet Tryz.prog 52 [.agg (cD d), .agg (cD d)] (.int .i64 0) := by
  refine pret_intro fdg52 (by simp) ?_
  simp only [lcg52, VC0, VC1, VC2, VC3, VC4, VC5, VC6, VC7, VC8, VC9, reduceIte, reduceCtorEq, Nat.reduceEqDiff, Nat.reduceAdd, Nat.reduceMul, Nat.reduceBEq, Nat.reduceLT, Nat.reduceLeDiff, Int.reduceEq, Int.reduceLT, Int.reduceLE, Int.reduceNeg, Int.reduceToNat, Int.reduceAdd, Nat.reduceDiv, Nat.reduceSub, Nat.reduceMod, encL, MC0, MC1, MC2, cD]
  have e1 : (ldV false 1 [V.int .i64 d.1, .int .i64 d.2, .int .i64 0, .int .i64 0] 0) = some (.int .i64 d.1) := rfl
  have e2 : (ldV false 1 [V.int .i64 d.1, .int .i64 d.2, .int .i64 0, .int .i64 0] 1) = some (.int .i64 d.2) := rfl
  simp only [VC0, VC1, VC2, VC3, VC4, VC5, VC6, VC7, VC8, VC9, reduceIte, reduceCtorEq, Nat.reduceEqDiff, Nat.reduceAdd, Nat.reduceMul, Nat.reduceBEq, Nat.reduceLT, Nat.reduceLeDiff, Int.reduceEq, Int.reduceLT, Int.reduceLE, Int.reduceNeg, Int.reduceToNat, Int.reduceAdd, Nat.reduceDiv, Nat.reduceSub, Nat.reduceMod, encL, MC0, MC1, MC2, e1, e2]
  refine callV_of (cmpI_ret d.1) (.inr rfl) ?_
  simp only [VC0, VC1, VC2, VC3, VC4, VC5, VC6, VC7, VC8, VC9, reduceIte, reduceCtorEq, Nat.reduceEqDiff, Nat.reduceAdd, Nat.reduceMul, Nat.reduceBEq, Nat.reduceLT, Nat.reduceLeDiff, Int.reduceEq, Int.reduceLT, Int.reduceLE, Int.reduceNeg, Int.reduceToNat, Int.reduceAdd, Nat.reduceDiv, Nat.reduceSub, Nat.reduceMod, encL, MC0, MC1, MC2, e1, e2]
  refine callV_of (cmpI_ret d.2) (.inr rfl) ?_
  simp only [VC0, VC1, VC2, VC3, VC4, VC5, VC6, VC7, VC8, VC9, reduceIte, reduceCtorEq, Nat.reduceEqDiff, Nat.reduceAdd, Nat.reduceMul, Nat.reduceBEq, Nat.reduceLT, Nat.reduceLeDiff, Int.reduceEq, Int.reduceLT, Int.reduceLE, Int.reduceNeg, Int.reduceToNat, Int.reduceAdd, Nat.reduceDiv, Nat.reduceSub, Nat.reduceMod, encL, MC0, MC1, MC2]
  refine ⟨rfl, callV_of (orI_ret [0, 0] (by simp) (by simp)) (.inr rfl) ?_⟩
  simp only [VC0, VC1, VC2, VC3, VC4, VC5, VC6, VC7, VC8, VC9, reduceIte, reduceCtorEq, Nat.reduceEqDiff, Nat.reduceAdd, Nat.reduceMul, Nat.reduceBEq, Nat.reduceLT, Nat.reduceLeDiff, Int.reduceEq, Int.reduceLT, Int.reduceLE, Int.reduceNeg, Int.reduceToNat, Int.reduceAdd, Nat.reduceDiv, Nat.reduceSub, Nat.reduceMod, encL, MC0, MC1, MC2]
/-- One thing told, or none, is in order. -/
theorem sortD_mut (l : List (Int × Int)) (hl : l.length < 2) : PMut Tryz.prog 51 [.fn 52 []] 4 l.length (l.flatMap cD) none (l.flatMap cD) := by
  have key : ∀ d : Int × Int, ∀ m : List PUnit, m.length < 2 → PMut Tryz.prog 51 [.fn 52 []] 4 m.length (m.flatMap fun _ => cD d) none (m.flatMap fun _ => cD d) := by
    intro d m hm
    refine sortFunc_mut Tryz.sortD (k := 4) (by decide) Tryz.isAgg63 Tryz.sizeOf63 (fun _ : PUnit => cD d) (fun _ => rfl) (fun x v hv => ?_) (fun _ _ => 0) ?_ 52 [] (by kernel_rfl) (by kernel_rfl) (fun x y => diags1_ret d) m m (by omega) (fun m2 h1 h2 => ?_)
    · have : (cD d).all V.one = true := rfl
      exact List.all_eq_true.1 this v hv
    · have h : ∀ a b : PUnit, Go.Proofs.ltOf (fun _ _ : PUnit => (0 : Int)) a b = false := fun a b => rfl
      refine ⟨fun x => h _ _, fun x y z h1 h2 => ?_, fun x y z h1 h2 => h _ _⟩
      rw [h] at h1; cases h1
    · have := h1.length_eq
      have e : ∀ a b : List PUnit, a.length = b.length → a = b := by
        intro a
        induction a with
        | nil => intro b hb; cases b with
          | nil => rfl
          | cons => cases hb
        | cons x a ih => intro b hb; cases b with
          | nil => cases hb
          | cons y b => rw [ih b (by simpa using hb)]
      exact e _ _ this
  cases l with
  | nil => exact key (0, 0) [] (by decide)
  | cons d l =>
    cases l with
    | nil => exact key d [PUnit.unit] (by decide)
    | cons _ _ => simp only [List.length_cons] at hl; omega
end Go.Proofs.YtlkdcgfjmhjjpaaGreat

set_option linter.unusedSimpArgs false
set_option linter.unusedVariables false
namespace Go.Proofs.YtlkdcgfjmhjjpaaGreat
open Go Go.Lg Go.RowKit
set_option linter.unusedVariables false
set_option linter.unusedSimpArgs false
set_option maxRecDepth 20000

theorem lost_nil (p : MPath) (hp : smallP p) : PRet Tryz.prog 67 [encL MPath.cells [], .agg p.cells] (.bool false) := lost_ret [] p (Nat.zero_le _) hp fun x h => by cases h
set_option maxHeartbeats 2000000 in
theorem uses_set (x : MInst) (h1 : x.kind = 1) (h4 : ∀ o ∈ opersL x.val, o.kind ≠ 4) (hn : (opersL x.val).length ≤ 100000) (ho : smallO (opersL x.val)) (hp : smallP x.val.path) (ht : smallP x.to) :
    PRet Tryz.prog 49 [encL MPath.cells [], .agg x.cells] (.tup [.bool false, encL MPath.cells []]) := by
  have hps : x.to.steps.length ≤ 4611686018427387904 := by unfold smallP at ht; omega
  have b1 : decide (x.kind = 1) = true := decide_eq_true h1
  refine pret_intro fdh49 (by simp) ?_
  simp only [lch49, VC0, VC1, VC2, VC3, VC4, VC5, VC6, VC7, VC8, VC9, reduceIte, reduceCtorEq, Nat.reduceEqDiff, Nat.reduceAdd, Nat.reduceMul, Nat.reduceBEq, Nat.reduceLT, Nat.reduceLeDiff, Int.reduceEq, Int.reduceLT, Int.reduceLE, Int.reduceNeg, Int.reduceToNat, Int.reduceAdd, Nat.reduceDiv, Nat.reduceSub, Nat.reduceMod, encL, MC0, MC1, MC2, b1]
  have tail0 : InI64 0 := by unfold InI64; omega
  cases b2 : decide (x.val.kind = 2) <;> simp only [VC0, VC1, VC2, VC3, VC4, VC5, VC6, VC7, VC8, VC9, reduceIte, reduceCtorEq, Nat.reduceEqDiff, Nat.reduceAdd, Nat.reduceMul, Nat.reduceBEq, Nat.reduceLT, Nat.reduceLeDiff, Int.reduceEq, Int.reduceLT, Int.reduceLE, Int.reduceNeg, Int.reduceToNat, Int.reduceAdd, Nat.reduceDiv, Nat.reduceSub, Nat.reduceMod, encL, MC0, MC1, MC2, b2]
  · cases b3 : decide (x.val.kind = 3) <;> simp only [VC0, VC1, VC2, VC3, VC4, VC5, VC6, VC7, VC8, VC9, reduceIte, reduceCtorEq, Nat.reduceEqDiff, Nat.reduceAdd, Nat.reduceMul, Nat.reduceBEq, Nat.reduceLT, Nat.reduceLeDiff, Int.reduceEq, Int.reduceLT, Int.reduceLE, Int.reduceNeg, Int.reduceToNat, Int.reduceAdd, Nat.reduceDiv, Nat.reduceSub, Nat.reduceMod, encL, MC0, MC1, MC2, b3]
    case true => 
      refine callX_of (lost_nil x.val.path hp) (.inr rfl) ?_
      simp only [VC0, VC1, VC2, VC3, VC4, VC5, VC6, VC7, VC8, VC9, reduceIte, reduceCtorEq, Nat.reduceEqDiff, Nat.reduceAdd, Nat.reduceMul, Nat.reduceBEq, Nat.reduceLT, Nat.reduceLeDiff, Int.reduceEq, Int.reduceLT, Int.reduceLE, Int.reduceNeg, Int.reduceToNat, Int.reduceAdd, Nat.reduceDiv, Nat.reduceSub, Nat.reduceMod, encL, MC0, MC1, MC2]
      refine callX_inl fdh40 (by simp) ?_
      simp only [lch40, VC0, VC1, VC2, VC3, VC4, VC5, VC6, VC7, VC8, VC9, reduceIte, reduceCtorEq, Nat.reduceEqDiff, Nat.reduceAdd, Nat.reduceMul, Nat.reduceBEq, Nat.reduceLT, Nat.reduceLeDiff, Int.reduceEq, Int.reduceLT, Int.reduceLE, Int.reduceNeg, Int.reduceToNat, Int.reduceAdd, Nat.reduceDiv, Nat.reduceSub, Nat.reduceMod, encL, MC0, MC1, MC2]
      refine callX_of (opersG_ret x.val) (.inl rfl) ?_
      simp only [VC0, VC1, VC2, VC3, VC4, VC5, VC6, VC7, VC8, VC9, reduceIte, reduceCtorEq, Nat.reduceEqDiff, Nat.reduceAdd, Nat.reduceMul, Nat.reduceBEq, Nat.reduceLT, Nat.reduceLeDiff, Int.reduceEq, Int.reduceLT, Int.reduceLE, Int.reduceNeg, Int.reduceToNat, Int.reduceAdd, Nat.reduceDiv, Nat.reduceSub, Nat.reduceMod, encL, MC0, MC1, MC2]
      generalize hos : opersL x.val = os at *
      refine loop_vcg (ι := Nat × (Nat → Nat)) (fun y => stO [(0, .val (encL MPath.cells [])), (2, .clo 66 [100012]), (10, .val (encL MOper.cells os)), (11, .val (.int .i64 os.length)), (12, .val (.int .i64 y.1)), (100006, .box x.cells), (100012, .box [.bool false])] y.2)
        (fun y => y.1 ≤ os.length) (fun y => os.length - y.1) (0, _) (Nat.zero_le _) (ent_of _ [] rfl rfl (by simp only [VC0, VC1, VC2, VC3, VC4, VC5, VC6, VC7, VC8, VC9, reduceIte, reduceCtorEq, Nat.reduceEqDiff, Nat.reduceAdd, Nat.reduceMul, Nat.reduceBEq, Nat.reduceLT, Nat.reduceLeDiff, Int.reduceEq, Int.reduceLT, Int.reduceLE, Int.reduceNeg, Int.reduceToNat, Int.reduceAdd, Nat.reduceDiv, Nat.reduceSub, Nat.reduceMod, encL, MC0, MC1, MC2]; rfl)) ?_
      rintro ⟨k, c⟩ hk
      have hk : k ≤ os.length := hk
      simp only [VC0, VC1, VC2, VC3, VC4, VC5, VC6, VC7, VC8, VC9, reduceIte, reduceCtorEq, Nat.reduceEqDiff, Nat.reduceAdd, Nat.reduceMul, Nat.reduceBEq, Nat.reduceLT, Nat.reduceLeDiff, Int.reduceEq, Int.reduceLT, Int.reduceLE, Int.reduceNeg, Int.reduceToNat, Int.reduceAdd, Nat.reduceDiv, Nat.reduceSub, Nat.reduceMod, encL, MC0, MC1, MC2]
      refine condD_of (fun h => ?_) (fun h => ?_)
      · have hk' : k < os.length := by omega
        have i1 : 0 ≤ (k : Int) ∧ (k : Int) < os.length := by omega
        have i2 : InI64 ((k : Int) + 1) := by unfold InI64; omega
        have k4 : decide (os[k].kind = 4) = false := decide_eq_false (h4 _ (List.getElem_mem hk'))
        simp only [VC0, VC1, VC2, VC3, VC4, VC5, VC6, VC7, VC8, VC9, reduceIte, reduceCtorEq, Nat.reduceEqDiff, Nat.reduceAdd, Nat.reduceMul, Nat.reduceBEq, Nat.reduceLT, Nat.reduceLeDiff, Int.reduceEq, Int.reduceLT, Int.reduceLE, Int.reduceNeg, Int.reduceToNat, Int.reduceAdd, Nat.reduceDiv, Nat.reduceSub, Nat.reduceMod, encL, MC0, MC1, MC2, hk', i1]
        refine callX_inl fdh66 (by simp) ?_
        simp only [lch66, VC0, VC1, VC2, VC3, VC4, VC5, VC6, VC7, VC8, VC9, reduceIte, reduceCtorEq, Nat.reduceEqDiff, Nat.reduceAdd, Nat.reduceMul, Nat.reduceBEq, Nat.reduceLT, Nat.reduceLeDiff, Int.reduceEq, Int.reduceLT, Int.reduceLE, Int.reduceNeg, Int.reduceToNat, Int.reduceAdd, Nat.reduceDiv, Nat.reduceSub, Nat.reduceMod, encL, MC0, MC1, MC2]
        cases c3 : decide (os[k].kind = 3) <;> simp only [VC0, VC1, VC2, VC3, VC4, VC5, VC6, VC7, VC8, VC9, reduceIte, reduceCtorEq, Nat.reduceEqDiff, Nat.reduceAdd, Nat.reduceMul, Nat.reduceBEq, Nat.reduceLT, Nat.reduceLeDiff, Int.reduceEq, Int.reduceLT, Int.reduceLE, Int.reduceNeg, Int.reduceToNat, Int.reduceAdd, Nat.reduceDiv, Nat.reduceSub, Nat.reduceMod, encL, MC0, MC1, MC2, c3, k4]
        · simp only [VC0, VC1, VC2, VC3, VC4, VC5, VC6, VC7, VC8, VC9, reduceIte, reduceCtorEq, Nat.reduceEqDiff, Nat.reduceAdd, Nat.reduceMul, Nat.reduceBEq, Nat.reduceLT, Nat.reduceLeDiff, Int.reduceEq, Int.reduceLT, Int.reduceLE, Int.reduceNeg, Int.reduceToNat, Int.reduceAdd, Nat.reduceDiv, Nat.reduceSub, Nat.reduceMod, encL, MC0, MC1, MC2, List.mapM_nil, List.mapM_cons, Option.pure_def, Option.bind_eq_bind, Option.bind_some, Option.map_some, Option.some.injEq, exists_eq_left']
          exact ⟨i2, backTo_of (k + 1, _) hk' (by first | omega | (simp only []; omega)) (ent_of _ [] rfl rfl (by simp only [VC0, VC1, VC2, VC3, VC4, VC5, VC6, VC7, VC8, VC9, reduceIte, reduceCtorEq, Nat.reduceEqDiff, Nat.reduceAdd, Nat.reduceMul, Nat.reduceBEq, Nat.reduceLT, Nat.reduceLeDiff, Int.reduceEq, Int.reduceLT, Int.reduceLE, Int.reduceNeg, Int.reduceToNat, Int.reduceAdd, Nat.reduceDiv, Nat.reduceSub, Nat.reduceMod, encL, MC0, MC1, MC2]; rfl))⟩
        · refine callX_of (lost_nil os[k].path (ho _ (List.getElem_mem hk'))) (.inr rfl) ?_
          simp only [VC0, VC1, VC2, VC3, VC4, VC5, VC6, VC7, VC8, VC9, reduceIte, reduceCtorEq, Nat.reduceEqDiff, Nat.reduceAdd, Nat.reduceMul, Nat.reduceBEq, Nat.reduceLT, Nat.reduceLeDiff, Int.reduceEq, Int.reduceLT, Int.reduceLE, Int.reduceNeg, Int.reduceToNat, Int.reduceAdd, Nat.reduceDiv, Nat.reduceSub, Nat.reduceMod, encL, MC0, MC1, MC2, k4]
          simp only [VC0, VC1, VC2, VC3, VC4, VC5, VC6, VC7, VC8, VC9, reduceIte, reduceCtorEq, Nat.reduceEqDiff, Nat.reduceAdd, Nat.reduceMul, Nat.reduceBEq, Nat.reduceLT, Nat.reduceLeDiff, Int.reduceEq, Int.reduceLT, Int.reduceLE, Int.reduceNeg, Int.reduceToNat, Int.reduceAdd, Nat.reduceDiv, Nat.reduceSub, Nat.reduceMod, encL, MC0, MC1, MC2, List.mapM_nil, List.mapM_cons, Option.pure_def, Option.bind_eq_bind, Option.bind_some, Option.map_some, Option.some.injEq, exists_eq_left']
          exact ⟨i2, backTo_of (k + 1, _) hk' (by first | omega | (simp only []; omega)) (ent_of _ [] rfl rfl (by simp only [VC0, VC1, VC2, VC3, VC4, VC5, VC6, VC7, VC8, VC9, reduceIte, reduceCtorEq, Nat.reduceEqDiff, Nat.reduceAdd, Nat.reduceMul, Nat.reduceBEq, Nat.reduceLT, Nat.reduceLeDiff, Int.reduceEq, Int.reduceLT, Int.reduceLE, Int.reduceNeg, Int.reduceToNat, Int.reduceAdd, Nat.reduceDiv, Nat.reduceSub, Nat.reduceMod, encL, MC0, MC1, MC2]; rfl))⟩
      · have hk' : k = os.length := by omega
        subst hk'
        simp only [VC0, VC1, VC2, VC3, VC4, VC5, VC6, VC7, VC8, VC9, reduceIte, reduceCtorEq, Nat.reduceEqDiff, Nat.reduceAdd, Nat.reduceMul, Nat.reduceBEq, Nat.reduceLT, Nat.reduceLeDiff, Int.reduceEq, Int.reduceLT, Int.reduceLE, Int.reduceNeg, Int.reduceToNat, Int.reduceAdd, Nat.reduceDiv, Nat.reduceSub, Nat.reduceMod, encL, MC0, MC1, MC2]
        cases d1 : x.has <;> simp only [VC0, VC1, VC2, VC3, VC4, VC5, VC6, VC7, VC8, VC9, reduceIte, reduceCtorEq, Nat.reduceEqDiff, Nat.reduceAdd, Nat.reduceMul, Nat.reduceBEq, Nat.reduceLT, Nat.reduceLeDiff, Int.reduceEq, Int.reduceLT, Int.reduceLE, Int.reduceNeg, Int.reduceToNat, Int.reduceAdd, Nat.reduceDiv, Nat.reduceSub, Nat.reduceMod, encL, MC0, MC1, MC2, d1]
        · simp only [VC0, VC1, VC2, VC3, VC4, VC5, VC6, VC7, VC8, VC9, reduceIte, reduceCtorEq, Nat.reduceEqDiff, Nat.reduceAdd, Nat.reduceMul, Nat.reduceBEq, Nat.reduceLT, Nat.reduceLeDiff, Int.reduceEq, Int.reduceLT, Int.reduceLE, Int.reduceNeg, Int.reduceToNat, Int.reduceAdd, Nat.reduceDiv, Nat.reduceSub, Nat.reduceMod, encL, MC0, MC1, MC2, List.mapM_nil, List.mapM_cons, Option.pure_def, Option.bind_eq_bind, Option.bind_some, Option.map_some, Option.some.injEq, exists_eq_left']
        · refine callX_of (hasS_ret x.to.steps _ hps) (.inr rfl) ?_
          cases d2 : x.to.steps.any (fun y => decide ((⟨#[42]⟩ : ByteArray) = y)) <;> simp only [VC0, VC1, VC2, VC3, VC4, VC5, VC6, VC7, VC8, VC9, reduceIte, reduceCtorEq, Nat.reduceEqDiff, Nat.reduceAdd, Nat.reduceMul, Nat.reduceBEq, Nat.reduceLT, Nat.reduceLeDiff, Int.reduceEq, Int.reduceLT, Int.reduceLE, Int.reduceNeg, Int.reduceToNat, Int.reduceAdd, Nat.reduceDiv, Nat.reduceSub, Nat.reduceMod, encL, MC0, MC1, MC2, d2]
          · simp only [VC0, VC1, VC2, VC3, VC4, VC5, VC6, VC7, VC8, VC9, reduceIte, reduceCtorEq, Nat.reduceEqDiff, Nat.reduceAdd, Nat.reduceMul, Nat.reduceBEq, Nat.reduceLT, Nat.reduceLeDiff, Int.reduceEq, Int.reduceLT, Int.reduceLE, Int.reduceNeg, Int.reduceToNat, Int.reduceAdd, Nat.reduceDiv, Nat.reduceSub, Nat.reduceMod, encL, MC0, MC1, MC2, List.mapM_nil, List.mapM_cons, Option.pure_def, Option.bind_eq_bind, Option.bind_some, Option.map_some, Option.some.injEq, exists_eq_left']
          · refine callX_of (lost_nil x.to ht) (.inr rfl) ?_
            simp only [VC0, VC1, VC2, VC3, VC4, VC5, VC6, VC7, VC8, VC9, reduceIte, reduceCtorEq, Nat.reduceEqDiff, Nat.reduceAdd, Nat.reduceMul, Nat.reduceBEq, Nat.reduceLT, Nat.reduceLeDiff, Int.reduceEq, Int.reduceLT, Int.reduceLE, Int.reduceNeg, Int.reduceToNat, Int.reduceAdd, Nat.reduceDiv, Nat.reduceSub, Nat.reduceMod, encL, MC0, MC1, MC2]
            simp only [VC0, VC1, VC2, VC3, VC4, VC5, VC6, VC7, VC8, VC9, reduceIte, reduceCtorEq, Nat.reduceEqDiff, Nat.reduceAdd, Nat.reduceMul, Nat.reduceBEq, Nat.reduceLT, Nat.reduceLeDiff, Int.reduceEq, Int.reduceLT, Int.reduceLE, Int.reduceNeg, Int.reduceToNat, Int.reduceAdd, Nat.reduceDiv, Nat.reduceSub, Nat.reduceMod, encL, MC0, MC1, MC2, List.mapM_nil, List.mapM_cons, Option.pure_def, Option.bind_eq_bind, Option.bind_some, Option.map_some, Option.some.injEq, exists_eq_left']
    case false =>
      refine callX_inl fdh40 (by simp) ?_
      simp only [lch40, VC0, VC1, VC2, VC3, VC4, VC5, VC6, VC7, VC8, VC9, reduceIte, reduceCtorEq, Nat.reduceEqDiff, Nat.reduceAdd, Nat.reduceMul, Nat.reduceBEq, Nat.reduceLT, Nat.reduceLeDiff, Int.reduceEq, Int.reduceLT, Int.reduceLE, Int.reduceNeg, Int.reduceToNat, Int.reduceAdd, Nat.reduceDiv, Nat.reduceSub, Nat.reduceMod, encL, MC0, MC1, MC2]
      refine callX_of (opersG_ret x.val) (.inl rfl) ?_
      simp only [VC0, VC1, VC2, VC3, VC4, VC5, VC6, VC7, VC8, VC9, reduceIte, reduceCtorEq, Nat.reduceEqDiff, Nat.reduceAdd, Nat.reduceMul, Nat.reduceBEq, Nat.reduceLT, Nat.reduceLeDiff, Int.reduceEq, Int.reduceLT, Int.reduceLE, Int.reduceNeg, Int.reduceToNat, Int.reduceAdd, Nat.reduceDiv, Nat.reduceSub, Nat.reduceMod, encL, MC0, MC1, MC2]
      generalize hos : opersL x.val = os at *
      refine loop_vcg (ι := Nat × (Nat → Nat)) (fun y => stO [(0, .val (encL MPath.cells [])), (2, .clo 66 [100012]), (10, .val (encL MOper.cells os)), (11, .val (.int .i64 os.length)), (12, .val (.int .i64 y.1)), (100006, .box x.cells), (100012, .box [.bool false])] y.2)
        (fun y => y.1 ≤ os.length) (fun y => os.length - y.1) (0, _) (Nat.zero_le _) (ent_of _ [] rfl rfl (by simp only [VC0, VC1, VC2, VC3, VC4, VC5, VC6, VC7, VC8, VC9, reduceIte, reduceCtorEq, Nat.reduceEqDiff, Nat.reduceAdd, Nat.reduceMul, Nat.reduceBEq, Nat.reduceLT, Nat.reduceLeDiff, Int.reduceEq, Int.reduceLT, Int.reduceLE, Int.reduceNeg, Int.reduceToNat, Int.reduceAdd, Nat.reduceDiv, Nat.reduceSub, Nat.reduceMod, encL, MC0, MC1, MC2]; rfl)) ?_
      rintro ⟨k, c⟩ hk
      have hk : k ≤ os.length := hk
      simp only [VC0, VC1, VC2, VC3, VC4, VC5, VC6, VC7, VC8, VC9, reduceIte, reduceCtorEq, Nat.reduceEqDiff, Nat.reduceAdd, Nat.reduceMul, Nat.reduceBEq, Nat.reduceLT, Nat.reduceLeDiff, Int.reduceEq, Int.reduceLT, Int.reduceLE, Int.reduceNeg, Int.reduceToNat, Int.reduceAdd, Nat.reduceDiv, Nat.reduceSub, Nat.reduceMod, encL, MC0, MC1, MC2]
      refine condD_of (fun h => ?_) (fun h => ?_)
      · have hk' : k < os.length := by omega
        have i1 : 0 ≤ (k : Int) ∧ (k : Int) < os.length := by omega
        have i2 : InI64 ((k : Int) + 1) := by unfold InI64; omega
        have k4 : decide (os[k].kind = 4) = false := decide_eq_false (h4 _ (List.getElem_mem hk'))
        simp only [VC0, VC1, VC2, VC3, VC4, VC5, VC6, VC7, VC8, VC9, reduceIte, reduceCtorEq, Nat.reduceEqDiff, Nat.reduceAdd, Nat.reduceMul, Nat.reduceBEq, Nat.reduceLT, Nat.reduceLeDiff, Int.reduceEq, Int.reduceLT, Int.reduceLE, Int.reduceNeg, Int.reduceToNat, Int.reduceAdd, Nat.reduceDiv, Nat.reduceSub, Nat.reduceMod, encL, MC0, MC1, MC2, hk', i1]
        refine callX_inl fdh66 (by simp) ?_
        simp only [lch66, VC0, VC1, VC2, VC3, VC4, VC5, VC6, VC7, VC8, VC9, reduceIte, reduceCtorEq, Nat.reduceEqDiff, Nat.reduceAdd, Nat.reduceMul, Nat.reduceBEq, Nat.reduceLT, Nat.reduceLeDiff, Int.reduceEq, Int.reduceLT, Int.reduceLE, Int.reduceNeg, Int.reduceToNat, Int.reduceAdd, Nat.reduceDiv, Nat.reduceSub, Nat.reduceMod, encL, MC0, MC1, MC2]
        cases c3 : decide (os[k].kind = 3) <;> simp only [VC0, VC1, VC2, VC3, VC4, VC5, VC6, VC7, VC8, VC9, reduceIte, reduceCtorEq, Nat.reduceEqDiff, Nat.reduceAdd, Nat.reduceMul, Nat.reduceBEq, Nat.reduceLT, Nat.reduceLeDiff, Int.reduceEq, Int.reduceLT, Int.reduceLE, Int.reduceNeg, Int.reduceToNat, Int.reduceAdd, Nat.reduceDiv, Nat.reduceSub, Nat.reduceMod, encL, MC0, MC1, MC2, c3, k4]
        · simp only [VC0, VC1, VC2, VC3, VC4, VC5, VC6, VC7, VC8, VC9, reduceIte, reduceCtorEq, Nat.reduceEqDiff, Nat.reduceAdd, Nat.reduceMul, Nat.reduceBEq, Nat.reduceLT, Nat.reduceLeDiff, Int.reduceEq, Int.reduceLT, Int.reduceLE, Int.reduceNeg, Int.reduceToNat, Int.reduceAdd, Nat.reduceDiv, Nat.reduceSub, Nat.reduceMod, encL, MC0, MC1, MC2, List.mapM_nil, List.mapM_cons, Option.pure_def, Option.bind_eq_bind, Option.bind_some, Option.map_some, Option.some.injEq, exists_eq_left']
          exact ⟨i2, backTo_of (k + 1, _) hk' (by first | omega | (simp only []; omega)) (ent_of _ [] rfl rfl (by simp only [VC0, VC1, VC2, VC3, VC4, VC5, VC6, VC7, VC8, VC9, reduceIte, reduceCtorEq, Nat.reduceEqDiff, Nat.reduceAdd, Nat.reduceMul, Nat.reduceBEq, Nat.reduceLT, Nat.reduceLeDiff, Int.reduceEq, Int.reduceLT, Int.reduceLE, Int.reduceNeg, Int.reduceToNat, Int.reduceAdd, Nat.reduceDiv, Nat.reduceSub, Nat.reduceMod, encL, MC0, MC1, MC2]; rfl))⟩
        · refine callX_of (lost_nil os[k].path (ho _ (List.getElem_mem hk'))) (.inr rfl) ?_
          simp only [VC0, VC1, VC2, VC3, VC4, VC5, VC6, VC7, VC8, VC9, reduceIte, reduceCtorEq, Nat.reduceEqDiff, Nat.reduceAdd, Nat.reduceMul, Nat.reduceBEq, Nat.reduceLT, Nat.reduceLeDiff, Int.reduceEq, Int.reduceLT, Int.reduceLE, Int.reduceNeg, Int.reduceToNat, Int.reduceAdd, Nat.reduceDiv, Nat.reduceSub, Nat.reduceMod, encL, MC0, MC1, MC2, k4]
          simp only [VC0, VC1, VC2, VC3, VC4, VC5, VC6, VC7, VC8, VC9, reduceIte, reduceCtorEq, Nat.reduceEqDiff, Nat.reduceAdd, Nat.reduceMul, Nat.reduceBEq, Nat.reduceLT, Nat.reduceLeDiff, Int.reduceEq, Int.reduceLT, Int.reduceLE, Int.reduceNeg, Int.reduceToNat, Int.reduceAdd, Nat.reduceDiv, Nat.reduceSub, Nat.reduceMod, encL, MC0, MC1, MC2, List.mapM_nil, List.mapM_cons, Option.pure_def, Option.bind_eq_bind, Option.bind_some, Option.map_some, Option.some.injEq, exists_eq_left']
          exact ⟨i2, backTo_of (k + 1, _) hk' (by first | omega | (simp only []; omega)) (ent_of _ [] rfl rfl (by simp only [VC0, VC1, VC2, VC3, VC4, VC5, VC6, VC7, VC8, VC9, reduceIte, reduceCtorEq, Nat.reduceEqDiff, Nat.reduceAdd, Nat.reduceMul, Nat.reduceBEq, Nat.reduceLT, Nat.reduceLeDiff, Int.reduceEq, Int.reduceLT, Int.reduceLE, Int.reduceNeg, Int.reduceToNat, Int.reduceAdd, Nat.reduceDiv, Nat.reduceSub, Nat.reduceMod, encL, MC0, MC1, MC2]; rfl))⟩
      · have hk' : k = os.length := by omega
        subst hk'
        simp only [VC0, VC1, VC2, VC3, VC4, VC5, VC6, VC7, VC8, VC9, reduceIte, reduceCtorEq, Nat.reduceEqDiff, Nat.reduceAdd, Nat.reduceMul, Nat.reduceBEq, Nat.reduceLT, Nat.reduceLeDiff, Int.reduceEq, Int.reduceLT, Int.reduceLE, Int.reduceNeg, Int.reduceToNat, Int.reduceAdd, Nat.reduceDiv, Nat.reduceSub, Nat.reduceMod, encL, MC0, MC1, MC2]
        cases d1 : x.has <;> simp only [VC0, VC1, VC2, VC3, VC4, VC5, VC6, VC7, VC8, VC9, reduceIte, reduceCtorEq, Nat.reduceEqDiff, Nat.reduceAdd, Nat.reduceMul, Nat.reduceBEq, Nat.reduceLT, Nat.reduceLeDiff, Int.reduceEq, Int.reduceLT, Int.reduceLE, Int.reduceNeg, Int.reduceToNat, Int.reduceAdd, Nat.reduceDiv, Nat.reduceSub, Nat.reduceMod, encL, MC0, MC1, MC2, d1]
        · simp only [VC0, VC1, VC2, VC3, VC4, VC5, VC6, VC7, VC8, VC9, reduceIte, reduceCtorEq, Nat.reduceEqDiff, Nat.reduceAdd, Nat.reduceMul, Nat.reduceBEq, Nat.reduceLT, Nat.reduceLeDiff, Int.reduceEq, Int.reduceLT, Int.reduceLE, Int.reduceNeg, Int.reduceToNat, Int.reduceAdd, Nat.reduceDiv, Nat.reduceSub, Nat.reduceMod, encL, MC0, MC1, MC2, List.mapM_nil, List.mapM_cons, Option.pure_def, Option.bind_eq_bind, Option.bind_some, Option.map_some, Option.some.injEq, exists_eq_left']
        · refine callX_of (hasS_ret x.to.steps _ hps) (.inr rfl) ?_
          cases d2 : x.to.steps.any (fun y => decide ((⟨#[42]⟩ : ByteArray) = y)) <;> simp only [VC0, VC1, VC2, VC3, VC4, VC5, VC6, VC7, VC8, VC9, reduceIte, reduceCtorEq, Nat.reduceEqDiff, Nat.reduceAdd, Nat.reduceMul, Nat.reduceBEq, Nat.reduceLT, Nat.reduceLeDiff, Int.reduceEq, Int.reduceLT, Int.reduceLE, Int.reduceNeg, Int.reduceToNat, Int.reduceAdd, Nat.reduceDiv, Nat.reduceSub, Nat.reduceMod, encL, MC0, MC1, MC2, d2]
          · simp only [VC0, VC1, VC2, VC3, VC4, VC5, VC6, VC7, VC8, VC9, reduceIte, reduceCtorEq, Nat.reduceEqDiff, Nat.reduceAdd, Nat.reduceMul, Nat.reduceBEq, Nat.reduceLT, Nat.reduceLeDiff, Int.reduceEq, Int.reduceLT, Int.reduceLE, Int.reduceNeg, Int.reduceToNat, Int.reduceAdd, Nat.reduceDiv, Nat.reduceSub, Nat.reduceMod, encL, MC0, MC1, MC2, List.mapM_nil, List.mapM_cons, Option.pure_def, Option.bind_eq_bind, Option.bind_some, Option.map_some, Option.some.injEq, exists_eq_left']
          · refine callX_of (lost_nil x.to ht) (.inr rfl) ?_
            simp only [VC0, VC1, VC2, VC3, VC4, VC5, VC6, VC7, VC8, VC9, reduceIte, reduceCtorEq, Nat.reduceEqDiff, Nat.reduceAdd, Nat.reduceMul, Nat.reduceBEq, Nat.reduceLT, Nat.reduceLeDiff, Int.reduceEq, Int.reduceLT, Int.reduceLE, Int.reduceNeg, Int.reduceToNat, Int.reduceAdd, Nat.reduceDiv, Nat.reduceSub, Nat.reduceMod, encL, MC0, MC1, MC2]
            simp only [VC0, VC1, VC2, VC3, VC4, VC5, VC6, VC7, VC8, VC9, reduceIte, reduceCtorEq, Nat.reduceEqDiff, Nat.reduceAdd, Nat.reduceMul, Nat.reduceBEq, Nat.reduceLT, Nat.reduceLeDiff, Int.reduceEq, Int.reduceLT, Int.reduceLE, Int.reduceNeg, Int.reduceToNat, Int.reduceAdd, Nat.reduceDiv, Nat.reduceSub, Nat.reduceMod, encL, MC0, MC1, MC2, List.mapM_nil, List.mapM_cons, Option.pure_def, Option.bind_eq_bind, Option.bind_some, Option.map_some, Option.some.injEq, exists_eq_left']
  · refine callX_of (lost_nil x.val.path hp) (.inr rfl) ?_
    simp only [VC0, VC1, VC2, VC3, VC4, VC5, VC6, VC7, VC8, VC9, reduceIte, reduceCtorEq, Nat.reduceEqDiff, Nat.reduceAdd, Nat.reduceMul, Nat.reduceBEq, Nat.reduceLT, Nat.reduceLeDiff, Int.reduceEq, Int.reduceLT, Int.reduceLE, Int.reduceNeg, Int.reduceToNat, Int.reduceAdd, Nat.reduceDiv, Nat.reduceSub, Nat.reduceMod, encL, MC0, MC1, MC2]
    refine callX_inl fdh40 (by simp) ?_
    simp only [lch40, VC0, VC1, VC2, VC3, VC4, VC5, VC6, VC7, VC8, VC9, reduceIte, reduceCtorEq, Nat.reduceEqDiff, Nat.reduceAdd, Nat.reduceMul, Nat.reduceBEq, Nat.reduceLT, Nat.reduceLeDiff, Int.reduceEq, Int.reduceLT, Int.reduceLE, Int.reduceNeg, Int.reduceToNat, Int.reduceAdd, Nat.reduceDiv, Nat.reduceSub, Nat.reduceMod, encL, MC0, MC1, MC2]
    refine callX_of (opersG_ret x.val) (.inl rfl) ?_
    simp only [VC0, VC1, VC2, VC3, VC4, VC5, VC6, VC7, VC8, VC9, reduceIte, reduceCtorEq, Nat.reduceEqDiff, Nat.reduceAdd, Nat.reduceMul, Nat.reduceBEq, Nat.reduceLT, Nat.reduceLeDiff, Int.reduceEq, Int.reduceLT, Int.reduceLE, Int.reduceNeg, Int.reduceToNat, Int.reduceAdd, Nat.reduceDiv, Nat.reduceSub, Nat.reduceMod, encL, MC0, MC1, MC2]
    generalize hos : opersL x.val = os at *
    refine loop_vcg (ι := Nat × (Nat → Nat)) (fun y => stO [(0, .val (encL MPath.cells [])), (2, .clo 66 [100012]), (10, .val (encL MOper.cells os)), (11, .val (.int .i64 os.length)), (12, .val (.int .i64 y.1)), (100006, .box x.cells), (100012, .box [.bool false])] y.2)
      (fun y => y.1 ≤ os.length) (fun y => os.length - y.1) (0, _) (Nat.zero_le _) (ent_of _ [] rfl rfl (by simp only [VC0, VC1, VC2, VC3, VC4, VC5, VC6, VC7, VC8, VC9, reduceIte, reduceCtorEq, Nat.reduceEqDiff, Nat.reduceAdd, Nat.reduceMul, Nat.reduceBEq, Nat.reduceLT, Nat.reduceLeDiff, Int.reduceEq, Int.reduceLT, Int.reduceLE, Int.reduceNeg, Int.reduceToNat, Int.reduceAdd, Nat.reduceDiv, Nat.reduceSub, Nat.reduceMod, encL, MC0, MC1, MC2]; rfl)) ?_
    rintro ⟨k, c⟩ hk
    have hk : k ≤ os.length := hk
    simp only [VC0, VC1, VC2, VC3, VC4, VC5, VC6, VC7, VC8, VC9, reduceIte, reduceCtorEq, Nat.reduceEqDiff, Nat.reduceAdd, Nat.reduceMul, Nat.reduceBEq, Nat.reduceLT, Nat.reduceLeDiff, Int.reduceEq, Int.reduceLT, Int.reduceLE, Int.reduceNeg, Int.reduceToNat, Int.reduceAdd, Nat.reduceDiv, Nat.reduceSub, Nat.reduceMod, encL, MC0, MC1, MC2]
    refine condD_of (fun h => ?_) (fun h => ?_)
    · have hk' : k < os.length := by omega
      have i1 : 0 ≤ (k : Int) ∧ (k : Int) < os.length := by omega
      have i2 : InI64 ((k : Int) + 1) := by unfold InI64; omega
      have k4 : decide (os[k].kind = 4) = false := decide_eq_false (h4 _ (List.getElem_mem hk'))
      simp only [VC0, VC1, VC2, VC3, VC4, VC5, VC6, VC7, VC8, VC9, reduceIte, reduceCtorEq, Nat.reduceEqDiff, Nat.reduceAdd, Nat.reduceMul, Nat.reduceBEq, Nat.reduceLT, Nat.reduceLeDiff, Int.reduceEq, Int.reduceLT, Int.reduceLE, Int.reduceNeg, Int.reduceToNat, Int.reduceAdd, Nat.reduceDiv, Nat.reduceSub, Nat.reduceMod, encL, MC0, MC1, MC2, hk', i1]
      refine callX_inl fdh66 (by simp) ?_
      simp only [lch66, VC0, VC1, VC2, VC3, VC4, VC5, VC6, VC7, VC8, VC9, reduceIte, reduceCtorEq, Nat.reduceEqDiff, Nat.reduceAdd, Nat.reduceMul, Nat.reduceBEq, Nat.reduceLT, Nat.reduceLeDiff, Int.reduceEq, Int.reduceLT, Int.reduceLE, Int.reduceNeg, Int.reduceToNat, Int.reduceAdd, Nat.reduceDiv, Nat.reduceSub, Nat.reduceMod, encL, MC0, MC1, MC2]
      cases c3 : decide (os[k].kind = 3) <;> simp only [VC0, VC1, VC2, VC3, VC4, VC5, VC6, VC7, VC8, VC9, reduceIte, reduceCtorEq, Nat.reduceEqDiff, Nat.reduceAdd, Nat.reduceMul, Nat.reduceBEq, Nat.reduceLT, Nat.reduceLeDiff, Int.reduceEq, Int.reduceLT, Int.reduceLE, Int.reduceNeg, Int.reduceToNat, Int.reduceAdd, Nat.reduceDiv, Nat.reduceSub, Nat.reduceMod, encL, MC0, MC1, MC2, c3, k4]
      · simp only [VC0, VC1, VC2, VC3, VC4, VC5, VC6, VC7, VC8, VC9, reduceIte, reduceCtorEq, Nat.reduceEqDiff, Nat.reduceAdd, Nat.reduceMul, Nat.reduceBEq, Nat.reduceLT, Nat.reduceLeDiff, Int.reduceEq, Int.reduceLT, Int.reduceLE, Int.reduceNeg, Int.reduceToNat, Int.reduceAdd, Nat.reduceDiv, Nat.reduceSub, Nat.reduceMod, encL, MC0, MC1, MC2, List.mapM_nil, List.mapM_cons, Option.pure_def, Option.bind_eq_bind, Option.bind_some, Option.map_some, Option.some.injEq, exists_eq_left']
        exact ⟨i2, backTo_of (k + 1, _) hk' (by first | omega | (simp only []; omega)) (ent_of _ [] rfl rfl (by simp only [VC0, VC1, VC2, VC3, VC4, VC5, VC6, VC7, VC8, VC9, reduceIte, reduceCtorEq, Nat.reduceEqDiff, Nat.reduceAdd, Nat.reduceMul, Nat.reduceBEq, Nat.reduceLT, Nat.reduceLeDiff, Int.reduceEq, Int.reduceLT, Int.reduceLE, Int.reduceNeg, Int.reduceToNat, Int.reduceAdd, Nat.reduceDiv, Nat.reduceSub, Nat.reduceMod, encL, MC0, MC1, MC2]; rfl))⟩
      · refine callX_of (lost_nil os[k].path (ho _ (List.getElem_mem hk'))) (.inr rfl) ?_
        simp only [VC0, VC1, VC2, VC3, VC4, VC5, VC6, VC7, VC8, VC9, reduceIte, reduceCtorEq, Nat.reduceEqDiff, Nat.reduceAdd, Nat.reduceMul, Nat.reduceBEq, Nat.reduceLT, Nat.reduceLeDiff, Int.reduceEq, Int.reduceLT, Int.reduceLE, Int.reduceNeg, Int.reduceToNat, Int.reduceAdd, Nat.reduceDiv, Nat.reduceSub, Nat.reduceMod, encL, MC0, MC1, MC2, k4]
        simp only [VC0, VC1, VC2, VC3, VC4, VC5, VC6, VC7, VC8, VC9, reduceIte, reduceCtorEq, Nat.reduceEqDiff, Nat.reduceAdd, Nat.reduceMul, Nat.reduceBEq, Nat.reduceLT, Nat.reduceLeDiff, Int.reduceEq, Int.reduceLT, Int.reduceLE, Int.reduceNeg, Int.reduceToNat, Int.reduceAdd, Nat.reduceDiv, Nat.reduceSub, Nat.reduceMod, encL, MC0, MC1, MC2, List.mapM_nil, List.mapM_cons, Option.pure_def, Option.bind_eq_bind, Option.bind_some, Option.map_some, Option.some.injEq, exists_eq_left']
        exact ⟨i2, backTo_of (k + 1, _) hk' (by first | omega | (simp only []; omega)) (ent_of _ [] rfl rfl (by simp only [VC0, VC1, VC2, VC3, VC4, VC5, VC6, VC7, VC8, VC9, reduceIte, reduceCtorEq, Nat.reduceEqDiff, Nat.reduceAdd, Nat.reduceMul, Nat.reduceBEq, Nat.reduceLT, Nat.reduceLeDiff, Int.reduceEq, Int.reduceLT, Int.reduceLE, Int.reduceNeg, Int.reduceToNat, Int.reduceAdd, Nat.reduceDiv, Nat.reduceSub, Nat.reduceMod, encL, MC0, MC1, MC2]; rfl))⟩
    · have hk' : k = os.length := by omega
      subst hk'
      simp only [VC0, VC1, VC2, VC3, VC4, VC5, VC6, VC7, VC8, VC9, reduceIte, reduceCtorEq, Nat.reduceEqDiff, Nat.reduceAdd, Nat.reduceMul, Nat.reduceBEq, Nat.reduceLT, Nat.reduceLeDiff, Int.reduceEq, Int.reduceLT, Int.reduceLE, Int.reduceNeg, Int.reduceToNat, Int.reduceAdd, Nat.reduceDiv, Nat.reduceSub, Nat.reduceMod, encL, MC0, MC1, MC2]
      cases d1 : x.has <;> simp only [VC0, VC1, VC2, VC3, VC4, VC5, VC6, VC7, VC8, VC9, reduceIte, reduceCtorEq, Nat.reduceEqDiff, Nat.reduceAdd, Nat.reduceMul, Nat.reduceBEq, Nat.reduceLT, Nat.reduceLeDiff, Int.reduceEq, Int.reduceLT, Int.reduceLE, Int.reduceNeg, Int.reduceToNat, Int.reduceAdd, Nat.reduceDiv, Nat.reduceSub, Nat.reduceMod, encL, MC0, MC1, MC2, d1]
      · simp only [VC0, VC1, VC2, VC3, VC4, VC5, VC6, VC7, VC8, VC9, reduceIte, reduceCtorEq, Nat.reduceEqDiff, Nat.reduceAdd, Nat.reduceMul, Nat.reduceBEq, Nat.reduceLT, Nat.reduceLeDiff, Int.reduceEq, Int.reduceLT, Int.reduceLE, Int.reduceNeg, Int.reduceToNat, Int.reduceAdd, Nat.reduceDiv, Nat.reduceSub, Nat.reduceMod, encL, MC0, MC1, MC2, List.mapM_nil, List.mapM_cons, Option.pure_def, Option.bind_eq_bind, Option.bind_some, Option.map_some, Option.some.injEq, exists_eq_left']
      · refine callX_of (hasS_ret x.to.steps _ hps) (.inr rfl) ?_
        cases d2 : x.to.steps.any (fun y => decide ((⟨#[42]⟩ : ByteArray) = y)) <;> simp only [VC0, VC1, VC2, VC3, VC4, VC5, VC6, VC7, VC8, VC9, reduceIte, reduceCtorEq, Nat.reduceEqDiff, Nat.reduceAdd, Nat.reduceMul, Nat.reduceBEq, Nat.reduceLT, Nat.reduceLeDiff, Int.reduceEq, Int.reduceLT, Int.reduceLE, Int.reduceNeg, Int.reduceToNat, Int.reduceAdd, Nat.reduceDiv, Nat.reduceSub, Nat.reduceMod, encL, MC0, MC1, MC2, d2]
        · simp only [VC0, VC1, VC2, VC3, VC4, VC5, VC6, VC7, VC8, VC9, reduceIte, reduceCtorEq, Nat.reduceEqDiff, Nat.reduceAdd, Nat.reduceMul, Nat.reduceBEq, Nat.reduceLT, Nat.reduceLeDiff, Int.reduceEq, Int.reduceLT, Int.reduceLE, Int.reduceNeg, Int.reduceToNat, Int.reduceAdd, Nat.reduceDiv, Nat.reduceSub, Nat.reduceMod, encL, MC0, MC1, MC2, List.mapM_nil, List.mapM_cons, Option.pure_def, Option.bind_eq_bind, Option.bind_some, Option.map_some, Option.some.injEq, exists_eq_left']
        · refine callX_of (lost_nil x.to ht) (.inr rfl) ?_
          simp only [VC0, VC1, VC2, VC3, VC4, VC5, VC6, VC7, VC8, VC9, reduceIte, reduceCtorEq, Nat.reduceEqDiff, Nat.reduceAdd, Nat.reduceMul, Nat.reduceBEq, Nat.reduceLT, Nat.reduceLeDiff, Int.reduceEq, Int.reduceLT, Int.reduceLE, Int.reduceNeg, Int.reduceToNat, Int.reduceAdd, Nat.reduceDiv, Nat.reduceSub, Nat.reduceMod, encL, MC0, MC1, MC2]
          simp only [VC0, VC1, VC2, VC3, VC4, VC5, VC6, VC7, VC8, VC9, reduceIte, reduceCtorEq, Nat.reduceEqDiff, Nat.reduceAdd, Nat.reduceMul, Nat.reduceBEq, Nat.reduceLT, Nat.reduceLeDiff, Int.reduceEq, Int.reduceLT, Int.reduceLE, Int.reduceNeg, Int.reduceToNat, Int.reduceAdd, Nat.reduceDiv, Nat.reduceSub, Nat.reduceMod, encL, MC0, MC1, MC2, List.mapM_nil, List.mapM_cons, Option.pure_def, Option.bind_eq_bind, Option.bind_some, Option.map_some, Option.some.injEq, exists_eq_left']
/-- What is told of a point that is no setting: only that it drops what may be gone. -/
theorem uses_not (l : List MPath) (x : MInst) (h1 : x.kind ≠ 1) (h4 : x.kind = 4 → l = []) (hl : l.length ≤ 1000000) (hx : ∀ y ∈ l, smallP y) (ht : smallP x.to) (ha : smallP x.val.a.path) :
    PRet Tryz.prog 49 [encL MPath.cells l, .agg x.cells] (.tup [.bool (decide (x.kind = 3) && lostS l x.to), encL MPath.cells l]) := by
  have b1 : decide (x.kind = 1) = false := decide_eq_false h1
  refine pret_intro fdh49 (by simp) ?_
  simp only [lch49, VC0, VC1, VC2, VC3, VC4, VC5, VC6, VC7, VC8, VC9, reduceIte, reduceCtorEq, Nat.reduceEqDiff, Nat.reduceAdd, Nat.reduceMul, Nat.reduceBEq, Nat.reduceLT, Nat.reduceLeDiff, Int.reduceEq, Int.reduceLT, Int.reduceLE, Int.reduceNeg, Int.reduceToNat, Int.reduceAdd, Nat.reduceDiv, Nat.reduceSub, Nat.reduceMod, encL, MC0, MC1, MC2, b1]
  cases b3 : decide (x.kind = 3) <;> simp only [VC0, VC1, VC2, VC3, VC4, VC5, VC6, VC7, VC8, VC9, reduceIte, reduceCtorEq, Nat.reduceEqDiff, Nat.reduceAdd, Nat.reduceMul, Nat.reduceBEq, Nat.reduceLT, Nat.reduceLeDiff, Int.reduceEq, Int.reduceLT, Int.reduceLE, Int.reduceNeg, Int.reduceToNat, Int.reduceAdd, Nat.reduceDiv, Nat.reduceSub, Nat.reduceMod, encL, MC0, MC1, MC2, b3, Bool.false_and, Bool.true_and]
  · cases b4 : decide (x.kind = 4) <;> simp only [VC0, VC1, VC2, VC3, VC4, VC5, VC6, VC7, VC8, VC9, reduceIte, reduceCtorEq, Nat.reduceEqDiff, Nat.reduceAdd, Nat.reduceMul, Nat.reduceBEq, Nat.reduceLT, Nat.reduceLeDiff, Int.reduceEq, Int.reduceLT, Int.reduceLE, Int.reduceNeg, Int.reduceToNat, Int.reduceAdd, Nat.reduceDiv, Nat.reduceSub, Nat.reduceMod, encL, MC0, MC1, MC2, b4]
    · simp only [VC0, VC1, VC2, VC3, VC4, VC5, VC6, VC7, VC8, VC9, reduceIte, reduceCtorEq, Nat.reduceEqDiff, Nat.reduceAdd, Nat.reduceMul, Nat.reduceBEq, Nat.reduceLT, Nat.reduceLeDiff, Int.reduceEq, Int.reduceLT, Int.reduceLE, Int.reduceNeg, Int.reduceToNat, Int.reduceAdd, Nat.reduceDiv, Nat.reduceSub, Nat.reduceMod, encL, MC0, MC1, MC2, List.mapM_nil, List.mapM_cons, Option.pure_def, Option.bind_eq_bind, Option.bind_some, Option.map_some, Option.some.injEq, exists_eq_left', mp_snap, List.map_cons, List.map_nil]
    · have hl0 := h4 (of_decide_eq_true b4)
      subst hl0
      refine callX_inl fdh66 (by simp) ?_
      simp only [lch66, VC0, VC1, VC2, VC3, VC4, VC5, VC6, VC7, VC8, VC9, reduceIte, reduceCtorEq, Nat.reduceEqDiff, Nat.reduceAdd, Nat.reduceMul, Nat.reduceBEq, Nat.reduceLT, Nat.reduceLeDiff, Int.reduceEq, Int.reduceLT, Int.reduceLE, Int.reduceNeg, Int.reduceToNat, Int.reduceAdd, Nat.reduceDiv, Nat.reduceSub, Nat.reduceMod, encL, MC0, MC1, MC2]
      cases c3 : decide (x.val.a.kind = 3) <;> simp only [VC0, VC1, VC2, VC3, VC4, VC5, VC6, VC7, VC8, VC9, reduceIte, reduceCtorEq, Nat.reduceEqDiff, Nat.reduceAdd, Nat.reduceMul, Nat.reduceBEq, Nat.reduceLT, Nat.reduceLeDiff, Int.reduceEq, Int.reduceLT, Int.reduceLE, Int.reduceNeg, Int.reduceToNat, Int.reduceAdd, Nat.reduceDiv, Nat.reduceSub, Nat.reduceMod, encL, MC0, MC1, MC2, c3]
      · cases c4 : decide (x.val.a.kind = 4) <;> simp only [VC0, VC1, VC2, VC3, VC4, VC5, VC6, VC7, VC8, VC9, reduceIte, reduceCtorEq, Nat.reduceEqDiff, Nat.reduceAdd, Nat.reduceMul, Nat.reduceBEq, Nat.reduceLT, Nat.reduceLeDiff, Int.reduceEq, Int.reduceLT, Int.reduceLE, Int.reduceNeg, Int.reduceToNat, Int.reduceAdd, Nat.reduceDiv, Nat.reduceSub, Nat.reduceMod, encL, MC0, MC1, MC2, c4]
        · simp only [VC0, VC1, VC2, VC3, VC4, VC5, VC6, VC7, VC8, VC9, reduceIte, reduceCtorEq, Nat.reduceEqDiff, Nat.reduceAdd, Nat.reduceMul, Nat.reduceBEq, Nat.reduceLT, Nat.reduceLeDiff, Int.reduceEq, Int.reduceLT, Int.reduceLE, Int.reduceNeg, Int.reduceToNat, Int.reduceAdd, Nat.reduceDiv, Nat.reduceSub, Nat.reduceMod, encL, MC0, MC1, MC2, List.mapM_nil, List.mapM_cons, Option.pure_def, Option.bind_eq_bind, Option.bind_some, Option.map_some, Option.some.injEq, exists_eq_left', mp_snap, List.map_cons, List.map_nil]
          exact ⟨_, rfl⟩
        · refine callX_of (lost_nil x.val.a.path ha) (.inr rfl) ?_
          simp only [VC0, VC1, VC2, VC3, VC4, VC5, VC6, VC7, VC8, VC9, reduceIte, reduceCtorEq, Nat.reduceEqDiff, Nat.reduceAdd, Nat.reduceMul, Nat.reduceBEq, Nat.reduceLT, Nat.reduceLeDiff, Int.reduceEq, Int.reduceLT, Int.reduceLE, Int.reduceNeg, Int.reduceToNat, Int.reduceAdd, Nat.reduceDiv, Nat.reduceSub, Nat.reduceMod, encL, MC0, MC1, MC2, List.mapM_nil, List.mapM_cons, Option.pure_def, Option.bind_eq_bind, Option.bind_some, Option.map_some, Option.some.injEq, exists_eq_left', mp_snap, List.map_cons, List.map_nil]
          exact ⟨_, rfl⟩
      · refine callX_of (lost_nil x.val.a.path ha) (.inr rfl) ?_
        simp only [VC0, VC1, VC2, VC3, VC4, VC5, VC6, VC7, VC8, VC9, reduceIte, reduceCtorEq, Nat.reduceEqDiff, Nat.reduceAdd, Nat.reduceMul, Nat.reduceBEq, Nat.reduceLT, Nat.reduceLeDiff, Int.reduceEq, Int.reduceLT, Int.reduceLE, Int.reduceNeg, Int.reduceToNat, Int.reduceAdd, Nat.reduceDiv, Nat.reduceSub, Nat.reduceMod, encL, MC0, MC1, MC2, List.mapM_nil, List.mapM_cons, Option.pure_def, Option.bind_eq_bind, Option.bind_some, Option.map_some, Option.some.injEq, exists_eq_left', mp_snap, List.map_cons, List.map_nil]
        exact ⟨_, rfl⟩
  · refine callX_of (lost_ret l x.to hl ht hx) (.inr rfl) ?_
    simp only [VC0, VC1, VC2, VC3, VC4, VC5, VC6, VC7, VC8, VC9, reduceIte, reduceCtorEq, Nat.reduceEqDiff, Nat.reduceAdd, Nat.reduceMul, Nat.reduceBEq, Nat.reduceLT, Nat.reduceLeDiff, Int.reduceEq, Int.reduceLT, Int.reduceLE, Int.reduceNeg, Int.reduceToNat, Int.reduceAdd, Nat.reduceDiv, Nat.reduceSub, Nat.reduceMod, encL, MC0, MC1, MC2, List.mapM_nil, List.mapM_cons, Option.pure_def, Option.bind_eq_bind, Option.bind_some, Option.map_some, Option.some.injEq, exists_eq_left', mp_snap, List.map_cons, List.map_nil]
end Go.Proofs.YtlkdcgfjmhjjpaaGreat

set_option linter.unusedSimpArgs false
set_option linter.unusedVariables false
namespace Go.Lg
open Go Go.RowKit Go.Proofs.YtlkdcgfjmhjjpaaGreat
noncomputable def reachL (m : Mir) : List Bool := (List.range m.code.length).map (fun t => decide (0 ≤ dist0 (nx m) 0 t))
theorem reachL_len (m : Mir) : (reachL m).length = m.code.length := by simp [reachL]
/-- Is a point told of? -/
noncomputable def badAt (m : Mir) (i : Nat) : Bool := (reachL m).getD i false && (match m.code[i]? with
  | some x => decide (x.kind = 3) && lostS ((runG m).at i) x.to
  | none => false)
/-- What is told of the first points. -/
noncomputable def dgL (m : Mir) : Nat → List (Int × Int)
  | 0 => []
  | k + 1 => dgL m k ++ (if badAt m k = true then [(((m.code[k]?.map (·.at')).getD 0), 1)] else [])
theorem dgL_len (m : Mir) : ∀ k, (dgL m k).length ≤ k
  | 0 => Nat.le_refl _
  | k + 1 => by
    have := dgL_len m k
    rw [dgL, List.length_append]
    split
    · simp only [List.length_cons, List.length_nil]; omega
    · simp only [List.length_nil]; omega
theorem dgL_no {m : Mir} {k : Nat} (h : badAt m k = false) : dgL m (k + 1) = dgL m k := by rw [dgL, h]; simp
theorem dgL_yes {m : Mir} {k : Nat} (hk : k < m.code.length) (h : badAt m k = true) : dgL m (k + 1) = dgL m k ++ [(m.code[k].at', 1)] := by
  rw [dgL, h, List.getElem?_eq_getElem hk]; rfl
theorem badAt_eq {m : Mir} {k : Nat} (hk : k < m.code.length) : badAt m k = ((reachL m)[k]'(by rw [reachL_len]; exact hk) && (decide (m.code[k].kind = 3) && lostS ((runG m).at k) m.code[k].to)) := by
  unfold badAt
  rw [List.getElem?_eq_getElem hk, List.getD_eq_getElem?_getD, List.getElem?_eq_getElem (by rw [reachL_len]; exact hk)]; rfl
end Go.Lg
namespace Go.Proofs.YtlkdcgfjmhjjpaaGreat
open Go Go.Lg Go.RowKit
set_option linter.unusedVariables false
set_option linter.unusedSimpArgs false
set_option maxRecDepth 20000

theorem nz_encE (l : List MPath) : nz 6 (encE l) = encL MPath.cells l := by
  unfold encE
  split
  · rename_i e; subst e; rfl
  · simp only [nz, encL, mo_nz]
theorem nz_mi (x : MInst) : nz 6 (.agg x.cells) = .agg x.cells := by simp only [nz, mi_nz]
theorem sd_cells (a c : Int) : setCells (setCells [V.int .i64 0, .int .i64 0, .int .i64 0, .int .i64 0] 0 [V.int .i64 a]) 1 [V.int .i64 c] = [V.int .i64 a, .int .i64 c, .int .i64 0, .int .i64 0] := rfl
/-- What holds of the points at which something is gone. -/
structure dOk (m : Mir) : Prop where
  g : gOk m
  smp : ∀ x ∈ m.code, smallP x.val.path
  sma : ∀ x ∈ m.code, smallP x.val.a.path
  set : ∀ (i : Nat) (h : i < m.code.length), (reachL m)[i]'(by rw [reachL_len]; exact h) = true → m.code[i].kind = 1 → (runG m).at i = [] ∧ ∀ o ∈ opersL m.code[i].val, o.kind ≠ 4
  iff : ∀ (i : Nat) (h : i < m.code.length), (reachL m)[i]'(by rw [reachL_len]; exact h) = true → m.code[i].kind = 4 → (runG m).at i = []
theorem runG_end {m : Mir} (hN : 0 < m.code.length) (hG : okG m) : (runG m).work = [] ∧ WOk (univ m) m.code.length (runG m) := by
  refine run_end (afM_mem m) (fun i hi n hn => ?_) _ (ws0_ok m hN) (Nat.lt_succ_self _)
  unfold nx at hn
  rw [List.getElem?_eq_getElem hi] at hn
  obtain ⟨y, hy, rfl⟩ := List.mem_map.1 hn
  have := (hG.nx _ (List.getElem_mem hi)).2 y hy
  omega
theorem uses_at (m : Mir) (hd : dOk m) (i : Nat) (h : i < m.code.length) (hr : (reachL m)[i]'(by rw [reachL_len]; exact h) = true) :
    PRet Tryz.prog 49 [encE ((runG m).at i), .agg m.code[i].cells] (.tup [.bool (decide (m.code[i].kind = 3) && lostS ((runG m).at i) m.code[i].to), encL MPath.cells ((runG m).at i)]) := by
  have hxm : m.code[i] ∈ m.code := List.getElem_mem h
  have hG := okG_of hd.g.may
  obtain ⟨_, hw⟩ := runG_end hG.pos hG
  obtain ⟨hma, hsa⟩ := hw.at_mem i
  have hul := univ_len hd.g
  have hla : ((runG m).at i).length ≤ 2000 := Nat.le_trans (srt_len hsa hma) hul
  have key : PRet Tryz.prog 49 [encL MPath.cells ((runG m).at i), .agg m.code[i].cells] (.tup [.bool (decide (m.code[i].kind = 3) && lostS ((runG m).at i) m.code[i].to), encL MPath.cells ((runG m).at i)]) := by
   by_cases h1 : m.code[i].kind = 1
   · obtain ⟨e, h4⟩ := hd.set i h hr h1
     rw [e, decide_eq_false (by omega), Bool.false_and]
     exact uses_set _ h1 h4 (Nat.le_trans (hd.g.ops _ hxm) (by decide)) (hd.g.smo _ hxm) (hd.smp _ hxm) (hd.g.smt _ hxm)
   · exact uses_not _ _ h1 (hd.iff i h hr) (by omega) (fun y hy => univ_small hd.g y (hma y hy)) (hd.g.smt _ hxm) (hd.sma _ hxm)
  exact key.nz 6 (by simp only [List.map_cons, List.map_nil, nz_encE, nz_mi])
theorem part_at (m : Mir) (hd : dOk m) (i : Nat) (h : i < m.code.length) (hr : (reachL m)[i]'(by rw [reachL_len]; exact h) = true) :
    PRet Tryz.prog 50 [encL MPath.cells ((runG m).at i), .agg m.code[i].cells] (.bool false) := by
  refine part_no _ _ ?_ (hd.g.smt _ (List.getElem_mem h))
  by_cases h1 : m.code[i].kind = 1
  · exact .inr (hd.set i h hr h1).1
  · exact .inl h1
set_option maxHeartbeats 1000000 in
theorem diags_ret (hS : SortsP) (m : Mir) (hd : dOk m) (h2 : (dgL m m.code.length).length < 2) : PRet Tryz.prog 25 [.agg m.cells] (encL cD (dgL m m.code.length)) := by
  have hG := okG_of hd.g.may
  have hN := hd.g.n60
  have hN1 := hG.pos
  obtain ⟨_, hw⟩ := runG_end hG.pos hG
  have hol := hw.ok.out
  have hrl := reachL_len m
  have hre := reach_ret m hd.g.ok
  rw [if_pos hd.g.may] at hre
  refine pret_intro_l fdh25 (by simp) ?_
  simp only [lch25, VC0, VC1, VC2, VC3, VC4, VC5, VC6, VC7, VC8, VC9, reduceIte, reduceCtorEq, Nat.reduceEqDiff, Nat.reduceAdd, Nat.reduceMul, Nat.reduceBEq, Nat.reduceLT, Nat.reduceLeDiff, Int.reduceEq, Int.reduceLT, Int.reduceLE, Int.reduceNeg, Int.reduceToNat, Int.reduceAdd, Nat.reduceDiv, Nat.reduceSub, Nat.reduceMod, encL, MC0, MC1, MC2]
  refine callX_of (in_ret hS m hd.g) (.inl rfl) ?_
  simp only [VC0, VC1, VC2, VC3, VC4, VC5, VC6, VC7, VC8, VC9, reduceIte, reduceCtorEq, Nat.reduceEqDiff, Nat.reduceAdd, Nat.reduceMul, Nat.reduceBEq, Nat.reduceLT, Nat.reduceLeDiff, Int.reduceEq, Int.reduceLT, Int.reduceLE, Int.reduceNeg, Int.reduceToNat, Int.reduceAdd, Nat.reduceDiv, Nat.reduceSub, Nat.reduceMod, encL, MC0, MC1, MC2]
  refine callX_of hre (.inl rfl) ?_
  have hrr : (List.map (fun t => decide (0 ≤ dist0 (nx m) 0 t)) (List.range m.code.length)) = reachL m := rfl
  simp only [VC0, VC1, VC2, VC3, VC4, VC5, VC6, VC7, VC8, VC9, reduceIte, reduceCtorEq, Nat.reduceEqDiff, Nat.reduceAdd, Nat.reduceMul, Nat.reduceBEq, Nat.reduceLT, Nat.reduceLeDiff, Int.reduceEq, Int.reduceLT, Int.reduceLE, Int.reduceNeg, Int.reduceToNat, Int.reduceAdd, Nat.reduceDiv, Nat.reduceSub, Nat.reduceMod, encL, MC0, MC1, MC2, hrr]
  refine loop_vcg (ι := Nat × (Nat → Nat)) (fun y => stO [(1, .box m.cells), (3, .val (encL cE (runG m).out)), (4, .own 4 (dgL m y.1).length ((dgL m y.1).flatMap cD)), (12, .val (encL cB (reachL m))), (13, .val (.int .i64 m.code.length)), (14, .val (.int .i64 y.1))] y.2)
    (fun y => y.1 ≤ m.code.length) (fun y => m.code.length - y.1) (0, _) (Nat.zero_le _) (ent_of _ [] rfl rfl (by simp only [VC0, VC1, VC2, VC3, VC4, VC5, VC6, VC7, VC8, VC9, reduceIte, reduceCtorEq, Nat.reduceEqDiff, Nat.reduceAdd, Nat.reduceMul, Nat.reduceBEq, Nat.reduceLT, Nat.reduceLeDiff, Int.reduceEq, Int.reduceLT, Int.reduceLE, Int.reduceNeg, Int.reduceToNat, Int.reduceAdd, Nat.reduceDiv, Nat.reduceSub, Nat.reduceMod, encL, MC0, MC1, MC2, dgL, List.length_nil, List.flatMap_nil, lE_imv, hrl])) ?_
  rintro ⟨k, c⟩ hk
  have hk : k ≤ m.code.length := hk
  simp only [VC0, VC1, VC2, VC3, VC4, VC5, VC6, VC7, VC8, VC9, reduceIte, reduceCtorEq, Nat.reduceEqDiff, Nat.reduceAdd, Nat.reduceMul, Nat.reduceBEq, Nat.reduceLT, Nat.reduceLeDiff, Int.reduceEq, Int.reduceLT, Int.reduceLE, Int.reduceNeg, Int.reduceToNat, Int.reduceAdd, Nat.reduceDiv, Nat.reduceSub, Nat.reduceMod, encL, MC0, MC1, MC2]
  refine condD_of (fun h => ?_) (fun h => ?_)
  · have hk' : k < m.code.length := by omega
    have hkr : k < (reachL m).length := by rw [hrl]; exact hk'
    have hko : k < (runG m).out.length := by rw [hol]; exact hk'
    have i1 : 0 ≤ (k : Int) ∧ (k : Int) < m.code.length := by omega
    have i2 : InI64 ((k : Int) + 1) := by unfold InI64; omega
    have hbe := badAt_eq hk'
    have hdl := dgL_len m k
    simp only [VC0, VC1, VC2, VC3, VC4, VC5, VC6, VC7, VC8, VC9, reduceIte, reduceCtorEq, Nat.reduceEqDiff, Nat.reduceAdd, Nat.reduceMul, Nat.reduceBEq, Nat.reduceLT, Nat.reduceLeDiff, Int.reduceEq, Int.reduceLT, Int.reduceLE, Int.reduceNeg, Int.reduceToNat, Int.reduceAdd, Nat.reduceDiv, Nat.reduceSub, Nat.reduceMod, encL, MC0, MC1, MC2, hrl, hk', i1]
    cases b1 : (reachL m)[k] <;> simp only [VC0, VC1, VC2, VC3, VC4, VC5, VC6, VC7, VC8, VC9, reduceIte, reduceCtorEq, Nat.reduceEqDiff, Nat.reduceAdd, Nat.reduceMul, Nat.reduceBEq, Nat.reduceLT, Nat.reduceLeDiff, Int.reduceEq, Int.reduceLT, Int.reduceLE, Int.reduceNeg, Int.reduceToNat, Int.reduceAdd, Nat.reduceDiv, Nat.reduceSub, Nat.reduceMod, encL, MC0, MC1, MC2, b1, hrl, hk', i1]
    · rw [b1, Bool.false_and] at hbe
      refine ⟨i2, backTo_of (k + 1, _) hk' (by first | omega | (simp only []; omega)) (ent_of _ [] rfl rfl (by simp only [VC0, VC1, VC2, VC3, VC4, VC5, VC6, VC7, VC8, VC9, reduceIte, reduceCtorEq, Nat.reduceEqDiff, Nat.reduceAdd, Nat.reduceMul, Nat.reduceBEq, Nat.reduceLT, Nat.reduceLeDiff, Int.reduceEq, Int.reduceLT, Int.reduceLE, Int.reduceNeg, Int.reduceToNat, Int.reduceAdd, Nat.reduceDiv, Nat.reduceSub, Nat.reduceMod, encL, MC0, MC1, MC2, dgL_no hbe, ld_imv, lE_imv]))⟩
    · have hat : (runG m).out[k] = (runG m).at k := (at_eq hw.ok hk').symm
      simp only [VC0, VC1, VC2, VC3, VC4, VC5, VC6, VC7, VC8, VC9, reduceIte, reduceCtorEq, Nat.reduceEqDiff, Nat.reduceAdd, Nat.reduceMul, Nat.reduceBEq, Nat.reduceLT, Nat.reduceLeDiff, Int.reduceEq, Int.reduceLT, Int.reduceLE, Int.reduceNeg, Int.reduceToNat, Int.reduceAdd, Nat.reduceDiv, Nat.reduceSub, Nat.reduceMod, encL, MC0, MC1, MC2, hol, hk', i1, ld_cE, hat, snap_encE, sok_encE, lE_sok, lE_snap]
      refine callV_of (uses_at m hd k hk' b1) (.inl rfl) ?_
      rw [b1, Bool.true_and] at hbe
      rw [← hbe]
      have hpa := part_at m hd k hk' b1
      have hb1 : (dgL m k).length * 4 + 4 ≤ 140737488355328 := by omega
      cases b2 : badAt m k <;> simp only [VC0, VC1, VC2, VC3, VC4, VC5, VC6, VC7, VC8, VC9, reduceIte, reduceCtorEq, Nat.reduceEqDiff, Nat.reduceAdd, Nat.reduceMul, Nat.reduceBEq, Nat.reduceLT, Nat.reduceLeDiff, Int.reduceEq, Int.reduceLT, Int.reduceLE, Int.reduceNeg, Int.reduceToNat, Int.reduceAdd, Nat.reduceDiv, Nat.reduceSub, Nat.reduceMod, encL, MC0, MC1, MC2, b2, hk', i1, List.length_cons, List.length_nil, List.getElem?_cons_zero, List.getElem?_cons_succ, mp_snap, mp_sok]
      · refine callX_of hpa (.inr rfl) ?_
        simp only [VC0, VC1, VC2, VC3, VC4, VC5, VC6, VC7, VC8, VC9, reduceIte, reduceCtorEq, Nat.reduceEqDiff, Nat.reduceAdd, Nat.reduceMul, Nat.reduceBEq, Nat.reduceLT, Nat.reduceLeDiff, Int.reduceEq, Int.reduceLT, Int.reduceLE, Int.reduceNeg, Int.reduceToNat, Int.reduceAdd, Nat.reduceDiv, Nat.reduceSub, Nat.reduceMod, encL, MC0, MC1, MC2]
        refine ⟨i2, backTo_of (k + 1, _) hk' (by first | omega | (simp only []; omega)) (ent_of _ [] rfl rfl (by simp only [VC0, VC1, VC2, VC3, VC4, VC5, VC6, VC7, VC8, VC9, reduceIte, reduceCtorEq, Nat.reduceEqDiff, Nat.reduceAdd, Nat.reduceMul, Nat.reduceBEq, Nat.reduceLT, Nat.reduceLeDiff, Int.reduceEq, Int.reduceLT, Int.reduceLE, Int.reduceNeg, Int.reduceToNat, Int.reduceAdd, Nat.reduceDiv, Nat.reduceSub, Nat.reduceMod, encL, MC0, MC1, MC2, dgL_no b2, ld_imv, lE_imv, hrl]))⟩
      · simp only [VC0, VC1, VC2, VC3, VC4, VC5, VC6, VC7, VC8, VC9, reduceIte, reduceCtorEq, Nat.reduceEqDiff, Nat.reduceAdd, Nat.reduceMul, Nat.reduceBEq, Nat.reduceLT, Nat.reduceLeDiff, Int.reduceEq, Int.reduceLT, Int.reduceLE, Int.reduceNeg, Int.reduceToNat, Int.reduceAdd, Nat.reduceDiv, Nat.reduceSub, Nat.reduceMod, encL, MC0, MC1, MC2, hk', i1, sd_cells, ld_len, ld_app, List.length_cons, List.length_nil]
        refine ⟨⟨by omega, by omega⟩, callX_of hpa (.inr rfl) ?_⟩
        simp only [VC0, VC1, VC2, VC3, VC4, VC5, VC6, VC7, VC8, VC9, reduceIte, reduceCtorEq, Nat.reduceEqDiff, Nat.reduceAdd, Nat.reduceMul, Nat.reduceBEq, Nat.reduceLT, Nat.reduceLeDiff, Int.reduceEq, Int.reduceLT, Int.reduceLE, Int.reduceNeg, Int.reduceToNat, Int.reduceAdd, Nat.reduceDiv, Nat.reduceSub, Nat.reduceMod, encL, MC0, MC1, MC2]
        refine ⟨i2, backTo_of (k + 1, _) hk' (by first | omega | (simp only []; omega)) (ent_of _ [] rfl rfl (by simp only [VC0, VC1, VC2, VC3, VC4, VC5, VC6, VC7, VC8, VC9, reduceIte, reduceCtorEq, Nat.reduceEqDiff, Nat.reduceAdd, Nat.reduceMul, Nat.reduceBEq, Nat.reduceLT, Nat.reduceLeDiff, Int.reduceEq, Int.reduceLT, Int.reduceLE, Int.reduceNeg, Int.reduceToNat, Int.reduceAdd, Nat.reduceDiv, Nat.reduceSub, Nat.reduceMod, encL, MC0, MC1, MC2, dgL_yes hk' b2, ld_imv, lE_imv, hrl, List.length_append, List.length_cons, List.length_nil]))⟩
  · have hk' : k = m.code.length := by omega
    subst hk'
    have hq := sortD_mut _ h2
    have hq2 : decide (((dgL m m.code.length).length : Int) < 2) = true := decide_eq_true (by omega)
    simp only [VC0, VC1, VC2, VC3, VC4, VC5, VC6, VC7, VC8, VC9, reduceIte, reduceCtorEq, Nat.reduceEqDiff, Nat.reduceAdd, Nat.reduceMul, Nat.reduceBEq, Nat.reduceLT, Nat.reduceLeDiff, Int.reduceEq, Int.reduceLT, Int.reduceLE, Int.reduceNeg, Int.reduceToNat, Int.reduceAdd, Nat.reduceDiv, Nat.reduceSub, Nat.reduceMod, encL, MC0, MC1, MC2, ld_len, ld_sok, ld_snap, ld_take (Nat.le_refl _), Nat.le_refl, decide_true, Bool.and_true, if_true]
    refine callX_mut hq (by simp only [VC0, VC1, VC2, VC3, VC4, VC5, VC6, VC7, VC8, VC9, reduceIte, reduceCtorEq, Nat.reduceEqDiff, Nat.reduceAdd, Nat.reduceMul, Nat.reduceBEq, Nat.reduceLT, Nat.reduceLeDiff, Int.reduceEq, Int.reduceLT, Int.reduceLE, Int.reduceNeg, Int.reduceToNat, Int.reduceAdd, Nat.reduceDiv, Nat.reduceSub, Nat.reduceMod, encL, MC0, MC1, MC2]) ?_ rfl ?_ <;> simp only [VC0, VC1, VC2, VC3, VC4, VC5, VC6, VC7, VC8, VC9, reduceIte, reduceCtorEq, Nat.reduceEqDiff, Nat.reduceAdd, Nat.reduceMul, Nat.reduceBEq, Nat.reduceLT, Nat.reduceLeDiff, Int.reduceEq, Int.reduceLT, Int.reduceLE, Int.reduceNeg, Int.reduceToNat, Int.reduceAdd, Nat.reduceDiv, Nat.reduceSub, Nat.reduceMod, encL, MC0, MC1, MC2, ld_snap, rmut, ownR, ld_len, ld_sok, ld_take (Nat.le_refl _), Nat.le_refl, decide_true, Bool.and_true, if_true]
    refine callX_inl fdh55 (by simp) ?_
    simp only [lch55, VC0, VC1, VC2, VC3, VC4, VC5, VC6, VC7, VC8, VC9, reduceIte, reduceCtorEq, Nat.reduceEqDiff, Nat.reduceAdd, Nat.reduceMul, Nat.reduceBEq, Nat.reduceLT, Nat.reduceLeDiff, Int.reduceEq, Int.reduceLT, Int.reduceLE, Int.reduceNeg, Int.reduceToNat, Int.reduceAdd, Nat.reduceDiv, Nat.reduceSub, Nat.reduceMod, encL, MC0, MC1, MC2, hq2, ld_snap, ld_len, ld_take (Nat.le_refl _), Nat.le_refl, if_true]
end Go.Proofs.YtlkdcgfjmhjjpaaGreat

set_option linter.unusedSimpArgs false
set_option linter.unusedVariables false
namespace Go.Proofs.YtlkdcgfjmhjjpaaGreat
open Go Go.Lg Go.RowKit
set_option linter.unusedVariables false
set_option linter.unusedSimpArgs false
set_option maxRecDepth 20000

theorem ld_cD {l : List (Int × Int)} {i : Nat} (h : i < l.length) : ldV true 4 (l.flatMap cD) (i * 4) = some (.agg (cD l[i])) := by
  have := ld_flat0 (agg := true) (n := 4) cD_len h (by decide) (by decide)
  rw [this]; rfl
theorem rdiags_ret (l : List (Int × Int)) (hl : l.length ≤ 1000) : PRet Tryz.prog 26 [encL cD l, encL cD l] (.bool true) := by
  refine pret_intro fdh26 (by simp) ?_
  have h0 : decide ((l.length : Int) = l.length) = true := decide_eq_true rfl
  simp only [lch26, VC0, VC1, VC2, VC3, VC4, VC5, VC6, VC7, VC8, VC9, reduceIte, reduceCtorEq, Nat.reduceEqDiff, Nat.reduceAdd, Nat.reduceMul, Nat.reduceBEq, Nat.reduceLT, Nat.reduceLeDiff, Int.reduceEq, Int.reduceLT, Int.reduceLE, Int.reduceNeg, Int.reduceToNat, Int.reduceAdd, Nat.reduceDiv, Nat.reduceSub, Nat.reduceMod, encL, MC0, MC1, MC2, h0]
  refine loop_vcg (ι := Nat × (Nat → Nat)) (fun y => stO [(0, .val (encL cD l)), (1, .val (encL cD l)), (5, .val (.int .i64 y.1))] y.2)
    (fun y => y.1 ≤ l.length) (fun y => l.length - y.1) (0, _) (Nat.zero_le _) (ent_of _ [] rfl rfl (by simp only [VC0, VC1, VC2, VC3, VC4, VC5, VC6, VC7, VC8, VC9, reduceIte, reduceCtorEq, Nat.reduceEqDiff, Nat.reduceAdd, Nat.reduceMul, Nat.reduceBEq, Nat.reduceLT, Nat.reduceLeDiff, Int.reduceEq, Int.reduceLT, Int.reduceLE, Int.reduceNeg, Int.reduceToNat, Int.reduceAdd, Nat.reduceDiv, Nat.reduceSub, Nat.reduceMod, encL, MC0, MC1, MC2])) ?_
  rintro ⟨k, c⟩ hk
  have hk : k ≤ l.length := hk
  simp only [VC0, VC1, VC2, VC3, VC4, VC5, VC6, VC7, VC8, VC9, reduceIte, reduceCtorEq, Nat.reduceEqDiff, Nat.reduceAdd, Nat.reduceMul, Nat.reduceBEq, Nat.reduceLT, Nat.reduceLeDiff, Int.reduceEq, Int.reduceLT, Int.reduceLE, Int.reduceNeg, Int.reduceToNat, Int.reduceAdd, Nat.reduceDiv, Nat.reduceSub, Nat.reduceMod, encL, MC0, MC1, MC2]
  refine condD_of (fun h => ?_) (fun h => ?_)
  · have hk' : k < l.length := by omega
    have i1 : 0 ≤ (k : Int) ∧ (k : Int) < l.length := by omega
    have i2 : InI64 ((k : Int) + 1) := by unfold InI64; omega
    simp only [VC0, VC1, VC2, VC3, VC4, VC5, VC6, VC7, VC8, VC9, reduceIte, reduceCtorEq, Nat.reduceEqDiff, Nat.reduceAdd, Nat.reduceMul, Nat.reduceBEq, Nat.reduceLT, Nat.reduceLeDiff, Int.reduceEq, Int.reduceLT, Int.reduceLE, Int.reduceNeg, Int.reduceToNat, Int.reduceAdd, Nat.reduceDiv, Nat.reduceSub, Nat.reduceMod, encL, MC0, MC1, MC2, hk', i1, i2, ld_cD]
    have e1 : (decide ((cD l[k]).length = 4) && intsK IntKind.i64 (cD l[k])) = true := rfl
    have e2 : eqInts (cD l[k]) (cD l[k]) = true := by simp [eqInts, cD]
    simp only [VC0, VC1, VC2, VC3, VC4, VC5, VC6, VC7, VC8, VC9, reduceIte, reduceCtorEq, Nat.reduceEqDiff, Nat.reduceAdd, Nat.reduceMul, Nat.reduceBEq, Nat.reduceLT, Nat.reduceLeDiff, Int.reduceEq, Int.reduceLT, Int.reduceLE, Int.reduceNeg, Int.reduceToNat, Int.reduceAdd, Nat.reduceDiv, Nat.reduceSub, Nat.reduceMod, encL, MC0, MC1, MC2, e1, e2, i2]
    exact backTo_of (k + 1, _) hk' (by first | omega | (simp only []; omega)) (ent_of _ [] rfl rfl (by simp only [VC0, VC1, VC2, VC3, VC4, VC5, VC6, VC7, VC8, VC9, reduceIte, reduceCtorEq, Nat.reduceEqDiff, Nat.reduceAdd, Nat.reduceMul, Nat.reduceBEq, Nat.reduceLT, Nat.reduceLeDiff, Int.reduceEq, Int.reduceLT, Int.reduceLE, Int.reduceNeg, Int.reduceToNat, Int.reduceAdd, Nat.reduceDiv, Nat.reduceSub, Nat.reduceMod, encL, MC0, MC1, MC2]))
  · simp only [VC0, VC1, VC2, VC3, VC4, VC5, VC6, VC7, VC8, VC9, reduceIte, reduceCtorEq, Nat.reduceEqDiff, Nat.reduceAdd, Nat.reduceMul, Nat.reduceBEq, Nat.reduceLT, Nat.reduceLeDiff, Int.reduceEq, Int.reduceLT, Int.reduceLE, Int.reduceNeg, Int.reduceToNat, Int.reduceAdd, Nat.reduceDiv, Nat.reduceSub, Nat.reduceMod, encL, MC0, MC1, MC2]
/-! The small cases. -/
def tpa : MPath := ⟨1, []⟩
def tpb : MPath := ⟨1, [⟨#[102]⟩]⟩
def tpc : MPath := ⟨2, []⟩
def o00 : MOper := ⟨0, 0, ⟨0, []⟩⟩
def v00 : MVal := ⟨0, o00, o00, 0, ⟨0, []⟩, 0, ⟨#[]⟩, [], []⟩
def tx0 : MInst := ⟨3, 0, false, tpa, v00, [1]⟩
def tx1 : MInst := ⟨5, 0, false, ⟨0, []⟩, v00, [0]⟩
def tl (p : Bool) : MLocal := ⟨⟨#[]⟩, .mk 0 ⟨#[]⟩ [] [], p⟩
def tm0 : Mir := ⟨0, 0, 0, [], [tl false, tl true], [tx0, tx1]⟩
theorem t_e1 : addS [] tpc = [tpc] := rfl
theorem t_e2 : addS [tpc] tpb = [tpb, tpc] := by kernel_rfl
theorem t_e3 : addS [tpb, tpc] tpa = [tpa, tpc] := by kernel_rfl
theorem t_e4 : putS [tpb, tpc] tpa = [tpc] := by kernel_rfl
theorem small_ta : smallP tpa := by unfold smallP; decide
theorem small_tb : smallP tpb := by unfold smallP; decide
theorem small_tc : smallP tpc := by unfold smallP; decide
theorem tm0_may : mayB tm0 = true := by kernel_rfl
theorem i64_small {n : Int} (h : 0 ≤ n ∧ n ≤ 5) : InI64 n := by unfold InI64; omega
theorem small_nil (n : Int) : smallP ⟨n, []⟩ := by unfold smallP; simp
theorem pnil_ok {n : Int} (h : 0 ≤ n ∧ n ≤ 5) : (MPath.mk n []).ok := ⟨i64_small h, by rw [maxLen_eq]; simp, fun s hs => by cases hs⟩
theorem o00_ok : o00.ok := ⟨i64_small (by decide), i64_small (by decide), pnil_ok (by decide)⟩
theorem v00_ok : v00.ok := ⟨i64_small (by decide), o00_ok, o00_ok, i64_small (by decide), pnil_ok (by decide), i64_small (by decide), by rw [maxLen_eq]; decide, ⟨by rw [maxLen_eq]; decide, fun x hx => by cases hx⟩, ⟨by rw [maxLen_eq]; decide, fun x hx => by cases hx⟩⟩
theorem tx_ok {x : MInst} (h : x ∈ [tx0, tx1]) : x.ok := by
  rcases List.mem_cons.1 h with rfl | h
  · exact ⟨i64_small (by decide), i64_small (by decide), pnil_ok (by decide), v00_ok, by rw [maxLen_eq]; decide, fun y hy => by rw [List.mem_singleton.1 hy]; exact i64_small (by decide)⟩
  · rw [List.mem_singleton.1 h]
    exact ⟨i64_small (by decide), i64_small (by decide), pnil_ok (by decide), v00_ok, by rw [maxLen_eq]; decide, fun y hy => by rw [List.mem_singleton.1 hy]; exact i64_small (by decide)⟩
theorem tl_ok (p : Bool) : (tl p).ok := by
  have h : tl p = ⟨⟨#[]⟩, .mk 0 ⟨#[]⟩ [] [], p⟩ := rfl
  rw [h]
  refine ⟨(by rw [maxLen_eq]; decide : (ByteArray.mk #[]).size ≤ maxLen), ?_⟩
  show (RT.mk 0 ⟨#[]⟩ [] []).ok
  rw [RT.ok_iff]
  exact ⟨i64_small (by decide), by rw [maxLen_eq]; decide, ⟨by rw [maxLen_eq]; decide, fun x hx => by cases hx⟩, by rw [maxLen_eq]; decide, fun x hx => by cases hx⟩
theorem tm0_ok : tm0.ok := by
  refine ⟨i64_small (by decide), i64_small (by decide), i64_small (by decide), ⟨by rw [maxLen_eq]; decide, fun k hk => by cases hk⟩, ⟨by rw [maxLen_eq]; decide, fun x hx => ?_⟩, ⟨by rw [maxLen_eq]; decide, fun x hx => tx_ok hx⟩⟩
  rcases List.mem_cons.1 hx with rfl | h
  · exact tl_ok false
  · rw [List.mem_singleton.1 h]; exact tl_ok true
theorem smO0 : smallO (opersL v00) := by intro o ho; cases ho
theorem tx_small {x : MInst} (h : x ∈ [tx0, tx1]) : (opersL x.val).length ≤ 20 ∧ smallO (opersL x.val) ∧ smallP x.to ∧ smallP x.val.path ∧ smallP x.val.a.path ∧ x.kind ≠ 1 ∧ x.kind ≠ 4 := by
  rcases List.mem_cons.1 h with rfl | h
  · exact ⟨by decide, smO0, small_ta, small_nil _, small_nil _, by decide, by decide⟩
  · rw [List.mem_singleton.1 h]
    exact ⟨by decide, smO0, small_nil _, small_nil _, small_nil _, by decide, by decide⟩
theorem tm0_g : gOk tm0 := ⟨tm0_ok, tm0_may, by decide, by decide, fun x h => (tx_small h).1, fun x h => (tx_small h).2.1, fun x h => (tx_small h).2.2.1⟩
theorem tm0_d : dOk tm0 := ⟨tm0_g, fun x h => (tx_small h).2.2.2.1, fun x h => (tx_small h).2.2.2.2.1, fun i h _ h1 => absurd h1 (tx_small (List.getElem_mem h)).2.2.2.2.2.1, fun i h _ h1 => absurd h1 (tx_small (List.getElem_mem h)).2.2.2.2.2.2⟩
theorem tm0_run : (runG tm0).out = [[⟨0, []⟩, ⟨1, []⟩], [⟨0, []⟩, ⟨1, []⟩]] := by kernel_rfl
theorem tm0_dg : dgL tm0 tm0.code.length = [(0, 1)] := by
  have h0 : badAt tm0 0 = true := by
    rw [badAt_eq (by decide)]
    have e1 : (reachL tm0)[0]'(by rw [reachL_len]; decide) = true := by
      simp only [reachL, List.getElem_map, List.getElem_range, dist0_self]; decide
    have e2 : (runG tm0).at 0 = [⟨0, []⟩, ⟨1, []⟩] := by unfold WS.at; rw [tm0_run]; rfl
    
    have e3 : (decide ((tm0.code[0]'(by decide)).kind = 3) && lostS [⟨0, []⟩, ⟨1, []⟩] (tm0.code[0]'(by decide)).to) = true := by kernel_rfl
    rw [e1, e2, e3]; rfl
  have h1 : badAt tm0 1 = false := by
    rw [badAt_eq (by decide)]
    have e : decide ((tm0.code[1]'(by decide)).kind = 3) = false := rfl
    rw [e, Bool.false_and, Bool.and_false]
  show dgL tm0 2 = _
  rw [dgL_no h1, dgL_yes (by decide) h0]; rfl
theorem tm0_diags (hS : SortsP) : PRet Tryz.prog 25 [.agg tm0.cells] (encL cD [(0, 1)]) := by
  have := diags_ret hS tm0 tm0_d (by rw [tm0_dg]; decide)
  rwa [tm0_dg] at this
theorem srt1 (p : MPath) : Srt [p] := List.pairwise_singleton _ _
theorem t_srt2 : Srt [tpb, tpc] := by rw [← t_e2]; exact srt_add (srt1 _)
theorem mem2 {P : MPath → Prop} {a b : MPath} (h1 : P a) (h2 : P b) : ∀ x ∈ [a, b], P x := fun x hx => by
  rcases List.mem_cons.1 hx with rfl | hx
  · exact h1
  · rw [List.mem_singleton.1 hx]; exact h2
theorem t_c1 (hS : SortsP) : PRet Tryz.prog 11 [.e0, .agg [.int .i64 2, .e0]] (encL MPath.cells [tpc]) := by
  rw [← t_e1]
  exact (add_own hS [] tpc List.Pairwise.nil (by decide) small_tc (fun x h => by cases h)).ret.nz 6 (by simp only [List.map_cons, List.map_nil, nz, encL, tpc, mp_c, List.flatMap_nil, List.length_nil])
theorem t_c2 (hS : SortsP) : PRet Tryz.prog 11 [encL MPath.cells [tpc], .agg [.int .i64 1, .sl 1 [.str ⟨#[102]⟩]]] (encL MPath.cells [tpb, tpc]) := by
  rw [← t_e2]
  exact (add_own hS [tpc] tpb (srt1 _) (by decide) small_tb (fun x h => by rw [List.mem_singleton.1 h]; exact small_tc)).ret.nz 6 (by
    simp only [List.map_cons, List.map_nil, nz, encL, mp_c, tpb, mo_nz]; rfl)
theorem t_c3 (hS : SortsP) : PRet Tryz.prog 11 [encL MPath.cells [tpb, tpc], .agg [.int .i64 1, .e0]] (encL MPath.cells [tpa, tpc]) := by
  rw [← t_e3]
  exact (add_own hS [tpb, tpc] tpa t_srt2 (by decide) small_ta (mem2 small_tb small_tc)).ret.nz 6 (by
    simp only [List.map_cons, List.map_nil, nz, encL, mp_c, tpa, mo_nz]; rfl)
theorem t_c4 : PRet Tryz.prog 13 [encL MPath.cells [tpb, tpc], .agg [.int .i64 1, .e0]] (encL MPath.cells [tpc]) := by
  rw [← t_e4]
  exact (put_own [tpb, tpc] tpa (by decide) small_ta (mem2 small_tb small_tc)).ret.nz 6 (by
    simp only [List.map_cons, List.map_nil, nz, encL, mp_c, tpa, mo_nz]; rfl)
theorem small_b {p : MPath} (h : p.steps.length ≤ 1) : p.steps.length ≤ 4611686018427387904 := by omega
theorem t_p1 : PRet Tryz.prog 10 [encL MPath.cells [tpb, tpc], .sl 2 [.int .i64 1, .sl 1 [.str ⟨#[102]⟩], .int .i64 2, .e0]] (.bool true) :=
  (paths_ret [tpb, tpc] [tpb, tpc] (by decide) (mem2 (small_b (by decide)) (small_b (by decide)))).nz 6 (by
    simp only [List.map_cons, List.map_nil, nz, encL, mp_c, tpb, tpc, List.flatMap_cons, List.flatMap_nil, List.append_nil, List.cons_append, List.nil_append]; rfl)
theorem t_p2 : PRet Tryz.prog 10 [encL MPath.cells [tpa, tpc], .sl 2 [.int .i64 1, .e0, .int .i64 2, .e0]] (.bool true) :=
  (paths_ret [tpa, tpc] [tpa, tpc] (by decide) (mem2 (small_b (by decide)) (small_b (by decide)))).nz 6 (by
    simp only [List.map_cons, List.map_nil, nz, encL, mp_c, tpa, tpc, List.flatMap_cons, List.flatMap_nil, List.append_nil, List.cons_append, List.nil_append]; rfl)
theorem t_p3 : PRet Tryz.prog 10 [encL MPath.cells [tpc], .sl 1 [.int .i64 2, .e0]] (.bool true) :=
  (paths_ret [tpc] [tpc] (by decide) (fun x h => by rw [List.mem_singleton.1 h]; exact small_b (by decide))).nz 6 (by
    simp only [List.map_cons, List.map_nil, nz, encL, mp_c, tpc, List.flatMap_cons, List.flatMap_nil, List.append_nil, List.cons_append, List.nil_append]; rfl)
theorem t_d1 (hS : SortsP) : PRet Tryz.prog 25 [.agg [.int .i64 0, .int .i64 0, .int .i64 0, .e0, .sl 2 [.str ⟨#[]⟩, .int .i64 0, .str ⟨#[]⟩, .e0, .e0, .bool false, .str ⟨#[]⟩, .int .i64 0, .str ⟨#[]⟩, .e0, .e0, .bool true], .sl 2 ([.int .i64 3, .int .i64 0, .bool false, .int .i64 1, .e0, .int .i64 0, .int .i64 0, .int .i64 0, .int .i64 0, .e0, .int .i64 0, .int .i64 0, .int .i64 0, .e0, .int .i64 0, .int .i64 0, .e0, .int .i64 0, .str ⟨#[]⟩, .e0, .e0, .sl 1 [.int .i64 1], .int .i64 5, .int .i64 0, .bool false, .int .i64 0, .e0, .int .i64 0, .int .i64 0, .int .i64 0, .int .i64 0, .e0, .int .i64 0, .int .i64 0, .int .i64 0, .e0, .int .i64 0, .int .i64 0, .e0, .int .i64 0, .str ⟨#[]⟩, .e0, .e0, .sl 1 [.int .i64 0]])]] (encL cD [(0, 1)]) :=
  (tm0_diags hS).nz 6 (by
    simp only [tm0, tl, tx0, tx1, tpa, v00, o00, Mir.cells, MLocal.cells, MInst.cells, RT.kind, RT.name, RT.regions, RT.elem, List.map_cons, List.map_nil, nz, encL, List.flatMap_cons, List.flatMap_nil, List.append_nil, List.cons_append, List.nil_append]; rfl)
theorem t_d2 : PRet Tryz.prog 26 [encL cD [(0, 1)], .sl 1 [.int .i64 0, .int .i64 1, .int .i64 0, .int .i64 0]] (.bool true) := rdiags_ret [(0, 1)] (by decide)
theorem ld22 (a1 a2 a3 a4 a5 a6 a7 a8 a9 b1 b2 b3 b4 b5 b6 b7 b8 b9 c1 c2 c3 c4 : V) : ldV true 22 [a1, a2, a3, a4, a5, a6, a7, a8, a9, b1, b2, b3, b4, b5, b6, b7, b8, b9, c1, c2, c3, c4] 0 = some (.agg [a1, a2, a3, a4, a5, a6, a7, a8, a9, b1, b2, b3, b4, b5, b6, b7, b8, b9, c1, c2, c3, c4]) := rfl
theorem ld6 (a1 a2 a3 a4 a5 a6 : V) : ldV true 6 [a1, a2, a3, a4, a5, a6] 0 = some (.agg [a1, a2, a3, a4, a5, a6]) := rfl
theorem told_ret (hS : SortsP) : PRet Tryz.prog 8 [] (.bool true) := by
  refine pret_intro fdh8 (by simp) ?_
  simp only [lch8, VC0, VC1, VC2, VC3, VC4, VC5, VC6, VC7, VC8, VC9, reduceIte, reduceCtorEq, Nat.reduceEqDiff, Nat.reduceAdd, Nat.reduceMul, Nat.reduceBEq, Nat.reduceLT, Nat.reduceLeDiff, Int.reduceEq, Int.reduceLT, Int.reduceLE, Int.reduceNeg, Int.reduceToNat, Int.reduceAdd, Nat.reduceDiv, Nat.reduceSub, Nat.reduceMod, encL, MC0, MC1, MC2, mp_setA, mp_setB, mp_setC, mp_ld]
  refine callV_of (t_c1 hS) (.inl rfl) ?_
  simp only [VC0, VC1, VC2, VC3, VC4, VC5, VC6, VC7, VC8, VC9, reduceIte, reduceCtorEq, Nat.reduceEqDiff, Nat.reduceAdd, Nat.reduceMul, Nat.reduceBEq, Nat.reduceLT, Nat.reduceLeDiff, Int.reduceEq, Int.reduceLT, Int.reduceLE, Int.reduceNeg, Int.reduceToNat, Int.reduceAdd, Nat.reduceDiv, Nat.reduceSub, Nat.reduceMod, encL, MC0, MC1, MC2, mp_setA, mp_setB, mp_setC, mp_ld]
  refine callV_of (t_c2 hS) (.inl rfl) ?_
  simp only [VC0, VC1, VC2, VC3, VC4, VC5, VC6, VC7, VC8, VC9, reduceIte, reduceCtorEq, Nat.reduceEqDiff, Nat.reduceAdd, Nat.reduceMul, Nat.reduceBEq, Nat.reduceLT, Nat.reduceLeDiff, Int.reduceEq, Int.reduceLT, Int.reduceLE, Int.reduceNeg, Int.reduceToNat, Int.reduceAdd, Nat.reduceDiv, Nat.reduceSub, Nat.reduceMod, encL, MC0, MC1, MC2, mp_setA, mp_setB, mp_setC, mp_ld, setCells, List.take_succ_cons, List.take_zero, List.drop_succ_cons, List.drop_zero, List.cons_append, List.nil_append, List.length_cons, List.length_nil, Nat.reduceAdd, List.all_cons, List.all_nil, Bool.and_true, Bool.and_self, List.drop_nil, List.append_nil, ld22, ld6]
  refine callV_of t_p1 (.inr rfl) ?_
  simp only [VC0, VC1, VC2, VC3, VC4, VC5, VC6, VC7, VC8, VC9, reduceIte, reduceCtorEq, Nat.reduceEqDiff, Nat.reduceAdd, Nat.reduceMul, Nat.reduceBEq, Nat.reduceLT, Nat.reduceLeDiff, Int.reduceEq, Int.reduceLT, Int.reduceLE, Int.reduceNeg, Int.reduceToNat, Int.reduceAdd, Nat.reduceDiv, Nat.reduceSub, Nat.reduceMod, encL, MC0, MC1, MC2, mp_setA, mp_setB, mp_setC, mp_ld, setCells, List.take_succ_cons, List.take_zero, List.drop_succ_cons, List.drop_zero, List.cons_append, List.nil_append, List.length_cons, List.length_nil, Nat.reduceAdd, List.all_cons, List.all_nil, Bool.and_true, Bool.and_self, List.drop_nil, List.append_nil, ld22, ld6]
  refine callV_of (t_c3 hS) (.inl rfl) ?_
  simp only [VC0, VC1, VC2, VC3, VC4, VC5, VC6, VC7, VC8, VC9, reduceIte, reduceCtorEq, Nat.reduceEqDiff, Nat.reduceAdd, Nat.reduceMul, Nat.reduceBEq, Nat.reduceLT, Nat.reduceLeDiff, Int.reduceEq, Int.reduceLT, Int.reduceLE, Int.reduceNeg, Int.reduceToNat, Int.reduceAdd, Nat.reduceDiv, Nat.reduceSub, Nat.reduceMod, encL, MC0, MC1, MC2, mp_setA, mp_setB, mp_setC, mp_ld, setCells, List.take_succ_cons, List.take_zero, List.drop_succ_cons, List.drop_zero, List.cons_append, List.nil_append, List.length_cons, List.length_nil, Nat.reduceAdd, List.all_cons, List.all_nil, Bool.and_true, Bool.and_self, List.drop_nil, List.append_nil, ld22, ld6]
  refine callV_of t_p2 (.inr rfl) ?_
  simp only [VC0, VC1, VC2, VC3, VC4, VC5, VC6, VC7, VC8, VC9, reduceIte, reduceCtorEq, Nat.reduceEqDiff, Nat.reduceAdd, Nat.reduceMul, Nat.reduceBEq, Nat.reduceLT, Nat.reduceLeDiff, Int.reduceEq, Int.reduceLT, Int.reduceLE, Int.reduceNeg, Int.reduceToNat, Int.reduceAdd, Nat.reduceDiv, Nat.reduceSub, Nat.reduceMod, encL, MC0, MC1, MC2, mp_setA, mp_setB, mp_setC, mp_ld, setCells, List.take_succ_cons, List.take_zero, List.drop_succ_cons, List.drop_zero, List.cons_append, List.nil_append, List.length_cons, List.length_nil, Nat.reduceAdd, List.all_cons, List.all_nil, Bool.and_true, Bool.and_self, List.drop_nil, List.append_nil, ld22, ld6]
  refine callV_of t_c4 (.inl rfl) ?_
  simp only [VC0, VC1, VC2, VC3, VC4, VC5, VC6, VC7, VC8, VC9, reduceIte, reduceCtorEq, Nat.reduceEqDiff, Nat.reduceAdd, Nat.reduceMul, Nat.reduceBEq, Nat.reduceLT, Nat.reduceLeDiff, Int.reduceEq, Int.reduceLT, Int.reduceLE, Int.reduceNeg, Int.reduceToNat, Int.reduceAdd, Nat.reduceDiv, Nat.reduceSub, Nat.reduceMod, encL, MC0, MC1, MC2, mp_setA, mp_setB, mp_setC, mp_ld, setCells, List.take_succ_cons, List.take_zero, List.drop_succ_cons, List.drop_zero, List.cons_append, List.nil_append, List.length_cons, List.length_nil, Nat.reduceAdd, List.all_cons, List.all_nil, Bool.and_true, Bool.and_self, List.drop_nil, List.append_nil, ld22, ld6]
  refine callV_of t_p3 (.inr rfl) ?_
  simp only [VC0, VC1, VC2, VC3, VC4, VC5, VC6, VC7, VC8, VC9, reduceIte, reduceCtorEq, Nat.reduceEqDiff, Nat.reduceAdd, Nat.reduceMul, Nat.reduceBEq, Nat.reduceLT, Nat.reduceLeDiff, Int.reduceEq, Int.reduceLT, Int.reduceLE, Int.reduceNeg, Int.reduceToNat, Int.reduceAdd, Nat.reduceDiv, Nat.reduceSub, Nat.reduceMod, encL, MC0, MC1, MC2, mp_setA, mp_setB, mp_setC, mp_ld, setCells, List.take_succ_cons, List.take_zero, List.drop_succ_cons, List.drop_zero, List.cons_append, List.nil_append, List.length_cons, List.length_nil, Nat.reduceAdd, List.all_cons, List.all_nil, Bool.and_true, Bool.and_self, List.drop_nil, List.append_nil, ld22, ld6]
  refine callV_of (t_d1 hS) (.inl rfl) ?_
  simp only [VC0, VC1, VC2, VC3, VC4, VC5, VC6, VC7, VC8, VC9, reduceIte, reduceCtorEq, Nat.reduceEqDiff, Nat.reduceAdd, Nat.reduceMul, Nat.reduceBEq, Nat.reduceLT, Nat.reduceLeDiff, Int.reduceEq, Int.reduceLT, Int.reduceLE, Int.reduceNeg, Int.reduceToNat, Int.reduceAdd, Nat.reduceDiv, Nat.reduceSub, Nat.reduceMod, encL, MC0, MC1, MC2, mp_setA, mp_setB, mp_setC, mp_ld, setCells, List.take_succ_cons, List.take_zero, List.drop_succ_cons, List.drop_zero, List.cons_append, List.nil_append, List.length_cons, List.length_nil, Nat.reduceAdd, List.all_cons, List.all_nil, Bool.and_true, Bool.and_self, List.drop_nil, List.append_nil, ld22, ld6]
  refine callV_of t_d2 (.inr rfl) ?_
  simp only [VC0, VC1, VC2, VC3, VC4, VC5, VC6, VC7, VC8, VC9, reduceIte, reduceCtorEq, Nat.reduceEqDiff, Nat.reduceAdd, Nat.reduceMul, Nat.reduceBEq, Nat.reduceLT, Nat.reduceLeDiff, Int.reduceEq, Int.reduceLT, Int.reduceLE, Int.reduceNeg, Int.reduceToNat, Int.reduceAdd, Nat.reduceDiv, Nat.reduceSub, Nat.reduceMod, encL, MC0, MC1, MC2, mp_setA, mp_setB, mp_setC, mp_ld, setCells, List.take_succ_cons, List.take_zero, List.drop_succ_cons, List.drop_zero, List.cons_append, List.nil_append, List.length_cons, List.length_nil, Nat.reduceAdd, List.all_cons, List.all_nil, Bool.and_true, Bool.and_self, List.drop_nil, List.append_nil, ld22, ld6]
end Go.Proofs.YtlkdcgfjmhjjpaaGreat

set_option linter.unusedSimpArgs false
set_option linter.unusedVariables false
namespace Go.Proofs.YtlkdcgfjmhjjpaaGreat
open Go Go.Lg Go.RowKit
set_option linter.unusedVariables false
set_option linter.unusedSimpArgs false
set_option maxRecDepth 20000

theorem partlyL_ret (l : List MPath) (p : MPath) (hl : l.length ≤ 1000000) (hx : ∀ x ∈ l, smallP x) : PRet Tryz.prog 20 [encL MPath.cells l, .agg p.cells] (.bool (l.any fun x => prefS x p && decide (x.steps.length < p.steps.length))) := by
  refine pret_intro fdg20 (by simp) ?_
  simp only [lcg20, VC0, VC1, VC2, VC3, VC4, VC5, VC6, VC7, VC8, VC9, reduceIte, reduceCtorEq, Nat.reduceEqDiff, Nat.reduceAdd, Nat.reduceMul, Nat.reduceBEq, Nat.reduceLT, Nat.reduceLeDiff, Int.reduceEq, Int.reduceLT, Int.reduceLE, Int.reduceNeg, Int.reduceToNat, Int.reduceAdd, Nat.reduceDiv, Nat.reduceSub, Nat.reduceMod, encL, MC0, MC1, MC2]
  refine loop_vcg (ι := Nat × (Nat → Nat)) (fun y => stO [(0, .val (encL MPath.cells l)), (3, .box p.cells), (5, .val (.int .i64 y.1))] y.2)
    (fun y => y.1 ≤ l.length ∧ (l.drop y.1).any (fun x => prefS x p && decide (x.steps.length < p.steps.length)) = l.any fun x => prefS x p && decide (x.steps.length < p.steps.length)) (fun y => l.length - y.1) (0, _) ⟨Nat.zero_le _, rfl⟩ (ent_of _ [] rfl rfl (by simp only [VC0, VC1, VC2, VC3, VC4, VC5, VC6, VC7, VC8, VC9, reduceIte, reduceCtorEq, Nat.reduceEqDiff, Nat.reduceAdd, Nat.reduceMul, Nat.reduceBEq, Nat.reduceLT, Nat.reduceLeDiff, Int.reduceEq, Int.reduceLT, Int.reduceLE, Int.reduceNeg, Int.reduceToNat, Int.reduceAdd, Nat.reduceDiv, Nat.reduceSub, Nat.reduceMod, encL, MC0, MC1, MC2])) ?_
  rintro ⟨k, c⟩ hk
  obtain ⟨hk, hb⟩ : k ≤ l.length ∧ (l.drop k).any (fun x => prefS x p && decide (x.steps.length < p.steps.length)) = l.any fun x => prefS x p && decide (x.steps.length < p.steps.length) := hk
  simp only [VC0, VC1, VC2, VC3, VC4, VC5, VC6, VC7, VC8, VC9, reduceIte, reduceCtorEq, Nat.reduceEqDiff, Nat.reduceAdd, Nat.reduceMul, Nat.reduceBEq, Nat.reduceLT, Nat.reduceLeDiff, Int.reduceEq, Int.reduceLT, Int.reduceLE, Int.reduceNeg, Int.reduceToNat, Int.reduceAdd, Nat.reduceDiv, Nat.reduceSub, Nat.reduceMod, encL, MC0, MC1, MC2]
  refine condD_of (fun h => ?_) (fun h => ?_)
  · have hk' : k < l.length := by omega
    have i1 : 0 ≤ (k : Int) ∧ (k : Int) < l.length := by omega
    have i2 : InI64 ((k : Int) + 1) := by unfold InI64; omega
    have hxk : l[k].steps.length ≤ 4611686018427387904 := by have := hx _ (List.getElem_mem hk'); unfold smallP at this; omega
    rw [List.drop_eq_getElem_cons hk', List.any_cons] at hb
    simp only [VC0, VC1, VC2, VC3, VC4, VC5, VC6, VC7, VC8, VC9, reduceIte, reduceCtorEq, Nat.reduceEqDiff, Nat.reduceAdd, Nat.reduceMul, Nat.reduceBEq, Nat.reduceLT, Nat.reduceLeDiff, Int.reduceEq, Int.reduceLT, Int.reduceLE, Int.reduceNeg, Int.reduceToNat, Int.reduceAdd, Nat.reduceDiv, Nat.reduceSub, Nat.reduceMod, encL, MC0, MC1, MC2, hk', i1]
    refine callV_of (pref16_ret l[k] p hxk) (.inr rfl) ?_
    cases b1 : prefS l[k] p <;> simp only [VC0, VC1, VC2, VC3, VC4, VC5, VC6, VC7, VC8, VC9, reduceIte, reduceCtorEq, Nat.reduceEqDiff, Nat.reduceAdd, Nat.reduceMul, Nat.reduceBEq, Nat.reduceLT, Nat.reduceLeDiff, Int.reduceEq, Int.reduceLT, Int.reduceLE, Int.reduceNeg, Int.reduceToNat, Int.reduceAdd, Nat.reduceDiv, Nat.reduceSub, Nat.reduceMod, encL, MC0, MC1, MC2, b1, hk', i1, i2]
    · rw [b1, Bool.false_and, Bool.false_or] at hb
      exact backTo_of (k + 1, _) ⟨hk', hb⟩ (by simp only []; omega) (ent_of _ [] rfl rfl (by simp only [VC0, VC1, VC2, VC3, VC4, VC5, VC6, VC7, VC8, VC9, reduceIte, reduceCtorEq, Nat.reduceEqDiff, Nat.reduceAdd, Nat.reduceMul, Nat.reduceBEq, Nat.reduceLT, Nat.reduceLeDiff, Int.reduceEq, Int.reduceLT, Int.reduceLE, Int.reduceNeg, Int.reduceToNat, Int.reduceAdd, Nat.reduceDiv, Nat.reduceSub, Nat.reduceMod, encL, MC0, MC1, MC2]))
    · rw [b1, Bool.true_and] at hb
      cases b2 : decide ((l[k].steps.length : Int) < p.steps.length) <;> simp only [VC0, VC1, VC2, VC3, VC4, VC5, VC6, VC7, VC8, VC9, reduceIte, reduceCtorEq, Nat.reduceEqDiff, Nat.reduceAdd, Nat.reduceMul, Nat.reduceBEq, Nat.reduceLT, Nat.reduceLeDiff, Int.reduceEq, Int.reduceLT, Int.reduceLE, Int.reduceNeg, Int.reduceToNat, Int.reduceAdd, Nat.reduceDiv, Nat.reduceSub, Nat.reduceMod, encL, MC0, MC1, MC2, b2, hk', i1, i2]
      · rw [decide_eq_false (by have := of_decide_eq_false b2; omega), Bool.false_or] at hb
        exact backTo_of (k + 1, _) ⟨hk', hb⟩ (by simp only []; omega) (ent_of _ [] rfl rfl (by simp only [VC0, VC1, VC2, VC3, VC4, VC5, VC6, VC7, VC8, VC9, reduceIte, reduceCtorEq, Nat.reduceEqDiff, Nat.reduceAdd, Nat.reduceMul, Nat.reduceBEq, Nat.reduceLT, Nat.reduceLeDiff, Int.reduceEq, Int.reduceLT, Int.reduceLE, Int.reduceNeg, Int.reduceToNat, Int.reduceAdd, Nat.reduceDiv, Nat.reduceSub, Nat.reduceMod, encL, MC0, MC1, MC2]))
      · rw [decide_eq_true (by have := of_decide_eq_true b2; omega), Bool.true_or] at hb
        rw [← hb]
  · have hk' : k = l.length := by omega
    subst hk'
    rw [List.drop_length] at hb
    simp only [VC0, VC1, VC2, VC3, VC4, VC5, VC6, VC7, VC8, VC9, reduceIte, reduceCtorEq, Nat.reduceEqDiff, Nat.reduceAdd, Nat.reduceMul, Nat.reduceBEq, Nat.reduceLT, Nat.reduceLeDiff, Int.reduceEq, Int.reduceLT, Int.reduceLE, Int.reduceNeg, Int.reduceToNat, Int.reduceAdd, Nat.reduceDiv, Nat.reduceSub, Nat.reduceMod, encL, MC0, MC1, MC2, ← hb, List.any_nil]
theorem llenE (a : List MPath) : llen false (encE a) = .A True (.int .i64 a.length) := by
  unfold encE
  split
  · rename_i e; subst e; rfl
  · rfl
theorem liaSE {a : List MPath} (h : a ≠ []) (q : IntKind) (n : Int) (esz : Nat) : liaS esz (encE a) (.int q n) = .A (0 ≤ n ∧ n < a.length) (.ip (a.flatMap MPath.cells) (n.toNat * esz)) := by
  rw [encE_ne h]; rfl
theorem pathsE_ret (a b : List MPath) (hl : a.length ≤ 4611686018427387904) (ha : ∀ x ∈ a, smallP x) : PRet Tryz.prog 10 [encE a, encE b] (.bool (decide (a = b))) :=
  (paths_ret a b hl (fun x h => by have := ha x h; unfold smallP at this; omega)).nz 6 (by simp only [List.map_cons, List.map_nil, nz_encE])
theorem short0_ret (l : List MPath) (p : MPath) : PRet Tryz.prog 7 [encL MPath.cells l, .agg p.cells, .agg [.int .i64 0, .int .i64 0, .bool false, .int .i64 0, .e0, .int .i64 0, .int .i64 0, .int .i64 0, .int .i64 0, .e0, .int .i64 0, .int .i64 0, .int .i64 0, .e0, .int .i64 0, .int .i64 0, .e0, .int .i64 0, .str ⟨#[]⟩, .e0, .e0, .e0]] (.bool (shortB l p ⟨0, 0, false, ⟨0, []⟩, v00, []⟩)) :=
  (short_ret l p ⟨0, 0, false, ⟨0, []⟩, v00, []⟩).nz 6 (by
    simp only [List.map_cons, List.map_nil, nz, encL, mo_nz, nz_cells, MInst.cells, v00, o00, List.flatMap_nil, List.length_nil])
set_option maxHeartbeats 2000000 in
theorem order_ret (hS : SortsP) (l : List MPath) (p : MPath) : PRet Tryz.prog 4 [encL MPath.cells l, .agg p.cells] (.bool true) := by
  refine pret_intro fdh4 (by simp) ?_
  simp only [lch4, VC0, VC1, VC2, VC3, VC4, VC5, VC6, VC7, VC8, VC9, reduceIte, reduceCtorEq, Nat.reduceEqDiff, Nat.reduceAdd, Nat.reduceMul, Nat.reduceBEq, Nat.reduceLT, Nat.reduceLeDiff, Int.reduceEq, Int.reduceLT, Int.reduceLE, Int.reduceNeg, Int.reduceToNat, Int.reduceAdd, Nat.reduceDiv, Nat.reduceSub, Nat.reduceMod, encL, MC0, MC1, MC2]
  refine callX_of (short0_ret l p) (.inr rfl) ?_
  cases bs : shortB l p ⟨0, 0, false, ⟨0, []⟩, v00, []⟩ <;> simp only [VC0, VC1, VC2, VC3, VC4, VC5, VC6, VC7, VC8, VC9, reduceIte, reduceCtorEq, Nat.reduceEqDiff, Nat.reduceAdd, Nat.reduceMul, Nat.reduceBEq, Nat.reduceLT, Nat.reduceLeDiff, Int.reduceEq, Int.reduceLT, Int.reduceLE, Int.reduceNeg, Int.reduceToNat, Int.reduceAdd, Nat.reduceDiv, Nat.reduceSub, Nat.reduceMod, encL, MC0, MC1, MC2, bs]
  · refine callX_of (told_ret hS) (.inr rfl) ?_
    simp only [VC0, VC1, VC2, VC3, VC4, VC5, VC6, VC7, VC8, VC9, reduceIte, reduceCtorEq, Nat.reduceEqDiff, Nat.reduceAdd, Nat.reduceMul, Nat.reduceBEq, Nat.reduceLT, Nat.reduceLeDiff, Int.reduceEq, Int.reduceLT, Int.reduceLE, Int.reduceNeg, Int.reduceToNat, Int.reduceAdd, Nat.reduceDiv, Nat.reduceSub, Nat.reduceMod, encL, MC0, MC1, MC2]
  -- the paths that are added
  obtain ⟨hsh, hps⟩ : (∀ x ∈ l.take 12, smallP x) ∧ smallP p := by
    simp only [shortB, Bool.and_eq_true, List.all_eq_true, decide_eq_true_eq] at bs
    refine ⟨fun x hx => ?_, ?_⟩
    · have h : x ∈ l.take 20 := by
        have e : l.take 12 = (l.take 20).take 12 := by rw [List.take_take]; rfl
        rw [e] at hx; exact List.mem_of_mem_take hx
      have := bs.1 x h
      unfold smallP; omega
    · have := bs.2.1
      unfold smallP; omega
  have hmn : ∃ n : Nat, n = min l.length 12 := ⟨_, rfl⟩
  obtain ⟨n, hn⟩ := hmn
  have hnl : n ≤ l.length := by omega
  have hn12 : n ≤ 12 := by omega
  have hqm : ∀ x ∈ l.take n, smallP x := fun x hx => by
    refine hsh x ?_
    have e : l.take n = (l.take 12).take n := by rw [List.take_take]; congr 1; omega
    rw [e] at hx; exact List.mem_of_mem_take hx
  have hql : (l.take n).length = n := by rw [List.length_take]; omega
  have hfsm : ∀ (ps : List MPath), (∀ x ∈ ps, x ∈ l.take n) → ∀ (m : List MPath), (∀ x ∈ m, smallP x) → ∀ x ∈ foldA m ps, smallP x := by
    intro ps hps m hm x hx
    rcases foldA_mem _ hx with hx | hx
    · exact hm x hx
    · exact hqm x (hps x hx)
  refine loop_vcg (ι := Nat × (Nat → Nat)) (fun y => stO [(0, .val (encL MPath.cells l)), (3, .box p.cells), (5, .val (encE (foldA [] ((l.take n).take y.1)))), (6, .val (encE (foldA [] ((l.take n).reverse.take y.1)))), (7, .val (.int .i64 n)), (8, .val (.int .i64 y.1))] y.2)
    (fun y => y.1 ≤ n) (fun y => n - y.1) (0, _) (Nat.zero_le _) (ent_of _ [] rfl rfl (by simp only [VC0, VC1, VC2, VC3, VC4, VC5, VC6, VC7, VC8, VC9, reduceIte, reduceCtorEq, Nat.reduceEqDiff, Nat.reduceAdd, Nat.reduceMul, Nat.reduceBEq, Nat.reduceLT, Nat.reduceLeDiff, Int.reduceEq, Int.reduceLT, Int.reduceLE, Int.reduceNeg, Int.reduceToNat, Int.reduceAdd, Nat.reduceDiv, Nat.reduceSub, Nat.reduceMod, encL, MC0, MC1, MC2, List.take_zero, foldA, List.foldl_nil, encE_nil]; rw [hn]; split <;> omega)) ?_
  rintro ⟨k, c⟩ hk
  have hk : k ≤ n := hk
  simp only [VC0, VC1, VC2, VC3, VC4, VC5, VC6, VC7, VC8, VC9, reduceIte, reduceCtorEq, Nat.reduceEqDiff, Nat.reduceAdd, Nat.reduceMul, Nat.reduceBEq, Nat.reduceLT, Nat.reduceLeDiff, Int.reduceEq, Int.reduceLT, Int.reduceLE, Int.reduceNeg, Int.reduceToNat, Int.reduceAdd, Nat.reduceDiv, Nat.reduceSub, Nat.reduceMod, encL, MC0, MC1, MC2]
  refine condD_of (fun h => ?_) (fun h => ?_)
  · have hk' : k < n := by omega
    have hkl : k < l.length := by omega
    have i1 : 0 ≤ (k : Int) ∧ (k : Int) < l.length := by omega
    have i2 : InI64 ((k : Int) + 1) := by unfold InI64; omega
    have hkt : k < (l.take n).length := by rw [hql]; exact hk'
    have hkr : k < (l.take n).reverse.length := by rw [List.length_reverse, hql]; exact hk'
    have e5 : foldA [] ((l.take n).take (k + 1)) = addS (foldA [] ((l.take n).take k)) l[k] := by rw [foldA_take hkt, List.getElem_take]
    have hj1 : n - 1 - k < l.length := by omega
    have hj2 : 0 ≤ ((n - 1 - k : Nat) : Int) ∧ ((n - 1 - k : Nat) : Int) < l.length := by omega
    have hj3 : (n : Int) - 1 - (k : Int) = ((n - 1 - k : Nat) : Int) := by omega
    have e6 : foldA [] ((l.take n).reverse.take (k + 1)) = addS (foldA [] ((l.take n).reverse.take k)) l[n - 1 - k] := by
      rw [foldA_take hkr, List.getElem_reverse, List.getElem_take]
      congr 2; rw [hql]
    have j1 : InI64 ((n : Int) - 1) := by unfold InI64; omega
    have j2 : InI64 ((n - 1 - k : Nat) : Int) := by unfold InI64; omega
    have l5 := foldA_len ((l.take n).take k) []
    have l6 := foldA_len ((l.take n).reverse.take k) []
    rw [List.length_take] at l5 l6
    simp only [List.length_nil, List.length_reverse] at l5 l6
    simp only [VC0, VC1, VC2, VC3, VC4, VC5, VC6, VC7, VC8, VC9, reduceIte, reduceCtorEq, Nat.reduceEqDiff, Nat.reduceAdd, Nat.reduceMul, Nat.reduceBEq, Nat.reduceLT, Nat.reduceLeDiff, Int.reduceEq, Int.reduceLT, Int.reduceLE, Int.reduceNeg, Int.reduceToNat, Int.reduceAdd, Nat.reduceDiv, Nat.reduceSub, Nat.reduceMod, encL, MC0, MC1, MC2, hkl, i1, snap_encE, sok_encE]
    refine callX_of (add_ownE hS _ l[k] (foldA_srt _ List.Pairwise.nil) (by omega) (hqm _ (by rw [← List.getElem_take (h := hkt)]; exact List.getElem_mem hkt)) (hfsm _ (fun x hx => List.mem_of_mem_take hx) [] (fun x hx => by cases hx))) (.inl rfl) ?_
    simp only [VC0, VC1, VC2, VC3, VC4, VC5, VC6, VC7, VC8, VC9, reduceIte, reduceCtorEq, Nat.reduceEqDiff, Nat.reduceAdd, Nat.reduceMul, Nat.reduceBEq, Nat.reduceLT, Nat.reduceLeDiff, Int.reduceEq, Int.reduceLT, Int.reduceLE, Int.reduceNeg, Int.reduceToNat, Int.reduceAdd, Nat.reduceDiv, Nat.reduceSub, Nat.reduceMod, encL, MC0, MC1, MC2, j1, j2, hj1, hj2, hj3, snap_encE, sok_encE]
    refine callX_of (add_ownE hS _ l[n - 1 - k] (foldA_srt _ List.Pairwise.nil) (by omega) (hqm _ ?_) (hfsm _ (fun x hx => List.mem_reverse.1 (List.mem_of_mem_take hx)) [] (fun x hx => by cases hx))) (.inl rfl) ?_
    · have h2 : n - 1 - k < (l.take n).length := by rw [hql]; omega
      rw [← List.getElem_take (h := h2)]; exact List.getElem_mem h2
    simp only [VC0, VC1, VC2, VC3, VC4, VC5, VC6, VC7, VC8, VC9, reduceIte, reduceCtorEq, Nat.reduceEqDiff, Nat.reduceAdd, Nat.reduceMul, Nat.reduceBEq, Nat.reduceLT, Nat.reduceLeDiff, Int.reduceEq, Int.reduceLT, Int.reduceLE, Int.reduceNeg, Int.reduceToNat, Int.reduceAdd, Nat.reduceDiv, Nat.reduceSub, Nat.reduceMod, encL, MC0, MC1, MC2, i2]
    refine backTo_of (k + 1, _) hk' (by first | omega | (simp only []; omega)) (ent_of _ [] rfl rfl (by simp only [VC0, VC1, VC2, VC3, VC4, VC5, VC6, VC7, VC8, VC9, reduceIte, reduceCtorEq, Nat.reduceEqDiff, Nat.reduceAdd, Nat.reduceMul, Nat.reduceBEq, Nat.reduceLT, Nat.reduceLeDiff, Int.reduceEq, Int.reduceLT, Int.reduceLE, Int.reduceNeg, Int.reduceToNat, Int.reduceAdd, Nat.reduceDiv, Nat.reduceSub, Nat.reduceMod, encL, MC0, MC1, MC2, e5, e6, imv_encE]))
  · have hk' : k = n := by omega
    subst hk'
    have er : (l.take k).take k = l.take k := by rw [List.take_take, Nat.min_self]
    have er2 : (l.take k).reverse.take k = (l.take k).reverse := List.take_of_length_le (by rw [List.length_reverse, hql]; exact Nat.le_refl _)
    simp only [VC0, VC1, VC2, VC3, VC4, VC5, VC6, VC7, VC8, VC9, reduceIte, reduceCtorEq, Nat.reduceEqDiff, Nat.reduceAdd, Nat.reduceMul, Nat.reduceBEq, Nat.reduceLT, Nat.reduceLeDiff, Int.reduceEq, Int.reduceLT, Int.reduceLE, Int.reduceNeg, Int.reduceToNat, Int.reduceAdd, Nat.reduceDiv, Nat.reduceSub, Nat.reduceMod, encL, MC0, MC1, MC2, er, er2, fold_rev]
    have has : Srt (foldA [] (l.take k)) := foldA_srt _ List.Pairwise.nil
    have hal := foldA_len (l.take k) []
    rw [hql] at hal
    simp only [List.length_nil, Nat.zero_add] at hal
    have hax : ∀ x ∈ foldA [] (l.take k), smallP x := hfsm _ (fun x hx => hx) [] (fun x hx => by cases hx)
    have hcov := (foldA_cov (l.take k) []).2
    have htw := fold_twice (l.take k)
    generalize ha : foldA [] (l.take k) = a at has hal hax hcov htw
    refine loop_vcg (ι := Nat × (Nat → Nat)) (fun y => stO [(0, .val (encL MPath.cells l)), (3, .box p.cells), (5, .val (encE a)), (6, .val (encE a)), (7, .val (.int .i64 k)), (9, .val (encE (foldA a ((l.take k).take y.1)))), (10, .val (.int .i64 y.1))] y.2)
      (fun y => y.1 ≤ k) (fun y => k - y.1) (0, _) (Nat.zero_le _) (ent_of _ [] rfl rfl (by simp only [VC0, VC1, VC2, VC3, VC4, VC5, VC6, VC7, VC8, VC9, reduceIte, reduceCtorEq, Nat.reduceEqDiff, Nat.reduceAdd, Nat.reduceMul, Nat.reduceBEq, Nat.reduceLT, Nat.reduceLeDiff, Int.reduceEq, Int.reduceLT, Int.reduceLE, Int.reduceNeg, Int.reduceToNat, Int.reduceAdd, Nat.reduceDiv, Nat.reduceSub, Nat.reduceMod, encL, MC0, MC1, MC2, List.take_zero, foldA, List.foldl_nil, imv_encE])) ?_
    rintro ⟨j, c⟩ hj
    have hj : j ≤ k := hj
    simp only [VC0, VC1, VC2, VC3, VC4, VC5, VC6, VC7, VC8, VC9, reduceIte, reduceCtorEq, Nat.reduceEqDiff, Nat.reduceAdd, Nat.reduceMul, Nat.reduceBEq, Nat.reduceLT, Nat.reduceLeDiff, Int.reduceEq, Int.reduceLT, Int.reduceLE, Int.reduceNeg, Int.reduceToNat, Int.reduceAdd, Nat.reduceDiv, Nat.reduceSub, Nat.reduceMod, encL, MC0, MC1, MC2]
    refine condD_of (fun h => ?_) (fun h => ?_)
    · have hj' : j < k := by omega
      have hjl : j < l.length := by omega
      have i1 : 0 ≤ (j : Int) ∧ (j : Int) < l.length := by omega
      have i2 : InI64 ((j : Int) + 1) := by unfold InI64; omega
      have hjt : j < (l.take k).length := by rw [hql]; exact hj'
      have e5 : foldA a ((l.take k).take (j + 1)) = addS (foldA a ((l.take k).take j)) l[j] := by rw [foldA_take hjt, List.getElem_take]
      have l5 := foldA_len ((l.take k).take j) a
      rw [List.length_take] at l5
      simp only [VC0, VC1, VC2, VC3, VC4, VC5, VC6, VC7, VC8, VC9, reduceIte, reduceCtorEq, Nat.reduceEqDiff, Nat.reduceAdd, Nat.reduceMul, Nat.reduceBEq, Nat.reduceLT, Nat.reduceLeDiff, Int.reduceEq, Int.reduceLT, Int.reduceLE, Int.reduceNeg, Int.reduceToNat, Int.reduceAdd, Nat.reduceDiv, Nat.reduceSub, Nat.reduceMod, encL, MC0, MC1, MC2, hjl, i1, snap_encE, sok_encE]
      refine callX_of (add_ownE hS _ l[j] (foldA_srt _ has) (by omega) (hqm _ (by rw [← List.getElem_take (h := hjt)]; exact List.getElem_mem hjt)) (hfsm _ (fun x hx => List.mem_of_mem_take hx) a hax)) (.inl rfl) ?_
      simp only [VC0, VC1, VC2, VC3, VC4, VC5, VC6, VC7, VC8, VC9, reduceIte, reduceCtorEq, Nat.reduceEqDiff, Nat.reduceAdd, Nat.reduceMul, Nat.reduceBEq, Nat.reduceLT, Nat.reduceLeDiff, Int.reduceEq, Int.reduceLT, Int.reduceLE, Int.reduceNeg, Int.reduceToNat, Int.reduceAdd, Nat.reduceDiv, Nat.reduceSub, Nat.reduceMod, encL, MC0, MC1, MC2, i2]
      refine backTo_of (j + 1, _) hj' (by first | omega | (simp only []; omega)) (ent_of _ [] rfl rfl (by simp only [VC0, VC1, VC2, VC3, VC4, VC5, VC6, VC7, VC8, VC9, reduceIte, reduceCtorEq, Nat.reduceEqDiff, Nat.reduceAdd, Nat.reduceMul, Nat.reduceBEq, Nat.reduceLT, Nat.reduceLeDiff, Int.reduceEq, Int.reduceLT, Int.reduceLE, Int.reduceNeg, Int.reduceToNat, Int.reduceAdd, Nat.reduceDiv, Nat.reduceSub, Nat.reduceMod, encL, MC0, MC1, MC2, e5, imv_encE]))
    · have hj' : j = k := by omega
      subst hj'
      simp only [VC0, VC1, VC2, VC3, VC4, VC5, VC6, VC7, VC8, VC9, reduceIte, reduceCtorEq, Nat.reduceEqDiff, Nat.reduceAdd, Nat.reduceMul, Nat.reduceBEq, Nat.reduceLT, Nat.reduceLeDiff, Int.reduceEq, Int.reduceLT, Int.reduceLE, Int.reduceNeg, Int.reduceToNat, Int.reduceAdd, Nat.reduceDiv, Nat.reduceSub, Nat.reduceMod, encL, MC0, MC1, MC2, er, htw, snap_encE, sok_encE]
      refine callX_of (pathsE_ret a a (by omega) hax) (.inr rfl) ?_
      have et : decide (a = a) = true := decide_eq_true rfl
      simp only [VC0, VC1, VC2, VC3, VC4, VC5, VC6, VC7, VC8, VC9, reduceIte, reduceCtorEq, Nat.reduceEqDiff, Nat.reduceAdd, Nat.reduceMul, Nat.reduceBEq, Nat.reduceLT, Nat.reduceLeDiff, Int.reduceEq, Int.reduceLT, Int.reduceLE, Int.reduceNeg, Int.reduceToNat, Int.reduceAdd, Nat.reduceDiv, Nat.reduceSub, Nat.reduceMod, encL, MC0, MC1, MC2, et, snap_encE, sok_encE]
      refine callX_of (pathsE_ret a a (by omega) hax) (.inr rfl) ?_
      simp only [VC0, VC1, VC2, VC3, VC4, VC5, VC6, VC7, VC8, VC9, reduceIte, reduceCtorEq, Nat.reduceEqDiff, Nat.reduceAdd, Nat.reduceMul, Nat.reduceBEq, Nat.reduceLT, Nat.reduceLeDiff, Int.reduceEq, Int.reduceLT, Int.reduceLE, Int.reduceNeg, Int.reduceToNat, Int.reduceAdd, Nat.reduceDiv, Nat.reduceSub, Nat.reduceMod, encL, MC0, MC1, MC2, et]
      refine loop_vcg (ι := Nat × (Nat → Nat)) (fun y => stO [(0, .val (encL MPath.cells l)), (3, .box p.cells), (5, .val (encE a)), (7, .val (.int .i64 j)), (11, .val (.int .i64 y.1))] y.2)
        (fun y => y.1 ≤ j) (fun y => j - y.1) (0, _) (Nat.zero_le _) (ent_of _ [] rfl rfl (by simp only [VC0, VC1, VC2, VC3, VC4, VC5, VC6, VC7, VC8, VC9, reduceIte, reduceCtorEq, Nat.reduceEqDiff, Nat.reduceAdd, Nat.reduceMul, Nat.reduceBEq, Nat.reduceLT, Nat.reduceLeDiff, Int.reduceEq, Int.reduceLT, Int.reduceLE, Int.reduceNeg, Int.reduceToNat, Int.reduceAdd, Nat.reduceDiv, Nat.reduceSub, Nat.reduceMod, encL, MC0, MC1, MC2, imv_encE])) ?_
      rintro ⟨i, c⟩ hi
      have hi : i ≤ j := hi
      simp only [VC0, VC1, VC2, VC3, VC4, VC5, VC6, VC7, VC8, VC9, reduceIte, reduceCtorEq, Nat.reduceEqDiff, Nat.reduceAdd, Nat.reduceMul, Nat.reduceBEq, Nat.reduceLT, Nat.reduceLeDiff, Int.reduceEq, Int.reduceLT, Int.reduceLE, Int.reduceNeg, Int.reduceToNat, Int.reduceAdd, Nat.reduceDiv, Nat.reduceSub, Nat.reduceMod, encL, MC0, MC1, MC2]
      refine condD_of (fun h => ?_) (fun h => ?_)
      · have hi' : i < j := by omega
        have hil : i < l.length := by omega
        have i1 : 0 ≤ (i : Int) ∧ (i : Int) < l.length := by omega
        have i2 : InI64 ((i : Int) + 1) := by unfold InI64; omega
        have hit : i < (l.take j).length := by rw [hql]; exact hi'
        have hlm : l[i] ∈ l.take j := by rw [← List.getElem_take (h := hit)]; exact List.getElem_mem hit
        have hne : a ≠ [] := by
          rintro rfl
          obtain ⟨y, hy, _⟩ := hcov _ hlm
          cases hy
        simp only [VC0, VC1, VC2, VC3, VC4, VC5, VC6, VC7, VC8, VC9, reduceIte, reduceCtorEq, Nat.reduceEqDiff, Nat.reduceAdd, Nat.reduceMul, Nat.reduceBEq, Nat.reduceLT, Nat.reduceLeDiff, Int.reduceEq, Int.reduceLT, Int.reduceLE, Int.reduceNeg, Int.reduceToNat, Int.reduceAdd, Nat.reduceDiv, Nat.reduceSub, Nat.reduceMod, encL, MC0, MC1, MC2]
        refine loop_vcg (ι := Nat × (Nat → Nat)) (fun y => stO [(0, .val (encL MPath.cells l)), (3, .box p.cells), (5, .val (encE a)), (7, .val (.int .i64 j)), (11, .val (.int .i64 i)), (12, .val (.bool ((a.take y.1).any fun x => prefS x l[i]))), (13, .val (.int .i64 y.1))] y.2)
          (fun y => y.1 ≤ a.length) (fun y => a.length - y.1) (0, _) (Nat.zero_le _) (ent_of _ [] rfl rfl (by simp only [VC0, VC1, VC2, VC3, VC4, VC5, VC6, VC7, VC8, VC9, reduceIte, reduceCtorEq, Nat.reduceEqDiff, Nat.reduceAdd, Nat.reduceMul, Nat.reduceBEq, Nat.reduceLT, Nat.reduceLeDiff, Int.reduceEq, Int.reduceLT, Int.reduceLE, Int.reduceNeg, Int.reduceToNat, Int.reduceAdd, Nat.reduceDiv, Nat.reduceSub, Nat.reduceMod, encL, MC0, MC1, MC2, List.take_zero, List.any_nil, imv_encE])) ?_
        rintro ⟨r, c⟩ hr
        have hr : r ≤ a.length := hr
        simp only [VC0, VC1, VC2, VC3, VC4, VC5, VC6, VC7, VC8, VC9, reduceIte, reduceCtorEq, Nat.reduceEqDiff, Nat.reduceAdd, Nat.reduceMul, Nat.reduceBEq, Nat.reduceLT, Nat.reduceLeDiff, Int.reduceEq, Int.reduceLT, Int.reduceLE, Int.reduceNeg, Int.reduceToNat, Int.reduceAdd, Nat.reduceDiv, Nat.reduceSub, Nat.reduceMod, encL, MC0, MC1, MC2, llenE]
        refine condD_of (fun h => ?_) (fun h => ?_)
        · have hr' : r < a.length := by omega
          have r1 : 0 ≤ (r : Int) ∧ (r : Int) < a.length := by omega
          have r2 : InI64 ((r : Int) + 1) := by unfold InI64; omega
          have hsr : a[r].steps.length ≤ 4611686018427387904 := by have := hax _ (List.getElem_mem hr'); unfold smallP at this; omega
          have et : (a.take (r + 1)).any (fun x => prefS x l[i]) = ((a.take r).any (fun x => prefS x l[i]) || prefS a[r] l[i]) := by
            rw [List.take_succ_eq_append_getElem hr', List.any_append]; simp only [List.any_cons, List.any_nil, Bool.or_false]
          cases b1 : (a.take r).any fun x => prefS x l[i] <;> simp only [VC0, VC1, VC2, VC3, VC4, VC5, VC6, VC7, VC8, VC9, reduceIte, reduceCtorEq, Nat.reduceEqDiff, Nat.reduceAdd, Nat.reduceMul, Nat.reduceBEq, Nat.reduceLT, Nat.reduceLeDiff, Int.reduceEq, Int.reduceLT, Int.reduceLE, Int.reduceNeg, Int.reduceToNat, Int.reduceAdd, Nat.reduceDiv, Nat.reduceSub, Nat.reduceMod, encL, MC0, MC1, MC2, b1, liaSE hne, r1, hr', i1, hil, r2, mp_sok]
          · refine callV_of (pref16_ret a[r] l[i] hsr) (.inr rfl) ?_
            simp only [VC0, VC1, VC2, VC3, VC4, VC5, VC6, VC7, VC8, VC9, reduceIte, reduceCtorEq, Nat.reduceEqDiff, Nat.reduceAdd, Nat.reduceMul, Nat.reduceBEq, Nat.reduceLT, Nat.reduceLeDiff, Int.reduceEq, Int.reduceLT, Int.reduceLE, Int.reduceNeg, Int.reduceToNat, Int.reduceAdd, Nat.reduceDiv, Nat.reduceSub, Nat.reduceMod, encL, MC0, MC1, MC2, r2]
            refine backTo_of (r + 1, _) hr' (by first | omega | (simp only []; omega)) (ent_of _ [] rfl rfl (by simp only [VC0, VC1, VC2, VC3, VC4, VC5, VC6, VC7, VC8, VC9, reduceIte, reduceCtorEq, Nat.reduceEqDiff, Nat.reduceAdd, Nat.reduceMul, Nat.reduceBEq, Nat.reduceLT, Nat.reduceLeDiff, Int.reduceEq, Int.reduceLT, Int.reduceLE, Int.reduceNeg, Int.reduceToNat, Int.reduceAdd, Nat.reduceDiv, Nat.reduceSub, Nat.reduceMod, encL, MC0, MC1, MC2, et, b1, Bool.false_or, imv_encE]))
          · refine backTo_of (r + 1, _) hr' (by first | omega | (simp only []; omega)) (ent_of _ [] rfl rfl (by simp only [VC0, VC1, VC2, VC3, VC4, VC5, VC6, VC7, VC8, VC9, reduceIte, reduceCtorEq, Nat.reduceEqDiff, Nat.reduceAdd, Nat.reduceMul, Nat.reduceBEq, Nat.reduceLT, Nat.reduceLeDiff, Int.reduceEq, Int.reduceLT, Int.reduceLE, Int.reduceNeg, Int.reduceToNat, Int.reduceAdd, Nat.reduceDiv, Nat.reduceSub, Nat.reduceMod, encL, MC0, MC1, MC2, et, b1, Bool.true_or, imv_encE]))
        · have hr' : r = a.length := by omega
          subst hr'
          have et : (a.any fun x => prefS x l[i]) = true := List.any_eq_true.2 (hcov _ hlm)
          simp only [VC0, VC1, VC2, VC3, VC4, VC5, VC6, VC7, VC8, VC9, reduceIte, reduceCtorEq, Nat.reduceEqDiff, Nat.reduceAdd, Nat.reduceMul, Nat.reduceBEq, Nat.reduceLT, Nat.reduceLeDiff, Int.reduceEq, Int.reduceLT, Int.reduceLE, Int.reduceNeg, Int.reduceToNat, Int.reduceAdd, Nat.reduceDiv, Nat.reduceSub, Nat.reduceMod, encL, MC0, MC1, MC2, List.take_length, et, i2]
          refine backTo_of (i + 1, _) hi' (by first | omega | (simp only []; omega)) (ent_of _ [] rfl rfl (by simp only [VC0, VC1, VC2, VC3, VC4, VC5, VC6, VC7, VC8, VC9, reduceIte, reduceCtorEq, Nat.reduceEqDiff, Nat.reduceAdd, Nat.reduceMul, Nat.reduceBEq, Nat.reduceLT, Nat.reduceLeDiff, Int.reduceEq, Int.reduceLT, Int.reduceLE, Int.reduceNeg, Int.reduceToNat, Int.reduceAdd, Nat.reduceDiv, Nat.reduceSub, Nat.reduceMod, encL, MC0, MC1, MC2, imv_encE]))
      · have hi' : i = j := by omega
        simp only [VC0, VC1, VC2, VC3, VC4, VC5, VC6, VC7, VC8, VC9, reduceIte, reduceCtorEq, Nat.reduceEqDiff, Nat.reduceAdd, Nat.reduceMul, Nat.reduceBEq, Nat.reduceLT, Nat.reduceLeDiff, Int.reduceEq, Int.reduceLT, Int.reduceLE, Int.reduceNeg, Int.reduceToNat, Int.reduceAdd, Nat.reduceDiv, Nat.reduceSub, Nat.reduceMod, encL, MC0, MC1, MC2]
        refine loop_vcg (ι := Nat × (Nat → Nat)) (fun y => stO [(3, .box p.cells), (5, .val (encE a)), (14, .val (.int .i64 y.1))] y.2)
          (fun y => y.1 ≤ a.length) (fun y => a.length - y.1) (0, _) (Nat.zero_le _) (ent_of _ [] rfl rfl (by simp only [VC0, VC1, VC2, VC3, VC4, VC5, VC6, VC7, VC8, VC9, reduceIte, reduceCtorEq, Nat.reduceEqDiff, Nat.reduceAdd, Nat.reduceMul, Nat.reduceBEq, Nat.reduceLT, Nat.reduceLeDiff, Int.reduceEq, Int.reduceLT, Int.reduceLE, Int.reduceNeg, Int.reduceToNat, Int.reduceAdd, Nat.reduceDiv, Nat.reduceSub, Nat.reduceMod, encL, MC0, MC1, MC2, imv_encE])) ?_
        rintro ⟨r, c⟩ hr
        have hr : r ≤ a.length := hr
        have r2 : InI64 ((r : Int) + 1) := by unfold InI64; omega
        simp only [VC0, VC1, VC2, VC3, VC4, VC5, VC6, VC7, VC8, VC9, reduceIte, reduceCtorEq, Nat.reduceEqDiff, Nat.reduceAdd, Nat.reduceMul, Nat.reduceBEq, Nat.reduceLT, Nat.reduceLeDiff, Int.reduceEq, Int.reduceLT, Int.reduceLE, Int.reduceNeg, Int.reduceToNat, Int.reduceAdd, Nat.reduceDiv, Nat.reduceSub, Nat.reduceMod, encL, MC0, MC1, MC2, llenE, r2]
        refine condD_of (fun h => ?_) (fun h => ?_)
        · have hr' : r + 1 < a.length := by omega
          have hr3 : r < a.length := by omega
          have hne : a ≠ [] := by rintro rfl; simp at hr3
          have r1 : 0 ≤ (r : Int) ∧ (r : Int) < a.length := by omega
          have r3 : 0 ≤ (r : Int) + 1 ∧ (r : Int) + 1 < a.length := by omega
          have r4 : ((r : Int) + 1).toNat = r + 1 := by omega
          have hsr : a[r].steps.length ≤ 4611686018427387904 := by have := hax _ (List.getElem_mem hr3); unfold smallP at this; omega
          have hlt := srt_get has hr'
          simp only [VC0, VC1, VC2, VC3, VC4, VC5, VC6, VC7, VC8, VC9, reduceIte, reduceCtorEq, Nat.reduceEqDiff, Nat.reduceAdd, Nat.reduceMul, Nat.reduceBEq, Nat.reduceLT, Nat.reduceLeDiff, Int.reduceEq, Int.reduceLT, Int.reduceLE, Int.reduceNeg, Int.reduceToNat, Int.reduceAdd, Nat.reduceDiv, Nat.reduceSub, Nat.reduceMod, encL, MC0, MC1, MC2, liaSE hne, r1, r2, r3, r4, hr', hr3, mp_sok]
          refine callV_of (less16_ret a[r] a[r + 1] hsr) (.inr rfl) ?_
          simp only [VC0, VC1, VC2, VC3, VC4, VC5, VC6, VC7, VC8, VC9, reduceIte, reduceCtorEq, Nat.reduceEqDiff, Nat.reduceAdd, Nat.reduceMul, Nat.reduceBEq, Nat.reduceLT, Nat.reduceLeDiff, Int.reduceEq, Int.reduceLT, Int.reduceLE, Int.reduceNeg, Int.reduceToNat, Int.reduceAdd, Nat.reduceDiv, Nat.reduceSub, Nat.reduceMod, encL, MC0, MC1, MC2, hlt, r2]
          exact backTo_of (r + 1, _) (by simp only []; omega) (by first | omega | (simp only []; omega)) (ent_of _ [] rfl rfl (by simp only [VC0, VC1, VC2, VC3, VC4, VC5, VC6, VC7, VC8, VC9, reduceIte, reduceCtorEq, Nat.reduceEqDiff, Nat.reduceAdd, Nat.reduceMul, Nat.reduceBEq, Nat.reduceLT, Nat.reduceLeDiff, Int.reduceEq, Int.reduceLT, Int.reduceLE, Int.reduceNeg, Int.reduceToNat, Int.reduceAdd, Nat.reduceDiv, Nat.reduceSub, Nat.reduceMod, encL, MC0, MC1, MC2, imv_encE]))
        · simp only [VC0, VC1, VC2, VC3, VC4, VC5, VC6, VC7, VC8, VC9, reduceIte, reduceCtorEq, Nat.reduceEqDiff, Nat.reduceAdd, Nat.reduceMul, Nat.reduceBEq, Nat.reduceLT, Nat.reduceLeDiff, Int.reduceEq, Int.reduceLT, Int.reduceLE, Int.reduceNeg, Int.reduceToNat, Int.reduceAdd, Nat.reduceDiv, Nat.reduceSub, Nat.reduceMod, encL, MC0, MC1, MC2, snap_encE, sok_encE]
          have hxs : Srt (addS a p) := srt_add has
          have hxl := add_len a p
          have hxx : ∀ x ∈ addS a p, smallP x := fun x hx => (mem_add_or hx).elim (hax x) (fun e => e ▸ hps)
          have hp2 : p.steps.length ≤ 4611686018427387904 := by unfold smallP at hps; omega
          refine callX_of (add_ownE hS a p has (by omega) hps hax) (.inl rfl) ?_
          simp only [VC0, VC1, VC2, VC3, VC4, VC5, VC6, VC7, VC8, VC9, reduceIte, reduceCtorEq, Nat.reduceEqDiff, Nat.reduceAdd, Nat.reduceMul, Nat.reduceBEq, Nat.reduceLT, Nat.reduceLeDiff, Int.reduceEq, Int.reduceLT, Int.reduceLE, Int.reduceNeg, Int.reduceToNat, Int.reduceAdd, Nat.reduceDiv, Nat.reduceSub, Nat.reduceMod, encL, MC0, MC1, MC2, encE_ne add_ne]
          generalize hx0 : addS a p = x at hxs hxl hxx
          refine callX_of (put_own x p (by omega) hps hxx).ret (.inl rfl) ?_
          simp only [VC0, VC1, VC2, VC3, VC4, VC5, VC6, VC7, VC8, VC9, reduceIte, reduceCtorEq, Nat.reduceEqDiff, Nat.reduceAdd, Nat.reduceMul, Nat.reduceBEq, Nat.reduceLT, Nat.reduceLeDiff, Int.reduceEq, Int.reduceLT, Int.reduceLE, Int.reduceNeg, Int.reduceToNat, Int.reduceAdd, Nat.reduceDiv, Nat.reduceSub, Nat.reduceMod, encL, MC0, MC1, MC2]
          have hpg : starS p = false → (x.any fun y => prefS y p && decide (y.steps.length < p.steps.length)) = false → ∀ z ∈ putS x p, prefS p z = false := fun h1 h2 => put_gone h1 (by rw [← h2]; simp only [part_eq])
          have hyl : (putS x p).length ≤ x.length := put_len x p
          generalize putS x p = z at hpg hyl
          refine loop_vcg (ι := Nat × (Nat → Nat)) (fun y => stO [(3, .box p.cells), (15, .val (encL MPath.cells x)), (16, .val (encL MPath.cells z)), (17, .val (.int .i64 y.1))] y.2)
            (fun y => y.1 ≤ z.length) (fun y => z.length - y.1) (0, _) (Nat.zero_le _) (ent_of _ [] rfl rfl (by simp only [VC0, VC1, VC2, VC3, VC4, VC5, VC6, VC7, VC8, VC9, reduceIte, reduceCtorEq, Nat.reduceEqDiff, Nat.reduceAdd, Nat.reduceMul, Nat.reduceBEq, Nat.reduceLT, Nat.reduceLeDiff, Int.reduceEq, Int.reduceLT, Int.reduceLE, Int.reduceNeg, Int.reduceToNat, Int.reduceAdd, Nat.reduceDiv, Nat.reduceSub, Nat.reduceMod, encL, MC0, MC1, MC2])) ?_
          rintro ⟨s, c⟩ hs
          have hs : s ≤ z.length := hs
          simp only [VC0, VC1, VC2, VC3, VC4, VC5, VC6, VC7, VC8, VC9, reduceIte, reduceCtorEq, Nat.reduceEqDiff, Nat.reduceAdd, Nat.reduceMul, Nat.reduceBEq, Nat.reduceLT, Nat.reduceLeDiff, Int.reduceEq, Int.reduceLT, Int.reduceLE, Int.reduceNeg, Int.reduceToNat, Int.reduceAdd, Nat.reduceDiv, Nat.reduceSub, Nat.reduceMod, encL, MC0, MC1, MC2]
          refine condD_of (fun h => ?_) (fun h => ?_)
          · have hs' : s < z.length := by omega
            have s1 : 0 ≤ (s : Int) ∧ (s : Int) < z.length := by omega
            have s2 : InI64 ((s : Int) + 1) := by unfold InI64; omega
            have hfs := frontP_star p
            simp only [VC0, VC1, VC2, VC3, VC4, VC5, VC6, VC7, VC8, VC9, reduceIte, reduceCtorEq, Nat.reduceEqDiff, Nat.reduceAdd, Nat.reduceMul, Nat.reduceBEq, Nat.reduceLT, Nat.reduceLeDiff, Int.reduceEq, Int.reduceLT, Int.reduceLE, Int.reduceNeg, Int.reduceToNat, Int.reduceAdd, Nat.reduceDiv, Nat.reduceSub, Nat.reduceMod, encL, MC0, MC1, MC2, hs', s1]
            refine callV_of (pref16_ret p z[s] hp2) (.inr rfl) ?_
            cases c1 : prefS p z[s] <;> simp only [VC0, VC1, VC2, VC3, VC4, VC5, VC6, VC7, VC8, VC9, reduceIte, reduceCtorEq, Nat.reduceEqDiff, Nat.reduceAdd, Nat.reduceMul, Nat.reduceBEq, Nat.reduceLT, Nat.reduceLeDiff, Int.reduceEq, Int.reduceLT, Int.reduceLE, Int.reduceNeg, Int.reduceToNat, Int.reduceAdd, Nat.reduceDiv, Nat.reduceSub, Nat.reduceMod, encL, MC0, MC1, MC2, c1, s2]
            · exact backTo_of (s + 1, _) hs' (by first | omega | (simp only []; omega)) (ent_of _ [] rfl rfl (by simp only [VC0, VC1, VC2, VC3, VC4, VC5, VC6, VC7, VC8, VC9, reduceIte, reduceCtorEq, Nat.reduceEqDiff, Nat.reduceAdd, Nat.reduceMul, Nat.reduceBEq, Nat.reduceLT, Nat.reduceLeDiff, Int.reduceEq, Int.reduceLT, Int.reduceLE, Int.reduceNeg, Int.reduceToNat, Int.reduceAdd, Nat.reduceDiv, Nat.reduceSub, Nat.reduceMod, encL, MC0, MC1, MC2]))
            · refine callV_of (front_ret p hp2) (.inl rfl) ?_
              have e : decide (((frontP p).steps.length : Int) = p.steps.length) = !((frontP p).steps.length != p.steps.length) := by
                rw [bne, Bool.not_not, Bool.eq_iff_iff, decide_eq_true_eq, beq_iff_eq]; omega
              simp only [VC0, VC1, VC2, VC3, VC4, VC5, VC6, VC7, VC8, VC9, reduceIte, reduceCtorEq, Nat.reduceEqDiff, Nat.reduceAdd, Nat.reduceMul, Nat.reduceBEq, Nat.reduceLT, Nat.reduceLeDiff, Int.reduceEq, Int.reduceLT, Int.reduceLE, Int.reduceNeg, Int.reduceToNat, Int.reduceAdd, Nat.reduceDiv, Nat.reduceSub, Nat.reduceMod, encL, MC0, MC1, MC2, e, hfs]
              cases c2 : starS p <;> simp only [VC0, VC1, VC2, VC3, VC4, VC5, VC6, VC7, VC8, VC9, reduceIte, reduceCtorEq, Nat.reduceEqDiff, Nat.reduceAdd, Nat.reduceMul, Nat.reduceBEq, Nat.reduceLT, Nat.reduceLeDiff, Int.reduceEq, Int.reduceLT, Int.reduceLE, Int.reduceNeg, Int.reduceToNat, Int.reduceAdd, Nat.reduceDiv, Nat.reduceSub, Nat.reduceMod, encL, MC0, MC1, MC2, c2, Bool.not_false, Bool.not_true]
              · refine callV_of (partlyL_ret x p (by omega) hxx) (.inr rfl) ?_
                cases c3 : x.any (fun y => prefS y p && decide (y.steps.length < p.steps.length)) <;> simp only [VC0, VC1, VC2, VC3, VC4, VC5, VC6, VC7, VC8, VC9, reduceIte, reduceCtorEq, Nat.reduceEqDiff, Nat.reduceAdd, Nat.reduceMul, Nat.reduceBEq, Nat.reduceLT, Nat.reduceLeDiff, Int.reduceEq, Int.reduceLT, Int.reduceLE, Int.reduceNeg, Int.reduceToNat, Int.reduceAdd, Nat.reduceDiv, Nat.reduceSub, Nat.reduceMod, encL, MC0, MC1, MC2, c3, s2]
                · have := hpg c2 c3 _ (List.getElem_mem hs')
                  rw [this] at c1; cases c1
                · exact backTo_of (s + 1, _) hs' (by first | omega | (simp only []; omega)) (ent_of _ [] rfl rfl (by simp only [VC0, VC1, VC2, VC3, VC4, VC5, VC6, VC7, VC8, VC9, reduceIte, reduceCtorEq, Nat.reduceEqDiff, Nat.reduceAdd, Nat.reduceMul, Nat.reduceBEq, Nat.reduceLT, Nat.reduceLeDiff, Int.reduceEq, Int.reduceLT, Int.reduceLE, Int.reduceNeg, Int.reduceToNat, Int.reduceAdd, Nat.reduceDiv, Nat.reduceSub, Nat.reduceMod, encL, MC0, MC1, MC2]))
              · exact ⟨s2, backTo_of (s + 1, _) hs' (by first | omega | (simp only []; omega)) (ent_of _ [] rfl rfl (by simp only [VC0, VC1, VC2, VC3, VC4, VC5, VC6, VC7, VC8, VC9, reduceIte, reduceCtorEq, Nat.reduceEqDiff, Nat.reduceAdd, Nat.reduceMul, Nat.reduceBEq, Nat.reduceLT, Nat.reduceLeDiff, Int.reduceEq, Int.reduceLT, Int.reduceLE, Int.reduceNeg, Int.reduceToNat, Int.reduceAdd, Nat.reduceDiv, Nat.reduceSub, Nat.reduceMod, encL, MC0, MC1, MC2]))⟩
          · simp only [VC0, VC1, VC2, VC3, VC4, VC5, VC6, VC7, VC8, VC9, reduceIte, reduceCtorEq, Nat.reduceEqDiff, Nat.reduceAdd, Nat.reduceMul, Nat.reduceBEq, Nat.reduceLT, Nat.reduceLeDiff, Int.reduceEq, Int.reduceLT, Int.reduceLE, Int.reduceNeg, Int.reduceToNat, Int.reduceAdd, Nat.reduceDiv, Nat.reduceSub, Nat.reduceMod, encL, MC0, MC1, MC2]
            refine callX_of (told_ret hS) (.inr rfl) ?_
            simp only [VC0, VC1, VC2, VC3, VC4, VC5, VC6, VC7, VC8, VC9, reduceIte, reduceCtorEq, Nat.reduceEqDiff, Nat.reduceAdd, Nat.reduceMul, Nat.reduceBEq, Nat.reduceLT, Nat.reduceLeDiff, Int.reduceEq, Int.reduceLT, Int.reduceLE, Int.reduceNeg, Int.reduceToNat, Int.reduceAdd, Nat.reduceDiv, Nat.reduceSub, Nat.reduceMod, encL, MC0, MC1, MC2]
end Go.Proofs.YtlkdcgfjmhjjpaaGreat

set_option linter.unusedSimpArgs false
set_option linter.unusedVariables false
namespace Go.Proofs.YtlkdcgfjmhjjpaaGreat
open Go Go.Lg Go.RowKit


theorem tyInt : IsT Tryz.prog 3 (fun n : Int => cI n) InI64 := isInt (by kernel_rfl)
theorem tyStr : IsT Tryz.prog 9 (fun n : ByteArray => cS n) (fun s => s.size ≤ maxLen) := isStr (by kernel_rfl)
theorem tyStrs : IsT Tryz.prog 23 (fun l : List ByteArray => [encL cS l]) (fun l => l.length ≤ maxLen ∧ ∀ x ∈ l, x.size ≤ maxLen) := isSl (e := 9) (s := 1) (by kernel_rfl) (by decide) cS_len tyStr

theorem tyPath : IsT Tryz.prog 25 MPath.cells MPath.ok := by
  intro xs hx
  have hp := hx.st (ts := [3, 23]) (by kernel_rfl)
  obtain ⟨_, _, rfl, h0, _, _, rfl, h1, rfl⟩ := hp
  obtain ⟨l, rfl, o0⟩ := tyInt _ h0
  obtain ⟨s, rfl, o1⟩ := tyStrs _ h1
  exact ⟨⟨l, s⟩, by simp [MPath.cells, cI], o0, o1.1, o1.2⟩

end Go.Proofs.YtlkdcgfjmhjjpaaGreat

set_option linter.unusedSimpArgs false
set_option linter.unusedVariables false
namespace Go.Proofs.YtlkdcgfjmhjjpaaGreat
open Go Go.Lg Go.RowKit Go.ChangeShapes Go.WideShapes Go.ChangeAt
set_option linter.unusedVariables false

theorem own : ownKnob Tryz.prog.godebug = none := by kernel_rfl
theorem laidOut : laidOutB Tryz.prog = true := by kernel_rfl
theorem tiles : tilesOk Tryz.prog = true := by kernel_rfl

theorem arg_agg {P : Program} (htile : tilesOk P = true) {H : Type} {enc : TypeId × Value → H} {w : World} {t : TypeId} {fs : Array Field} {α : Type} {f : α → List V} {ok : α → Prop} {r : Reach} {b0 : Nat} {v : Value} {d : DataW H} {p : List MemPlace}
    (ht : P.underlying t = some (.struct fs)) (hin : t < P.types.size) (hT : IsT P t f ok) (hv : Value.okWide P w r b0 t v) (h : DataW.Trod enc P w 0 (fun _ => true) true t v d p) :
    ∃ x : α, ok x ∧ RepI (· < w.heap.size) w v (.agg (f x)) := by
  obtain ⟨cs, rfl, hsz⟩ := okWide_struct ht hv
  obtain ⟨fuel, hf⟩ := h
  obtain ⟨xs, hty, hl, hr⟩ := trod_rep htile fuel t _ d p hin hf
  obtain ⟨x, rfl, hok⟩ := hT xs hty
  simp only [Value.cells] at hl hr
  exact ⟨x, hok, .agg cs _ (by simpa using hl.symm) fun j v c hv hc => hr j v c (by simpa using hv) hc⟩

end Go.Proofs.YtlkdcgfjmhjjpaaGreat

set_option linter.unusedSimpArgs false
set_option linter.unusedVariables false
namespace Go.Proofs.YtlkdcgfjmhjjpaaGreat
open Go Go.Lg Go.RowKit Go.ChangeShapes Go.WideShapes Go.ChangeAt
set_option linter.unusedVariables false

theorem arg_one {P : Program} (htile : tilesOk P = true) {H : Type} {enc : TypeId × Value → H} {w : World} {t : TypeId} {d0 : TypeDesc} {α : Type} {f : α → V} {ok : α → Prop} {r : Reach} {b0 : Nat} {v : Value} {d : DataW H} {p : List MemPlace}
    (ht : P.underlying t = some d0) (hd : (∃ q, d0 = .int q) ∨ ∃ e, d0 = .slice e) (hin : t < P.types.size) (hT : IsT P t (fun x => [f x]) ok) (hv : Value.okWide P w r b0 t v) (h : DataW.Trod enc P w 0 (fun _ => true) true t v d p) :
    ∃ x : α, ok x ∧ RepI (· < w.heap.size) w v (f x) := by
  have hna : v.cells = #[v] := by
    cases v with
    | agg cs =>
      exfalso
      rcases hd with ⟨q, rfl⟩ | ⟨e, rfl⟩ <;> simp [Value.okWide, Cell.okWide, Cell.ok, ht] at hv
    | _ => rfl
  obtain ⟨fuel, hf⟩ := h
  obtain ⟨xs, hty, hl, hr⟩ := trod_rep htile fuel t _ d p hin hf
  obtain ⟨x, rfl, hok⟩ := hT xs hty
  rw [hna] at hr
  exact ⟨x, hok, hr 0 v (f x) rfl rfl⟩

theorem gl0 : glOf Tryz.prog = [] := by kernel_rfl
theorem gok0 (W : World) : GOk Tryz.prog W := fun p hp => by rw [gl0] at hp; cases hp
theorem tyPaths : IsT Tryz.prog 22 (fun l : List MPath => [encL MPath.cells l]) (fun l => l.length ≤ maxLen ∧ ∀ x ∈ l, x.ok) := isSl (e := 25) (s := 2) (by kernel_rfl) (by decide) MPath.len tyPath
end Go.Proofs.YtlkdcgfjmhjjpaaGreat
