import Derived.Test.YtmmcdncaiedmgaaZ1
import Derived.Laws.StandIn
import Derived.Lib.Bytealg
set_option linter.unusedVariables false
set_option linter.unusedSimpArgs false
namespace Go.Proofs.Ytmmcdncaiedmgaa
open Go.RowKit
theorem call63 (w : World) : (callFunc 63 #[.string ⟨#[]⟩, .int .u8 120]).run Try.prog w = .ok (.value (.int .i64 (-1))) w := by
  have h := run_callFunc_indexByte (P := Try.prog) (f := 63) (fn := Try.f63) Try.func63 (by kernel_rfl) (by kernel_rfl) (by kernel_rfl) (by kernel_rfl) #[.string ⟨#[]⟩, .int .u8 120] w
  rw [h, Lib.run_indexByteString]
  rfl
theorem ibyte (w : World) : Calls Try.prog 59 #[.string ⟨#[]⟩, .int .u8 120] w fun e w' => e = .returned (.int .i64 (-1)) ∧ w' = w := by
  have hc := call63 w
  go_enter Try.func59, Try.ntmps59
  go_wp2_with fail
  go_ret
  exact ⟨rfl, rfl⟩
set_option maxRecDepth 100000 in
theorem index_x (w : World) : Calls Try.prog 57 #[.string ⟨#[]⟩, .string ⟨#[120]⟩] w fun e w' => e = .returned (.int .i64 (-1)) ∧ w' = w := by
  go_enter Try.func57, Try.ntmps57
  go_wp2_with (refine (ibyte _).mono ?_; rintro e w' ⟨rfl, rfl⟩)
  go_ret
  exact ⟨rfl, rfl⟩
theorem contains_x (w : World) : Calls Try.prog 38 #[.string ⟨#[]⟩, .string ⟨#[120]⟩] w fun e w' => e = .returned (.bool false) ∧ w' = w := by
  go_enter Try.func38, Try.ntmps38
  go_wp2_with fail
  go_enter Try.func53, Try.ntmps53
  go_wp2_with (refine (index_x _).mono ?_; rintro e w' ⟨rfl, rfl⟩)
  go_ret
  exact ⟨rfl, rfl⟩
end Go.Proofs.Ytmmcdncaiedmgaa
