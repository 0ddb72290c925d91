/- Hand-written contracts of the Go functions that the statement reaches, and the plain laws over them. -/
import Derived.Test.YtjhmdijmnnobhaaDoorHSpec
set_option linter.unusedVariables false
set_option linter.unusedSimpArgs false
namespace Go.Proofs.YtjhmdijmnnobhaaDoor
open Go.RowKit
set_option maxHeartbeats 400000 in
theorem rot_calls (x k : Int) (n : Nat) (w : World) (h0 : 0 < n) (h1 : n < 32) (hx0 : 0 ≤ x) (hx : x < 4294967296) (hk : bits .and .u64 (IntKind.u64.wrap k) 31 = ((32 - n : Nat) : Int)) :
    Calls Tryd.prog 18 #[.int .u32 x, .int .i64 k] w fun e w' => e = .returned (.int .u32 (rotr x n)) ∧ w = w' := by
  have hw : IntKind.u64.wrap (32 - ((32 - n : Nat) : Int)) = (n : Int) := by
    rw [show (32 - ((32 - n : Nat) : Int)) = (n : Int) by omega]
    exact IntWalk.u64_in _ (by omega)
  have b1 : (0 : Int) ≤ ((32 - n : Nat) : Int) := by omega
  have b2 : ((32 - n : Nat) : Int) < 32 := by omega
  have b3 : (n : Int) < 32 := by omega
  have hfin : rotr x n = bits .or .u32 ((x * 2 ^ (32 - n)) % 4294967296) (x / 2 ^ n) := rfl
  obtain ⟨m, hm⟩ : ∃ m : Nat, 32 - n = m := ⟨_, rfl⟩
  rw [hm] at hk hw b1 b2 hfin
  have HF := Lib.hid hfin
  clear hfin
  go_enter Tryd.func18, Tryd.ntmps18
  go_wp2
  go_ret
  exact ⟨by rw [HF.out]; rfl, rfl⟩
theorem m2 : bits .and .u64 (IntKind.u64.wrap (-2)) 31 = ((32 - 2 : Nat) : Int) := by decide +kernel
theorem m6 : bits .and .u64 (IntKind.u64.wrap (-6)) 31 = ((32 - 6 : Nat) : Int) := by decide +kernel
theorem m7 : bits .and .u64 (IntKind.u64.wrap (-7)) 31 = ((32 - 7 : Nat) : Int) := by decide +kernel
theorem m11 : bits .and .u64 (IntKind.u64.wrap (-11)) 31 = ((32 - 11 : Nat) : Int) := by decide +kernel
theorem m13 : bits .and .u64 (IntKind.u64.wrap (-13)) 31 = ((32 - 13 : Nat) : Int) := by decide +kernel
theorem m17 : bits .and .u64 (IntKind.u64.wrap (-17)) 31 = ((32 - 17 : Nat) : Int) := by decide +kernel
theorem m18 : bits .and .u64 (IntKind.u64.wrap (-18)) 31 = ((32 - 18 : Nat) : Int) := by decide +kernel
theorem m19 : bits .and .u64 (IntKind.u64.wrap (-19)) 31 = ((32 - 19 : Nat) : Int) := by decide +kernel
theorem m22 : bits .and .u64 (IntKind.u64.wrap (-22)) 31 = ((32 - 22 : Nat) : Int) := by decide +kernel
theorem m25 : bits .and .u64 (IntKind.u64.wrap (-25)) 31 = ((32 - 25 : Nat) : Int) := by decide +kernel
end Go.Proofs.YtjhmdijmnnobhaaDoor
