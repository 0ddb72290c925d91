/- Hand-written contracts of the Go functions that the statement reaches, and the plain laws over them. -/
import Derived.Test.YtjhmdijmnnobhaaDoorHBlock
set_option linter.unusedVariables false
set_option linter.unusedSimpArgs false
namespace Go.Proofs.YtjhmdijmnnobhaaDoor
open Go.RowKit
/-- Byte k of a number's eight bytes, the greatest first. -/
def byteAt (n : Int) (k : Nat) : Int := (n / 2 ^ (56 - 8 * k)) % 256
def fill8 (n : Int) : Nat → List Int
  | 0 => List.replicate 8 0
  | k + 1 => (fill8 n k).set k (byteAt n k)
theorem fill8_len (n : Int) (k : Nat) : (fill8 n k).length = 8 := by
  induction k with
  | zero => simp [fill8]
  | succ k ih => simp [fill8, ih]
def be8 (n : Int) : List Int := fill8 n 8
def SizePost (w : World) (n : Int) (e : Ending) (w' : World) : Prop := ∃ B, e = .returned (.slice (some ⟨B, 0, none⟩) 8 8) ∧ w.heap.size ≤ B ∧ Arr .u8 w' B 5 (be8 n) ∧ w.grownBy w' none
set_option maxHeartbeats 8000000 in
set_option maxRecDepth 100000 in
theorem size_calls (n : Int) (w : World) (h0 : 0 ≤ n) (h1 : n < 9223372036854775808) :
    Calls Tryd.prog 13 #[.int .i64 n] w fun e w' => SizePost w n e w' := by
  have hw : IntKind.u64.wrap n = n := IntWalk.u64_in _ (by omega)
  have hmk : ∀ w : World, Sem.run Tryd.prog (Instr.makeSlice 33 (.int .i64 8) (.int .i64 8)) w = .ok (.slice (some ⟨w.heap.size, 0, none⟩) 8 8) (w.alloc (.cells #[.int .u8 0, .int .u8 0, .int .u8 0, .int .u8 0, .int .u8 0, .int .u8 0, .int .u8 0, .int .u8 0] 5)) := fun _ => by kernel_rfl
  go_enter Tryd.func13, Tryd.ntmps13
  go_wp2
  clear hmk
  go_loopw [8] (fun v wr => ∃ k : Nat, k ≤ 8 ∧ v = .int .i64 k ∧ Arr .u8 wr w.heap.size 5 (fill8 n k) ∧ w.grownBy wr none) (fun v _ => 8 - (intOf v).toNat)
  case atStart => exact ⟨0, by omega, rfl, by
    show (World.alloc _ _).heap[w.heap.size]? = _
    rw [heap_alloc_new]; rfl, gb_alloc (gb_refl _ _) _⟩
  case round =>
    obtain ⟨k, hk, rfl, ha, hgr⟩ := hrel
    by_cases hlt : k < 8
    · have HN : Hid (fill8 n (k + 1) = (fill8 n k).set k (byteAt n k)) := rfl
      have hln := fill8_len n k
      obtain ⟨ws, hws⟩ : ∃ ws, ws = fill8 n k := ⟨_, rfl⟩
      rw [← hws] at ha HN hln
      clear hws
      have HA := Lib.hid ha
      have hfr := ha.frozen k
      have hce : wr.cell? ⟨w.heap.size, k, none⟩ = some (.int .u8 (nth ws k)) := ha.cell k (by omega)
      clear ha
      have bk : (k : Int) < 8 := by omega
      have ak : 0 ≤ (k : Int) := by omega
      have tk : (k : Int).toNat = k := by omega
      have d0 : 0 ≤ 56 - 8 * (k : Int) := by omega
      have d1 : 56 - 8 * (k : Int) ≤ 64 := by omega
      have HT : Hid ((56 - 8 * (k : Int)).toNat = 56 - 8 * k) := by unfold Hid; omega
      go_wp2
      go_roundw
      case rel =>
        refine ⟨k + 1, by omega, by go_num, ?_, gb_set hgr (.inl (Nat.le_refl _)) _⟩
        rw [HN.out]
        exact HA.out.set _ _
      case measure => simp [intOf]; omega
    · obtain rfl : k = 8 := by omega
      go_wp2
      go_ret
      exact ⟨_, rfl, Nat.le_refl _, ha, hgr⟩

def LongPost (w : World) (n : Int) (e : Ending) (w' : World) : Prop := e = .returned (.string (strOfNums (be8 n))) ∧ Below w.heap.size w w'
theorem mask255 (x : Int) (h0 : 0 ≤ x) (h1 : x < 9223372036854775808) : bits .and .i64 x 255 = x % 256 :=
  bits_mask .i64 63 (by decide) (fun n h0 h1 => IntWalk.i64_in n (by omega)) 8 (by decide) x h0 (by omega)
theorem div_small (n : Int) (m : Nat) (h0 : 0 ≤ n) (h1 : n < 9223372036854775808) : 0 ≤ n / 2 ^ m ∧ n / 2 ^ m < 9223372036854775808 := by
  have hp : (0 : Int) < 2 ^ m := Int.pow_pos (by decide)
  exact ⟨Int.ediv_nonneg h0 (Int.le_of_lt hp), Int.lt_of_le_of_lt (Int.ediv_le_self _ h0) h1⟩
set_option maxHeartbeats 8000000 in
set_option maxRecDepth 100000 in
theorem long_calls (n : Int) (w : World) (h0 : 0 ≤ n) (h1 : n < 9223372036854775808) :
    Calls Tryd.prog 15 #[.int .i64 n] w fun e w' => LongPost w n e w' := by
  have hmk : ∀ w : World, Sem.run Tryd.prog (Instr.makeSlice 33 (.int .i64 8) (.int .i64 8)) w = .ok (.slice (some ⟨w.heap.size, 0, none⟩) 8 8) (w.alloc (.cells #[.int .u8 0, .int .u8 0, .int .u8 0, .int .u8 0, .int .u8 0, .int .u8 0, .int .u8 0, .int .u8 0] 5)) := fun _ => by kernel_rfl
  go_enter Tryd.func15, Tryd.ntmps15
  go_wp2
  clear hmk
  go_loopw [4] (fun v wr => ∃ k : Nat, k ≤ 8 ∧ v = .int .i64 k ∧ Arr .u8 wr w.heap.size 5 (fill8 n k) ∧ w.grownBy wr none) (fun v _ => 8 - (intOf v).toNat)
  case atStart => exact ⟨0, by omega, rfl, by
    show (World.alloc _ _).heap[w.heap.size]? = _
    rw [heap_alloc_new]; rfl, gb_alloc (gb_refl _ _) _⟩
  case round =>
    obtain ⟨k, hk, rfl, ha, hgr⟩ := hrel
    by_cases hlt : k < 8
    · have HN : Hid (fill8 n (k + 1) = (fill8 n k).set k (byteAt n k)) := rfl
      have hln := fill8_len n k
      obtain ⟨ws, hws⟩ : ∃ ws, ws = fill8 n k := ⟨_, rfl⟩
      rw [← hws] at ha HN hln
      clear hws
      have HA := Lib.hid ha
      have hfr := ha.frozen k
      have hce : wr.cell? ⟨w.heap.size, k, none⟩ = some (.int .u8 (nth ws k)) := ha.cell k (by omega)
      clear ha
      have bk : (k : Int) < 8 := by omega
      have ak : 0 ≤ (k : Int) := by omega
      have tk : (k : Int).toNat = k := by omega
      have d0 : 0 ≤ 56 - 8 * (k : Int) := by omega
      have d1 : 56 - 8 * (k : Int) ≤ 64 := by omega
      have dd := div_small n (56 - 8 * k) h0 h1
      have hm := mask255 _ dd.1 dd.2
      go_wp2
      go_roundw
      case rel =>
        refine ⟨k + 1, by omega, by go_num, ?_, gb_set hgr (.inl (Nat.le_refl _)) _⟩
        rw [HN.out]
        exact HA.out.set _ _
      case measure => simp [intOf]; omega
    · obtain rfl : k = 8 := by omega
      have hcv := str_of_cells (P := Tryd.prog) wr 33 5 9 Tryd.underlying33 Tryd.underlying5 Tryd.underlying9 w.heap.size 0 8 (be8 n) (fun j hj => by rw [Nat.zero_add]; exact ha.cell j (by exact hj))
      rw [show (be8 n).length = 8 from fill8_len n 8] at hcv
      clear ha
      go_wp2
      go_ret
      exact ⟨rfl, gb_to_below hgr⟩
end Go.Proofs.YtjhmdijmnnobhaaDoor
