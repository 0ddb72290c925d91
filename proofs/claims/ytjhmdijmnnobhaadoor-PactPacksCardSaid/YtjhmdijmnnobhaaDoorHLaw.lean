/- Hand-written contracts of the Go functions that the statement reaches, and the plain laws over them. -/
import Derived.Test.YtjhmdijmnnobhaaDoorHRDig
set_option linter.unusedVariables false
set_option linter.unusedSimpArgs false
namespace Go.Proofs.YtjhmdijmnnobhaaDoor
open Go.RowKit
theorem dig_abc : strOfNums (digestF [97, 98, 99]) = ⟨#[186, 120, 22, 191, 143, 1, 207, 234, 65, 65, 64, 222, 93, 174, 34, 35, 176, 3, 97, 163, 150, 23, 122, 156, 180, 16, 255, 97, 242, 0, 21, 173]⟩ := by
  have h : digestF [97, 98, 99] = [186, 120, 22, 191, 143, 1, 207, 234, 65, 65, 64, 222, 93, 174, 34, 35, 176, 3, 97, 163, 150, 23, 122, 156, 180, 16, 255, 97, 242, 0, 21, 173] := by decide +kernel
  rw [h]
  rfl
def AwakePost (w : World) (e : Ending) (w' : World) : Prop := e = .returned (.bool true) ∧ Below w.heap.size w w'
def HoldsRounds (w : World) : Prop := ∀ j, j < 64 → w.cell? ⟨0, j, none⟩ = some (.int .u32 (nth consts j))
set_option maxHeartbeats 8000000 in
set_option maxRecDepth 100000 in
theorem awake_calls (w : World) (hR : HoldsRounds w) : Calls Tryd.prog 7 #[] w fun e w' => AwakePost w e w' := by
  have hd : ∀ w, HoldsRounds w → Calls Tryd.prog 5 #[.string ⟨#[97, 98, 99]⟩] w fun e w' => e = .returned (.string ⟨#[186, 120, 22, 191, 143, 1, 207, 234, 65, 65, 64, 222, 93, 174, 34, 35, 176, 3, 97, 163, 150, 23, 122, 156, 180, 16, 255, 97, 242, 0, 21, 173]⟩) ∧ Below w.heap.size w w' := fun w h => by
    refine (digest_calls ⟨#[97, 98, 99]⟩ w (by decide) h).mono fun e w' ⟨h1, h2⟩ => ⟨?_, h2⟩
    rw [h1]
    have hb : bytesOf ⟨#[97, 98, 99]⟩ = [97, 98, 99] := by decide
    rw [hb, dig_abc]
  have HD := Lib.hid hd
  clear hd
  go_enter Tryd.func7, Tryd.ntmps7
  go_wp2_with fail
  refine (HD.out _ hR).mono ?_
  rintro e w2 ⟨rfl, hb⟩
  have HB := Lib.hid hb
  clear hb
  go_wp2_with fail
  go_ret
  exact ⟨rfl, HB.out⟩
def LawPost (w : World) (e : Ending) (w' : World) : Prop := e = .returned (.bool true) ∧ Below w.heap.size w w'
set_option maxHeartbeats 8000000 in
set_option maxRecDepth 100000 in
theorem pactDigest_calls (s : ByteArray) (w : World) (hR : HoldsRounds w) (h0 : 0 < w.heap.size) (hs : s.size ≤ 9223372036854775807) : Calls Tryd.prog 3 #[.string s] w fun e w' => LawPost w e w' := by
  by_cases h : s.size > 1000
  · have h1 : decide ((s.size : Int) > 1000) = true := by simp; omega
    go_enter Tryd.func3, Tryd.ntmps3
    go_wp2_with fail
    go_ret
    exact ⟨rfl, Below.refl _ _⟩
  · have h1 : decide ((s.size : Int) > 1000) = false := by simp; omega
    obtain ⟨ds, hds⟩ : ∃ ds, ds = strOfNums (digestF (bytesOf s)) := ⟨_, rfl⟩
    have hp : ∀ w, HoldsRounds w → Calls Tryd.prog 5 #[.string s] w fun e w' => e = .returned (.string ds) ∧ Below w.heap.size w w' := fun w hw => by
      rw [hds]; exact digest_calls s w (by omega) hw
    have hr : ∀ w, Calls Tryd.prog 6 #[.string s] w fun e w' => e = .returned (.string ds) ∧ Below w.heap.size w w' := fun w => by
      rw [hds]; exact rdigest_calls s w (by omega)
    have HP := Lib.hid hp
    have HRR := Lib.hid hr
    have HR := Lib.hid hR
    clear hp hr hds hR
    go_enter Tryd.func3, Tryd.ntmps3
    go_wp2_with fail
    refine (HP.out _ HR.out).mono ?_
    rintro e w2 ⟨rfl, hb2⟩
    have HB2 := Lib.hid hb2
    clear hb2
    go_wp2_with fail
    refine (HRR.out _).mono ?_
    rintro e w3 ⟨rfl, hb3⟩
    have HB3 := Lib.hid (HB2.out.trans (hb3.mono HB2.out.size))
    clear hb3
    go_wp2_with fail
    refine (awake_calls _ (fun j hj => (HB3.out.cell (p := ⟨0, j, none⟩) h0).trans (HR.out j hj))).mono ?_
    rintro e w4 ⟨rfl, hb4⟩
    have HB4 := Lib.hid (HB3.out.trans (hb4.mono HB3.out.size))
    clear hb4
    go_wp2_with fail
    go_ret
    exact ⟨rfl, HB4.out⟩
end Go.Proofs.YtjhmdijmnnobhaaDoor
