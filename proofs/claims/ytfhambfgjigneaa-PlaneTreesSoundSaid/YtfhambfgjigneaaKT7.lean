/- Contracts of the Go functions that the statement reaches, and plain laws over them. -/
import Derived.Test.YtfhambfgjigneaaKT6
import Derived.Test.YtfhambfgjigneaaKT3
import Derived.Test.YtfhambfgjigneaaKT5
import Derived.Below
import Derived.Test.YtfhambfgjigneaaKT4
set_option linter.unusedVariables false
set_option linter.unusedSimpArgs false
set_option maxHeartbeats 64000000
set_option maxRecDepth 100000
namespace Go.Proofs.Ytfhambfgjigneaa
open Go.RowKit
structure CertQ where
 kind : Int
 x : List Rat
 y : List Rat
 ray : List Rat
def LV (base : Nat) (w : World) (v : Value) (qs : List Rat) : Prop := (∀ q ∈ qs, Small q) ∧ ((qs = [] ∧ v = .slice none 0 0) ∨ ∃ g c, v = .slice (some ⟨g, 0, none⟩) qs.length c ∧ base ≤ g ∧ RowV w g qs ∧ qs.length ≤ c)
def SolvePost (w : World) (c : CertQ) (e : Ending) (w' : World) : Prop := ∃ v1 v2 v3, e = .returned (.agg #[.int .i64 c.kind, v1, v2, v3]) ∧ LV w.heap.size w' v1 c.x ∧ LV w.heap.size w' v2 c.y ∧ LV w.heap.size w' v3 c.ray ∧ Below w.heap.size w w'
def cost1 (rb wd : Nat) : List Rat := (List.range wd).map fun c => if rb ≤ c then (-1 : Rat) else (0 : Rat)
theorem cost1_len (rb wd : Nat) : (cost1 rb wd).length = wd := by simp [cost1]
theorem cost1_at {rb wd i : Nat} (h : i < wd) : (cost1 rb wd)[i]? = some (if rb ≤ i then (-1 : Rat) else (0 : Rat)) := by
 unfold cost1
 rw [List.getElem?_map, List.getElem?_range h]
 rfl
theorem cost1_take {rb wd i : Nat} (h : i < wd) : (cost1 rb wd).take (i + 1) = (cost1 rb wd).take i ++ [if rb ≤ i then (-1 : Rat) else (0 : Rat)] := by
 rw [List.take_add_one, cost1_at h]
 rfl
theorem small_m1 : Small (-1 : Rat) := small_int (x := -1) (by decide) (by decide)
theorem small_i0 : Small (0 : Rat) := small_q0
theorem small_cost1 (rb wd : Nat) : ∀ q ∈ cost1 rb wd, Small q := by
 intro q hq
 unfold cost1 at hq
 obtain ⟨c, _, rfl⟩ := List.mem_map.1 hq
 split
 ·exact small_m1
 ·exact small_i0
def badAt (T : Tab) (rb i : Nat) : Prop := (rb : Int) ≤ T.base.getD i 0 ∧ T.right.getD i 0 ≠ 0
noncomputable def driveStep (rb i : Nat) (T : Tab) (c : Nat) : Tab := open Classical in if (rb : Int) ≤ T.base.getD i 0 ∧ (T.rows.getD i []).getD c 0 ≠ 0 then pivotQ T i c else T
noncomputable def driveC (rb i : Nat) (T : Tab) : Nat → Tab
 | 0 => T
 | c + 1 => driveStep rb i (driveC rb i T c) c
noncomputable def driveN (rb : Nat) (T : Tab) : Nat → Tab
 | 0 => T
 | i + 1 => driveC rb i (driveN rb T i) rb
def cost2 (p : ProgQ) (n m : Nat) : List Rat := fillN (varsN p.free n).1 (varsN p.free n).2.1 p.goal (widthB p n m) n
noncomputable def xOf (T : Tab) (wd : Nat) : List Rat := pointQ T (colN wd T.base (fun i => T.right.getD i 0) T.base.length)
noncomputable def rayOf (T : Tab) (wd col : Nat) : List Rat := pointQ T ((colN wd T.base (fun i => -((T.rows.getD i []).getD col 0)) T.base.length).set col 1)
noncomputable def solve3 (p : ProgQ) (n m : Nat) (col : Int) (T : Tab) (g : List Rat) : CertQ :=
 if col < 0 then ⟨1, xOf T (widthB p n m), multQ T (turnN p.rows m) (cost2 p n m) g, []⟩ else ⟨3, xOf T (widthB p n m), [], rayOf T (widthB p n m) col.toNat⟩
noncomputable def solve2 (p : ProgQ) (n m fuel : Nat) (T : Tab) (g : List Rat) : Option CertQ := open Classical in
 if ∃ i, i < m ∧ badAt T (realB p n m) i then some ⟨2, [], multQ T (turnN p.rows m) (cost1 (realB p n m) (widthB p n m)) g, []⟩
 else match climbQ (realB p n m) fuel (driveN (realB p n m) T m) (reducedQ (cost2 p n m) (driveN (realB p n m) T m)) with
  | none => none
  | some r => some (solve3 p n m r.1 r.2.1 r.2.2)
noncomputable def solveQ (p : ProgQ) (n m fuel : Nat) : Option CertQ :=
 match climbQ (realB p n m) fuel (buildTab p n m) (reducedQ (cost1 (realB p n m) (widthB p n m)) (buildTab p n m)) with
 | none => none
 | some r => solve2 p n m fuel r.2.1 r.2.2
theorem solveQ_some {p : ProgQ} {n m fuel : Nat} {c : CertQ} (h : solveQ p n m fuel = some c) : ∃ r, climbQ (realB p n m) fuel (buildTab p n m) (reducedQ (cost1 (realB p n m) (widthB p n m)) (buildTab p n m)) = some r ∧ solve2 p n m fuel r.2.1 r.2.2 = some c := by
 unfold solveQ at h
 split at h
 ·cases h
 ·rename_i r e
  exact ⟨r, e, h⟩
theorem solve2_bad {p : ProgQ} {n m fuel : Nat} {T : Tab} {g : List Rat} {c : CertQ} (h : solve2 p n m fuel T g = some c) {i : Nat} (hi : i < m) (hb : badAt T (realB p n m) i) : c = ⟨2, [], multQ T (turnN p.rows m) (cost1 (realB p n m) (widthB p n m)) g, []⟩ := by
 unfold solve2 at h
 rw [if_pos ⟨i, hi, hb⟩] at h
 exact (Option.some.inj h).symm
theorem solve2_good {p : ProgQ} {n m fuel : Nat} {T : Tab} {g : List Rat} {c : CertQ} (h : solve2 p n m fuel T g = some c) (hb : ∀ i, i < m → ¬ badAt T (realB p n m) i) : ∃ r, climbQ (realB p n m) fuel (driveN (realB p n m) T m) (reducedQ (cost2 p n m) (driveN (realB p n m) T m)) = some r ∧ c = solve3 p n m r.1 r.2.1 r.2.2 := by
 unfold solve2 at h
 rw [if_neg (fun ⟨i, hi, hx⟩ => hb i hi hx)] at h
 split at h
 ·cases h
 ·rename_i r e
  exact ⟨r, e, (Option.some.inj h).symm⟩
structure SameShape (T T' : Tab) : Prop where
 plus : T'.plus = T.plus
 minus : T'.minus = T.minus
 id : T'.id = T.id
 rows : T'.rows.length = T.rows.length
theorem SameShape.refl (T : Tab) : SameShape T T := ⟨rfl, rfl, rfl, rfl⟩
theorem SameShape.trans {a b c : Tab} (h : SameShape a b) (h2 : SameShape b c) : SameShape a c := ⟨h2.plus.trans h.plus, h2.minus.trans h.minus, h2.id.trans h.id, h2.rows.trans h.rows⟩
theorem pivot_shape (T : Tab) (row col : Nat) : SameShape T (pivotQ T row col) := ⟨rfl, rfl, rfl, by unfold pivotQ; rw [List.length_mapIdx]⟩
def BaseOk (wd : Nat) (T : Tab) : Prop := ∀ b ∈ T.base, 0 ≤ b ∧ b < (wd : Int)
theorem pivot_base {wd : Nat} {T : Tab} {row col : Nat} (h : BaseOk wd T) (hc : col < wd) : BaseOk wd (pivotQ T row col) := fun b hb => by
 rcases List.mem_or_eq_of_mem_set (show b ∈ T.base.set row (col : Int) from hb) with h1 | h1
 ·exact h b h1
 ·rw [h1]; omega
theorem enter_lt {g : List Rat} {k c : Nat} (h : enterQ g k = some c) : c < k := by
 unfold enterQ at h
 have := List.mem_of_find?_eq_some h
 simpa using this
theorem climb_shape {k wd : Nat} (hk : k ≤ wd) : ∀ {n : Nat} {T : Tab} {g : List Rat} {r : Int × Tab × List Rat}, climbQ k n T g = some r → BaseOk wd T → SameShape T r.2.1 ∧ BaseOk wd r.2.1 ∧ r.1 < (k : Int)
 | 0, T, g, r, h, _ => by cases h
 | n + 1, T, g, r, h, hb => by
  unfold climbQ at h
  split at h
  ·obtain rfl := Option.some.inj h
   exact ⟨SameShape.refl _, hb, by show (-1 : Int) < k; omega⟩
  ·rename_i col he
   have hc := enter_lt he
   split at h
   ·obtain rfl := Option.some.inj h
    exact ⟨SameShape.refl _, hb, by show (col : Int) < k; omega⟩
   ·have := climb_shape hk h (pivot_base hb (by omega))
    exact ⟨(pivot_shape T _ _).trans this.1, this.2⟩
theorem drive_step_shape (wd rb i : Nat) (T : Tab) {c : Nat} (hc : c < wd) (h : BaseOk wd T) : SameShape T (driveStep rb i T c) ∧ BaseOk wd (driveStep rb i T c) := by
 unfold driveStep
 split
 ·exact ⟨pivot_shape T i c, pivot_base h hc⟩
 ·exact ⟨SameShape.refl _, h⟩
theorem driveC_shape (wd rb i : Nat) (T : Tab) (h : BaseOk wd T) : ∀ c, c ≤ wd → SameShape T (driveC rb i T c) ∧ BaseOk wd (driveC rb i T c)
 | 0, _ => ⟨SameShape.refl _, h⟩
 | c + 1, hc => by
  have h1 := driveC_shape wd rb i T h c (by omega)
  have h2 := drive_step_shape wd rb i (driveC rb i T c) (show c < wd by omega) h1.2
  exact ⟨h1.1.trans h2.1, h2.2⟩
theorem driveN_shape (wd rb : Nat) (hr : rb ≤ wd) (T : Tab) (h : BaseOk wd T) : ∀ i, SameShape T (driveN rb T i) ∧ BaseOk wd (driveN rb T i)
 | 0 => ⟨SameShape.refl _, h⟩
 | i + 1 => by
  have h1 := driveN_shape wd rb hr T h i
  have h2 := driveC_shape wd rb i (driveN rb T i) h1.2 rb hr
  exact ⟨h1.1.trans h2.1, h2.2⟩
theorem driveC_done {rb i : Nat} {T : Tab} : ∀ {c d : Nat}, (driveC rb i T c).base.getD i 0 < (rb : Int) → c ≤ d → driveC rb i T d = driveC rb i T c
 | c, 0, _, hd => by
  obtain rfl : c = 0 := by omega
  rfl
 | c, d + 1, h, hd => by
  by_cases e : c = d + 1
  ·subst e; rfl
  ·have h1 := driveC_done h (show c ≤ d by omega)
   rw [driveC, h1]
   unfold driveStep
   rw [if_neg fun x => by have := x.1; omega]
def RowsOk (wd : Nat) (T : Tab) : Prop := ∀ r ∈ T.rows, r.length = wd
theorem RowsOk.at_ {wd : Nat} {T : Tab} (h : RowsOk wd T) {i : Nat} (hi : i < T.rows.length) : (T.rows.getD i []).length = wd := by
 rw [gdd, geq hi]
 exact h _ (List.getElem_mem _)
theorem pivot_rowsOk {wd : Nat} {T : Tab} {row col : Nat} (h : RowsOk wd T) (hr : row < T.rows.length) : RowsOk wd (pivotQ T row col) := fun r hm => by
 have hn : (pivNew T row col).length = wd := by rw [pivNew_length]; exact h.at_ hr
 obtain ⟨i, hi⟩ := List.getElem?_of_mem hm
 have hi' : (T.rows.mapIdx (rowsAt row col (pivNew T row col) T.rows.length))[i]? = some r := hi
 rw [List.getElem?_mapIdx] at hi'
 cases hx : T.rows[i]? with
 | none => rw [hx] at hi'; cases hi'
 | some x =>
  rw [hx] at hi'
  have hl := h x (mog hx)
  obtain rfl : rowsAt row col (pivNew T row col) T.rows.length i x = r := by simpa using hi'
  unfold rowsAt
  split
  ·exact hn
  ·split
   ·unfold pivOther
    split
    ·exact hl
    ·rw [takeQ_length (by rw [hn, hl])]; exact hl
   ·exact hl
theorem climb_rows {k wd : Nat} : ∀ {n : Nat} {T : Tab} {g : List Rat} {r : Int × Tab × List Rat}, climbQ k n T g = some r → RowsOk wd T → g.length = wd → RowsOk wd r.2.1 ∧ r.2.2.length = wd
 | 0, T, g, r, h, _, _ => by cases h
 | n + 1, T, g, r, h, hr, hg => by
  unfold climbQ at h
  split at h
  ·obtain rfl := Option.some.inj h
   exact ⟨hr, hg⟩
  ·rename_i col he
   split at h
   ·obtain rfl := Option.some.inj h
    exact ⟨hr, hg⟩
   ·rename_i row l hl
    have hrow := (leaveN_at hl).1
    exact climb_rows h (pivot_rowsOk hr hrow) (by rw [pivGain_length (by rw [pivNew_length, hg]; exact hr.at_ hrow)]; exact hg)
theorem driveC_rows {wd rb i : Nat} {T : Tab} (h : RowsOk wd T) (hi : i < T.rows.length) : ∀ c, RowsOk wd (driveC rb i T c) ∧ (driveC rb i T c).rows.length = T.rows.length
 | 0 => ⟨h, rfl⟩
 | c + 1 => by
  have h1 := driveC_rows (rb := rb) h hi c
  rw [driveC]
  unfold driveStep
  split
  ·exact ⟨pivot_rowsOk h1.1 (by rw [h1.2]; exact hi), (pivot_shape _ _ _).rows.trans h1.2⟩
  ·exact h1
theorem driveN_rows {wd rb : Nat} {T : Tab} (h : RowsOk wd T) : ∀ i, i ≤ T.rows.length → RowsOk wd (driveN rb T i) ∧ (driveN rb T i).rows.length = T.rows.length
 | 0, _ => ⟨h, rfl⟩
 | i + 1, hi => by
  have h1 := driveN_rows (rb := rb) h i (by omega)
  have h2 := driveC_rows (rb := rb) h1.1 (show i < _ by rw [h1.2]; omega) rb
  exact ⟨h2.1, h2.2.trans h1.2⟩
theorem put4_only {w : World} {g t : Nat} {cs : Array Value} (hb : Blk w g t cs) (hn : ∀ u ∈ cs, notWord u = true) (a b c d : Value) : Only g w ((((w.setCell ⟨g, 0, none⟩ a).setCell ⟨g, 1, none⟩ b).setCell ⟨g, 2, none⟩ c).setCell ⟨g, 3, none⟩ d) := by
 have hot : ∀ k, k < w.heap.size → k ≠ g → ((((w.setCell ⟨g, 0, none⟩ a).setCell ⟨g, 1, none⟩ b).setCell ⟨g, 2, none⟩ c).setCell ⟨g, 3, none⟩ d).heap[k]? = w.heap[k]? := fun k _ hkg => by
  rw [Below.heap_setCell _ _ _ k hkg, Below.heap_setCell _ _ _ k hkg, Below.heap_setCell _ _ _ k hkg, Below.heap_setCell _ _ _ k hkg]
 exact ⟨Keeps.apart hb hn (by simp [World.setCell]) hot, hot, rfl, rfl, rfl⟩
theorem zc_words : ∀ u ∈ #[Value.int .i64 0, .slice none 0 0, .slice none 0 0, .slice none 0 0], notWord u = true := by
 intro u hu
 simp only [List.mem_toArray, List.mem_cons, List.not_mem_nil, or_false] at hu
 rcases hu with rfl | rfl | rfl | rfl <;> rfl
theorem LV.nil (base : Nat) (w : World) : LV base w (.slice none 0 0) [] := ⟨by simp, .inl ⟨rfl, rfl⟩⟩
theorem LV.of {base b0 g c k : Nat} {w w1 : World} {qs : List Rat} {H : Nat → Option (List Rat)} {I : Nat → Option (List Int)} {g2 : Nat} (hv : View base H I w) (hg : H g = some qs) (ho : Only g2 w w1) (hne : g ≠ g2) (hb : b0 ≤ base) (hk : k = qs.length) (hcc : qs.length ≤ c) : LV b0 w1 (.slice (some ⟨g, 0, none⟩) k c) qs := by
 obtain ⟨h1, h2, h3⟩ := hv.frac g qs hg
 exact ⟨h2, .inr ⟨g, c, by rw [hk], Nat.le_trans hb h1, h3.same (ho.2.1 g (hv.lt hg) hne) ho.1, hcc⟩⟩
theorem mult' (base : Nat) (H : Nat → Option (List Rat)) (I : Nat → Option (List Int)) (w : World) (gt : Nat) (S : Shape) (gs : List (Nat × Nat)) (tn : List Bool) (T : Tab) (gc cc gg cg : Nat) (cost gain : List Rat) (k : Nat) (hk : k = cost.length) (hv : View base H I w) (hT : TabW w gt S gs tn) (hV : TabV H I S gs T) (hc : H gc = some cost) (hg : H gg = some gain) (hgl : gain.length = cost.length) (htn : tn.length = T.id.length) (hid : ∀ c ∈ T.id, 0 ≤ c ∧ c < (k : Int)) (hll : T.id.length ≤ 1000000) :
  Calls Try.prog 106 #[.pointer (some ⟨gt, 0, none⟩), .slice (some ⟨gc, 0, none⟩) k cc, .slice (some ⟨gg, 0, none⟩) k cg] w fun e w' => RedCap base H I (multQ T tn cost gain) w e w' := by
 subst hk
 exact mult_calls base H I w gt S gs tn T gc cc gg cg cost gain hv hT hV hc hg hgl htn hid hll
theorem info44s : (Try.prog.info? 44).map (fun i => i.size) = some 4 := by kernel_rfl
theorem ret44 {fn : Func} {p : Tmp} {Post : Ending → World → Prop} {tmps : Array Value} {w : World} {g : Nat} {a b c d : Value} (hres : fn.results = #[.cell p 44]) (hp : tmps.getD p undef = .pointer (some ⟨g, 0, none⟩)) (hb : Blk w g 44 #[a, b, c, d])
  (hP : Post (.returned (.agg #[a, b, c, d])) w) : bodyPost Try.prog fn Post Exit.ret { tmps := tmps, defers := [] } w :=
 bodyPost_ret (v := .agg #[a, b, c, d]) (results_cell_row hres _ _ g 44 #[a, b, c, d] (0, 0) _ hp hb Try.underlying44 rfl info44s) rfl hP
theorem real_le (p : ProgQ) (n m : Nat) : realB p n m ≤ widthB p n m := idN_ge _ _ _ _
theorem varsN_pos (fr : List Bool) : ∀ i, i ≤ (varsN fr i).2.2
 | 0 => Nat.zero_le _
 | i + 1 => by
  have := varsN_pos fr i
  show i + 1 ≤ (varsN fr i).2.2 + (if fr.getD i false = true then 2 else 1)
  split <;> omega
theorem real_pos (p : ProgQ) (n m : Nat) (hn : 0 < n) : 0 < realB p n m := Nat.lt_of_lt_of_le (Nat.lt_of_lt_of_le hn (varsN_pos p.free n)) (slackN_ge _ _ _)
theorem width_le (p : ProgQ) (n m : Nat) (hf : p.free.length = n) (hr : p.rows.length = m) (hn : n ≤ 1000) (hm : m ≤ 1000) : widthB p n m ≤ 10000 := by
 have h1 := varsN_real p.free n
 have h2 := slackN_real p.rows (varsN p.free n).2.2 m
 have h3 := idN_width p.rows (slackB p n m) (realB p n m) m
 unfold widthB
 unfold realB at h3 ⊢
 omega
theorem base_lt (p : ProgQ) (n m : Nat) : ∀ b ∈ (buildTab p n m).base, 0 ≤ b ∧ b < (widthB p n m : Int) :=
 idN_lt p.rows (slackB p n m) (realB p n m) (slackN_lt p.rows (varsN p.free n).2.2 m) m (by unfold slackB; rw [slackN_len]; exact Nat.le_refl _)
theorem rows_width (p : ProgQ) (n m : Nat) : ∀ r ∈ (buildTab p n m).rows, r.length = widthB p n m := by
 intro r hr
 obtain ⟨i, hi⟩ := List.getElem?_of_mem hr
 have hi' : (rowsN (varsN p.free n).1 (varsN p.free n).2.1 (slackB p n m) (idB p n m) (widthB p n m) n p.rows)[i]? = some r := hi
 unfold rowsN at hi'
 rw [List.getElem?_mapIdx] at hi'
 cases hp : p.rows[i]? with
 | none => rw [hp] at hi'; cases hi'
 | some x =>
  rw [hp] at hi'
  obtain rfl : rowD (varsN p.free n).1 (varsN p.free n).2.1 (slackB p n m) (idB p n m) (widthB p n m) n i x = r := by simpa using hi'
  exact rowD_len ..
theorem reduced_len {cost : List Rat} {T : Tab} {k : Nat} (h : cost.length = k) (hr : ∀ r ∈ T.rows, r.length = k) : (reducedQ cost T).length = k := by
 unfold reducedQ
 rw [redN_length (fun r hm => by rw [h]; exact hr r hm) _ (Nat.le_refl _), h]
theorem treduced' (base : Nat) (H : Nat → Option (List Rat)) (I : Nat → Option (List Int)) (w : World) (gt : Nat) (S : Shape) (gs : List (Nat × Nat)) (tn : List Bool) (T : Tab) (gc cc : Nat) (cost : List Rat) (k : Nat) (hk : k = cost.length) (hv : View base H I w) (hT : TabW w gt S gs tn) (hV : TabV H I S gs T) (hc : H gc = some cost) (hcl : cost.length = S.width) (hb : ∀ b ∈ T.base, 0 ≤ b ∧ b < (cost.length : Int)) (hp : 0 < k) (hll : k ≤ 1000000) (hml : T.rows.length ≤ 1000000) :
  Calls Try.prog 104 #[.pointer (some ⟨gt, 0, none⟩), .slice (some ⟨gc, 0, none⟩) k cc] w fun e w' => RedPost base H I (reducedQ cost T) w e w' := by
 subst hk
 exact treduced_calls base H I w gt S gs tn T gc cc cost hv hT hV hc hcl hb hp hll hml
theorem small_right {base : Nat} {H : Nat → Option (List Rat)} {I : Nat → Option (List Int)} {w : World} {S : Shape} {gs : List (Nat × Nat)} {T : Tab} (hv : View base H I w) (ht : TabV H I S gs T) : ∀ q ∈ T.right, Small q := by
 rcases ht.right with ⟨e, _⟩ | ⟨g, c, _, hg⟩
 ·rw [e]; simp
 ·exact (hv.frac g _ hg).2.1
theorem small_rows {base : Nat} {H : Nat → Option (List Rat)} {I : Nat → Option (List Int)} {w : World} {S : Shape} {gs : List (Nat × Nat)} {T : Tab} (hv : View base H I w) (ht : TabV H I S gs T) (i k : Nat) : Small ((T.rows.getD i []).getD k 0) := by
 cases hr : T.rows[i]? with
 | none =>
  rw [show T.rows.getD i [] = [] by rw [gdd, hr]; rfl]
  exact small_q0
 | some r =>
  obtain ⟨p, hp⟩ : ∃ p, gs[i]? = some p := ⟨gs[i]'(by rw [ht.len]; exact (List.getElem?_eq_some_iff.1 hr).1), geq _⟩
  rw [getD_at hr]
  exact getD_small (hv.frac _ _ (ht.row i p r hp hr).1).2.1 k
theorem point_calls' (base : Nat) (H : Nat → Option (List Rat)) (I : Nat → Option (List Int)) (w : World) (gt : Nat) (S : Shape) (gs : List (Nat × Nat)) (tn : List Bool) (T : Tab) (gc cc : Nat) (cols : List Rat) (k : Nat) (hk : cols.length = k) (hv : View base H I w) (hT : TabW w gt S gs tn) (hV : TabV H I S gs T) (h0 : S.p0 = .int .i64 (T.plus.length : Int)) (hc : H gc = some cols) (hpm : T.minus.length = T.plus.length) (hpl : ∀ p ∈ T.plus, 0 ≤ p ∧ p < (k : Int)) (hmi : ∀ m ∈ T.minus, m < (k : Int)) (hpp : 0 < T.plus.length) (hll : T.plus.length ≤ 1000000) :
  Calls Try.prog 108 #[.pointer (some ⟨gt, 0, none⟩), .slice (some ⟨gc, 0, none⟩) k cc] w fun e w' => RedCap base H I (pointQ T cols) w e w' := by
 subst hk
 exact point_calls base H I w gt S gs tn T gc cc cols hv hT hV h0 hc hpm hpl hmi hpp hll
theorem number_calls0 (w : World) : Calls Try.prog 80 #[.int .i64 0] w fun e w' => FPost w 0 e w' := number_calls w 0 (by decide) (by decide)
theorem number_callsm (w : World) : Calls Try.prog 80 #[.int .i64 (-1)] w fun e w' => FPost w (-1) e w' := number_calls w (-1) (by decide) (by decide)
theorem number_calls1 (w : World) : Calls Try.prog 80 #[.int .i64 1] w fun e w' => FPost w 1 e w' := number_calls w 1 (by decide) (by decide)
structure SV (w0 : World) (gt g1 g2 g3 : Nat) (S : Shape) (gs : List (Nat × Nat)) (tn : List Bool) (PC : Array Value) (base : Nat) (H : Nat → Option (List Rat)) (I : Nat → Option (List Int)) (T : Tab) (w : World) : Prop where
 view : View base H I w
 tw : TabW w gt S gs tn
 tv : TabV H I S gs T
 b1 : Blk w g1 26 PC
 b2 : Blk w g2 44 #[.int .i64 0, .slice none 0 0, .slice none 0 0, .slice none 0 0]
 b3 : Blk w g3 117 #[.pointer (some ⟨gt, 0, none⟩)]
 below : Below w0.heap.size w0 w
 base_ : w0.heap.size ≤ base
section
variable {w0 w w1 : World} {gt g1 g2 g3 base : Nat} {S : Shape} {gs : List (Nat × Nat)} {tn : List Bool} {PC : Array Value} {H H' : Nat → Option (List Rat)} {I I' : Nat → Option (List Int)} {T T' : Tab}
theorem SV.to (h : SV w0 gt g1 g2 g3 S gs tn PC base H I T w) (hb : Below w.heap.size w w1) : SV w0 gt g1 g2 g3 S gs tn PC base H I T w1 :=
 ⟨h.view.below hb, h.tw.below hb, h.tv, h.b1.below hb h.b1.lt, h.b2.below hb h.b2.lt, h.b3.below hb h.b3.lt, below_next h.below hb, h.base_⟩
theorem SV.chg (h : SV w0 gt g1 g2 g3 S gs tn PC base H I T w) (hc : ChgS base w w1) (hv : View base H' I' w1) (ht : TabV H' I' S gs T') : SV w0 gt g1 g2 g3 S gs tn PC base H' I' T' w1 :=
 ⟨hv, h.tw.chg hc, ht, h.b1.chgS hc (by decide) (by decide), h.b2.chgS hc (by decide) (by decide), h.b3.chgS hc (by decide) (by decide), h.below.trans ((hc.below h.view.size).mono h.base_), h.base_⟩
theorem TabV.congr (h : TabV H I S gs T) (hH : ∀ k, Owned S gs k → H' k = H k) : TabV H' I S gs T := by
 refine ⟨h.len, fun i p q hp hq => ?_, h.nodup, ?_, h.rightLen, h.base, h.baseLen, h.plus, h.minus, h.id, h.idLen, h.apart⟩
 ·rw [hH p.1 (.inl (key_mem hp))]
  exact h.row i p q hp hq
 ·rcases h.right with h1 | ⟨g, c, e, hg⟩
  ·exact .inl h1
  ·exact .inr ⟨g, c, e, by rw [hH g (.inr ⟨_, _, e⟩)]; exact hg⟩
theorem SV.fresh (h : SV w0 gt g1 g2 g3 S gs tn PC base H I T w) {k : Nat} (hk : w.heap.size ≤ k) : ¬ Owned S gs k := by
 intro ho
 rcases ho with ho | ⟨n, c, e⟩
 ·obtain ⟨p, hp, rfl⟩ := List.mem_map.1 ho
  obtain ⟨i, hi⟩ := List.getElem?_of_mem hp
  obtain ⟨q, hq⟩ : ∃ q, T.rows[i]? = some q := ⟨T.rows[i]'(by rw [← h.tv.len]; exact (List.getElem?_eq_some_iff.1 hi).1), geq _⟩
  have := h.view.lt (h.tv.row i p q hi hq).1
  omega
 ·rcases h.tv.right with ⟨_, h1⟩ | ⟨g, c', e', hg⟩
  ·rw [e] at h1; cases h1
  ·rw [e] at e'
   injection e' with e1
   injection e1 with e1
   injection e1 with e1 _ _
   have := h.view.lt hg
   omega
def NoInt (S : Shape) (g : Nat) : Prop := (∀ n c, S.base ≠ .slice (some ⟨g, 0, none⟩) n c) ∧ (∀ n c, S.plus ≠ .slice (some ⟨g, 0, none⟩) n c) ∧ (∀ n c, S.minus ≠ .slice (some ⟨g, 0, none⟩) n c) ∧ ∀ n c, S.id ≠ .slice (some ⟨g, 0, none⟩) n c
theorem TabV.iother {g : Nat} {l : List Int} (h : TabV H I S gs T) (hn : NoInt S g) : TabV H (upd I g l) S gs T :=
 ⟨h.len, h.row, h.nodup, h.right, h.rightLen, VI.other h.base hn.1, h.baseLen, VI.other h.plus hn.2.1, VI.other h.minus hn.2.2.1, VI.other h.id hn.2.2.2, h.idLen, h.apart⟩
theorem VI.fresh {v : Value} {l : List Int} {g : Nat} (h : VI I v l) (hv : View base H I w) (hg : w.heap.size ≤ g) : ∀ n c, v ≠ .slice (some ⟨g, 0, none⟩) n c := by
 intro n c e
 rcases h with ⟨_, h1⟩ | ⟨g', c', e', hi⟩
 ·rw [e] at h1; cases h1
 ·rw [e] at e'
  injection e' with e1
  injection e1 with e1
  injection e1 with e1 _ _
  obtain ⟨_, cs, hb, _⟩ := hv.int _ _ hi
  have := hb.lt
  omega
theorem SV.noint (h : SV w0 gt g1 g2 g3 S gs tn PC base H I T w) {g : Nat} (hg : w.heap.size ≤ g) : NoInt S g :=
 ⟨h.tv.base.fresh h.view hg, h.tv.plus.fresh h.view hg, h.tv.minus.fresh h.view hg, h.tv.id.fresh h.view hg⟩
theorem SV.box (h : SV w0 gt g1 g2 g3 S gs tn PC base H I T w) (x : Int) : SV w0 gt g1 g2 g3 S gs tn PC base H (upd I w.heap.size [x]) T (w.alloc (.cells #[.int .i64 x] 3)) := by
 have hb := below_new w (.cells #[.int .i64 x] 3)
 refine ⟨⟨(h.view.below hb).size, (h.view.below hb).frac, fun g l hg => ?_⟩, h.tw.below hb, h.tv.iother (h.noint (Nat.le_refl _)), h.b1.below hb h.b1.lt, h.b2.below hb h.b2.lt, h.b3.below hb h.b3.lt, below_next h.below hb, h.base_⟩
 by_cases e : g = w.heap.size
 ·subst e
  rw [upd_self] at hg
  injection hg with hg
  subst hg
  refine ⟨h.view.size, _, Blk.new w 3 _, by intro u hu; simp at hu; subst hu; rfl, fun j y hj => ?_⟩
  match j, hj with
  | 0, hj =>
   obtain rfl : x = y := by simpa using hj
   rfl
  | k + 1, hj => simp at hj
 ·rw [upd_ne e] at hg
  exact (h.view.below hb).int g l hg
theorem SV.boxset {g : Nat} {x : Int} (h : SV w0 gt g1 g2 g3 S gs tn PC base H I T w) (hg : I g = some [x]) (hn : NoInt S g) (y : Int) : SV w0 gt g1 g2 g3 S gs tn PC base H (upd I g [y]) T (w.setCell ⟨g, 0, none⟩ (.int .i64 y)) := by
 have hst := h.view.iset (x := y) (i := 0) hg Nat.zero_lt_one (h.view.sepi hg)
 obtain ⟨h1, csb, hbb, _⟩ := h.view.int _ _ hg
 exact h.chg (ChgS.of_only hst.2 hbb h1 (Or.inr rfl)) hst.1 (h.tv.iother hn)
theorem SV.put {gc i : Nat} {l : List Rat} {q : Rat} {s : Bool} {A1 A2 : Option Addr} {n1 c1 n2 c2 : Nat} (h : SV w0 gt g1 g2 g3 S gs tn PC base H I T w) (hg : H gc = some l) (hi : i < l.length) (hs : Small q) (hq : FQ w (.agg #[.bool s, .slice A1 n1 c1, .slice A2 n2 c2]) q) (hno : ¬ Owned S gs gc) :
  SV w0 gt g1 g2 g3 S gs tn PC base (upd H gc (l.set i q)) I T (put3 w gc (i * 3) (.bool s) (.slice A1 n1 c1) (.slice A2 n2 c2)) := by
 obtain ⟨hv, ho⟩ := h.view.set hg hi hs hq (h.view.sep hg)
 exact h.chg (ChgS.of_only ho (h.view.blk hg).choose_spec.1 (h.view.ge hg) (Or.inl rfl)) hv (h.tv.congr fun k hk => upd_ne fun e => hno (e ▸ hk))
theorem SV.at3 {gc i : Nat} {l : List Rat} (h : SV w0 gt g1 g2 g3 S gs tn PC base H I T w) (hg : H gc = some l) (hi : i < l.length) : (∃ a b c, w.cell? ⟨gc, i * 3, none⟩ = some a ∧ w.cell? ⟨gc, i * 3 + 1, none⟩ = some b ∧ w.cell? ⟨gc, i * 3 + 2, none⟩ = some c) ∧ (w.frozen? ⟨gc, i * 3, none⟩ = false ∧ w.frozen? ⟨gc, i * 3 + 1, none⟩ = false ∧ w.frozen? ⟨gc, i * 3 + 2, none⟩ = false) ∧ gc < w.heap.size := by
 obtain ⟨A1, n1, c1, A2, n2, c2, h0, h1, h2, _⟩ := h.view.at_ hg (geq hi)
 exact ⟨⟨_, _, _, h0, h1, h2⟩, ⟨h.view.free hg _, h.view.free hg _, h.view.free hg _⟩, h.view.lt hg⟩
theorem SV.add {g : Nat} {qs : List Rat} (h : SV w0 gt g1 g2 g3 S gs tn PC base H I T w) (hv : View base (upd H g qs) I w1) (hb : Below w.heap.size w w1) (hg : w.heap.size ≤ g) : SV w0 gt g1 g2 g3 S gs tn PC base (upd H g qs) I T w1 :=
 ⟨hv, h.tw.below hb, h.tv.congr fun k hk => upd_ne fun e => h.fresh (by rw [e]; exact hg) hk, h.b1.below hb h.b1.lt, h.b2.below hb h.b2.lt, h.b3.below hb h.b3.lt, below_next h.below hb, h.base_⟩
end
theorem sq42 (P : Prop) (h : P := by
 have HS7 := Hd hS7
 have hk7 := (hS7.view.iat (upd_self _ _ _) (i := 0) rfl).1
 have hl7 := (hS7.view.iat (upd_self _ _ _) (i := 0) rfl).2.1
 have HK7 := Hd hk7
 have HL7 := Hd hl7
 clear hS7 hk7 hl7 k5 hgzl fz
 go_wp2_with fail
 go_meet
 case rel => exact ⟨gz, H5, _, rfl, HS7.out, HG5.out, HGG5.out, HK7.out, HL7.out⟩) : P := h
theorem sq62 (P : Prop) (h : P := by
 clear x0 x4 x5 x6 x7 x8 x9 x10 x11 x12 hltt k3 hl3
 clear k0 hgbl
 go_wp2_with fail
 go_roundw
 case rel => exact ⟨i + 1, by omega, by go_num, Hy, Iy, by rw [HTN.out]; exact HSD.out, HGY.out⟩
 case measure => simp [intOf]; omega) : P := h
theorem solve_calls (w : World) (n m fuel : Nat) (A1 A2 A3 : Option Addr) (c1 c2 c3 : Nat) (p : ProgQ) (c : CertQ) (hn0 : 0 < n) (hn : n ≤ 1000) (hm : m ≤ 1000) (hfl : p.free.length = n) (hgl : p.goal.length = n) (hrl : p.rows.length = m) (hfr : BL w (.slice A1 n c1) p.free) (hgo : OL 3 40 EFQ 0 w (.slice A2 n c2) p.goal) (hro : RO 0 w (.slice A3 m c3) p.rows) (hra : ∀ r ∈ p.rows, r.a.length = n) (hsp : SmallP p) (hss : ∀ r ∈ p.rows, -1 ≤ r.s ∧ r.s ≤ 1) (hsol : solveQ p n m fuel = some c) :
  Calls Try.prog 76 #[.agg #[.int .i64 (n : Int), .slice A1 n c1, .slice A2 n c2, .slice A3 m c3]] w fun e w' => SolvePost w c e w' := by
 have HFR := Hd hfr
 have HGO := Hd hgo
 have HRO := Hd hro
 have HFL := Hd hfl
 have HGOL := Hd hgl
 have HRL := Hd hrl
 have HRA := Hd hra
 have HSP := Hd hsp
 have HSS := Hd hss
 have HSOL := Hd hsol
 clear hfr hgo hro hfl hgl hrl hra hsp hss hsol
 go_enter Try.func76, Try.ntmps76
 go_wp2_with fail
 have HB0 := Hd (below_next (below_new w (.cells #[.int .i64 (n : Int), .slice A1 n c1, .slice A2 n c2, .slice A3 m c3] 26)) (below_new (w.alloc (.cells #[.int .i64 (n : Int), .slice A1 n c1, .slice A2 n c2, .slice A3 m c3] 26)) (.cells #[.int .i64 0, .slice none 0 0, .slice none 0 0, .slice none 0 0] 44)))
 have HB1 := Hd ((Blk.new w 26 #[.int .i64 (n : Int), .slice A1 n c1, .slice A2 n c2, .slice A3 m c3]).alloc (.cells #[.int .i64 0, .slice none 0 0, .slice none 0 0, .slice none 0 0] 44))
 have HB2 := Hd (Blk.new (w.alloc (.cells #[.int .i64 (n : Int), .slice A1 n c1, .slice A2 n c2, .slice A3 m c3] 26)) 44 #[.int .i64 0, .slice none 0 0, .slice none 0 0, .slice none 0 0])
 rw [World.size_alloc] at HB2
 obtain ⟨g1, hg1⟩ : ∃ g, g = w.heap.size := ⟨_, rfl⟩
 obtain ⟨g2, hg2⟩ : ∃ g, g = w.heap.size + 1 := ⟨_, rfl⟩
 rw [← hg2] at HB2 ⊢
 rw [← hg1] at HB1 ⊢
 have HG1 : Hid (w.heap.size ≤ g1) := by unfold Hid; omega
 have HG2 : Hid (w.heap.size ≤ g2) := by unfold Hid; omega
 clear hg1 hg2
 generalize (w.alloc (.cells #[.int .i64 (n : Int), .slice A1 n c1, .slice A2 n c2, .slice A3 m c3] 26)).alloc (.cells #[.int .i64 0, .slice none 0 0, .slice none 0 0, .slice none 0 0] 44) = W0 at *
 refine (build_calls W0 n m A1 A2 A3 c1 c2 c3 p hn hm HFL.out HRL.out (HFR.out.below EB.stays HB0.out) (OL.below ERO.stays HRO.out HB0.out) HRA.out HSP.out.2 HSS.out).mono ?_
 rintro e w1 ⟨gt, S, gs, H, I, rfl, hbo⟩
 have hv := hbo.tv
 have HREAL : Hid (S.real = realB p n m) := hbo.real
 have HWID : Hid (S.width = widthB p n m) := hbo.width
 have HAP := Hd hbo.apart
 have hprog := hbo.prog
 have HBWW := Hd hbo.below
 have HV1 := Hd hbo.view
 have HT1 := Hd hbo.tw
 have HTV1 := Hd hbo.tv
 obtain ⟨p0, p1, p2, p3, vRows, vRight, vBase, vPlus, vMinus, rb, wd, vId, vT⟩ := S
 have hpp : #[p0, p1, p2, p3] = #[.int .i64 (n : Int), .slice A1 n c1, .slice A2 n c2, .slice A3 m c3] := hprog
 obtain ⟨rfl, rfl, rfl, rfl⟩ : p0 = .int .i64 (n : Int) ∧ p1 = .slice A1 n c1 ∧ p2 = .slice A2 n c2 ∧ p3 = .slice A3 m c3 := by simpa using hpp
 obtain ⟨AR, cR, eR⟩ := HT1.out.2.1.slice
 obtain ⟨Ar, cr, er⟩ := HTV1.out.right.slice
 obtain ⟨Ab, cb, eb⟩ := HTV1.out.base.slice
 obtain ⟨Ap, cp, ep⟩ := HTV1.out.plus.slice
 obtain ⟨Am, cm, em⟩ := HTV1.out.minus.slice
 obtain ⟨Ai, ci, ei⟩ := HTV1.out.id.slice
 have hrl : (buildTab p n m).rows.length = m := by show (rowsN ..).length = m; unfold rowsN; rw [List.length_mapIdx]; exact HRL.out
 have hgl : gs.length = m := by rw [HTV1.out.len, hrl]
 have hrtl : (buildTab p n m).right.length = m := by rw [HTV1.out.rightLen, hrl]
 have hbl : (buildTab p n m).base.length = m := by rw [HTV1.out.baseLen, hrl]
 have hil : (buildTab p n m).id.length = m := by rw [HTV1.out.idLen, hrl]
 have hpl : (buildTab p n m).plus.length = n := varsN_len1 _ _
 have hml : (buildTab p n m).minus.length = n := varsN_len2 _ _
 rw [hgl] at eR
 rw [hrtl] at er
 rw [hbl] at eb
 rw [hpl] at ep
 rw [hml] at em
 rw [hil] at ei
 obtain rfl : vRows = _ := eR
 obtain rfl : vRight = _ := er
 obtain rfl : vBase = _ := eb
 obtain rfl : vPlus = _ := ep
 obtain rfl : vMinus = _ := em
 obtain rfl : vId = _ := ei
 obtain rfl : rb = _ := HREAL.out
 obtain rfl : wd = _ := HWID.out
 clear hv hbo hprog hpp hgl hrtl hbl hil hpl hml
 generalize hrb : realB p n m = rb at *
 generalize hwd : widthB p n m = wd at *
 have HBA : Hid (w.heap.size ≤ W0.heap.size) := HB0.out.size
 have HRBE := Hd hrb
 have HWDE := Hd hwd
 obtain ⟨base, hbase⟩ : ∃ b, b = W0.heap.size := ⟨_, rfl⟩
 rw [← hbase] at HV1 HBA
 clear hbase hrb hwd
 go_upto_region 2 with (fail)
 have hn3 := below_new w1 (.cells #[.pointer (some ⟨gt, 0, none⟩)] 117)
 have HS0 : Hid (SV w gt g1 g2 w1.heap.size ⟨.int .i64 (n : Int), .slice A1 n c1, .slice A2 n c2, .slice A3 m c3, .slice AR m cR, .slice Ar m cr, .slice Ab m cb, .slice Ap n cp, .slice Am n cm, rb, wd, .slice Ai m ci, vT⟩ gs (turnN p.rows m) #[.int .i64 (n : Int), .slice A1 n c1, .slice A2 n c2, .slice A3 m c3] base (H) (I) (buildTab p n m) (w1.alloc (.cells #[.pointer (some ⟨gt, 0, none⟩)] 117))) :=
  ⟨HV1.out.below hn3, HT1.out.below hn3, HTV1.out, (HB1.out.below HBWW.out HB1.out.lt).below hn3 (HB1.out.below HBWW.out HB1.out.lt).lt, (HB2.out.below HBWW.out HB2.out.lt).below hn3 (HB2.out.below HBWW.out HB2.out.lt).lt, Blk.new w1 117 _, below_next (below_next HB0.out HBWW.out) hn3, HBA.out⟩
 obtain ⟨g3, hg3⟩ : ∃ g, g = w1.heap.size := ⟨_, rfl⟩
 rw [← hg3] at HS0 ⊢
 have HG3 : Hid (base ≤ g3) := by unfold Hid; rw [hg3]; exact HV1.out.size
 clear hn3 hg3 HV1 HT1 HTV1 HB1 HB2 HBWW HB0
 generalize w1.alloc (.cells #[.pointer (some ⟨gt, 0, none⟩)] 117) = W1 at *
 have HTR : Hid ((buildTab p n m).rows.length = m) := by unfold Hid; show (rowsN ..).length = m; unfold rowsN; rw [List.length_mapIdx]; exact HRL.out
 have HRW : Hid (∀ r ∈ (buildTab p n m).rows, r.length = wd) := by unfold Hid; rw [← HWDE.out]; exact rows_width p n m
 have HBB : Hid (∀ b ∈ (buildTab p n m).base, 0 ≤ b ∧ b < ((cost1 rb wd).length : Int)) := by unfold Hid; rw [cost1_len, ← HWDE.out]; exact base_lt p n m
 have HBW : Hid (∀ b ∈ (buildTab p n m).id, 0 ≤ b ∧ b < (wd : Int)) := by unfold Hid; rw [← HWDE.out]; exact base_lt p n m
 have hwl : wd ≤ 10000 := by rw [← HWDE.out]; exact width_le p n m HFL.out HRL.out hn hm
 have hrw : rb ≤ wd := by rw [← HWDE.out, ← HRBE.out]; exact real_le p n m
 have hrp : 0 < rb := by rw [← HRBE.out]; exact real_pos p n m hn0
 obtain ⟨x0, x4, x5, x6, x7, x8, x9, x10, x11, x12⟩ := HS0.out.tw.1.c13
 have hltt := HS0.out.tw.1.lt
 have k3 : W1.cell? ⟨g3, 0, none⟩ = some (.pointer (some ⟨gt, 0, none⟩)) := HS0.out.b3.cell rfl
 have hl3 := HS0.out.b3.lt
 have hmk := run_make3 23 40 _ Try.underlying23 info40m wd (by omega)
 go_wp2_with fail
 have hn4 := below_new W1 (.cells (madeCells #[.bool false, .slice none 0 0, .slice none 0 0] (wd * 3)) 40)
 have HP0 := Hd (RowP.made W1 wd)
 have HB4 := Hd hn4
 clear hmk hn4
 clear x0 x4 x5 x6 x7 x8 x9 x10 x11 x12 hltt k3 hl3
 generalize W1.alloc (.cells (madeCells #[.bool false, .slice none 0 0, .slice none 0 0] (wd * 3)) 40) = W2 at *
 obtain ⟨gc, hgc⟩ : ∃ g, g = W1.heap.size := ⟨_, rfl⟩
 rw [← hgc] at HP0 ⊢
 have HGC : Hid (W1.heap.size ≤ gc) := by unfold Hid; omega
 clear hgc
 go_loopw [25] (fun vi wr => ∃ i : Nat, i ≤ wd ∧ vi = .int .i64 (i : Int) ∧ RowP wr gc wd ((cost1 rb wd).take i) ∧ Below W1.heap.size W1 wr) (fun vi _ => wd - (intOf vi).toNat)
 case atStart => exact ⟨0, Nat.zero_le _, rfl, HP0.out, HB4.out⟩
 case round =>
  obtain ⟨i, hi, rfl, hrp, hbl⟩ := hrel
  have HRP := Hd hrp
  have HBr := Hd hbl
  clear hrp hbl HP0 HB4
  by_cases hlt : i < wd
  ·have m1 : (i : Int) < (wd : Int) := by omega
   have m3 : (i : Int).toNat = i := by omega
   have m4 : (0 : Int) ≤ (i : Int) := by omega
   have HCL : Hid (((cost1 rb wd).take i).length = i) := by unfold Hid; rw [ltk, cost1_len]; omega
   go_wp2_with fail
   refine (number_calls0 _).mono ?_
   rintro e w3 ⟨v, rfl, hv, hb⟩
   obtain ⟨D7, n9, c9, D8, n10, c10, rfl, HF6⟩ := hv.opened
   have D6 := Hd hb
   have HR6 := Hd (HRP.out.below D6.out)
   have HB6 := Hd (below_next HBr.out D6.out)
   clear hv hb
   obtain ⟨o0, o1, o2, z0, z1, z2⟩ := HR6.out.cells hlt
   have f0 := HR6.out.free (i * 3)
   have f1 := HR6.out.free (i * 3 + 1)
   have f2 := HR6.out.free (i * 3 + 2)
   have hgol := HR6.out.lt
   go_upto_region 7 with (fail)
   have hst := HR6.out.put (q := (0 : Rat)) (qs' := (cost1 rb wd).take i ++ [(0 : Rat)]) hlt HF6.out (by simp [notWord]) (put_last' HCL.out)
   have hb7 := below_put3' HB6.out HGC.out (i * 3) (.bool (negQ (0 : Rat))) (.slice D7 n9 c9) (.slice D8 n10 c10)
   have HR7 := Hd hst.1
   have HB7 := Hd hb7
   clear hst hb7 z0 z1 z2 f0 f1 f2 hgol HR6 HB6 D6
   obtain ⟨W3, hW3⟩ : ∃ W, W = ((w3.setCell ⟨gc, i * 3, none⟩ (.bool (negQ (0 : Rat)))).setCell ⟨gc, i * 3 + 1, none⟩ (.slice D7 n9 c9)).setCell ⟨gc, i * 3 + 2, none⟩ (.slice D8 n10 c10) := ⟨_, rfl⟩
   rw [← hW3]
   rw [show put3 w3 gc (i * 3) (.bool (negQ (0 : Rat))) (.slice D7 n9 c9) (.slice D8 n10 c10) = W3 from hW3.symm] at HR7 HB7
   clear hW3
   have HS3 := Hd (HS0.out.to HB7.out)
   obtain ⟨x0, x4, x5, x6, x7, x8, x9, x10, x11, x12⟩ := HS3.out.tw.1.c13
   have hltt := HS3.out.tw.1.lt
   have k3 : W3.cell? ⟨g3, 0, none⟩ = some (.pointer (some ⟨gt, 0, none⟩)) := HS3.out.b3.cell rfl
   have hl3 := HS3.out.b3.lt
   by_cases hge : rb ≤ i
   case neg =>
    have u : decide (rb ≤ i) = false := decide_eq_false hge
    have HNX : Hid ((cost1 rb wd).take (i + 1) = (cost1 rb wd).take i ++ [(0 : Rat)]) := by unfold Hid; rw [cost1_take hlt, if_neg hge]
    have u' : i < rb := by omega
    clear hge
    go_wp2_with fail
    go_roundw
    case rel => exact ⟨i + 1, by omega, by go_num, by rw [HNX.out]; exact HR7.out, HB7.out⟩
    case measure => simp [intOf]; omega
   have u : decide (rb ≤ i) = true := decide_eq_true hge
   have HNX : Hid ((cost1 rb wd).take (i + 1) = (cost1 rb wd).take i ++ [(-1 : Rat)]) := by unfold Hid; rw [cost1_take hlt, if_pos hge]
   have u' : (rb : Int) ≤ (i : Int) := by omega
   go_wp2_with fail
   refine (number_callsm _).mono ?_
   rintro e w4 ⟨v, rfl, hv, hb⟩
   obtain ⟨D9, n11, c11, D10, n12, c12, rfl, HF8⟩ := hv.opened
   have D8' := Hd hb
   have HR8 := Hd (HR7.out.below D8'.out)
   have HB8 := Hd (below_next HB7.out D8'.out)
   clear hv hb
   clear x0 x4 x5 x6 x7 x8 x9 x10 x11 x12 hltt k3 hl3
   obtain ⟨o3, o4, o5, z0, z1, z2⟩ := HR8.out.cells hlt
   have f0 := HR8.out.free (i * 3)
   have f1 := HR8.out.free (i * 3 + 1)
   have f2 := HR8.out.free (i * 3 + 2)
   have hgol := HR8.out.lt
   go_wp2_with fail
   have hst := HR8.out.put (q := (-1 : Rat)) (qs' := (cost1 rb wd).take i ++ [(-1 : Rat)]) hlt HF8.out (by simp [notWord]) (put_again' HCL.out)
   have hb9 := below_put3' HB8.out HGC.out (i * 3) (.bool (negQ (-1 : Rat))) (.slice D9 n11 c11) (.slice D10 n12 c12)
   go_roundw
   case rel => exact ⟨i + 1, by omega, by go_num, by rw [HNX.out]; exact hst.1, hb9⟩
   case measure => simp [intOf]; omega
  ·obtain rfl : wd = i := by omega
   have hct : (cost1 rb wd).take wd = cost1 rb wd := List.take_of_length_le (by rw [cost1_len]; exact Nat.le_refl _)
   rw [hct] at HRP
   have hca := HS0.out.add ((HS0.out.view.below HBr.out).add HRP.out.v (Nat.le_trans HS0.out.view.size HGC.out) (small_cost1 rb wd)) HBr.out HGC.out
   have HS1 := Hd hca
   clear hct hca hlt hi HRP
   obtain ⟨x0, x4, x5, x6, x7, x8, x9, x10, x11, x12⟩ := HS1.out.tw.1.c13
   have hltt := HS1.out.tw.1.lt
   have k3 : wr.cell? ⟨g3, 0, none⟩ = some (.pointer (some ⟨gt, 0, none⟩)) := HS1.out.b3.cell rfl
   have hl3 := HS1.out.b3.lt
   go_wp2_with fail
   refine (treduced' base (upd H gc (cost1 rb wd)) I wr gt _ gs (turnN p.rows m) (buildTab p n m) gc wd (cost1 rb wd) wd (cost1_len rb wd).symm HS1.out.view HS1.out.tw HS1.out.tv (upd_self _ _ _) (cost1_len rb wd) HBB.out (by omega) (by omega) (by rw [HTR.out]; omega)).mono ?_
   rintro e w2 ⟨gg, cg, rfl, hgg, hggl, hv2, hb2⟩
   have hgl : (reducedQ (cost1 rb wd) (buildTab p n m)).length = wd := reduced_len (cost1_len rb wd) HRW.out
   rw [hgl]
   have HS2 := Hd (HS1.out.add hv2 hb2 hgg)
   have HGG : Hid (wr.heap.size ≤ gg) := hgg
   have HGL := Hd hgl
   clear hv2 hb2 hgg hggl hgl
   obtain ⟨gn1, hgn1⟩ : ∃ g, g = reducedQ (cost1 rb wd) (buildTab p n m) := ⟨_, rfl⟩
   rw [← hgn1] at HS2 HGL
   have HGN1 := Hd hgn1
   clear hgn1
   clear x0 x4 x5 x6 x7 x8 x9 x10 x11 x12 hltt k3 hl3
   obtain ⟨x0, x4, x5, x6, x7, x8, x9, x10, x11, x12⟩ := HS2.out.tw.1.c13
   have hltt := HS2.out.tw.1.lt
   have k3 : w2.cell? ⟨g3, 0, none⟩ = some (.pointer (some ⟨gt, 0, none⟩)) := HS2.out.b3.cell rfl
   have hl3 := HS2.out.b3.lt
   go_wp2_with fail
   refine wp_chainF (l := [_, _, _, _, _, _, _]) (S := Below w2.heap.size w2) 6 [] [0, 1, 2, 3, 4, 5] (by kernel_rfl) (by kernel_rfl) (by kernel_rfl) rfl Bd ?_
   refine ⟨?_, ?_, ?_⟩
   rotate_left
   ·(iterate 6 ((refine pu ?_); (try simp only [SQ])))
    exact rfl
   simp only [SQ, List.drop_succ_cons, List.drop_zero]
   have HS3 := Hd (HS2.out.to Bd)
   clear x0 x4 x5 x6 x7 x8 x9 x10 x11 x12 hltt k3 hl3
   generalize w2.drew = W3 at *
   go_wp2_with fail
   obtain ⟨⟨e1, T1, gf1⟩, hc1, hs2⟩ := solveQ_some HSOL.out
   have hc1' : climbQ rb fuel (buildTab p n m) gn1 = some (e1, T1, gf1) := by rw [HGN1.out, ← HRBE.out, ← HWDE.out]; exact hc1
   have hcs := climb_shape (wd := wd) hrw hc1' (fun b hb => by have := HBB.out b hb; rw [cost1_len] at this; exact this)
   have HC1 := Hd hc1'
   have HS2Q : Hid (solve2 p n m fuel T1 gf1 = some c) := hs2
   have HGF1 : Hid (gf1.length = wd) := (climb_rows hc1' HRW.out HGL.out).2
   have HRW1 : Hid (RowsOk wd T1) := (climb_rows hc1' HRW.out HGL.out).1
   have HSH1 : Hid (SameShape (buildTab p n m) T1) := hcs.1
   have HBO1 : Hid (BaseOk wd T1) := hcs.2.1
   have HNC : Hid (¬ Owned ⟨.int .i64 (n : Int), .slice A1 n c1, .slice A2 n c2, .slice A3 m c3, .slice AR m cR, .slice Ar m cr, .slice Ab m cb, .slice Ap n cp, .slice Am n cm, rb, wd, .slice Ai m ci, vT⟩ gs gc) := HS0.out.fresh HGC.out
   have HNG : Hid (¬ Owned ⟨.int .i64 (n : Int), .slice A1 n c1, .slice A2 n c2, .slice A3 m c3, .slice AR m cR, .slice Ar m cr, .slice Ab m cb, .slice Ap n cp, .slice Am n cm, rb, wd, .slice Ai m ci, vT⟩ gs gg) := HS1.out.fresh HGG.out
   have HCG : Hid (gc ≠ gg) := by
    have h1 := HS1.out.view.lt (upd_self H gc (cost1 rb wd))
    have h2 := HGG.out
    unfold Hid
    omega
   clear hc1 hc1' hs2 hcs
   refine (climb_calls base (upd (upd H gc (cost1 rb wd)) gg gn1) I W3 gt _ gs (turnN p.rows m) (buildTab p n m) gg cg gn1 rb fuel (e1, T1, gf1) HS3.out.view HS3.out.tw HS3.out.tv (upd_self _ _ _) HGL.out (fun h => HNG.out (.inl h)) (fun k x e => HNG.out (.inr ⟨k, x, e⟩)) HAP.out hrw (by show wd ≤ 1000000; omega) (by rw [HTR.out]; omega) HC1.out).mono ?_
   rintro e w4 ⟨rfl, H4, I4, hv4, ht4, hg4, hf4, hc4, hi4⟩
   have HS4 := Hd (HS3.out.chg hc4 hv4 ht4)
   have HGC4 : Hid (H4 gc = some (cost1 rb wd)) := by
    unfold Hid
    rw [hf4 gc HNC.out HCG.out, upd_ne HCG.out]
    exact upd_self _ _ _
   have HGG4 : Hid (H4 gg = some gf1) := hg4
   have HRL1 : Hid (T1.rows.length = m) := by unfold Hid; rw [HSH1.out.rows]; exact HTR.out
   clear hv4 ht4 hg4 hf4 hc4 hi4 HS3 HS2 HBr
   obtain ⟨x0, x4, x5, x6, x7, x8, x9, x10, x11, x12⟩ := HS4.out.tw.1.c13
   have hltt := HS4.out.tw.1.lt
   have k3 : w4.cell? ⟨g3, 0, none⟩ = some (.pointer (some ⟨gt, 0, none⟩)) := HS4.out.b3.cell rfl
   have hl3 := HS4.out.b3.lt
   go_wp2_with fail
   refine NoPanic.normal ?_
   go_wp2_with fail
   have HBL1 : Hid (T1.base.length = m) := by unfold Hid; rw [HS4.out.tv.baseLen]; exact HRL1.out
   have HRT1 : Hid (T1.right.length = m) := by unfold Hid; rw [HS4.out.tv.rightLen]; exact HRL1.out
   clear x0 x4 x5 x6 x7 x8 x9 x10 x11 x12 hltt k3 hl3
   go_loopw [58] (fun vi wr => ∃ i : Nat, i ≤ m ∧ vi = .int .i64 (i : Int) ∧ (∀ j, j < i → ¬ badAt T1 rb j) ∧ Below w4.heap.size w4 wr) (fun vi _ => m - (intOf vi).toNat)
   case atStart => exact ⟨0, Nat.zero_le _, rfl, fun j hj => absurd hj (Nat.not_lt_zero j), Below.refl _ _⟩
   case round =>
    obtain ⟨i, hi, rfl, hno, hbl⟩ := hrel
    have HNO := Hd hno
    have HBi := Hd hbl
    clear hno hbl
    by_cases hlt : i < m
    ·obtain ⟨b, hb⟩ : ∃ x, T1.base[i]? = some x := ⟨T1.base[i]'(by rw [HBL1.out]; exact hlt), geq _⟩
     obtain ⟨q, hq⟩ : ∃ x, T1.right[i]? = some x := ⟨T1.right[i]'(by rw [HRT1.out]; exact hlt), geq _⟩
     have HB := Hd hb
     have HQ := Hd hq
     have HBD : Hid (T1.base.getD i 0 = b) := getD_at hb
     have HQD : Hid (T1.right.getD i 0 = q) := getD_at hq
     have HSi := Hd (HS4.out.to HBi.out)
     obtain ⟨gb, rfl, hgb⟩ := (show VI I4 (.slice Ab m cb) T1.base from HS4.out.tv.base).at_ (by rw [HBL1.out]; omega)
     obtain ⟨gr, rfl, hgr⟩ := (show VH H4 (.slice Ar m cr) T1.right from HS4.out.tv.right).at_ (by rw [HRT1.out]; omega)
     obtain ⟨k0, hgbl, _⟩ := HSi.out.view.iat hgb hb
     obtain ⟨A4, n4, c4, A5, n5, c5, q0, q1, q2, HFQ⟩ := HSi.out.view.at_ hgr hq
     have HSQ : Hid (Small q) := HSi.out.view.small hgr hq
     have hgrl := HSi.out.view.lt hgr
     have m1 : (i : Int) < (m : Int) := by omega
     have m3 : (i : Int).toNat = i := by omega
     have m4 : (0 : Int) ≤ (i : Int) := by omega
     clear hb hq hgb hgr
     obtain ⟨x0, x4, x5, x6, x7, x8, x9, x10, x11, x12⟩ := HSi.out.tw.1.c13
     have hltt := HSi.out.tw.1.lt
     have k3 : wr.cell? ⟨g3, 0, none⟩ = some (.pointer (some ⟨gt, 0, none⟩)) := HSi.out.b3.cell rfl
     have hl3 := HSi.out.b3.lt
     by_cases hge : (rb : Int) ≤ b
     case neg =>
      have u : decide ((rb : Int) ≤ b) = false := decide_eq_false hge
      have u' : b < (rb : Int) := by omega
      have HNX : Hid (∀ j, j < i + 1 → ¬ badAt T1 rb j) := by
       intro j hj
       by_cases e : j = i
       ·subst e; intro hx; exact hge (by rw [← HBD.out]; exact hx.1)
       ·exact HNO.out j (by omega)
      clear hge
      go_wp2_with fail
      go_roundw
      case rel => exact ⟨i + 1, by omega, by go_num, HNX.out, HBi.out⟩
      case measure => simp [intOf]; omega
     have u : decide ((rb : Int) ≤ b) = true := decide_eq_true hge
     go_wp2_with fail
     refine (sgn_calls _ _ (rawQ q) (FR.of_fq HFQ.out HSQ.out)).mono ?_
     rintro e w5 ⟨rfl, hb5⟩
     rw [fixQ_raw _ HSQ.out]
     have HB5 := Hd (below_next HBi.out hb5)
     have HS5 := Hd (HSi.out.to hb5)
     clear x0 x4 x5 x6 x7 x8 x9 x10 x11 x12 hltt k3 hl3
     clear hb5 k0 hgbl q0 q1 q2 hgrl
     by_cases hz : q = 0
     ·have z1 : (signQ q != 0) = false := by rw [hz]; rfl
      have HNX : Hid (∀ j, j < i + 1 → ¬ badAt T1 rb j) := by
       intro j hj
       by_cases e : j = i
       ·subst e; intro hx; exact hx.2 (by rw [HQD.out]; exact hz)
       ·exact HNO.out j (by omega)
      clear hz
      go_wp2_with fail
      go_roundw
      case rel => exact ⟨i + 1, by omega, by go_num, HNX.out, HB5.out⟩
      case measure => simp [intOf]; omega
     have z1 : (signQ q != 0) = true := by simpa using fun e => hz (signQ_zero_iff.1 e)
     have HBAD : Hid (c = ⟨2, [], multQ T1 (turnN p.rows m) (cost1 (realB p n m) (widthB p n m)) gf1, []⟩) := solve2_bad HS2Q.out hlt ⟨by rw [HBD.out, HRBE.out]; exact hge, by rw [HQD.out]; exact hz⟩
     have hce := HBAD.out
     rw [HRBE.out, HWDE.out] at hce
     have HCE := Hd hce
     clear hz hge hce
     obtain ⟨x0, x4, x5, x6, x7, x8, x9, x10, x11, x12⟩ := HS5.out.tw.1.c13
     have hltt := HS5.out.tw.1.lt
     have k3 : w5.cell? ⟨g3, 0, none⟩ = some (.pointer (some ⟨gt, 0, none⟩)) := HS5.out.b3.cell rfl
     have hl3 := HS5.out.b3.lt
     go_wp2_with fail
     refine (mult' base H4 I4 w5 gt _ gs (turnN p.rows m) T1 gc wd gg cg (cost1 rb wd) gf1 wd (cost1_len rb wd).symm HS5.out.view HS5.out.tw HS5.out.tv HGC4.out HGG4.out (by rw [HGF1.out, cost1_len]) (by rw [turnN_len _ _ (by rw [HRL.out]; exact Nat.le_refl _), HS5.out.tv.idLen, HRL1.out]) (by rw [HSH1.out.id]; exact HBW.out) (by rw [HS5.out.tv.idLen, HRL1.out]; omega)).mono ?_
     rintro e w6 ⟨go, co, rfl, hgo, hgol, hv6, hb6, hcap⟩
     have HCO := Hd hcap
     clear hcap
     have HS6 := Hd (HS5.out.to hb6)
     have HV6 := Hd hv6
     have hn2 : go ≠ g2 := fun e => by have h1 := HS5.out.b2.lt; omega
     have HGO := Hd hn2
     clear x0 x4 x5 x6 x7 x8 x9 x10 x11 x12 hltt k3 hl3
     clear hgo hgol hv6 hb6 hn2
     obtain ⟨y0, y1, y2, y3⟩ := HS6.out.b2.c4
     obtain ⟨f0, f1, f2, f3⟩ := HS6.out.b2.f4
     have hl2 := HS6.out.b2.lt
     go_wp2_with fail
     have ho := put4_only HS6.out.b2 zc_words (.int .i64 2) (.slice none 0 0) (.slice (some ⟨go, 0, none⟩) (multQ T1 (turnN p.rows m) (cost1 rb wd) gf1).length co) (.slice none 0 0)
     exact ret44 Try.results76 rfl (HS6.out.b2.put4 _ _ _ _) ⟨.slice none 0 0, _, .slice none 0 0, by rw [HCE.out], by rw [HCE.out]; exact LV.nil _ _, by rw [HCE.out]; exact LV.of HV6.out (upd_self _ _ _) ho HGO.out HBA.out rfl HCO.out, by rw [HCE.out]; exact LV.nil _ _, below_put4 HS6.out.below HG2.out _ _ _ _⟩
    ·obtain rfl : m = i := by omega
     obtain ⟨⟨e3, T3, gf3⟩, hc2, hce⟩ := solve2_good HS2Q.out (fun i hi => by rw [HRBE.out]; exact HNO.out i hi)
     rw [HRBE.out] at hc2
     have HC2 : Hid (climbQ rb fuel (driveN rb T1 m) (reducedQ (cost2 p n m) (driveN rb T1 m)) = some (e3, T3, gf3)) := hc2
     have HCE : Hid (c = solve3 p n m e3 T3 gf3) := hce
     have HSi := Hd (HS4.out.to HBi.out)
     have HGSL : Hid (gs.length = m) := by unfold Hid; rw [HS4.out.tv.len]; exact HRL1.out
     clear hc2 hce HS2Q HNO HBi HS4 hlt hi
     obtain ⟨x0, x4, x5, x6, x7, x8, x9, x10, x11, x12⟩ := HSi.out.tw.1.c13
     have hltt := HSi.out.tw.1.lt
     have k3 : wr.cell? ⟨g3, 0, none⟩ = some (.pointer (some ⟨gt, 0, none⟩)) := HSi.out.b3.cell rfl
     have hl3 := HSi.out.b3.lt
     go_wp2_with fail
     clear x0 x4 x5 x6 x7 x8 x9 x10 x11 x12 hltt k3 hl3
     go_loopw [91] (fun vi wr => ∃ i : Nat, i ≤ m ∧ vi = .int .i64 (i : Int) ∧ ∃ Hx Ix, SV w gt g1 g2 g3 ⟨.int .i64 (n : Int), .slice A1 n c1, .slice A2 n c2, .slice A3 m c3, .slice AR m cR, .slice Ar m cr, .slice Ab m cb, .slice Ap n cp, .slice Am n cm, rb, wd, .slice Ai m ci, vT⟩ gs (turnN p.rows m) #[.int .i64 (n : Int), .slice A1 n c1, .slice A2 n c2, .slice A3 m c3] base (Hx) (Ix) (driveN rb T1 i) wr ∧ Hx gc = some (cost1 rb wd)) (fun vi _ => m - (intOf vi).toNat)
     case atStart => exact ⟨0, Nat.zero_le _, rfl, H4, I4, HSi.out, HGC4.out⟩
     case round =>
      obtain ⟨i, hi, rfl, Hx, Ix, hsx, hgx⟩ := hrel
      have HSX := Hd hsx
      have HGX := Hd hgx
      clear hsx hgx HSi HGC4 HGG4
      by_cases hlt : i < m
      ·have m1 : (i : Int) < (m : Int) := by omega
       have m3 : (i : Int).toNat = i := by omega
       have m4 : (0 : Int) ≤ (i : Int) := by omega
       go_wp2_with fail
       obtain ⟨Ti, hti⟩ : ∃ T, T = driveN rb T1 i := ⟨_, rfl⟩
       have HTI := Hd hti
       rw [← hti] at HSX
       clear hti
       go_loopw [10] (fun vc wr => ∃ k : Nat, k ≤ rb ∧ vc = .int .i64 (k : Int) ∧ ∃ Hx Ix, SV w gt g1 g2 g3 ⟨.int .i64 (n : Int), .slice A1 n c1, .slice A2 n c2, .slice A3 m c3, .slice AR m cR, .slice Ar m cr, .slice Ab m cb, .slice Ap n cp, .slice Am n cm, rb, wd, .slice Ai m ci, vT⟩ gs (turnN p.rows m) #[.int .i64 (n : Int), .slice A1 n c1, .slice A2 n c2, .slice A3 m c3] base (Hx) (Ix) (driveC rb i Ti k) wr ∧ Hx gc = some (cost1 rb wd)) (fun vc _ => rb - (intOf vc).toNat)
       case atStart => exact ⟨0, Nat.zero_le _, rfl, Hx, Ix, HSX.out, HGX.out⟩
       case round =>
        obtain ⟨k, hk, rfl, Hy, Iy, hsy, hgy⟩ := hrel
        have HSY := Hd hsy
        have HGY := Hd hgy
        clear hsy hgy HSX HGX
        obtain ⟨Tk, htk⟩ : ∃ T, T = driveC rb i Ti k := ⟨_, rfl⟩
        have HTK := Hd htk
        rw [← htk] at HSY
        clear htk
        have HBLk : Hid (Tk.base.length = m) := by unfold Hid; rw [HSY.out.tv.baseLen, ← HSY.out.tv.len]; exact HGSL.out
        have HRLk : Hid (Tk.rows.length = m) := by unfold Hid; rw [← HSY.out.tv.len]; exact HGSL.out
        obtain ⟨b, hb⟩ : ∃ x, Tk.base[i]? = some x := ⟨Tk.base[i]'(by rw [HBLk.out]; exact hlt), geq _⟩
        have HBD : Hid (Tk.base.getD i 0 = b) := getD_at hb
        obtain ⟨gb, rfl, hgb⟩ := (show VI Iy (.slice Ab m cb) Tk.base from HSY.out.tv.base).at_ (by rw [HBLk.out]; omega)
        obtain ⟨k0, hgbl, _⟩ := HSY.out.view.iat hgb hb
        have n1 : (k : Int).toNat = k := by omega
        have n2 : (0 : Int) ≤ (k : Int) := by omega
        clear hb hgb
        obtain ⟨x0, x4, x5, x6, x7, x8, x9, x10, x11, x12⟩ := HSY.out.tw.1.c13
        have hltt := HSY.out.tw.1.lt
        have k3 : wr.cell? ⟨g3, 0, none⟩ = some (.pointer (some ⟨gt, 0, none⟩)) := HSY.out.b3.cell rfl
        have hl3 := HSY.out.b3.lt
        by_cases hkr : k < rb
        case neg =>
         obtain rfl : rb = k := by omega
         have n3 : decide ((rb : Int) < (rb : Int)) = false := by simp
         go_wp2_with fail
         refine wp_chainF (l := [_, _, _, _, _, _, _, _, _, _, _, _, _, _, _, _, _, _, _, _]) (S := Below wr.heap.size wr) 20 [] [0, 1, 2, 3, 4, 5, 6, 7, 8, 9, 10, 11, 12, 13, 14, 15, 16, 17, 18, 19] (by kernel_rfl) (by kernel_rfl) (by kernel_rfl) rfl Bd ?_
         refine ⟨?_, ?_, ?_⟩
         rotate_left
         ·(iterate 7 ((refine pu ?_); (try simp only [SQ]))); (iterate 12 ((refine pn ?_); (try simp only [SQ]))); ((refine pu ?_); (try simp only [SQ]))
          exact rfl
         refine NoPanic.normal ?_
         have HSD := Hd (HSY.out.to Bd)
         have HTN : Hid (driveN rb T1 (i + 1) = Tk) := by unfold Hid; rw [driveN, ← HTI.out, HTK.out]
         exact sq62 _
        have n3 : (k : Int) < (rb : Int) := by omega
        by_cases hge : (rb : Int) ≤ b
        case neg =>
         have u : decide ((rb : Int) ≤ b) = false := decide_eq_false hge
         have u' : b < (rb : Int) := by omega
         go_wp2_with fail
         refine wp_chainF (l := [_, _, _, _, _, _, _, _, _, _, _, _, _, _, _, _, _, _, _, _]) (S := Below wr.heap.size wr) 20 [] [0, 1, 2, 3, 4, 5, 6, 7, 8, 9, 10, 11, 12, 13, 14, 15, 16, 17, 18, 19] (by kernel_rfl) (by kernel_rfl) (by kernel_rfl) rfl Bd ?_
         refine ⟨?_, ?_, ?_⟩
         rotate_left
         ·(iterate 20 ((refine pu ?_); (try simp only [SQ])))
          exact rfl
         refine NoPanic.normal ?_
         have HSD := Hd (HSY.out.to Bd)
         have HTN : Hid (driveN rb T1 (i + 1) = Tk) := by
          unfold Hid
          rw [driveN, ← HTI.out, HTK.out]
          exact driveC_done (by rw [← HTK.out, HBD.out]; exact u') (by omega)
         exact sq62 _
        have u : decide ((rb : Int) ≤ b) = true := decide_eq_true hge
        go_wp2_with fail
        refine wp_chainF (l := [_, _, _, _, _, _, _, _, _, _, _, _, _, _, _, _, _, _, _, _]) (S := Below wr.heap.size wr) 20 [] [0, 1, 2, 3, 4, 5, 6, 7, 8, 9, 10, 11, 12, 13, 14, 15, 16, 17, 18, 19] (by kernel_rfl) (by kernel_rfl) (by kernel_rfl) rfl Bd ?_
        refine ⟨?_, ?_, ?_⟩
        rotate_left
        ·(iterate 20 ((refine pu ?_); (try simp only [SQ])))
         exact rfl
        refine NoPanic.normal ?_
        have HSD := Hd (HSY.out.to Bd)
        clear x0 x4 x5 x6 x7 x8 x9 x10 x11 x12 hltt k3 hl3
        clear k0 hgbl
        generalize wr.drew = WD at *
        obtain ⟨rr, hrr⟩ : ∃ x, Tk.rows[i]? = some x := ⟨Tk.rows[i]'(by rw [HRLk.out]; exact hlt), geq _⟩
        obtain ⟨pr, hpr⟩ : ∃ x, gs[i]? = some x := ⟨gs[i]'(by rw [HGSL.out]; exact hlt), geq _⟩
        obtain ⟨hHr, hrl⟩ := HSD.out.tv.row i pr rr hpr hrr
        obtain ⟨gR, rfl, hgRl, kR⟩ := (show VRows WD (.slice AR m cR) wd gs from HSD.out.tw.2.1).at_ hpr
        obtain ⟨f, hf⟩ : ∃ x, rr[k]? = some x := ⟨rr[k]'(by have : rr.length = wd := hrl; omega), geq _⟩
        obtain ⟨A4, n4, c4, A5, n5, c5, q0, q1, q2, HFQ⟩ := HSD.out.view.at_ hHr hf
        have HSQ : Hid (Small f) := HSD.out.view.small hHr hf
        have hgrl := HSD.out.view.lt hHr
        have HFD : Hid ((Tk.rows.getD i []).getD k 0 = f) := by unfold Hid; rw [getD_at hrr, getD_at hf]
        have HTS : Hid (driveC rb i Ti (k + 1) = driveStep rb i Tk k) := by unfold Hid; rw [driveC, HTK.out]
        have n4' : (k : Int) < (wd : Int) := by omega
        clear hHr hrl hrr hpr hf HSY
        obtain ⟨x0, x4, x5, x6, x7, x8, x9, x10, x11, x12⟩ := HSD.out.tw.1.c13
        have hltt := HSD.out.tw.1.lt
        have k3 : WD.cell? ⟨g3, 0, none⟩ = some (.pointer (some ⟨gt, 0, none⟩)) := HSD.out.b3.cell rfl
        have hl3 := HSD.out.b3.lt
        go_wp2_with fail
        refine (sgn_calls _ _ (rawQ f) (FR.of_fq HFQ.out HSQ.out)).mono ?_
        rintro e w5 ⟨rfl, hb5⟩
        rw [fixQ_raw _ HSQ.out]
        have HS5 := Hd (HSD.out.to hb5)
        clear x0 x4 x5 x6 x7 x8 x9 x10 x11 x12 hltt k3 hl3
        clear hb5 q0 q1 q2 hgrl kR hgRl
        by_cases hz : f = 0
        ·have z1 : (signQ f != 0) = false := by rw [hz]; rfl
         have HNX : Hid (driveC rb i Ti (k + 1) = Tk) := by
          unfold Hid
          rw [HTS.out]
          unfold driveStep
          rw [if_neg fun x => x.2 (by rw [HFD.out]; exact hz)]
         clear hz
         go_wp2_with fail
         go_roundw
         case rel => exact ⟨k + 1, by omega, by go_num, Hy, Iy, by rw [HNX.out]; exact HS5.out, HGY.out⟩
         case measure => simp [intOf]; omega
        have z1 : (signQ f != 0) = true := by simpa using fun e => hz (signQ_zero_iff.1 e)
        have HNX : Hid (driveC rb i Ti (k + 1) = pivotQ Tk i k) := by
         unfold Hid
         rw [HTS.out]
         unfold driveStep
         rw [if_pos ⟨by rw [HBD.out]; exact hge, by rw [HFD.out]; exact hz⟩]
        have HNZ : Hid (f ≠ 0) := hz
        clear hz
        obtain ⟨x0, x4, x5, x6, x7, x8, x9, x10, x11, x12⟩ := HS5.out.tw.1.c13
        have hltt := HS5.out.tw.1.lt
        have k3 : w5.cell? ⟨g3, 0, none⟩ = some (.pointer (some ⟨gt, 0, none⟩)) := HS5.out.b3.cell rfl
        have hl3 := HS5.out.b3.lt
        go_wp2_with fail
        refine (pivot_calls base Hy Iy w5 gt _ gs (turnN p.rows m) Tk i k (.slice none 0 0) none (.inl ⟨rfl, rfl⟩) HAP.out HS5.out.view HS5.out.tw HS5.out.tv (by rw [HRLk.out]; exact hlt) (by show k < wd; omega) (by rw [HFD.out]; exact HNZ.out) (by show wd ≤ 1000000; omega) (by rw [HRLk.out]; omega)).mono ?_
        rintro e w6 ⟨rfl, H6, I6, hv6, ht6, _, hf6, hc6, _⟩
        have HS6 := Hd (HS5.out.chg hc6 hv6 ht6)
        have HG6 : Hid (H6 gc = some (cost1 rb wd)) := by
         unfold Hid
         rw [hf6 gc HNC.out (fun x e => nomatch e)]
         exact HGY.out
        clear x0 x4 x5 x6 x7 x8 x9 x10 x11 x12 hltt k3 hl3
        clear hv6 ht6 hf6 hc6
        go_wp2_with fail
        go_roundw
        case rel => exact ⟨k + 1, by omega, by go_num, H6, I6, by rw [HNX.out]; exact HS6.out, HG6.out⟩
        case measure => simp [intOf]; omega
      ·obtain rfl : m = i := by omega
       have HBLx : Hid ((driveN rb T1 m).base.length = m) := by unfold Hid; rw [HSX.out.tv.baseLen, ← HSX.out.tv.len]; exact HGSL.out
       obtain ⟨T2, ht2⟩ : ∃ T, T = driveN rb T1 m := ⟨_, rfl⟩
       have HT2E := Hd ht2
       rw [← ht2] at HSX HBLx HC2
       have hd2 := driveN_shape wd rb hrw T1 HBO1.out m
       rw [← ht2] at hd2
       have HBO2 : Hid (BaseOk wd T2) := hd2.2
       have HSH2 : Hid (SameShape (buildTab p n m) T2) := HSH1.out.trans hd2.1
       have HRW2 : Hid (RowsOk wd T2) := by unfold Hid; rw [ht2]; exact (driveN_rows HRW1.out m (by rw [HRL1.out]; exact Nat.le_refl _)).1
       clear hd2 ht2 hlt hi
       have HS0z : Hid (SV w gt g1 g2 g3 ⟨.int .i64 (n : Int), .slice A1 n c1, .slice A2 n c2, .slice A3 m c3, .slice AR m cR, .slice Ar m cr, .slice Ab m cb, .slice Ap n cp, .slice Am n cm, rb, wd, .slice Ai m ci, vT⟩ gs (turnN p.rows m) #[.int .i64 (n : Int), .slice A1 n c1, .slice A2 n c2, .slice A3 m c3] base (upd Hx gc (mix (List.replicate wd 0) (cost1 rb wd) 0)) (Ix) (T2) wr) := by
        unfold Hid
        rw [mix_zero, upd_same HGX.out]
        exact HSX.out
       clear HSX HGX
       go_wp2_with fail
       go_loopw [135] (fun vi wr => ∃ i : Nat, i ≤ wd ∧ vi = .int .i64 (i : Int) ∧ SV w gt g1 g2 g3 ⟨.int .i64 (n : Int), .slice A1 n c1, .slice A2 n c2, .slice A3 m c3, .slice AR m cR, .slice Ar m cr, .slice Ab m cb, .slice Ap n cp, .slice Am n cm, rb, wd, .slice Ai m ci, vT⟩ gs (turnN p.rows m) #[.int .i64 (n : Int), .slice A1 n c1, .slice A2 n c2, .slice A3 m c3] base (upd Hx gc (mix (List.replicate wd 0) (cost1 rb wd) i)) (Ix) (T2) wr) (fun vi _ => wd - (intOf vi).toNat)
       case atStart => exact ⟨0, Nat.zero_le _, rfl, HS0z.out⟩
       case round =>
        obtain ⟨i, hi, rfl, hsx⟩ := hrel
        have HSX := Hd hsx
        clear hsx HS0z
        have HML : Hid ((mix (List.replicate wd (0 : Rat)) (cost1 rb wd) i).length = wd) := by unfold Hid; rw [mix_length (by rw [List.length_replicate, cost1_len]), cost1_len]
        by_cases hlt : i < wd
        ·have m1 : (i : Int) < (wd : Int) := by omega
         have m3 : (i : Int).toNat = i := by omega
         have m4 : (0 : Int) ≤ (i : Int) := by omega
         go_wp2_with fail
         refine (number_calls0 _).mono ?_
         rintro e w3 ⟨v, rfl, hv, hb⟩
         obtain ⟨D7, n9, c9, D8, n10, c10, rfl, HF6⟩ := hv.opened
         have HS3 := Hd (HSX.out.to hb)
         obtain ⟨⟨o0, o1, o2, z0, z1, z2⟩, ⟨f0, f1, f2⟩, hgol⟩ := HS3.out.at3 (upd_self _ _ _) (by rw [HML.out]; exact hlt)
         clear hv hb HSX
         go_wp2_with fail
         have HS4 := HS3.out.put (upd_self _ _ _) (by rw [HML.out]; exact hlt) small_q0 HF6.out HNC.out
         rw [upd_upd, mix_set (by rw [List.length_replicate, cost1_len]) (by rw [List.getElem?_replicate, if_pos hlt])] at HS4
         go_roundw
         case rel => exact ⟨i + 1, by omega, by go_num, HS4⟩
         case measure => simp [intOf]; omega
        ·obtain rfl : wd = i := by omega
         have HS0e : Hid (SV w gt g1 g2 g3 ⟨.int .i64 (n : Int), .slice A1 n c1, .slice A2 n c2, .slice A3 m c3, .slice AR m cR, .slice Ar m cr, .slice Ab m cb, .slice Ap n cp, .slice Am n cm, rb, wd, .slice Ai m ci, vT⟩ gs (turnN p.rows m) #[.int .i64 (n : Int), .slice A1 n c1, .slice A2 n c2, .slice A3 m c3] base (upd Hx gc (fillN (varsN p.free n).1 (varsN p.free n).2.1 p.goal wd 0)) (Ix) (T2) wr) := by
          unfold Hid
          have := HSX.out
          rw [show mix (List.replicate wd (0 : Rat)) (cost1 rb wd) wd = List.replicate wd 0 by
           have h1 := mix_all (X := List.replicate wd (0 : Rat)) (L := cost1 rb wd) (by rw [List.length_replicate, cost1_len])
           rwa [cost1_len] at h1] at this
          exact this
         clear HSX hlt hi
         obtain ⟨y0, y1, y2, y3⟩ := HS0e.out.b1.c4
         have hl1 := HS0e.out.b1.lt
         go_wp2_with fail
         clear y0 y1 y2 y3 hl1
         go_loopw [145] (fun vi wr => ∃ v : Nat, v ≤ n ∧ vi = .int .i64 (v : Int) ∧ SV w gt g1 g2 g3 ⟨.int .i64 (n : Int), .slice A1 n c1, .slice A2 n c2, .slice A3 m c3, .slice AR m cR, .slice Ar m cr, .slice Ab m cb, .slice Ap n cp, .slice Am n cm, rb, wd, .slice Ai m ci, vT⟩ gs (turnN p.rows m) #[.int .i64 (n : Int), .slice A1 n c1, .slice A2 n c2, .slice A3 m c3] base (upd Hx gc (fillN (varsN p.free n).1 (varsN p.free n).2.1 p.goal wd v)) (Ix) (T2) wr) (fun vi _ => n - (intOf vi).toNat)
         case atStart => exact ⟨0, Nat.zero_le _, rfl, HS0e.out⟩
         case round =>
          obtain ⟨v, hv, rfl, hsx⟩ := hrel
          have HSX := Hd hsx
          clear hsx HS0e
          obtain ⟨fl, hfl⟩ : ∃ l, l = fillN (varsN p.free n).1 (varsN p.free n).2.1 p.goal wd v := ⟨_, rfl⟩
          have HFLE := Hd hfl
          have HFLL : Hid (fl.length = wd) := by unfold Hid; rw [hfl]; exact fillN_len ..
          rw [← hfl] at HSX
          clear hfl
          by_cases hlt : v < n
          ·have m1 : (v : Int) < (n : Int) := by omega
           have m3 : (v : Int).toNat = v := by omega
           have m4 : (0 : Int) ≤ (v : Int) := by omega
           obtain ⟨pv, hpv⟩ : ∃ x, (varsN p.free n).1[v]? = some x := ⟨(varsN p.free n).1[v]'(by rw [varsN_len1]; exact hlt), geq _⟩
           obtain ⟨mv, hmv⟩ : ∃ x, (varsN p.free n).2.1[v]? = some x := ⟨(varsN p.free n).2.1[v]'(by rw [varsN_len2]; exact hlt), geq _⟩
           obtain ⟨q, hq⟩ : ∃ x, p.goal[v]? = some x := ⟨p.goal[v]'(by rw [HGOL.out]; exact hlt), geq _⟩
           have hpr := varsN_lt1 p.free n pv (mog hpv)
           have hmr := varsN_lt2 p.free n mv (mog hmv)
           have HSQ : Hid (Small q) := HSP.out.1 q (mog hq)
           have HPD : Hid ((varsN p.free n).1.getD v 0 = pv) := getD_at hpv
           have HMD : Hid ((varsN p.free n).2.1.getD v 0 = mv) := getD_at hmv
           have HQD : Hid (p.goal.getD v 0 = q) := getD_at hq
           have hvr : (varsN p.free n).2.2 ≤ rb := by rw [← HRBE.out]; exact slackN_ge _ _ _
           obtain ⟨np, rfl⟩ : ∃ k : Nat, pv = k := ⟨pv.toNat, by omega⟩
           have hnp : np < wd := by omega
           have HPV : Hid (T2.plus[v]? = some (np : Int)) := by unfold Hid; rw [HSH2.out.plus]; exact hpv
           have HMV : Hid (T2.minus[v]? = some mv) := by unfold Hid; rw [HSH2.out.minus]; exact hmv
           have HPL2 : Hid (0 < T2.plus.length) := by have h1 := (List.getElem?_eq_some_iff.1 HPV.out).1; unfold Hid; omega
           have HML2 : Hid (0 < T2.minus.length) := by have h1 := (List.getElem?_eq_some_iff.1 HMV.out).1; unfold Hid; omega
           obtain ⟨gP, rfl, hgP⟩ := (show VI Ix (.slice Ap n cp) T2.plus from HSX.out.tv.plus).at_ HPL2.out
           obtain ⟨gM, rfl, hgM⟩ := (show VI Ix (.slice Am n cm) T2.minus from HSX.out.tv.minus).at_ HML2.out
           obtain ⟨k0, hgPl, _⟩ := HSX.out.view.iat hgP HPV.out
           have HGM := Hd hgM
           have HQV := Hd hq
           obtain ⟨gq, oq, A5, n5, c5, A6, n6, c6, rfl, hgq, a0, a1, a2, HFQ⟩ := QO.at3 (OL.below EFQ.stays HGO.out HSX.out.below) hq
           obtain ⟨⟨o0, o1, o2, z0, z1, z2⟩, ⟨f0, f1, f2⟩, hgol⟩ := HSX.out.at3 (upd_self _ _ _) (by rw [HFLL.out]; exact hnp)
           obtain ⟨y0, y1, y2, y3⟩ := HSX.out.b1.c4
           have hl1 := HSX.out.b1.lt
           have q5 : (np : Int) < (wd : Int) := by omega
           have q6 : (np : Int).toNat = np := by omega
           have q7 : (0 : Int) ≤ (np : Int) := by omega
           clear hgP hgM hpv hmv hq
           obtain ⟨x0, x4, x5, x6, x7, x8, x9, x10, x11, x12⟩ := HSX.out.tw.1.c13
           have hltt := HSX.out.tw.1.lt
           have k3 : wr.cell? ⟨g3, 0, none⟩ = some (.pointer (some ⟨gt, 0, none⟩)) := HSX.out.b3.cell rfl
           have hl3 := HSX.out.b3.lt
           go_wp2_with fail
           refine wp_chainF (l := [_, _, _, _, _, _, _, _, _, _, _, _, _, _, _]) (S := Below wr.heap.size wr) 14 [([0, 1, 2, 3, 4, 5, 6, 7, 8, 9, 10, 11, 12], 13)] [] (by kernel_rfl) (by kernel_rfl) (by kernel_rfl) rfl Bd ?_
           refine ⟨?_, _, ?_, rfl, ?_⟩
           rotate_left
           ·(iterate 13 ((refine pu ?_); (try simp only [SQ])))
            exact rfl
           have D0 : Hid (Below wr.heap.size wr wr.drew) := Bd
           clear x0 x4 x5 x6 x7 x8 x9 x10 x11 x12 hltt k3 hl3
           clear k0 hgPl a0 a1 a2 hgq y0 y1 y2 y3 hl1
           go_wp2_with fail
           refine And.intro D0.out ⟨_, rfl, ?_⟩
           simp only [SQ, List.drop_succ_cons, List.drop_zero]
           go_wp2_with fail
           refine NoPanic.normal ?_
           have hst := (HSX.out.put (upd_self _ _ _) (by rw [HFLL.out]; exact hnp) HSQ.out HFQ.out HNC.out).to Bd
           rw [upd_upd] at hst
           obtain ⟨W9, hW9⟩ : ∃ W, W = (put3 wr gc (np * 3) (.bool (negQ q)) (.slice A5 n5 c5) (.slice A6 n6 c6)).drew := ⟨_, rfl⟩
           rw [← hW9] at hst
           rw [show (((wr.setCell ⟨gc, np * 3, none⟩ (.bool (negQ q))).setCell ⟨gc, np * 3 + 1, none⟩ (.slice A5 n5 c5)).setCell ⟨gc, np * 3 + 2, none⟩ (.slice A6 n6 c6)).drew = W9 from hW9.symm]
           have HS9 := Hd hst
           clear hst hW9 D0 HFQ z0 z1 z2 f0 f1 f2 hgol HSX q5 q6 q7
           obtain ⟨kM, hgMl, _⟩ := HS9.out.view.iat HGM.out HMV.out
           obtain ⟨x0, x4, x5, x6, x7, x8, x9, x10, x11, x12⟩ := HS9.out.tw.1.c13
           have hltt := HS9.out.tw.1.lt
           have k3 : W9.cell? ⟨g3, 0, none⟩ = some (.pointer (some ⟨gt, 0, none⟩)) := HS9.out.b3.cell rfl
           have hl3 := HS9.out.b3.lt
           by_cases hm0 : 0 ≤ mv
           case neg =>
            have HNX : Hid (fillN (varsN p.free n).1 (varsN p.free n).2.1 p.goal wd (v + 1) = fl.set np q) := by
             unfold Hid
             rw [fillN, HMD.out, if_neg hm0, HPD.out, HQD.out, Int.toNat_natCast, ← HFLE.out]
            have u : decide (0 ≤ mv) = false := decide_eq_false hm0
            have u' : mv < 0 := by omega
            clear hm0
            go_wp2_with fail
            go_roundw
            case rel => exact ⟨v + 1, by omega, by go_num, by rw [HNX.out]; exact HS9.out⟩
            case measure => simp [intOf]; omega
           obtain ⟨nm, rfl⟩ : ∃ k : Nat, mv = k := ⟨mv.toNat, by omega⟩
           have hnm : nm < wd := by omega
           have HNX : Hid (fillN (varsN p.free n).1 (varsN p.free n).2.1 p.goal wd (v + 1) = (fl.set np q).set nm (-q)) := by
            unfold Hid
            rw [fillN, HMD.out, if_pos hm0, HPD.out, HQD.out, Int.toNat_natCast, Int.toNat_natCast, ← HFLE.out]
           obtain ⟨gq', oq', A5, n5, c5, A6, n6, c6, eB, hgq, a0, a1, a2, HQ5⟩ := QO.at3 (OL.below EFQ.stays HGO.out HS9.out.below) HQV.out
           obtain ⟨rfl, rfl⟩ : gq = gq' ∧ oq = oq' := by injection eB with eB; injection eB with e1 e2; exact ⟨e1, e2⟩
           obtain ⟨y0, y1, y2, y3⟩ := HS9.out.b1.c4
           have hl1 := HS9.out.b1.lt
           have q5 : (nm : Int) < (wd : Int) := by omega
           have q6 : (nm : Int).toNat = nm := by omega
           have q7 : (0 : Int) ≤ (nm : Int) := by omega
           clear eB hm0
           go_wp2_with fail
           refine wp_chainF (l := [_, _, _, _, _, _, _, _, _, _, _, _, _, _, _, _]) (S := Below W9.heap.size W9) 15 [([0, 1, 2, 3, 4, 5, 6, 7, 8, 9, 10, 11, 12], 13), ([], 14)] [] (by kernel_rfl) (by kernel_rfl) (by kernel_rfl) rfl Bd ?_
           refine ⟨?_, _, ?_, rfl, ?_⟩
           rotate_left
           ·(iterate 13 ((refine pu ?_); (try simp only [SQ])))
            exact rfl
           have D0 : Hid (Below W9.heap.size W9 W9.drew) := Bd
           clear x0 x4 x5 x6 x7 x8 x9 x10 x11 x12 hltt k3 hl3
           clear kM hgMl a0 a1 a2 hgq y0 y1 y2 y3 hl1
           go_wp2_with fail
           refine (fneg_calls _ _ (rawQ q) (FR.of_fq (HQ5.out.of_below D0.out) HSQ.out)).mono ?_
           rintro e w6 ⟨v6, rfl, hv6, hb⟩
           rw [fixQ_raw _ HSQ.out] at hv6
           obtain ⟨D7, n9, c9, D8, n10, c10, rfl, HF6⟩ := hv6.opened
           have D6 := Hd (below_next D0.out hb)
           have HS6 := Hd (HS9.out.to D6.out)
           clear hv6 hb
           go_wp2_with fail
           refine And.intro D6.out ⟨_, _, rfl, rfl, ?_⟩
           go_wp2_with fail
           refine And.intro D6.out ⟨_, rfl, ?_⟩
           simp only [SQ, List.drop_succ_cons, List.drop_zero]
           obtain ⟨⟨o3, o4, o5, z0, z1, z2⟩, ⟨f0, f1, f2⟩, hgol⟩ := HS6.out.at3 (upd_self _ _ _) (by rw [List.length_set, HFLL.out]; exact hnm)
           go_wp2_with fail
           refine NoPanic.normal ?_
           have hst := HS6.out.put (upd_self _ _ _) (by rw [List.length_set, HFLL.out]; exact hnm) (small_neg HSQ.out) HF6.out HNC.out
           rw [upd_upd] at hst
           go_wp2_with fail
           go_roundw
           case rel => exact ⟨v + 1, by omega, by go_num, by rw [HNX.out]; exact hst⟩
           case measure => simp [intOf]; omega
          ·obtain rfl : n = v := by omega
           have hc2e : fl = cost2 p n m := by rw [HFLE.out]; unfold cost2; rw [HWDE.out]
           rw [hc2e] at HSX HFLL
           clear hc2e HFLE hlt hv
           obtain ⟨x0, x4, x5, x6, x7, x8, x9, x10, x11, x12⟩ := HSX.out.tw.1.c13
           have hltt := HSX.out.tw.1.lt
           have k3 : wr.cell? ⟨g3, 0, none⟩ = some (.pointer (some ⟨gt, 0, none⟩)) := HSX.out.b3.cell rfl
           have hl3 := HSX.out.b3.lt
           go_wp2_with fail
           refine (treduced' base (upd Hx gc (cost2 p n m)) Ix wr gt _ gs (turnN p.rows m) T2 gc wd (cost2 p n m) wd HFLL.out.symm HSX.out.view HSX.out.tw HSX.out.tv (upd_self _ _ _) HFLL.out (by rw [HFLL.out]; exact HBO2.out) (by omega) (by omega) (by rw [HSH2.out.rows, HTR.out]; omega)).mono ?_
           rintro e w2 ⟨gg2, cg2, rfl, hgg, hggl, hv2, hb2⟩
           have hgl := reduced_len HFLL.out HRW2.out
           rw [hgl]
           have HS2 := Hd (HSX.out.add hv2 hb2 hgg)
           have HNG2 : Hid (¬ Owned ⟨.int .i64 (n : Int), .slice A1 n c1, .slice A2 n c2, .slice A3 m c3, .slice AR m cR, .slice Ar m cr, .slice Ab m cb, .slice Ap n cp, .slice Am n cm, rb, wd, .slice Ai m ci, vT⟩ gs gg2) := HSX.out.fresh hgg
           have HCG2 : Hid (gc ≠ gg2) := by
            have h1 := HSX.out.view.lt (upd_self Hx gc (cost2 p n m))
            unfold Hid
            omega
           have HGL2 := Hd hgl
           clear hv2 hb2 hgg hggl hgl HSX
           obtain ⟨gn2, hgn2⟩ : ∃ g, g = reducedQ (cost2 p n m) T2 := ⟨_, rfl⟩
           rw [← hgn2] at HS2 HGL2 HC2
           clear hgn2
           clear x0 x4 x5 x6 x7 x8 x9 x10 x11 x12 hltt k3 hl3
           go_upto_region 40 with (fail)
           go_cut [13] from 189 to 195 (fun s13 wc => ∃ gz Hz Iz, s13 = .pointer (some ⟨gz, 0, none⟩) ∧ SV w gt g1 g2 g3 ⟨.int .i64 (n : Int), .slice A1 n c1, .slice A2 n c2, .slice A3 m c3, .slice AR m cR, .slice Ar m cr, .slice Ab m cb, .slice Ap n cp, .slice Am n cm, rb, wd, .slice Ai m ci, vT⟩ gs (turnN p.rows m) #[.int .i64 (n : Int), .slice A1 n c1, .slice A2 n c2, .slice A3 m c3] base (Hz) (Iz) (T3) wc ∧ Hz gc = some (cost2 p n m) ∧ Hz gg2 = some gf3 ∧ wc.cell? ⟨gz, 0, none⟩ = some (.int .i64 e3) ∧ gz < wc.heap.size)
           case first =>
            obtain ⟨x0, x4, x5, x6, x7, x8, x9, x10, x11, x12⟩ := HS2.out.tw.1.c13
            have hltt := HS2.out.tw.1.lt
            have k3 : w2.cell? ⟨g3, 0, none⟩ = some (.pointer (some ⟨gt, 0, none⟩)) := HS2.out.b3.cell rfl
            have hl3 := HS2.out.b3.lt
            have hl30 := hl3
            have hltt0 := hltt
            go_wp2_with fail
            refine wp_tree (l := [_, _, _, _, _, _, _, _, _]) (S := Same2 gt g3 w2) 8 (.two [0, 1, 2, 3, 4, 5] 6 (.one [] 7 (.fin [])) 7 (.one [] 6 (.fin []))) (by kernel_rfl) (by kernel_rfl) (by kernel_rfl) rfl ⟨SameT.of_below Bd hltt, SameT.of_below Bd hl3⟩ ?_
            refine ⟨?_, _, _, ?_, rfl, rfl, ?_, ?_⟩
            rotate_left
            ·(iterate 6 ((refine ⟨_, ?_, rfl, Or.inl ⟨by rfl, ?_⟩, ?_⟩; rotate_left; focus (intro W hW; have hcW := hW.1; have hcW2 := hW.2; clear hW; unfold SameT at hcW hcW2; go_simp; try with_reducible rfl)); (try simp only [SQ])))
             exact rfl
            ·have HD : Hid (Below w2.heap.size w2 w2.drew) := Bd
             have HSd := Hd (HS2.out.to HD.out)
             clear x0 x4 x5 x6 x7 x8 x9 x10 x11 x12 hltt k3 hl3
             generalize w2.drew = W3 at *
             go_wp2_with fail
             refine (climb_calls base (upd (upd Hx gc (cost2 p n m)) gg2 gn2) Ix W3 gt _ gs (turnN p.rows m) T2 gg2 cg2 gn2 rb fuel (e3, T3, gf3) HSd.out.view HSd.out.tw HSd.out.tv (upd_self _ _ _) HGL2.out (fun h => HNG2.out (.inl h)) (fun k x e => HNG2.out (.inr ⟨k, x, e⟩)) HAP.out hrw (by show wd ≤ 1000000; omega) (by rw [HSH2.out.rows, HTR.out]; omega) HC2.out).mono ?_
             rintro e w4 ⟨rfl, H5, I5, hv4, ht4, hg4, hf4, hc4, hi4⟩
             have HS5 := Hd (HSd.out.chg hc4 hv4 ht4)
             have HG5 : Hid (H5 gc = some (cost2 p n m)) := by
              unfold Hid
              rw [hf4 gc HNC.out HCG2.out, upd_ne HCG2.out]
              exact upd_self _ _ _
             have HGG5 : Hid (H5 gg2 = some gf3) := hg4
             have X1 : Hid (Same2 gt g3 w2 w4) := ⟨SameT.of_blk HS2.out.tw.1 HS5.out.tw.1, SameT.of_blk HS2.out.b3 HS5.out.b3⟩
             clear hv4 ht4 hg4 hf4 hc4 hi4
             go_wp2_with fail
             refine And.intro X1.out ⟨_, _, rfl, rfl, ?_⟩
             go_wp2_with fail
             have hnb := below_new w4 (.cells #[.int .i64 0] 3)
             have X2 : Hid (Same2 gt g3 w2 (w4.alloc (.cells #[.int .i64 0] 3))) := ⟨X1.out.1.trans (SameT.of_below hnb HS5.out.tw.1.lt), X1.out.2.trans (SameT.of_below hnb HS5.out.b3.lt)⟩
             refine And.intro X2.out ⟨_, rfl, ?_⟩
             simp only [SQ, List.drop_succ_cons, List.drop_zero]
             have HS6 := Hd (HS5.out.box 0)
             have hno := HS5.out.noint (g := w4.heap.size) (Nat.le_refl _)
             have HNO2 := Hd hno
             obtain ⟨gz, hgz⟩ : ∃ g, g = w4.heap.size := ⟨_, rfl⟩
             rw [← hgz] at HS6 HNO2 ⊢
             clear hgz hno hnb
             generalize w4.alloc (.cells #[.int .i64 0] 3) = W5 at *
             obtain ⟨k5, hgzl, hfz⟩ := HS6.out.view.iat (upd_self _ _ _) (i := 0) rfl
             have fz := hfz 0
             clear hfz
             go_wp2_with fail
             refine NoPanic.normal ?_
             have hS7 := HS6.out.boxset (upd_self _ _ _) HNO2.out e3
             exact sq42 _
            ·have HD : Hid (Below w2.heap.size w2 w2.drew) := Bd
             have HSd := Hd (HS2.out.to HD.out)
             clear x0 x4 x5 x6 x7 x8 x9 x10 x11 x12 hltt k3 hl3
             generalize w2.drew = W3 at *
             go_wp2_with fail
             have hnb := below_new W3 (.cells #[.int .i64 0] 3)
             have X1 : Hid (Same2 gt g3 w2 (W3.alloc (.cells #[.int .i64 0] 3))) := ⟨(SameT.of_below HD.out hltt0).trans (SameT.of_below hnb HSd.out.tw.1.lt), (SameT.of_below HD.out hl30).trans (SameT.of_below hnb HSd.out.b3.lt)⟩
             refine And.intro X1.out ⟨_, _, rfl, rfl, ?_⟩
             have HS6 := Hd (HSd.out.box 0)
             have hno := HSd.out.noint (g := W3.heap.size) (Nat.le_refl _)
             have HNO2 := Hd hno
             obtain ⟨gz, hgz⟩ : ∃ g, g = W3.heap.size := ⟨_, rfl⟩
             rw [← hgz] at HS6 HNO2 ⊢
             clear hgz hno hnb X1
             generalize W3.alloc (.cells #[.int .i64 0] 3) = W5 at *
             go_wp2_with fail
             refine (climb_calls base (upd (upd Hx gc (cost2 p n m)) gg2 gn2) (upd Ix gz [0]) W5 gt _ gs (turnN p.rows m) T2 gg2 cg2 gn2 rb fuel (e3, T3, gf3) HS6.out.view HS6.out.tw HS6.out.tv (upd_self _ _ _) HGL2.out (fun h => HNG2.out (.inl h)) (fun k x e => HNG2.out (.inr ⟨k, x, e⟩)) HAP.out hrw (by show wd ≤ 1000000; omega) (by rw [HSH2.out.rows, HTR.out]; omega) HC2.out).mono ?_
             rintro e w4 ⟨rfl, H5, I5, hv4, ht4, hg4, hf4, hc4, hi4⟩
             have HS5 := Hd (HS6.out.chg hc4 hv4 ht4)
             have HG5 : Hid (H5 gc = some (cost2 p n m)) := by
              unfold Hid
              rw [hf4 gc HNC.out HCG2.out, upd_ne HCG2.out]
              exact upd_self _ _ _
             have HGG5 : Hid (H5 gg2 = some gf3) := hg4
             have HI5 : Hid (I5 gz = some [0]) := (hi4 gz HNO2.out.1).trans (upd_self _ _ _)
             have X2 : Hid (Same2 gt g3 w2 w4) := ⟨SameT.of_blk HS2.out.tw.1 HS5.out.tw.1, SameT.of_blk HS2.out.b3 HS5.out.b3⟩
             clear hv4 ht4 hg4 hf4 hc4 hi4
             go_wp2_with fail
             refine And.intro X2.out ⟨_, rfl, ?_⟩
             simp only [SQ, List.drop_succ_cons, List.drop_zero]
             obtain ⟨k5, hgzl, hfz⟩ := HS5.out.view.iat HI5.out (i := 0) rfl
             have fz := hfz 0
             clear hfz
             go_wp2_with fail
             refine NoPanic.normal ?_
             have hS7 := HS5.out.boxset HI5.out HNO2.out e3
             exact sq42 _
           case rest =>
            obtain ⟨gz, Hz, Iz, rfl, hsz, hgz1, hgz2, hkz, hlz⟩ := hcut
            have HSZ := Hd hsz
            have HGZ := Hd hgz1
            have HGZ2 := Hd hgz2
            have HKZ := Hd hkz
            have HLZ := Hd hlz
            have hcs3 := climb_shape (wd := wd) hrw HC2.out HBO2.out
            have HSH3 : Hid (SameShape (buildTab p n m) T3) := HSH2.out.trans hcs3.1
            have HBO3 : Hid (BaseOk wd T3) := hcs3.2.1
            have he3 : e3 < (rb : Int) := hcs3.2.2
            have HGF3 : Hid (gf3.length = wd) := (climb_rows HC2.out HRW2.out HGL2.out).2
            have HRL3 : Hid (T3.rows.length = m) := by unfold Hid; rw [HSH3.out.rows]; exact HTR.out
            have HBL3 : Hid (T3.base.length = m) := by unfold Hid; rw [HSZ.out.tv.baseLen]; exact HRL3.out
            have HRT3 : Hid (T3.right.length = m) := by unfold Hid; rw [HSZ.out.tv.rightLen]; exact HRL3.out
            have HPL3 : Hid (T3.plus.length = n) := by unfold Hid; rw [HSH3.out.plus]; exact varsN_len1 _ _
            have HML3 : Hid (T3.minus.length = n) := by unfold Hid; rw [HSH3.out.minus]; exact varsN_len2 _ _
            have HPB3 : Hid (∀ x ∈ T3.plus, 0 ≤ x ∧ x < (wd : Int)) := by
             unfold Hid
             rw [HSH3.out.plus]
             intro x hx
             have h1 := varsN_lt1 p.free n x hx
             have h2 : (varsN p.free n).2.2 ≤ rb := by rw [← HRBE.out]; exact slackN_ge _ _ _
             omega
            have HMB3 : Hid (∀ x ∈ T3.minus, x < (wd : Int)) := by
             unfold Hid
             rw [HSH3.out.minus]
             intro x hx
             have h1 := varsN_lt2 p.free n x hx
             have h2 : (varsN p.free n).2.2 ≤ rb := by rw [← HRBE.out]; exact slackN_ge _ _ _
             omega
            clear hsz hgz1 hgz2 hkz hlz hcs3 HS2
            obtain ⟨x0, x4, x5, x6, x7, x8, x9, x10, x11, x12⟩ := HSZ.out.tw.1.c13
            have hltt := HSZ.out.tw.1.lt
            have k3 : wc.cell? ⟨g3, 0, none⟩ = some (.pointer (some ⟨gt, 0, none⟩)) := HSZ.out.b3.cell rfl
            have hl3 := HSZ.out.b3.lt
            go_wp2_with fail
            refine wp_chainF (l := [_, _, _, _, _, _]) (S := Below wc.heap.size wc) 5 [([0, 1, 2], 3), ([], 4)] [] (by kernel_rfl) (by kernel_rfl) (by kernel_rfl) rfl Bd ?_
            refine ⟨?_, _, ?_, rfl, ?_⟩
            rotate_left
            ·(iterate 3 ((refine pu ?_); (try simp only [SQ])))
             exact rfl
            have D0 : Hid (Below wc.heap.size wc wc.drew) := Bd
            have HSd := Hd (HSZ.out.to D0.out)
            clear x0 x4 x5 x6 x7 x8 x9 x10 x11 x12 hltt k3 hl3
            go_wp2_with fail
            refine (columns_x base Hz Iz wc.drew gt _ gs (turnN p.rows m) T3 (fun i => T3.right.getD i 0) g3 HSd.out.view HSd.out.tw HSd.out.tv (fun i => getD_small (small_right HSd.out.view HSd.out.tv) i) (fun W i hb hi => clo_right base Hz Iz W gt g3 ⟨.int .i64 (n : Int), .slice A1 n c1, .slice A2 n c2, .slice A3 m c3, .slice AR m cR, .slice Ar m cr, .slice Ab m cb, .slice Ap n cp, .slice Am n cm, rb, wd, .slice Ai m ci, vT⟩ gs (turnN p.rows m) T3 i (HSd.out.view.below hb) (HSd.out.tw.below hb) HSd.out.tv (HSd.out.b3.below hb HSd.out.b3.lt) (by rw [HRT3.out, ← HBL3.out]; exact hi) (by rw [HRT3.out]; omega)) HBO3.out (by show wd ≤ 1000000; omega) (by rw [HBL3.out]; omega) (by show 0 < wd; omega)).mono ?_
            rintro e w4 ⟨gk, ck, rfl, hgk, hgkl, hv4, hb4⟩
            have D4 := Hd (below_next D0.out hb4)
            have HS4 := Hd (HSd.out.add hv4 hb4 hgk)
            have hcl : (colN wd T3.base (fun i => T3.right.getD i 0) T3.base.length).length = wd := colN_length _ _ _ _
            have HCL := Hd hcl
            have HGK : Hid (wc.heap.size ≤ gk) := hgk
            have HGK2 : Hid (gk < w4.heap.size) := hgkl
            clear hgk hgkl hv4 hb4 hcl
            obtain ⟨cols, hcols⟩ : ∃ l, l = colN wd T3.base (fun i => T3.right.getD i 0) T3.base.length := ⟨_, rfl⟩
            have HCOL := Hd hcols
            rw [← hcols] at HS4 HCL ⊢
            clear hcols
            go_wp2_with fail
            refine And.intro D4.out ⟨_, _, rfl, rfl, ?_⟩
            go_wp2_with fail
            refine (point_calls base (upd Hz gk cols) Iz w4 gt _ gs (turnN p.rows m) T3 gk ck cols HS4.out.view HS4.out.tw HS4.out.tv (by show Value.int .i64 (n : Int) = _; rw [HPL3.out]) (upd_self _ _ _) (by rw [HML3.out, HPL3.out]) (by rw [HCL.out]; exact HPB3.out) (by rw [HCL.out]; exact HMB3.out) (by rw [HPL3.out]; omega) (by rw [HPL3.out]; omega)).mono ?_
            rintro e w5 ⟨gx, cx, rfl, hgx, hgxl, hv5, hb5, hcap⟩
            have HCX := Hd hcap
            clear hcap
            have D5 := Hd (below_next D4.out hb5)
            have HS5 := Hd (HS4.out.add hv5 hb5 hgx)
            have HXL : Hid ((pointQ T3 cols).length = n) := by unfold Hid pointQ; rw [List.length_zipWith, HPL3.out, HML3.out, Nat.min_self]
            have HGX : Hid (w4.heap.size ≤ gx) := hgx
            have HGX2 : Hid (gx < w5.heap.size) := hgxl
            clear hgx hgxl hv5 hb5
            have HKd : Hid (w5.cell? ⟨gz, 0, none⟩ = some (.int .i64 e3)) := ((bcell D5.out).1 gz 0 HLZ.out).trans HKZ.out
            have HLd : Hid (gz < w5.heap.size) := Nat.lt_of_lt_of_le HLZ.out D5.out.size
            have HG5 : Hid (upd (upd Hz gk cols) gx (pointQ T3 cols) gc = some (cost2 p n m)) := by
             have h1 := HSZ.out.view.lt HGZ.out
             have h2 := D4.out.size
             unfold Hid
             rw [upd_ne (by have := HGX.out; omega), upd_ne (by have := HGK.out; omega)]
             exact HGZ.out
            have HGG5 : Hid (upd (upd Hz gk cols) gx (pointQ T3 cols) gg2 = some gf3) := by
             have h1 := HSZ.out.view.lt HGZ2.out
             have h2 := D4.out.size
             unfold Hid
             rw [upd_ne (by have := HGX.out; omega), upd_ne (by have := HGK.out; omega)]
             exact HGZ2.out
            go_wp2_with fail
            refine And.intro D5.out ⟨_, rfl, ?_⟩
            simp only [SQ, List.drop_succ_cons, List.drop_zero]
            have hkd := HKd.out
            have hld := HLd.out
            by_cases hneg : e3 < 0
            ·have HBAD : Hid (c = ⟨1, xOf T3 (widthB p n m), multQ T3 (turnN p.rows m) (cost2 p n m) gf3, []⟩) := HCE.out.trans (if_pos hneg)
             have hxe : xOf T3 (widthB p n m) = pointQ T3 cols := by unfold xOf; rw [HWDE.out, HCOL.out]
             rw [hxe] at HBAD
             have u : decide (e3 < 0) = true := decide_eq_true hneg
             clear hxe
             obtain ⟨x0, x4, x5, x6, x7, x8, x9, x10, x11, x12⟩ := HS5.out.tw.1.c13
             have hltt := HS5.out.tw.1.lt
             have k3 : w5.cell? ⟨g3, 0, none⟩ = some (.pointer (some ⟨gt, 0, none⟩)) := HS5.out.b3.cell rfl
             have hl3 := HS5.out.b3.lt
             go_wp2_with fail
             refine NoPanic.normal ?_
             go_wp2_with fail
             refine (mult' base (upd (upd Hz gk cols) gx (pointQ T3 cols)) Iz w5 gt _ gs (turnN p.rows m) T3 gc wd gg2 cg2 (cost2 p n m) gf3 wd HFLL.out.symm HS5.out.view HS5.out.tw HS5.out.tv HG5.out HGG5.out (by rw [HGF3.out, HFLL.out]) (by rw [turnN_len _ _ (by rw [HRL.out]; exact Nat.le_refl _), HS5.out.tv.idLen, HRL3.out]) (by rw [HSH3.out.id]; exact HBW.out) (by rw [HS5.out.tv.idLen, HRL3.out]; omega)).mono ?_
             rintro e w6 ⟨go, co, rfl, hgo, hgol, hv6, hb6, hcap⟩
             have HCO := Hd hcap
             clear hcap
             have HS6 := Hd (HS5.out.to hb6)
             have HV6 := Hd hv6
             have hn2 : go ≠ g2 := fun e => by have h1 := HS5.out.b2.lt; omega
             have HGO2 := Hd hn2
             have hnx : gx ≠ go := fun e => by have h1 := HGX2.out; omega
             have HNX2 := Hd hnx
             have hnx2 : gx ≠ g2 := fun e => by have h1 := HS4.out.b2.lt; have := HGX.out; omega
             have HNX3 := Hd hnx2
             clear x0 x4 x5 x6 x7 x8 x9 x10 x11 x12 hltt k3 hl3
             clear hgo hgol hv6 hb6 hn2 hnx hnx2 u hneg hkd hld
             obtain ⟨y0, y1, y2, y3⟩ := HS6.out.b2.c4
             obtain ⟨f0, f1, f2, f3⟩ := HS6.out.b2.f4
             have hl2 := HS6.out.b2.lt
             go_wp2_with fail
             have ho := put4_only HS6.out.b2 zc_words (.int .i64 1) (.slice (some ⟨gx, 0, none⟩) (pointQ T3 cols).length cx) (.slice (some ⟨go, 0, none⟩) (multQ T3 (turnN p.rows m) (cost2 p n m) gf3).length co) (.slice none 0 0)
             exact ret44 Try.results76 rfl (HS6.out.b2.put4 _ _ _ _) ⟨_, _, .slice none 0 0, by rw [HBAD.out], by rw [HBAD.out]; exact LV.of HV6.out (g := gx) ((upd_ne HNX2.out).trans (upd_self _ _ _)) ho HNX3.out HBA.out rfl HCX.out, by rw [HBAD.out]; exact LV.of HV6.out (upd_self _ _ _) ho HGO2.out HBA.out rfl HCO.out, by rw [HBAD.out]; exact LV.nil _ _, below_put4 HS6.out.below HG2.out _ _ _ _⟩
            obtain ⟨cl, rfl⟩ : ∃ k : Nat, e3 = k := ⟨e3.toNat, by omega⟩
            have hclw : cl < wd := by omega
            have HBAD : Hid (c = ⟨3, xOf T3 (widthB p n m), [], rayOf T3 (widthB p n m) cl⟩) := HCE.out.trans (if_neg hneg)
            have hxe : xOf T3 (widthB p n m) = pointQ T3 cols := by unfold xOf; rw [HWDE.out, HCOL.out]
            have hre : rayOf T3 (widthB p n m) cl = pointQ T3 ((colN wd T3.base (fun i => -((T3.rows.getD i []).getD cl 0)) T3.base.length).set cl 1) := by unfold rayOf; rw [HWDE.out]
            rw [hxe, hre] at HBAD
            have u : decide ((cl : Int) < 0) = false := decide_eq_false hneg
            have u' : (0 : Int) ≤ (cl : Int) := by omega
            clear hxe hre hneg
            obtain ⟨x0, x4, x5, x6, x7, x8, x9, x10, x11, x12⟩ := HS5.out.tw.1.c13
            have hltt := HS5.out.tw.1.lt
            have k3 : w5.cell? ⟨g3, 0, none⟩ = some (.pointer (some ⟨gt, 0, none⟩)) := HS5.out.b3.cell rfl
            have hl3 := HS5.out.b3.lt
            go_wp2_with fail
            refine NoPanic.normal ?_
            go_wp2_with fail
            refine (columns_r base (upd (upd Hz gk cols) gx (pointQ T3 cols)) Iz w5 gt _ gs (turnN p.rows m) T3 (fun i => -((T3.rows.getD i []).getD cl 0)) g3 gz HS5.out.view HS5.out.tw HS5.out.tv (fun i => small_neg (small_rows HS5.out.view HS5.out.tv i cl)) (fun W i hb hi => clo_ray base (upd (upd Hz gk cols) gx (pointQ T3 cols)) Iz W gt g3 gz ⟨.int .i64 (n : Int), .slice A1 n c1, .slice A2 n c2, .slice A3 m c3, .slice AR m cR, .slice Ar m cr, .slice Ab m cb, .slice Ap n cp, .slice Am n cm, rb, wd, .slice Ai m ci, vT⟩ gs (turnN p.rows m) T3 i cl (HS5.out.view.below hb) (HS5.out.tw.below hb) HS5.out.tv (HS5.out.b3.below hb HS5.out.b3.lt) (((bcell hb).1 gz 0 HLd.out).trans HKd.out) (Nat.lt_of_lt_of_le HLd.out hb.size) (by rw [HRL3.out, ← HBL3.out]; exact hi) (by rw [HRL3.out]; omega) (by show cl < wd; exact hclw) (by show wd ≤ 1000000; omega)) HBO3.out (by show wd ≤ 1000000; omega) (by rw [HBL3.out]; omega) (by show 0 < wd; omega)).mono ?_
            rintro e w6 ⟨gr, cr', rfl, hgr, hgrl, hv6, hb6⟩
            have D6 := Hd hb6
            have HS6 := Hd (HS5.out.add hv6 hb6 hgr)
            have HNGR : Hid (¬ Owned ⟨.int .i64 (n : Int), .slice A1 n c1, .slice A2 n c2, .slice A3 m c3, .slice AR m cR, .slice Ar m cr, .slice Ab m cb, .slice Ap n cp, .slice Am n cm, rb, wd, .slice Ai m ci, vT⟩ gs gr) := HS5.out.fresh hgr
            have HGR2 : Hid (w5.heap.size ≤ gr) := hgr
            have hcl : (colN wd T3.base (fun i => -((T3.rows.getD i []).getD cl 0)) T3.base.length).length = wd := colN_length _ _ _ _
            obtain ⟨cols2, hcols2⟩ : ∃ l, l = colN wd T3.base (fun i => -((T3.rows.getD i []).getD cl 0)) T3.base.length := ⟨_, rfl⟩
            have HCOL2 := Hd hcols2
            have HS6' := HS6
            rw [show colN (⟨.int .i64 (n : Int), .slice A1 n c1, .slice A2 n c2, .slice A3 m c3, .slice AR m cR, .slice Ar m cr, .slice Ab m cb, .slice Ap n cp, .slice Am n cm, rb, wd, .slice Ai m ci, vT⟩ : Shape).width T3.base (fun i => -((T3.rows.getD i []).getD cl 0)) T3.base.length = cols2 from hcols2.symm] at HS6'
            rw [show (colN (⟨.int .i64 (n : Int), .slice A1 n c1, .slice A2 n c2, .slice A3 m c3, .slice AR m cR, .slice Ar m cr, .slice Ab m cb, .slice Ap n cp, .slice Am n cm, rb, wd, .slice Ai m ci, vT⟩ : Shape).width T3.base (fun i => -((T3.rows.getD i []).getD cl 0)) T3.base.length).length = wd from hcl]
            rw [← hcols2] at hcl HBAD
            have HCL2 := Hd hcl
            have hkd6 := ((bcell D6.out).1 gz 0 hld).trans hkd
            have hld6 := Nat.lt_of_lt_of_le hld D6.out.size
            clear x0 x4 x5 x6 x7 x8 x9 x10 x11 x12 hltt k3 hl3
            clear hgr hgrl hv6 hb6 hcl hcols2 HS6 hkd hld
            go_wp2_with fail
            refine wp_chainF (l := [_, _, _, _, _]) (S := Below w6.heap.size w6) 4 [([0, 1], 2), ([], 3)] [] (by kernel_rfl) (by kernel_rfl) (by kernel_rfl) rfl Bd ?_
            refine ⟨?_, _, ?_, rfl, ?_⟩
            rotate_left
            ·(iterate 2 ((refine pu ?_); (try simp only [SQ])))
             exact rfl
            have D7 : Hid (Below w6.heap.size w6 w6.drew) := Bd
            go_wp2_with fail
            refine (number_calls1 _).mono ?_
            rintro e w7 ⟨v, rfl, hv, hb⟩
            obtain ⟨D8, n9, c9, D9, n10, c10, rfl, HF7⟩ := hv.opened
            have D10 := Hd (below_next D7.out hb)
            have HS7 := Hd (HS6'.out.to D10.out)
            clear hv hb
            go_wp2_with fail
            refine And.intro D10.out ⟨_, _, rfl, rfl, ?_⟩
            go_wp2_with fail
            refine And.intro D10.out ⟨_, rfl, ?_⟩
            simp only [SQ, List.drop_succ_cons, List.drop_zero]
            obtain ⟨⟨o0, o1, o2, z0, z1, z2⟩, ⟨f0, f1, f2⟩, hgol⟩ := HS7.out.at3 (upd_self _ _ _) (by rw [HCL2.out]; exact hclw)
            go_wp2_with fail
            refine NoPanic.normal ?_
            have hst := HS7.out.put (upd_self _ _ _) (by rw [HCL2.out]; exact hclw) small_one HF7.out HNGR.out
            rw [upd_upd] at hst
            have HP7 : Hid (Only gr w7 (put3 w7 gr (cl * 3) (.bool (negQ 1)) (.slice D8 n9 c9) (.slice D9 n10 c10))) := put3_only (HS7.out.view.blk (upd_self _ _ _)).choose_spec.1 (HS7.out.view.blk (upd_self _ _ _)).choose_spec.2
            obtain ⟨W8, hW8⟩ : ∃ W, W = put3 w7 gr (cl * 3) (.bool (negQ 1)) (.slice D8 n9 c9) (.slice D9 n10 c10) := ⟨_, rfl⟩
            rw [← hW8] at hst HP7
            rw [show ((w7.setCell ⟨gr, cl * 3, none⟩ (.bool (negQ 1))).setCell ⟨gr, cl * 3 + 1, none⟩ (.slice D8 n9 c9)).setCell ⟨gr, cl * 3 + 2, none⟩ (.slice D9 n10 c10) = W8 from hW8.symm]
            have HS8 := Hd hst
            clear hst hW8 z0 z1 z2 f0 f1 f2 hgol hkd6 hld6
            obtain ⟨x0, x4, x5, x6, x7, x8, x9, x10, x11, x12⟩ := HS8.out.tw.1.c13
            have hltt := HS8.out.tw.1.lt
            have k3 : W8.cell? ⟨g3, 0, none⟩ = some (.pointer (some ⟨gt, 0, none⟩)) := HS8.out.b3.cell rfl
            have hl3 := HS8.out.b3.lt
            go_wp2_with fail
            refine (point_calls' base (upd (upd (upd Hz gk cols) gx (pointQ T3 cols)) gr (cols2.set cl 1)) Iz W8 gt _ gs (turnN p.rows m) T3 gr cr' (cols2.set cl 1) wd (by rw [List.length_set, HCL2.out]) HS8.out.view HS8.out.tw HS8.out.tv (by show Value.int .i64 (n : Int) = _; rw [HPL3.out]) (upd_self _ _ _) (by rw [HML3.out, HPL3.out]) HPB3.out HMB3.out (by rw [HPL3.out]; omega) (by rw [HPL3.out]; omega)).mono ?_
            rintro e w9 ⟨gy, cy, rfl, hgy, hgyl, hv9, hb9, hcap⟩
            have HCY := Hd hcap
            clear hcap
            have HS9 := Hd (HS8.out.to hb9)
            have HV9 := Hd hv9
            have hsz7 : w5.heap.size ≤ w7.heap.size := Nat.le_trans D6.out.size D10.out.size
            have hsz8 : w7.heap.size ≤ W8.heap.size := HP7.out.1.1
            have HNY2 : Hid (gy ≠ g2) := fun e => by have h1 := HS8.out.b2.lt; omega
            have HNX2 : Hid (gx ≠ gy) := fun e => by have h1 := HGX2.out; omega
            have HNXR : Hid (gx ≠ gr) := fun e => by have h1 := HGX2.out; have h2 := HGR2.out; omega
            have HNX3 : Hid (gx ≠ g2) := fun e => by have h1 := HS4.out.b2.lt; have := HGX.out; omega
            clear x0 x4 x5 x6 x7 x8 x9 x10 x11 x12 hltt k3 hl3
            clear hgy hgyl hv9 hb9 hsz7 hsz8 u u'
            obtain ⟨y0, y1, y2, y3⟩ := HS9.out.b2.c4
            obtain ⟨f0, f1, f2, f3⟩ := HS9.out.b2.f4
            have hl2 := HS9.out.b2.lt
            go_wp2_with fail
            have ho := put4_only HS9.out.b2 zc_words (.int .i64 3) (.slice (some ⟨gx, 0, none⟩) (pointQ T3 cols).length cx) (.slice none 0 0) (.slice (some ⟨gy, 0, none⟩) (pointQ T3 (cols2.set cl 1)).length cy)
            exact ret44 Try.results76 rfl (HS9.out.b2.put4 _ _ _ _) ⟨_, .slice none 0 0, _, by rw [HBAD.out], by rw [HBAD.out]; exact LV.of HV9.out (g := gx) ((upd_ne HNX2.out).trans ((upd_ne HNXR.out).trans (upd_self _ _ _))) ho HNX3.out HBA.out rfl HCX.out, by rw [HBAD.out]; exact LV.nil _ _, by rw [HBAD.out]; exact LV.of HV9.out (upd_self _ _ _) ho HNY2.out HBA.out rfl HCY.out, below_put4 HS9.out.below HG2.out _ _ _ _⟩
def zeroC : CertQ := ⟨0, [], [], []⟩
def solveCode (p : ProgF) : Int := if rightP p ≠ 0 then rightP p else if 72 < p.vars ∨ 200 < p.rows.length then 1 else 0
def CertPost (w : World) (c : CertQ) (n : Int) (e : Ending) (w' : World) : Prop := ∃ v1 v2 v3, e = .returned (.tuple #[.agg #[.int .i64 c.kind, v1, v2, v3], .int .i64 n]) ∧ LV w.heap.size w' v1 c.x ∧ LV w.heap.size w' v2 c.y ∧ LV w.heap.size w' v3 c.ray ∧ Below w.heap.size w w'
theorem ret44i {fn : Func} {p t : Tmp} {Post : Ending → World → Prop} {tmps : Array Value} {w : World} {g : Nat} {a b c d r : Value} (hres : fn.results = #[.cell p 44, .tmp t]) (hp : tmps.getD p undef = .pointer (some ⟨g, 0, none⟩)) (ht : tmps.getD t undef = r) (hb : Blk w g 44 #[a, b, c, d])
  (hP : Post (.returned (.tuple #[.agg #[a, b, c, d], r])) w) : bodyPost Try.prog fn Post Exit.ret { tmps := tmps, defers := [] } w := by
 refine bodyPost_ret (v := .tuple #[.agg #[a, b, c, d], r]) ?_ rfl hP
 have hp' : tmps[p]?.getD undef = .pointer (some ⟨g, 0, none⟩) := by simpa using hp
 have ht' : tmps[t]?.getD undef = r := by simpa using ht
 simp [results, hres, hp', ht', asAddr, run_loadVar_row (P := Try.prog) w g 44 44 #[a, b, c, d] (0, 0) _ hb Try.underlying44 rfl info44s]
theorem LV.slice {base : Nat} {w : World} {v : Value} {qs : List Rat} (h : LV base w v qs) : ∃ A c, v = .slice A qs.length c := by
 rcases h.2 with ⟨rfl, rfl⟩ | ⟨g, c, rfl, _⟩
 ·exact ⟨_, _, rfl⟩
 ·exact ⟨_, _, rfl⟩
theorem LV.put {base g t : Nat} {w : World} {v : Value} {qs : List Rat} {cs : Array Value} (h : LV base w v qs) (hb : Blk w g t cs) (hn : ∀ u ∈ cs, notWord u = true) (ht : t ≠ 40) (a b c d : Value) : LV base ((((w.setCell ⟨g, 0, none⟩ a).setCell ⟨g, 1, none⟩ b).setCell ⟨g, 2, none⟩ c).setCell ⟨g, 3, none⟩ d) v qs := by
 have ho := put4_only hb hn a b c d
 obtain ⟨hs, h⟩ := h
 refine ⟨hs, ?_⟩
 rcases h with h | ⟨k, cc, e, hk, hr, hcc⟩
 ·exact .inl h
 ·obtain ⟨cs', hb', _⟩ := id hr
  exact .inr ⟨k, cc, e, hk, hr.same (ho.2.1 k hb'.lt (Blk.ne_typ hb' hb (fun e => ht e.symm))) ho.1, hcc⟩
theorem LV.fl {base : Nat} {w : World} {v : Value} {qs : List Rat} (h : LV base w v qs) : FL w v (qs.map rawQ) := by
 obtain ⟨hs, h⟩ := h
 rcases h with ⟨rfl, rfl⟩ | ⟨g, c, rfl, _, ⟨cs, hb, hn, hx⟩, hcc⟩
 ·exact FL.nil w
 ·have h1 : SL 3 EFQ w (.slice (some ⟨g, 0, none⟩) qs.length c) qs := ⟨some ⟨g, 0, none⟩, c, rfl, hcc, fun _ => ⟨g, 0, rfl, hb.lt, fun j q hj => by
   obtain ⟨x, y, z, e0, e1, e2, hf⟩ := hx j q hj
   refine ⟨#[x, y, z], rfl, fun i u hi => ?_, hf⟩
   rw [Nat.zero_add]
   match i, hi with
   | 0, hi =>
    obtain rfl : x = u := by simpa using hi
    exact hb.cell e0
   | 1, hi =>
    obtain rfl : y = u := by simpa using hi
    exact hb.cell e1
   | 2, hi =>
    obtain rfl : z = u := by simpa using hi
    exact hb.cell e2
   | k + 3, hi => simp at hi⟩⟩
  exact SL.mapE rawQ h1 fun vs q hq he => FR.of_fq he (hs q hq)
theorem LV.lower {base b0 : Nat} {w : World} {v : Value} {qs : List Rat} (h : LV base w v qs) (hb : b0 ≤ base) : LV b0 w v qs := by
 obtain ⟨hs, h⟩ := h
 refine ⟨hs, ?_⟩
 rcases h with h | ⟨k, cc, e, hk, hr⟩
 ·exact .inl h
 ·exact .inr ⟨k, cc, e, Nat.le_trans hb hk, hr⟩
theorem sq52 (P : Prop) (h : P := by
 go_wp2_with fail
 rw [HSC.out, HCZ.out]
 exact ret44i Try.results36 rfl rfl ((K1.out.blk 0 rfl).put4 _ _ _ _) ⟨_, _, _, rfl, LV.nil _ _, LV.nil _ _, LV.nil _ _, below_put4 K1.out.2 (by simp) _ _ _ _⟩) : P := h
theorem psolve_calls (w : World) (v : Value) (p : ProgF) (fuel : Nat) (c : CertQ) (h : PR w v p) (hs : if solveCode p = 0 then solveQ (cleanQ p) p.vars.toNat p.rows.length fuel = some c else c = zeroC) : Calls Try.prog 36 #[v] w fun e w' => CertPost w c (solveCode p) e w' := by
 have HP := Hd h
 have HSO := Hd hs
 obtain ⟨A1, c1, A2, c2, A3, c3, rfl, HI, H1, H2, H3⟩ := h.opened
 clear h hs
 obtain ⟨vars, hv⟩ : ∃ n, n = p.vars := ⟨_, rfl⟩
 rw [← hv] at HP ⊢
 have HV := Hd hv
 clear hv
 go_enter Try.func36, Try.ntmps36
 go_wp2_with fail
 have H0 := Hd (HS.two (w := w) #[.int .i64 vars, .slice A1 p.free.length c1, .slice A2 p.goal.length c2, .slice A3 p.rows.length c3] #[.int .i64 0, .slice none 0 0, .slice none 0 0, .slice none 0 0] 26 44)
 have hsz0 : ((w.alloc (.cells #[.int .i64 vars, .slice A1 p.free.length c1, .slice A2 p.goal.length c2, .slice A3 p.rows.length c3] 26)).alloc (.cells #[.int .i64 0, .slice none 0 0, .slice none 0 0, .slice none 0 0] 44)).heap.size = w.heap.size + 2 := by simp
 generalize (w.alloc (.cells #[.int .i64 vars, .slice A1 p.free.length c1, .slice A2 p.goal.length c2, .slice A3 p.rows.length c3] 26)).alloc (.cells #[.int .i64 0, .slice none 0 0, .slice none 0 0, .slice none 0 0] 44) = W0 at *
 have hsz1 : w.heap.size + 2 ≤ W0.heap.size := by omega
 clear hsz0
 refine (pright_calls W0 _ p (HP.out.of_below H0.out.2)).mono ?_
 rintro e w1 ⟨rfl, hb⟩
 have K1 := Hd (H0.out.step hb)
 have hsz2 : w.heap.size + 2 ≤ w1.heap.size := by have := hb.size; omega
 obtain ⟨x0, x1, x2, x3⟩ := K1.out.c4 1 rfl
 have hlt1 := (K1.out.blk 1 rfl).lt
 obtain ⟨j0, j1, j2, j3⟩ := (K1.out.blk 0 rfl).c4
 obtain ⟨f0, f1, f2, f3⟩ := (K1.out.blk 0 rfl).f4
 have hlt0 := (K1.out.blk 0 rfl).lt
 clear hb hsz1
 by_cases q1 : rightP p = 0
 case neg =>
  have u1 : (rightP p != 0) = true := bneI q1
  have HSC : Hid (solveCode p = rightP p) := by unfold Hid solveCode; rw [if_pos q1]
  have HCZ : Hid (c = zeroC) := by have := HSO.out; rw [if_neg (by rw [HSC.out]; exact q1)] at this; exact this
  clear q1
  exact sq52 _
 have u1 : (rightP p != 0) = false := beqI q1
 have hrl := rightP_len q1
 have HRS : Hid (∀ r ∈ p.rows, (r.a.length : Int) = p.vars ∧ -1 ≤ r.s ∧ r.s ≤ 1) := hrl.2.2.2.2.2
 have hv1 : 1 ≤ vars := by have := HV.out; have := hrl.2.2.1; omega
 have hv2 : vars ≤ 160 := by have := HV.out; have := hrl.2.2.2.1; omega
 have hlf : p.free.length ≤ 1000 := by have := hrl.1; have := hrl.2.2.2.1; omega
 have hlg : p.goal.length ≤ 1000 := by have := hrl.2.1; have := hrl.2.2.2.1; omega
 have hlr : p.rows.length ≤ 1000 := by have := hrl.2.2.2.2.1; omega
 have hfe : (p.free.length : Int) = vars := by have := HV.out; have := hrl.1; omega
 have hge : (p.goal.length : Int) = vars := by have := HV.out; have := hrl.2.1; omega
 have HFE := Hd hfe
 have HGE := Hd hge
 have HLA : Hid (∀ r ∈ p.rows, r.a.length ≤ 1000) := fun r hr => by have := (hrl.2.2.2.2.2 r hr).1; have := hrl.2.2.2.1; omega
 have HQ1 := Hd q1
 clear hrl hfe hge q1
 by_cases q2 : 72 < vars
 ·have HSC : Hid (solveCode p = 1) := by unfold Hid solveCode; rw [if_neg (fun e => e HQ1.out), if_pos (.inl (by have := HV.out; omega))]
  have HCZ : Hid (c = zeroC) := by have := HSO.out; rw [if_neg (by rw [HSC.out]; decide)] at this; exact this
  have u2 : decide (72 < vars) = true := decide_eq_true q2
  exact sq52 _
 have u2 : decide (72 < vars) = false := decide_eq_false q2
 by_cases q3 : 200 < p.rows.length
 ·have HSC : Hid (solveCode p = 1) := by unfold Hid solveCode; rw [if_neg (fun e => e HQ1.out), if_pos (.inr q3)]
  have HCZ : Hid (c = zeroC) := by have := HSO.out; rw [if_neg (by rw [HSC.out]; decide)] at this; exact this
  have u3 : decide ((200 : Int) < (p.rows.length : Int)) = true := dct
  have u4 : (200 : Int) < (p.rows.length : Int) := by omega
  exact sq52 _
 have u3 : decide ((200 : Int) < (p.rows.length : Int)) = false := dcf
 have u4 : ¬ (200 : Int) < (p.rows.length : Int) := by omega
 have HSC : Hid (solveCode p = 0) := by unfold Hid solveCode; rw [if_neg (fun e => e HQ1.out), if_neg]; intro x; rcases x with x | x; have := HV.out; omega; exact q3 x
 have HCS : Hid (solveQ (cleanQ p) p.vars.toNat p.rows.length fuel = some c) := by have := HSO.out; rw [if_pos HSC.out] at this; exact this
 clear q3
 go_wp2_with fail
 refine (clean_calls w1 _ p (HP.out.of_below K1.out.2) hlf hlg hlr HLA.out).mono ?_
 rintro e w2 ⟨v1, v2, v3, rfl, hfr, hq, hro, hb⟩
 rw [show (cleanQ p).vars = vars from HV.out.symm]
 have hq' : QO w1.heap.size w2 v2 (p.goal.map fixQ) := hq
 have hro' : RO w1.heap.size w2 v3 (p.rows.map cleanR) := hro
 have hfr' : FrO 0 w2 v1 p.free := hfr
 obtain ⟨B2, d2, ev2, _⟩ := hq'.slice
 rw [lmp] at ev2
 subst ev2
 obtain ⟨B3, d3, ev3, _⟩ := OL.slice hro'
 rw [lmp] at ev3
 subst ev3
 obtain ⟨B1, d1, rfl, _⟩ := hfr'.1.slice
 have K2 := Hd (K1.out.step hb)
 have hsz3 : w.heap.size + 2 ≤ w2.heap.size := by have := hb.size; omega
 obtain ⟨n, rfl⟩ : ∃ n : Nat, vars = n := ⟨vars.toNat, by omega⟩
 have hfn : p.free.length = n := by have := HFE.out; omega
 have hgn : p.goal.length = n := by have := HGE.out; omega
 have hvn : p.vars.toNat = n := by have := HV.out; omega
 have HCS2 : Hid (solveQ (cleanQ p) n p.rows.length fuel = some c) := by unfold Hid; rw [← hvn]; exact HCS.out
 rw [hfn, hgn]
 rw [hfn] at hfr'
 rw [hgn] at hq'
 have HFRb : Hid (BL w2 (.slice B1 n d1) p.free) := hfr'.1
 have HGOb : Hid (OL 3 40 EFQ 0 w2 (.slice B2 n d2) (cleanQ p).goal) := hq'.lower (Nat.zero_le _)
 have HROb : Hid (RO 0 w2 (.slice B3 p.rows.length d3) (cleanQ p).rows) := RO.lower hro' (Nat.zero_le _)
 have HRAb : Hid (∀ r ∈ (cleanQ p).rows, r.a.length = n) := fun r hr => by
  obtain ⟨r', hr', rfl⟩ := List.mem_map.1 hr
  show (r'.a.map fixQ).length = n
  rw [lmp]
  have h1 := (HRS.out r' hr').1
  have h2 := HV.out
  omega
 have HSSb : Hid (∀ r ∈ (cleanQ p).rows, -1 ≤ r.s ∧ r.s ≤ 1) := fun r hr => by
  obtain ⟨r', hr', rfl⟩ := List.mem_map.1 hr
  exact (HRS.out r' hr').2
 have HGNb : Hid ((cleanQ p).goal.length = n) := by unfold Hid; show (p.goal.map fixQ).length = n; rw [lmp]; exact hgn
 have HRNb : Hid ((cleanQ p).rows.length = p.rows.length) := by unfold Hid; show (p.rows.map cleanR).length = _; rw [lmp]
 have HFNb : Hid ((cleanQ p).free.length = n) := hfn
 clear hfr hq hro hb hq' hro' hfr' hfn hgn hvn x0 x1 x2 x3 hlt1 j0 j1 j2 j3 f0 f1 f2 f3 hlt0 hsz2
 go_wp2_with fail
 refine (solve_calls w2 n p.rows.length fuel B1 B2 B3 d1 d2 d3 (cleanQ p) c (by omega) (by omega) hlr HFNb.out HGNb.out HRNb.out HFRb.out HGOb.out HROb.out HRAb.out (small_clean p) HSSb.out HCS2.out).mono ?_
 rintro e w3 ⟨v1, v2, v3, rfl, hl1, hl2, hl3, hb⟩
 have K3 := Hd (K2.out.step hb)
 obtain ⟨A4, c4, e4⟩ := hl1.slice
 obtain ⟨A5, c5, e5⟩ := hl2.slice
 obtain ⟨A6, c6, e6⟩ := hl3.slice
 subst e4 e5 e6
 have HL1 := Hd (hl1.lower (Nat.le_trans (Nat.le_add_right _ 2) hsz3))
 have HL2 := Hd (hl2.lower (Nat.le_trans (Nat.le_add_right _ 2) hsz3))
 have HL3 := Hd (hl3.lower (Nat.le_trans (Nat.le_add_right _ 2) hsz3))
 obtain ⟨j0, j1, j2, j3⟩ := (K3.out.blk 0 rfl).c4
 obtain ⟨f0, f1, f2, f3⟩ := (K3.out.blk 0 rfl).f4
 have hlt0 := (K3.out.blk 0 rfl).lt
 clear hl1 hl2 hl3 hb
 go_wp2_with fail
 rw [HSC.out]
 exact ret44i Try.results36 rfl rfl ((K3.out.blk 0 rfl).put4 _ _ _ _) ⟨_, _, _, rfl, HL1.out.put (K3.out.blk 0 rfl) zc_words (by decide) _ _ _ _, HL2.out.put (K3.out.blk 0 rfl) zc_words (by decide) _ _ _ _, HL3.out.put (K3.out.blk 0 rfl) zc_words (by decide) _ _ _ _, below_put4 K3.out.2 (by simp) _ _ _ _⟩
theorem rlowest1_calls (w : World) (v v2 : Value) (neg : Bool) (m : Nat) (q : Rat) (hq : mkRat (sg neg m) 1 = q) (h : RN w v m) (h2 : RN w v2 1) (hm : wlen m ≤ 8) :
  Calls Try.prog 132 #[.bool neg, v, v2] w fun e w' => FPost w q e w' := by
 subst hq
 have HRN := Hd h
 have HRN2 := Hd h2
 obtain ⟨A, c, xs, rfl, hc, HX, _⟩ := h.opened
 obtain ⟨A2, c2, ys, rfl, hc2, HY, _⟩ := h2.opened
 have e1 : ys.length = 1 := by rw [HY.out]; rfl
 rw [e1] at HRN2 ⊢
 obtain ⟨l1, hl1⟩ : ∃ l, l = xs.length := ⟨_, rfl⟩
 have hw1 : l1 = wlen m := by rw [hl1, HX.out]; rfl
 rw [← hl1] at HRN ⊢
 clear h h2 hl1 HX HY hc hc2 e1
 go_enter Try.func132, Try.ntmps132
 by_cases hm0 : m = 0
 ·have q0 : ((l1 : Int) == 0) = true := eqb0 (by rw [hw1, hm0]; rfl)
  have HQ : Hid (mkRat (sg neg m) 1 = 0) := by unfold Hid; rw [hm0, mk_zero]
  clear hw1 hm0
  go_wp2_with fail
  have H0 := Hd (HS.one (w := w) #[.bool false, .slice none 0 0, .slice none 0 0] 40)
  generalize w.alloc (.cells #[.bool false, .slice none 0 0, .slice none 0 0] 40) = W0 at *
  refine (rzero_calls W0).mono ?_
  rintro e w1 ⟨v, rfl, hv, hb⟩
  obtain ⟨A5, n5, c5, A6, n6, c6, rfl, HV⟩ := hv.opened
  have H1 := Hd (H0.out.step hb)
  clear hv hb
  obtain ⟨e0, e1, e2⟩ := (H1.out.blk 0 rfl).c3
  obtain ⟨f0, f1, f2⟩ := (H1.out.blk 0 rfl).f3
  go_wp2_with fail
  rw [HQ.out]
  exact end40 Try.results132 rfl (H1.out.blk 0 rfl) HV.out (Nat.le_refl _) H1.out.2
 have hl10 : 0 < l1 := by rw [hw1]; exact wlen_pos.2 hm0
 have q0 : ((l1 : Int) == 0) = false := neb0 (by omega)
 have HM0 := Hd hm0
 have hl8 : l1 ≤ 8 := by omega
 rcases HRN2.out.head (by decide) with ⟨_, h1⟩ | ⟨_, _, gg, oo, rfl, hgg, hcell⟩
 ·exact absurd rfl h1
 ·have hc1 : w.cell? ⟨gg, oo, none⟩ = some (.int .u32 1) := hcell
  have wl := i64w ((l1 : Int) + (1 : Int))
  have t1 : decide ((l1 : Int) + (1 : Int) > 4096) = false := dcf
  have H0 := Hd (HS.one (w := w) #[.bool false, .slice none 0 0, .slice none 0 0] 40)
  obtain ⟨e0, e1, e2⟩ := (H0.out.blk 0 rfl).c3
  obtain ⟨f0, f1, f2⟩ := (H0.out.blk 0 rfl).f3
  clear hcell hw1 hm0 hm
  go_wp2_with fail
  exact ret40 Try.results132 rfl (Blk.new w 40 _) ⟨_, rfl, fq_mk (g := 1) (by decide) HM0.out (Nat.gcd_one_right _).symm (by rw [Nat.div_one]; exact HRN.out.of_below (below_new w _)) (HRN2.out.of_below (below_new w _)), below_new w _⟩
theorem rright1_calls (w : World) (v : Value) (f : RawF) (h : FR w v f) (hr : RightF f) (hd : f.den = [1]) (hl : f.num.length ≤ 8) :
  Calls Try.prog 87 #[v] w fun e w' => BPost w true e w' := by
 obtain ⟨_, v1, v2, rfl, h1, h2⟩ := h
 obtain ⟨A1, c1, rfl, hc1⟩ := h1.slice
 obtain ⟨A2, c2, rfl, hc2⟩ := h2.slice
 obtain ⟨s, xs, ys⟩ := f
 simp only at *
 subst hd
 have R1 := Hd h1
 have HRF := Hd hr
 obtain ⟨g2, o2, rfl, hg2, hcell2⟩ := h2.at_ (by decide)
 have hk2 : w.cell? ⟨g2, o2, none⟩ = some (.int .u32 1) := hcell2
 have R2 : Hid (Rd w (.slice (some ⟨g2, o2, none⟩) 1 c2) [1]) := h2
 rw [show ([1] : List Nat).length = 1 from rfl]
 clear h1 h2 hr hcell2 hc1 hc2
 go_enter Try.func87, Try.ntmps87
 go_wp2_with fail
 go_quiet (fail)
 have q3 : decide ((xs.length : Int) > 4096) = false := dcf
 have wl := i64w ((xs.length : Int) + (1 : Int))
 have q1 : decide ((xs.length : Int) + (1 : Int) > 4096) = false := dcf
 have hcw := (bcell (pw_drewN (below_new w (.cells #[.bool s, .slice A1 xs.length c1, .slice (some ⟨g2, o2, none⟩) 1 c2] 40)) nq)).1
 have HW1 := Hd (pw_drewN (below_new w (.cells #[.bool s, .slice A1 xs.length c1, .slice (some ⟨g2, o2, none⟩) 1 c2] 40)) nq)
 by_cases x0 : xs.length = 0
 ·have y0 := eqb0 x0
  obtain rfl : s = false := (rightF_zero HRF.out (List.eq_nil_of_length_eq_zero x0)).2
  clear x0
  go_wp2_with fail
  go_ret
  exact ⟨rfl, HW1.out⟩
 have y0 := neb0 x0
 obtain ⟨g1, o1, rfl, hg1, hcell1⟩ := R1.out.at_ (by omega)
 have m2 : ((xs.length : Int) - 1).toNat = xs.length - 1 := by omega
 have m3 : 0 ≤ (xs.length : Int) - 1 := by omega
 have m4 : (xs.length : Int) - 1 < (xs.length : Int) := by omega
 have mw := i64w ((xs.length : Int) - 1)
 have z3 : ((nat xs (xs.length - 1) : Int) == 0) = false := neb0 (rightF_num HRF.out (fun h => x0 (by rw [show xs = [] from h]; rfl))).1
 clear x0 hl
 go_wp2_with fail
 go_ret
 exact ⟨rfl, HW1.out⟩
theorem rfix1_calls (w : World) (v : Value) (q : Rat) (h : FQ w v q) (hd : q.den = 1) (hl : wlen q.num.natAbs ≤ 8) : Calls Try.prog 51 #[v] w fun e w' => FPost w q e w' := by
 have w1 : wlen 1 = 1 := by decide
 have hs : sizeQ q ≤ 4096 := by unfold sizeQ; rw [hd]; omega
 have hfr : FR w v (rawQ q) := FR.of_fq h hs
 obtain ⟨A1, n1, c1, A2, n2, c2, rfl, H⟩ := h.opened
 have HFR := Hd hfr
 have HDD : Hid ((rawQ q).den = [1]) := by show dg q.den = [1]; rw [hd]; rfl
 have HLL : Hid ((rawQ q).num.length ≤ 8) := hl
 have HSS := Hd hs
 obtain ⟨s, hs⟩ : ∃ s, s = negQ q := ⟨_, rfl⟩
 rw [← hs] at H HFR ⊢
 clear h hfr hd hl hs
 go_enter Try.func51, Try.ntmps51
 go_wp2_with fail
 have H0 := Hd (HS.two (w := w) #[.bool s, .slice A1 n1 c1, .slice A2 n2 c2] #[.bool false, .slice none 0 0, .slice none 0 0] 40 40)
 generalize (w.alloc (.cells #[.bool s, .slice A1 n1 c1, .slice A2 n2 c2] 40)).alloc (.cells #[.bool false, .slice none 0 0, .slice none 0 0] 40) = W0 at *
 refine (rright1_calls _ _ (rawQ q) (HFR.out.of_below H0.out.2) ⟨q, HSS.out, rfl⟩ HDD.out HLL.out).mono ?_
 rintro e w1 ⟨rfl, hb⟩
 have H1 := Hd (H0.out.step hb)
 clear hb
 obtain ⟨d0, d1, d2⟩ := (H1.out.blk 1 rfl).c3
 obtain ⟨e0, e1, e2⟩ := (H1.out.blk 0 rfl).c3
 obtain ⟨f0, f1, f2⟩ := (H1.out.blk 0 rfl).f3
 go_wp2_with fail
 exact end40 Try.results51 rfl (H1.out.blk 0 rfl) (H.out.of_below H1.out.2) (by omega) H1.out.2
theorem rproduct1_calls (w : World) (v v2 : Value) (a b : Rat) (h : FQ w v a) (h2 : FQ w v2 b) (ha : a.den = 1) (hb : b.den = 1) (ha2 : wlen a.num.natAbs ≤ 4) (hb2 : wlen b.num.natAbs ≤ 4) : Calls Try.prog 122 #[v, v2] w fun e w' => FPost w (a * b) e w' := by
 obtain ⟨A1, k1, c1, A2, k2, c2, rfl, HF⟩ := h.opened
 obtain ⟨A3, k3, c3, A4, k4, c4, rfl, HG⟩ := h2.opened
 clear h h2
 obtain ⟨sa, hsa⟩ : ∃ s, s = negQ a := ⟨_, rfl⟩
 obtain ⟨sb, hsb⟩ : ∃ s, s = negQ b := ⟨_, rfl⟩
 rw [← hsa] at HF ⊢
 rw [← hsb] at HG ⊢
 have HSA := Hd hsa
 have HSB := Hd hsb
 have r1 := (FQ.parts HF.out).2.1
 have r2 := (FQ.parts HF.out).2.2
 have r3 := (FQ.parts HG.out).2.1
 have r4 := (FQ.parts HG.out).2.2
 have R1 := Hd r1
 have R2 := Hd r2
 have R3 := Hd r3
 have R4 := Hd r4
 have l1 := wlen_mul a.num.natAbs b.num.natAbs
 have w1 : wlen 1 = 1 := by decide
 have HQ : Hid (mkRat (sg (!sa == sb) (a.num.natAbs * b.num.natAbs)) 1 = a * b) := by
  have e : mkRat (sg (!sa == sb) (a.num.natAbs * b.num.natAbs)) (a.den * b.den) = a * b := by
   rw [HSA.out, HSB.out, ← sg_mul]
   congr 2
  rw [ha, hb] at e
  exact e
 have l5 := wlen_mul a.num.natAbs b.num.natAbs
 rw [ha] at R2
 rw [hb] at R4
 clear hsa hsb r1 r2 r3 r4 ha hb HF HG
 go_enter Try.func122, Try.ntmps122
 go_wp2_with fail
 have H0 := Hd (HS.three (w := w) #[.bool sa, .slice A1 k1 c1, .slice A2 k2 c2] #[.bool sb, .slice A3 k3 c3, .slice A4 k4 c4] #[.bool false, .slice none 0 0, .slice none 0 0] 40 40 40)
 generalize ((w.alloc (.cells #[.bool sa, .slice A1 k1 c1, .slice A2 k2 c2] 40)).alloc (.cells #[.bool sb, .slice A3 k3 c3, .slice A4 k4 c4] 40)).alloc (.cells #[.bool false, .slice none 0 0, .slice none 0 0] 40) = W0 at *
 obtain ⟨x0, x1, x2⟩ := (H0.out.blk 2 rfl).c3
 obtain ⟨y0, y1, y2⟩ := (H0.out.blk 1 rfl).c3
 have hlt0 := (H0.out.blk 0 rfl).lt
 have hlt1 := (H0.out.blk 1 rfl).lt
 have hlt2 := (H0.out.blk 2 rfl).lt
 refine wp_chainF (l := [_, _, _, _, _, _, _, _, _, _, _, _, _, _, _, _, _]) (S := Below W0.heap.size W0) 16 [([0, 1, 2, 3, 4, 5, 6, 7, 8, 10, 11, 12, 13], 9), ([], 14), ([], 15)] [] (by kernel_rfl) (by kernel_rfl) (by kernel_rfl) rfl Bd ?_
 refine ⟨?_, _, ?_, rfl, ?_⟩
 rotate_left
 ·repeat (refine pu ?_; (try simp only [SQ]))
  exact rfl
 have HB0 : Hid (Below W0.heap.size W0 W0.drew) := Bd
 have HB00 := Hd (below_next H0.out.2 HB0.out)
 go_wp2_with fail
 refine (rtimes_calls _ _ _ _ _ (R1.out.of_below HB00.out) (R3.out.of_below HB00.out) (by omega) (by omega)).mono ?_
 rintro e w1 ⟨v, rfl, hv, hb⟩
 have HB1 := Hd (below_next HB0.out hb)
 have HB01 := Hd (below_next H0.out.2 HB1.out)
 have HV := Hd hv
 obtain ⟨A5, c5, l5', rfl, _, _, _⟩ := RN.opened hv
 clear hv hb
 go_wp2_with fail
 refine And.intro HB1.out ⟨_, _, rfl, rfl, ?_⟩
 go_wp2_with fail
 refine (rtimes_calls _ _ _ _ _ (R2.out.of_below HB01.out) (R4.out.of_below HB01.out) (by omega) (by omega)).mono ?_
 rintro e w2 ⟨v, rfl, hv, hb⟩
 have HB2 := Hd (below_next HB1.out hb)
 have HV1 := Hd (HV.out.of_below hb)
 have HV2 := Hd hv
 obtain ⟨A6, c6, l6', rfl, _, _, _⟩ := RN.opened hv
 clear hv hb
 go_wp2_with fail
 refine And.intro HB2.out ⟨_, _, rfl, rfl, ?_⟩
 go_wp2_with fail
 refine (rlowest1_calls _ _ _ _ _ _ HQ.out HV1.out HV2.out (by omega)).mono ?_
 rintro e w3 ⟨v, rfl, hv, hb⟩
 have HB3 := Hd (below_next HB2.out hb)
 obtain ⟨A7, n7, c7, A8, n8, c8, rfl, HV3⟩ := hv.opened
 have H3 := Hd (H0.out.step HB3.out)
 clear hv hb
 obtain ⟨e0, e1, e2⟩ := (H3.out.blk 0 rfl).c3
 obtain ⟨f0, f1, f2⟩ := (H3.out.blk 0 rfl).f3
 go_wp2_with fail
 refine And.intro HB3.out ⟨_, rfl, ?_⟩
 go_wp2_with fail
 refine NoPanic.normal ?_
 go_wp2_with fail
 exact end40 Try.results122 rfl (H3.out.blk 0 rfl) HV3.out (by omega) H3.out.2
theorem sq57 (P : Prop) (h : P := by
 rintro e w3 ⟨v, rfl, hv, hb⟩
 rw [HCAP.out] at hv
 obtain ⟨A7, n7, c7, A8, n8, c8, rfl, HV3⟩ := hv.opened
 have H3 := Hd (H2.out.step hb)
 clear hb hv
 obtain ⟨e0, e1, e2⟩ := (H3.out.blk 0 rfl).c3
 obtain ⟨f0, f1, f2⟩ := (H3.out.blk 0 rfl).f3
 go_wp2_with fail
 exact end40 Try.results120 rfl (H3.out.blk 0 rfl) HV3.out (Nat.le_refl _) H3.out.2) : P := h
theorem rint1_calls (w : World) (n : Int) (h0 : -9223372036854775808 ≤ n) (h1 : n < 9223372036854775808) :
  Calls Try.prog 120 #[.int .i64 n] w fun e w' => FPost w (n : Rat) e w' := by
 have HCAP : Hid (mkRat n 1 = (n : Rat)) := by
  unfold Hid
  simp [Rat.mkRat_one]
 go_enter Try.func120, Try.ntmps120
 by_cases hn : n < 0
 ·have t1 : decide (n < 0) = true := decide_eq_true hn
  obtain ⟨k, hk⟩ : ∃ k : Nat, n = -((k : Int) + 1) := ⟨(-(n + 1)).toNat, by omega⟩
  have f1 : IntKind.i64.wrap (n + 1) = -(k : Int) := by rw [IntWalk.i64_in _ (by omega)]; omega
  have f2 := i64w (k : Int)
  have f3 := u64w (k : Int)
  have f4 : IntKind.u64.wrap ((k : Int) + 1) = ((k + 1 : Nat) : Int) := by rw [IntWalk.u64_in _ (by omega)]; omega
  have hm : k + 1 < 18446744073709551616 := by omega
  obtain ⟨m, hmk⟩ : ∃ m, k + 1 = m := ⟨_, rfl⟩
  rw [hmk] at f4 hm
  have HK : Hid (sg true m = n) := by unfold Hid sg; rw [if_pos rfl, hk, ← hmk]; omega
  have hw2 : wlen m ≤ 2 := dg_len_two.2 hm
  clear hk hmk hn
  go_wp2_with fail
  have H0 := Hd (HS.one (w := w) #[.bool false, .slice none 0 0, .slice none 0 0] 40)
  generalize w.alloc (.cells #[.bool false, .slice none 0 0, .slice none 0 0] 40) = W0 at *
  refine (rwide_calls W0 m hm).mono ?_
  rintro e w1 ⟨v, rfl, hv, hb⟩
  have H1 := Hd (H0.out.step hb)
  have HV := Hd hv
  obtain ⟨A5, c5, l5', rfl, _, _, _⟩ := RN.opened hv
  clear hb hv
  go_wp2_with fail
  refine (rone_calls w1).mono ?_
  rintro e w2 ⟨g, rfl, hg, hb⟩
  have H2 := Hd (H1.out.step hb)
  have HV2 := Hd (HV.out.of_below hb)
  have HG := Hd hg
  clear hb hg
  go_wp2_with fail
  refine (rlowest1_calls w2 _ _ true m (mkRat n 1) (by rw [HK.out]) HV2.out HG.out (by omega)).mono ?_
  exact sq57 _
 ·have t1 : decide (n < 0) = false := decide_eq_false hn
  obtain ⟨m, hm⟩ : ∃ m : Nat, n = (m : Int) := ⟨n.toNat, by omega⟩
  subst hm
  have f1 := u64w (m : Int)
  have hw2 : wlen m ≤ 2 := dg_len_two.2 (by omega)
  have hm64 : m < 18446744073709551616 := by omega
  clear hn
  go_wp2_with fail
  have H0 := Hd (HS.one (w := w) #[.bool false, .slice none 0 0, .slice none 0 0] 40)
  generalize w.alloc (.cells #[.bool false, .slice none 0 0, .slice none 0 0] 40) = W0 at *
  refine (rwide_calls W0 m hm64).mono ?_
  rintro e w1 ⟨v, rfl, hv, hb⟩
  have H1 := Hd (H0.out.step hb)
  have HV := Hd hv
  obtain ⟨A5, c5, l5', rfl, _, _, _⟩ := RN.opened hv
  clear hb hv
  go_wp2_with fail
  refine (rone_calls w1).mono ?_
  rintro e w2 ⟨g, rfl, hg, hb⟩
  have H2 := Hd (H1.out.step hb)
  have HV2 := Hd (HV.out.of_below hb)
  have HG := Hd hg
  clear hb hg
  go_wp2_with fail
  refine (rlowest1_calls w2 _ _ false m (mkRat m 1) rfl HV2.out HG.out (by omega)).mono ?_
  exact sq57 _
theorem rdiv1_calls (w : World) (v v2 : Value) (p : Rat) (h : FQ w v p) (h2 : FQ w v2 1) (hd : p.den = 1) (hl : wlen p.num.natAbs ≤ 4) : Calls Try.prog 119 #[v, v2] w fun e w' => ∃ v, e = .returned (.tuple #[v, .int .i64 0]) ∧ FQ w' v p ∧ Below w.heap.size w w' := by
 obtain ⟨A1, k1, c1, A2, k2, c2, rfl, HF⟩ := h.opened
 obtain ⟨A3, k3, c3, A4, k4, c4, rfl, HG⟩ := h2.opened
 clear h h2
 obtain ⟨sf, hsf⟩ : ∃ s, s = negQ p := ⟨_, rfl⟩
 obtain ⟨sg1, hsg⟩ : ∃ s, s = negQ (1 : Rat) := ⟨_, rfl⟩
 rw [← hsf] at HF ⊢
 rw [← hsg] at HG ⊢
 clear hsf hsg
 obtain ⟨q, hq⟩ : ∃ q : Rat, q = 1 := ⟨_, rfl⟩
 rw [← hq] at HG
 have HQ := Hd hq
 clear hq
 go_enter Try.func119, Try.ntmps119
 go_wp2_with fail
 have H0 := Hd (HS.three (w := w) #[.bool sf, .slice A1 k1 c1, .slice A2 k2 c2] #[.bool sg1, .slice A3 k3 c3, .slice A4 k4 c4] #[.bool false, .slice none 0 0, .slice none 0 0] 40 40 40)
 generalize ((w.alloc (.cells #[.bool sf, .slice A1 k1 c1, .slice A2 k2 c2] 40)).alloc (.cells #[.bool sg1, .slice A3 k3 c3, .slice A4 k4 c4] 40)).alloc (.cells #[.bool false, .slice none 0 0, .slice none 0 0] 40) = W0 at *
 obtain ⟨x0, x1, x2⟩ := (H0.out.blk 2 rfl).c3
 obtain ⟨y0, y1, y2⟩ := (H0.out.blk 1 rfl).c3
 have hlt0 := (H0.out.blk 0 rfl).lt
 have hlt1 := (H0.out.blk 1 rfl).lt
 have hlt2 := (H0.out.blk 2 rfl).lt
 refine wp_chainF (l := [_, _, _, _, _, _]) (S := Below W0.heap.size W0) 4 [([0, 2], 1), ([], 3)] [] (by kernel_rfl) (by kernel_rfl) (by kernel_rfl) rfl Bd ?_
 refine ⟨?_, _, ?_, rfl, ?_⟩
 rotate_left
 ·repeat (refine pu ?_; (try simp only [SQ]))
  exact rfl
 have HB0 : Hid (Below W0.heap.size W0 W0.drew) := Bd
 have HB00 := Hd (below_next H0.out.2 HB0.out)
 go_wp2_with fail
 refine (rfix1_calls _ _ p (HF.out.of_below HB00.out) hd (by omega)).mono ?_
 rintro e w1 ⟨v, rfl, hv, hb⟩
 have HB1 := Hd (below_next HB0.out hb)
 have HB01 := Hd (below_next H0.out.2 HB1.out)
 obtain ⟨A5, n5, c5, A6, n6, c6, rfl, HV1⟩ := hv.opened
 clear hv hb
 go_wp2_with fail
 refine And.intro HB1.out ⟨_, _, rfl, rfl, ?_⟩
 go_wp2_with fail
 refine (rfix1_calls _ _ q (HG.out.of_below HB01.out) (by rw [HQ.out]; rfl) (by rw [HQ.out]; decide)).mono ?_
 rintro e w2 ⟨v, rfl, hv, hb⟩
 have HB2 := Hd (below_next HB1.out hb)
 have HV1' := Hd (HV1.out.of_below hb)
 obtain ⟨A7, n7, c7, A8, n8, c8, rfl, HV2⟩ := hv.opened
 have H2 := Hd (H0.out.step HB2.out)
 obtain ⟨sp, hsp⟩ : ∃ s, s = negQ p := ⟨_, rfl⟩
 obtain ⟨sq, hsq⟩ : ∃ s, s = negQ q := ⟨_, rfl⟩
 rw [← hsp] at HV1' ⊢
 rw [← hsq] at HV2 ⊢
 have HL7 : Hid (n7 = wlen q.num.natAbs) := by have := HV2.out; exact FQ.len this
 clear hv hb hsp hsq
 obtain ⟨x0, x1, x2⟩ := (H2.out.blk 2 rfl).c3
 obtain ⟨y0, y1, y2⟩ := (H2.out.blk 1 rfl).c3
 obtain ⟨f0, f1, f2⟩ := (H2.out.blk 2 rfl).f3
 obtain ⟨f3, f4, f5⟩ := (H2.out.blk 1 rfl).f3
 go_wp2_with fail
 refine And.intro HB2.out ⟨_, rfl, ?_⟩
 go_wp2_with fail
 refine NoPanic.normal ?_
 have H3 := Hd (boxes_put (a := .bool sp) (b := .slice A5 n5 c5) (c := .slice A6 n6 c6) (a' := .bool sq) (b' := .slice A7 n7 c7) (c' := .slice A8 n8 c8) H2.out (by omega) (by omega) (by omega) (by omega) (by omega))
 have HP3 := Hd (HV1'.out.put33 (a := .bool sp) (b := .slice A5 n5 c5) (c := .slice A6 n6 c6) (a' := .bool sq) (b' := .slice A7 n7 c7) (c' := .slice A8 n8 c8) (by omega) (H2.out.blk 2 rfl) (H2.out.blk 1 rfl) ni_box ni_box)
 have HQ3 := Hd (HV2.out.put33 (a := .bool sp) (b := .slice A5 n5 c5) (c := .slice A6 n6 c6) (a' := .bool sq) (b' := .slice A7 n7 c7) (c' := .slice A8 n8 c8) (by omega) (H2.out.blk 2 rfl) (H2.out.blk 1 rfl) ni_box ni_box)
 clear x0 x1 x2 y0 y1 y2 f0 f1 f2 f3 f4 f5 hlt0 hlt1 hlt2
 generalize (((((w2.setCell ⟨w.heap.size, 0, none⟩ (.bool sp)).setCell ⟨w.heap.size, 1, none⟩ (.slice A5 n5 c5)).setCell ⟨w.heap.size, 2, none⟩ (.slice A6 n6 c6)).setCell ⟨w.heap.size + 1, 0, none⟩ (.bool sq)).setCell ⟨w.heap.size + 1, 1, none⟩ (.slice A7 n7 c7)).setCell ⟨w.heap.size + 1, 2, none⟩ (.slice A8 n8 c8) = W3 at *
 obtain ⟨x0, x1, x2⟩ := (H3.out.blk 2 rfl).c3
 obtain ⟨y0, y1, y2⟩ := (H3.out.blk 1 rfl).c3
 obtain ⟨e0, e1, e2⟩ := (H3.out.blk 0 rfl).c3
 obtain ⟨f0, f1, f2⟩ := (H3.out.blk 0 rfl).f3
 have h0 : n7 ≠ 0 := by rw [HL7.out, HQ.out]; decide
 have q0 := neb0 h0
 have hq0 : q ≠ 0 := by rw [HQ.out]; decide
 have HQ0 := Hd hq0
 have HIV : Hid (q⁻¹ = 1) := by unfold Hid; rw [HQ.out, rat_inv_one]
 clear h0 hq0
 go_wp2_with fail
 refine (rproduct1_calls _ _ _ p q⁻¹ HP3.out (fq_inv HQ3.out HQ0.out) hd (by rw [HIV.out]; rfl) hl (by rw [HIV.out]; decide)).mono ?_
 rintro e w4 ⟨v, rfl, hv, hb⟩
 rw [HIV.out, Rat.mul_one] at hv
 obtain ⟨A9, n9, c9, A10, n10, c10, rfl, HV4⟩ := hv.opened
 have H4 := Hd (H3.out.step hb)
 clear hv hb
 obtain ⟨e0, e1, e2⟩ := (H4.out.blk 0 rfl).c3
 obtain ⟨f0, f1, f2⟩ := (H4.out.blk 0 rfl).f3
 go_wp2_with fail
 refine ret40i Try.results119 rfl rfl ((H4.out.blk 0 rfl).put3 _ _ _) ⟨_, rfl, HV4.out.put3 (H4.out.blk 0 rfl) ni40 _ _ _, below_put3 H4.out.2 (by omega) _ _ _⟩
theorem rmake1_calls (w : World) (n : Int) (h0 : -9223372036854775808 ≤ n) (h1 : n < 9223372036854775808) :
  Calls Try.prog 92 #[.int .i64 n, .int .i64 1] w fun e w' => ∃ v, e = .returned (.tuple #[v, .int .i64 0]) ∧ FQ w' v (n : Rat) ∧ Below w.heap.size w w' := by
 go_enter Try.func92, Try.ntmps92
 go_wp2_with fail
 have H0 := Hd (HS.one (w := w) #[.bool false, .slice none 0 0, .slice none 0 0] 40)
 generalize w.alloc (.cells #[.bool false, .slice none 0 0, .slice none 0 0] 40) = W0 at *
 refine (rint1_calls W0 n h0 h1).mono ?_
 rintro e w1 ⟨v, rfl, hv, hb⟩
 have H1 := Hd (H0.out.step hb)
 have HV := Hd hv
 clear hv hb
 go_wp2_with fail
 refine (rint1_calls w1 1 (by omega) (by omega)).mono ?_
 rintro e w2 ⟨v2, rfl, hv, hb⟩
 have H2 := Hd (H1.out.step hb)
 have HV1 := Hd (HV.out.of_below hb)
 have HV2 := Hd hv
 clear hv hb
 go_wp2_with fail
 have hone : ((1 : Int) : Rat) = 1 := rfl
 rw [hone] at HV2
 refine (rdiv1_calls w2 v v2 (n : Rat) HV1.out HV2.out rfl (Nat.le_trans (dg_len_two.2 (show n.natAbs < _ by omega)) (by decide))).mono ?_
 rintro e w3 ⟨v3, rfl, hv, hb⟩
 obtain ⟨A5, n5, c5, A6, n6, c6, rfl, HV3⟩ := hv.opened
 have H3 := Hd (H2.out.step hb)
 clear hv hb
 obtain ⟨f0, f1, f2⟩ := (H3.out.blk 0 rfl).f3
 obtain ⟨x0, x1, x2⟩ := (H3.out.blk 0 rfl).c3
 go_wp2_with fail
 refine ret40i Try.results92 rfl rfl ((H3.out.blk 0 rfl).put3 _ _ _) ⟨_, rfl, HV3.out.put3 (H3.out.blk 0 rfl) ni40 _ _ _, below_put3 H3.out.2 (by omega) _ _ _⟩
def ratsI (l : List Int) : List Rat := l.map fun (x : Int) => (x : Rat)
theorem ratsI_len (l : List Int) : (ratsI l).length = l.length := lmp ..
theorem ratsI_snoc {l : List Int} {i : Nat} {x : Int} (h : l[i]? = some x) : ratsI (l.take (i + 1)) = ratsI (l.take i) ++ [(x : Rat)] := by
 unfold ratsI
 rw [List.take_add_one, h, List.map_append]
 rfl
theorem chg_below {base t : Nat} {w w1 : World} (h : Chg base t w w1) (ho : w.os = w1.os ∧ w.tape = w1.tape ∧ w.output = w1.output) (hb : base ≤ w.heap.size) : Below base w w1 :=
 ⟨ho.1.symm, ho.2.1.symm, ho.2.2.symm, h.1.1, fun k hk => h.2 k (Nat.lt_of_lt_of_le hk hb) (.inl hk)⟩
def NumsPost (w : World) (qs : List Rat) (e : Ending) (w' : World) : Prop := ∃ v, e = .returned v ∧ QO w.heap.size w' v qs ∧ Below w.heap.size w w'
theorem nums_calls (w : World) (v : Value) (l : List Int) (h : IL w v l) (hl : l.length ≤ 1000) (hi : ∀ x ∈ l, I64 x) : Calls Try.prog 68 #[v] w fun e w' => NumsPost w (ratsI l) e w' := by
 have HL := Hd h
 obtain ⟨A, c, rfl, _⟩ := h.slice
 have HI := Hd hi
 clear h hi
 go_enter Try.func68, Try.ntmps68
 go_wp2_with fail
 go_loopw [3, 10] (fun v3 vi wr => ∃ i : Nat, i ≤ l.length ∧ vi = .int .i64 (i : Int) ∧ QO w.heap.size wr v3 (ratsI (l.take i)) ∧ Below w.heap.size w wr) (fun _ vi _ => l.length - (intOf vi).toNat)
 case atStart => exact ⟨0, Nat.zero_le _, rfl, OL.nil _ _ _ _ _, Below.refl _ _⟩
 case round =>
  obtain ⟨i, hil, rfl, hq, hb⟩ := hrel
  obtain ⟨A3, c3, rfl, _⟩ := OL.slice hq
  have hqn : (ratsI (l.take i)).length = i := by rw [ratsI_len, ltk]; omega
  rw [hqn] at hq ⊢
  have HQ := Hd hq
  have HB := Hd hb
  have HQN := Hd hqn
  clear hq hb hqn
  by_cases hlt : i < l.length
  ·obtain ⟨x, hx⟩ : ∃ x, l[i]? = some x := ⟨l[i], geq hlt⟩
   have hxi := HI.out x (mog hx)
   obtain ⟨g, o, rfl, hgl, k0⟩ := IL.at1 (HL.out.below EI.stays HB.out) hx
   have HNX : Hid (ratsI (l.take (i + 1)) = ratsI (l.take i) ++ [(x : Rat)]) := ratsI_snoc hx
   have m1 : (i : Int) < (l.length : Int) := by omega
   have m3 : (i : Int).toNat = i := by omega
   have m4 : (0 : Int) ≤ (i : Int) := by omega
   have hx0 := hxi.1
   have hx1 : x < 9223372036854775808 := by have := hxi.2; omega
   clear hx hxi
   go_wp2_with fail
   refine (rmake1_calls _ x hx0 hx1).mono ?_
   rintro e w2 ⟨v2, rfl, hv2, hb2⟩
   obtain ⟨A5, n5, c5, A6, n6, c6, rfl, HF⟩ := hv2.opened
   have HB2 := Hd (below_next HB.out hb2)
   have HQ2 := Hd (OL.below EFQ.stays HQ.out hb2)
   clear hb2 hv2 k0 hgl
   go_upto_region 6 with (fail)
   have hbn := below_new w2 (.cells #[.bool (negQ (x : Rat)), .slice A5 n5 c5, .slice A6 n6 c6] 40)
   have HB3 := Hd (below_next HB2.out hbn)
   have HQ3 := Hd (OL.below EFQ.stays HQ2.out hbn)
   have HF3 := Hd (HF.out.of_below hbn)
   have HK3 := Hd (Blk.new w2 40 #[.bool (negQ (x : Rat)), .slice A5 n5 c5, .slice A6 n6 c6])
   obtain ⟨g6, hg6⟩ : ∃ g, g = w2.heap.size := ⟨_, rfl⟩
   rw [← hg6] at HK3 ⊢
   generalize w2.alloc (.cells #[.bool (negQ (x : Rat)), .slice A5 n5 c5, .slice A6 n6 c6] 40) = W3 at *
   clear hbn hg6 HF HQ2 HB2
   obtain ⟨z0, z1, z2⟩ := HK3.out.c3
   have hl6 := HK3.out.lt
   have hbn := below_new W3 (.cells #[.bool (negQ (x : Rat)), .slice A5 n5 c5, .slice A6 n6 c6] 40)
   have HB4 := Hd (below_next HB3.out hbn)
   have HQ4 := Hd (OL.below EFQ.stays HQ3.out hbn)
   have HF4 := Hd (HF3.out.of_below hbn)
   have HK4 := Hd (Blk.new W3 40 #[.bool (negQ (x : Rat)), .slice A5 n5 c5, .slice A6 n6 c6])
   clear hbn
   go_wp2_with (at_builtin; refine wpl_appendQ2 rfl (.tmp 19) (.tmp 21) rfl (base := w.heap.size) (.slice A3 i c3) _ rfl HQ4.out ((x : Rat)) rfl HK4.out HF4.out (by rw [HQN.out]; omega) HB4.out.size ?_; intro v8 W8 hgo8 hcg8 hw8; rw [← HNX.out] at hgo8; have HGO8 := Hd hgo8; have HB8 := Hd (HB4.out.trans (chg_below hcg8 hw8 HB4.out.size)); clear hgo8 hcg8 hw8)
   go_roundw
   case rel => exact ⟨i + 1, by omega, by go_num, HGO8.out, HB8.out⟩
   case measure => simp [intOf]; omega
  ·obtain rfl : i = l.length := by omega
   have HALL : Hid (l.take l.length = l) := List.take_length
   have HQ2 : Hid (QO w.heap.size wr (.slice A3 l.length c3) (ratsI l)) := by have := HQ.out; rw [HALL.out] at this; exact this
   go_wp2_with fail
   go_ret
   exact ⟨_, rfl, HQ2.out, HB.out⟩
open Go Go.RowKit
section
variable {P : Program} {ops : Array Oper} {Q : Exit → Act → World → Prop} {md : Region.Mode} {L : Nat}
def dstAt (ops : Array Oper) (i : Nat) : Option Tmp := (ops[i]?).bind (·.dst)
def monoOk (md : Region.Mode) (ops : Array Oper) (L size : Nat) : Bool :=
 (List.range L).all fun i => (match dstAt ops i with | some d => decide (d < size) && (List.range i).all fun j => dstAt ops j != some d | none => false) && waitsF md ops L i && ((ops[i]?).map fun o => o.after.all fun e => !Region.binds md e || decide (e.on < i)).getD false
theorem monoOk_at {size i : Nat} (h : monoOk md ops L size = true) (hi : i < L) : (∃ d, dstAt ops i = some d ∧ d < size ∧ ∀ j, j < i → dstAt ops j ≠ some d) ∧ waitsF md ops L i = true ∧ ∃ o, ops[i]? = some o ∧ ∀ e ∈ o.after, Region.binds md e = true → e.on < i := by
 have h1 := List.all_eq_true.1 h i (List.mem_range.2 hi)
 simp only [Bool.and_eq_true] at h1
 obtain ⟨⟨h1, h2⟩, h3⟩ := h1
 refine ⟨?_, h2, ?_⟩
 ·cases hd : dstAt ops i with
  | none => rw [hd] at h1; cases h1
  | some d =>
   rw [hd] at h1
   simp only [Bool.and_eq_true, decide_eq_true_eq] at h1
   exact ⟨d, rfl, h1.1, fun j hj e => by
    have := List.all_eq_true.1 h1.2 j (List.mem_range.2 hj)
    rw [e] at this
    simp at this⟩
 ·cases ho : ops[i]? with
  | none => rw [ho] at h3; cases h3
  | some o =>
   rw [ho] at h3
   refine ⟨o, rfl, fun e he hb => ?_⟩
   have := Array.all_eq_true'.1 (show (o.after.all fun e => !Region.binds md e || decide (e.on < i)) = true from h3) e he
   rw [hb] at this
   simpa using this
def oldB (ops : Array Oper) (L d : Nat) : Bool := (List.range L).all fun j => dstAt ops j != some d
def waitB (md : Region.Mode) (ops : Array Oper) (i j : Nat) : Bool := ((ops[i]?).map fun o => o.after.any fun e => Region.binds md e && e.on == j).getD false
theorem waitB_spec {i j : Nat} (h : waitB md ops i j = true) : ∃ o e, ops[i]? = some o ∧ e ∈ o.after ∧ Region.binds md e = true ∧ e.on = j := by
 unfold waitB at h
 cases ho : ops[i]? with
 | none => rw [ho] at h; cases h
 | some o =>
  rw [ho] at h
  obtain ⟨e, he, hb⟩ := Array.any_eq_true'.1 (show (o.after.any fun e => Region.binds md e && e.on == j) = true from h)
  simp only [Bool.and_eq_true, beq_iff_eq] at hb
  exact ⟨o, e, rfl, he, hb.1, hb.2⟩
def StepM (P : Program) (md : Region.Mode) (ops : Array Oper) (Q : Exit → Act → World → Prop) (L : Nat) (F : Nat → Value → World → Prop) (a0 : Act) (w0 : World) (i : Nat) : Prop :=
 ∀ (a : Act) (w : World) (vs : Nat → Value), Below w0.heap.size w0 w → (∀ d, oldB ops L d = true → a.tmps.getD d undef = a0.tmps.getD d undef) →
  (∀ j, waitB md ops i j = true → (∀ d, dstAt ops j = some d → a.tmps.getD d undef = vs j) ∧ F j (vs j) w) →
  ∀ K : Act → World → Prop, (∀ v w', Below w.heap.size w w' → F i v w' → K (a.put (dstAt ops i) v) w') → wpOp P ops Q i K a w
def putN (ops : Array Oper) (vs : Nat → Value) (a0 : Act) : Nat → Act
 | 0 => a0
 | n + 1 => (putN ops vs a0 n).put (dstAt ops n) (vs n)
theorem put_size (a : Act) (d : Option Tmp) (v : Value) : (a.put d v).tmps.size = a.tmps.size := by
 cases d <;> simp [Act.put]
theorem put_defers (a : Act) (d : Option Tmp) (v : Value) : (a.put d v).defers = a.defers := by
 cases d <;> rfl
theorem put_same {a : Act} {d : Tmp} {v : Value} (h : d < a.tmps.size) : (a.put (some d) v).tmps.getD d undef = v := by
 simp [Act.put, Array.getD, h]
theorem put_ne {a : Act} {d d' : Tmp} {v : Value} (h : d ≠ d') : (a.put (some d) v).tmps.getD d' undef = a.tmps.getD d' undef := by
 simp only [Act.put, Array.getD_eq_getD_getElem?]
 rw [Array.getElem?_setIfInBounds_ne h]
theorem putN_spec {a0 : Act} (vs : Nat → Value) (h : monoOk md ops L a0.tmps.size = true) : ∀ n, n ≤ L → (putN ops vs a0 n).tmps.size = a0.tmps.size ∧ (putN ops vs a0 n).defers = a0.defers ∧ (∀ j d, j < n → dstAt ops j = some d → (putN ops vs a0 n).tmps.getD d undef = vs j) ∧ ∀ d, (∀ j, j < n → dstAt ops j ≠ some d) → (putN ops vs a0 n).tmps.getD d undef = a0.tmps.getD d undef
 | 0, _ => ⟨rfl, rfl, fun j d hj => absurd hj (Nat.not_lt_zero j), fun d _ => rfl⟩
 | n + 1, hn => by
  obtain ⟨h1, h2, h3, h4⟩ := putN_spec vs h n (by omega)
  obtain ⟨⟨d, hd, hds, hdn⟩, _⟩ := monoOk_at h (show n < L by omega)
  rw [putN, hd]
  refine ⟨by rw [put_size, h1], by rw [put_defers, h2], fun j d' hj hjd => ?_, fun d' hno => ?_⟩
  ·by_cases e : j = n
   ·subst e
    rw [hd] at hjd
    injection hjd with hjd
    subst hjd
    exact put_same (by rw [h1]; exact hds)
   ·have hne : d ≠ d' := fun e2 => hdn j (by omega) (by rw [e2]; exact hjd)
    rw [put_ne hne]
    exact h3 j d' (by omega) hjd
  ·have hne : d ≠ d' := fun e2 => hno n (Nat.lt_succ_self n) (by rw [← e2]; exact hd)
   rw [put_ne hne]
   exact h4 d' fun j hj => hno j (by omega)
structure MonoI (md : Region.Mode) (ops : Array Oper) (L : Nat) (F : Nat → Value → World → Prop) (a0 : Act) (w0 : World) (vs : Nat → Value) (listed : Array Bool) (a : Act) (w : World) : Prop where
 below : Below w0.heap.size w0 w
 closed : Closed md ops listed
 lsize : listed.size = ops.size
 tail : ∀ i, L ≤ i → listed.getD i false = false
 size : a.tmps.size = a0.tmps.size
 defers : a.defers = a0.defers
 slot : ∀ j d, j < L → listed.getD j false = true → dstAt ops j = some d → a.tmps.getD d undef = vs j
 phi : ∀ j, j < L → listed.getD j false = true → F j (vs j) w
 old : ∀ d, (∀ j, j < L → listed.getD j false = true → dstAt ops j ≠ some d) → a.tmps.getD d undef = a0.tmps.getD d undef
theorem act_ext {a b : Act} (hd : a.defers = b.defers) (hs : a.tmps.size = b.tmps.size) (h : ∀ d, a.tmps.getD d undef = b.tmps.getD d undef) : a = b := by
 cases a with
 | mk ta da =>
  cases b with
  | mk tb db =>
   have e : ta = tb := Array.ext hs fun i h1 h2 => by
    have := h i
    simpa [Array.getD, h1, h2] using this
   have hd' : da = db := hd
   rw [e, hd']
def unl (listed : Array Bool) : Nat → Nat
 | 0 => 0
 | n + 1 => unl listed n + if listed.getD n false = true then 0 else 1
theorem unl_zero {listed : Array Bool} : ∀ {n : Nat}, unl listed n = 0 → ∀ i, i < n → listed.getD i false = true
 | 0, _, i, hi => absurd hi (Nat.not_lt_zero i)
 | n + 1, h, i, hi => by
  rw [unl] at h
  by_cases e : i = n
  ·subst e
   by_cases hl : listed.getD i false = true
   ·exact hl
   ·rw [if_neg hl] at h; omega
  ·exact unl_zero (n := n) (by omega) i (by omega)
theorem unl_set {listed : Array Bool} {i : Nat} (hs : i < listed.size) (hu : listed.getD i false = false) : ∀ {n : Nat}, unl (listed.setIfInBounds i true) n + (if i < n then 1 else 0) = unl listed n
 | 0 => by rw [if_neg (Nat.not_lt_zero i)]; rfl
 | n + 1 => by
  have ih := unl_set hs hu (n := n)
  show unl (listed.setIfInBounds i true) n + (if (listed.setIfInBounds i true).getD n false = true then 0 else 1) + (if i < n + 1 then 1 else 0) = unl listed n + if listed.getD n false = true then 0 else 1
  by_cases e : i = n
  ·subst e
   rw [if_neg (Nat.lt_irrefl i)] at ih
   rw [if_pos (show i < i + 1 by omega), if_pos (show (listed.setIfInBounds i true).getD i false = true by simp [Array.getD, hs]), if_neg (by rw [hu]; exact fun e => nomatch e)]
   omega
  ·rw [getD_set_ne false e]
   by_cases hlt : i < n
   ·rw [if_pos hlt] at ih
    rw [if_pos (show i < n + 1 by omega)]
    omega
   ·rw [if_neg hlt] at ih
    rw [if_neg (show ¬ i < n + 1 by omega)]
    omega
theorem marked_getD (n : Nat) : ∀ (k : Nat) (i : Nat), i < n → (marked (List.range k) (Array.replicate n false)).getD i false = decide (i < k)
 | 0, i, hi => by simp [marked, hi]
 | k + 1, i, hi => by
  have ih := marked_getD n k i hi
  have hsz : (marked (List.range k) (Array.replicate n false)).size = n := by
   have : ∀ (p : List Nat) (l : Array Bool), (marked p l).size = l.size := fun p => by
    induction p with
    | nil => exact fun _ => rfl
    | cons x p ih => exact fun l => by unfold marked at ih ⊢; rw [List.foldl_cons, ih]; simp
   rw [this]; simp
  have e : marked (List.range (k + 1)) (Array.replicate n false) = (marked (List.range k) (Array.replicate n false)).setIfInBounds k true := by
   unfold marked
   rw [List.range_succ, List.foldl_append]
   rfl
  rw [e]
  by_cases h : k = i
  ·subst h
   simp [Array.getD, hsz, hi]
  ·rw [getD_set_ne false h, ih]
   congr 1
   apply propext
   omega
theorem marked_size (n k : Nat) : (marked (List.range k) (Array.replicate n false)).size = n := by
 have : ∀ (p : List Nat) (l : Array Bool), (marked p l).size = l.size := fun p => by
  induction p with
  | nil => exact fun _ => rfl
  | cons x p ih => exact fun l => by unfold marked at ih ⊢; rw [List.foldl_cons, ih]; simp
 rw [this]; simp
theorem mono_sound {F : Nat → Value → World → Prop} {a0 : Act} {w0 : World} {os : List Oper} (hos : os = ops.toList.drop L) (hL : L ≤ ops.size) (hok : monoOk md ops L a0.tmps.size = true) (hfr : freeF md ops (ops.size - L) L (marked (List.range L) (Array.replicate ops.size false)) = true)
  (hF : ∀ i v w w', i < L → F i v w → Below w.heap.size w w' → F i v w') (H : ∀ i, i < L → StepM P md ops Q L F a0 w0 i)
  (hend : ∀ vs w, Below w0.heap.size w0 w → (∀ i, i < L → F i (vs i) w) → wpList P ops Q os (putN ops vs a0 L) w) :
  ∀ (k : Nat) (listed : Array Bool) (a : Act) (w : World) (vs : Nat → Value), unl listed L = k → MonoI md ops L F a0 w0 vs listed a w → ∀ more, wpAnyF P md ops Q (fun _ => True) L (k + (ops.size - L + more)) listed a w
 | 0, listed, a, w, vs, hk, hi, more => by
  have hall := unl_zero hk
  have e1 : listed = marked (List.range L) (Array.replicate ops.size false) := by
   refine Array.ext (by rw [marked_size, hi.lsize]) fun i h1 h2 => ?_
   have h3 := marked_getD ops.size L i (by rw [← hi.lsize]; exact h1)
   have h4 : listed.getD i false = decide (i < L) := by
    by_cases hl : i < L
    ·rw [hall i hl, decide_eq_true hl]
    ·rw [hi.tail i (by omega), decide_eq_false hl]
   rw [← h3] at h4
   simpa [Array.getD, h1, h2] using h4
  have e2 : a = putN ops vs a0 L := by
   obtain ⟨s1, s2, s3, s4⟩ := putN_spec vs hok L (Nat.le_refl L)
   refine act_ext (by rw [s2, hi.defers]) (by rw [s1, hi.size]) fun d => ?_
   by_cases hd : ∃ j, j < L ∧ dstAt ops j = some d
   ·obtain ⟨j, hj, hjd⟩ := hd
    rw [s3 j d hj hjd, hi.slot j d hj (hall j hj) hjd]
   ·rw [s4 d fun j hj e => hd ⟨j, hj, e⟩, hi.old d fun j hj _ e => hd ⟨j, hj, e⟩]
  subst e2
  rw [Nat.zero_add]
  refine freeF_sound (ops.size - L) L os listed _ w (Nat.le_refl L) (by rw [e1]; exact hfr) (by rw [hos]; simp) (fun j => ?_) (hend vs w hi.below fun i hil => hi.phi i hil (hall i hil)) more
  left
  rw [hos, List.getElem?_drop]
  simp
 | k + 1, listed, a, w, vs, hk, hi, more => by
  rw [show k + 1 + (ops.size - L + more) = (k + (ops.size - L + more)) + 1 by omega]
  refine ⟨fun hr => ?_, fun i hir => ?_⟩
  ·exfalso
   -- the least of those that are left is ready
   have hex : ∃ i, i < L ∧ listed.getD i false = false := Classical.byContradiction fun hno => by
    have : ∀ n, n ≤ L → unl listed n = 0 := fun n => by
     induction n with
     | zero => exact fun _ => rfl
     | succ n ih =>
      intro hn
      rw [unl, ih (by omega), if_pos]
      cases hl : listed.getD n false with
      | true => rfl
      | false => exact absurd ⟨n, by omega, hl⟩ hno
    rw [this L (Nat.le_refl L)] at hk
    omega
   have hmin : ∀ n, (∃ i, i < n ∧ i < L ∧ listed.getD i false = false) → ∃ i, i < L ∧ listed.getD i false = false ∧ ∀ j, j < i → listed.getD j false = true := fun n => by
    induction n with
    | zero => exact fun ⟨i, h, _⟩ => absurd h (Nat.not_lt_zero i)
    | succ n ih =>
     intro ⟨i, h1, h2, h3⟩
     by_cases hx : ∃ i, i < n ∧ i < L ∧ listed.getD i false = false
     ·exact ih hx
     ·refine ⟨i, h2, h3, fun j hj => ?_⟩
      cases hl : listed.getD j false with
      | true => rfl
      | false => exact absurd ⟨j, by omega, by omega, hl⟩ hx
   obtain ⟨i0, h1, h2⟩ := hex
   obtain ⟨i, hiL, hun, hlow⟩ := hmin L ⟨i0, h1, h1, h2⟩
   obtain ⟨_, _, o, ho, hall⟩ := monoOk_at hok hiL
   have hmem : i ∈ Region.ready md ops listed := mem_ready.2 ⟨by
    have hs : i < listed.size := by rw [hi.lsize]; exact (Array.getElem?_eq_some_iff.1 ho).1
    simp [Array.getD, hs] at hun ⊢
    exact hun, o, ho, fun e he hb => hlow _ (hall e he hb)⟩
   rw [hr] at hmem
   cases hmem
  ·obtain ⟨hun, o, ho, hwait⟩ := mem_ready.1 hir
   have hsz : i < listed.size := by rw [hi.lsize]; exact (Array.getElem?_eq_some_iff.1 ho).1
   have hun' : listed.getD i false = false := by
    simp [Array.getD, hsz] at hun ⊢
    exact hun
   have hiL : i < L := by
    rcases Nat.lt_or_ge i L with h | h
    ·exact h
    ·exfalso
     have hallL : ∀ j, j < L → listed.getD j false = true := fun j hj => depF_listed hi.closed _ _ (waitsF_spec (monoOk_at hok hj).2.1 i o h ho) fun ok hok' => by
      rw [ho] at hok'
      injection hok' with hok'
      subst hok'
      exact hwait
     have : ∀ n, n ≤ L → unl listed n = 0 := fun n => by
      induction n with
      | zero => exact fun _ => rfl
      | succ n ih =>
       intro hn
       rw [unl, ih (by omega), if_pos (hallL n (by omega))]
     rw [this L (Nat.le_refl L)] at hk
     omega
   obtain ⟨⟨d, hd, hds, _⟩, _, o', ho', hlow⟩ := monoOk_at hok hiL
   rw [ho] at ho'
   injection ho' with ho'
   subst ho'
   refine H i hiL a w vs hi.below (fun d' hd' => hi.old d' fun j hj _ e => ?_) (fun j hj => ?_) _ fun v w' hb' hF' => ⟨fun _ => trivial, ?_⟩
   ·have := List.all_eq_true.1 hd' j (List.mem_range.2 hj)
    rw [e] at this
    simp at this
   ·obtain ⟨o2, e, ho2, he, hb, rfl⟩ := waitB_spec hj
    rw [ho] at ho2
    injection ho2 with ho2
    subst ho2
    have h1 := hwait e he hb
    have h2 := hlow e he hb
    exact ⟨fun d' hd' => hi.slot _ d' (by omega) h1 hd', hi.phi _ (by omega) h1⟩
   ·have hds' : d < a.tmps.size := by rw [hi.size]; exact hds
    have hne : ∀ j d', j < L → j ≠ i → dstAt ops j = some d' → d ≠ d' := fun j d' hj hji hjd e => by
     subst e
     rcases Nat.lt_or_gt_of_ne hji with h | h
     ·obtain ⟨⟨d2, hd2, _, hn2⟩, _⟩ := monoOk_at hok hiL
      rw [hd] at hd2
      injection hd2 with hd2
      subst hd2
      exact hn2 j h hjd
     ·obtain ⟨⟨d2, hd2, _, hn2⟩, _⟩ := monoOk_at hok hj
      rw [hjd] at hd2
      injection hd2 with hd2
      subst hd2
      exact hn2 i h hd
    have hset : ∀ j, j ≠ i → (listed.setIfInBounds i true).getD j false = listed.getD j false := fun j hj => getD_set_ne false (fun e => hj e.symm)
    refine mono_sound hos hL hok hfr hF H hend k (listed.setIfInBounds i true) _ w' (fun j => if j = i then v else vs j) (by have := unl_set hsz hun' (n := L); rw [if_pos hiL] at this; omega) ⟨hi.below.trans (hb'.mono hi.below.size), hi.closed.step hir, by simp [hi.lsize], fun j hj => by rw [hset j (by omega)]; exact hi.tail j hj, by rw [put_size, hi.size], by rw [put_defers, hi.defers], fun j d' hj hl hjd => ?_, fun j hj hl => ?_, fun d' hno => ?_⟩ more
    ·by_cases e : j = i
     ·subst e
      rw [if_pos rfl]
      rw [hd] at hjd ⊢
      injection hjd with hjd
      subst hjd
      exact put_same hds'
     ·rw [if_neg e, hd, put_ne (hne j d' hj e hjd)]
      rw [hset j e] at hl
      exact hi.slot j d' hj hl hjd
    ·by_cases e : j = i
     ·subst e
      show F j (if j = j then v else vs j) w'
      rw [if_pos rfl]
      exact hF'
     ·show F j (if j = i then v else vs j) w'
      rw [if_neg e]
      rw [hset j e] at hl
      exact hF j _ w w' hj (hi.phi j hj hl) hb'
    ·rw [hd]
     have hdd : d ≠ d' := fun e => hno i hiL (by simp [Array.getD, hsz]) (by rw [hd, e])
     rw [put_ne hdd]
     exact hi.old d' fun j hj hl e => by
      by_cases e2 : j = i
      ·subst e2
       rw [hun'] at hl
       cases hl
      ·exact hno j hj (by rw [hset j e2]; exact hl) e
theorem getD_rep (n i : Nat) : (Array.replicate n false).getD i false = false := by
 unfold Array.getD
 split <;> simp
theorem wp_mono {id : Nat} {a0 : Act} {w0 : World} {l : List Oper} (L : Nat) (F : Nat → Value → World → Prop) (hm : P.follows .mixedOrders = true) (hs : Region.noSelect l.toArray = true) (hL : decide (L ≤ l.toArray.size) = true) (hok : monoOk .any l.toArray L a0.tmps.size = true) (hfr : freeF .any l.toArray (l.toArray.size - L) L (marked (List.range L) (Array.replicate l.toArray.size false)) = true)
  (hF : ∀ i v w w', i < L → F i v w → Below w.heap.size w w' → F i v w') (H : ∀ i, i < L → StepM P .any l.toArray (NoPanic Q) L F a0 w0.drew i)
  (hend : ∀ vs w, Below w0.drew.heap.size w0.drew w → (∀ i, i < L → F i (vs i) w) → wpList P l.toArray (NoPanic Q) (l.drop L) (putN l.toArray vs a0 L) w) : (Code.region id l.toArray true).wp P Q a0 w0 := by
 have hLs : L ≤ l.toArray.size := of_decide_eq_true hL
 have hu : ∀ n, unl (Array.replicate l.toArray.size false) n = n := fun n => by
  induction n with
  | zero => rfl
  | succ n ih => rw [unl, ih, getD_rep, if_neg (fun e => nomatch e)]
 have hno : ∀ j, ¬ (Array.replicate l.toArray.size false).getD j false = true := fun j h => by rw [getD_rep] at h; cases h
 have := mono_sound (P := P) (md := .any) (Q := NoPanic Q) (w0 := w0.drew) (os := l.drop L) (by simp) hLs hok hfr hF H hend L (Array.replicate l.toArray.size false) a0 w0.drew (fun _ => undef) (hu L)
  ⟨Below.refl _ _, Closed.start _, by simp, fun i _ => getD_rep _ i, rfl, rfl, fun j d _ hl _ => absurd hl (hno j), fun j _ hl => absurd hl (hno j), fun d _ => rfl⟩ 0
 rw [show L + (l.toArray.size - L + 0) = l.toArray.size by omega] at this
 exact wp_region_noPanic (wp_region_any hm (wpAny_of_F _ _ _ _ this))
end
theorem flat_at {k : Nat} : ∀ (L : List (List Value)) (j i : Nat) (r : List Value), (∀ r ∈ L, r.length = k) → L[j]? = some r → i < k → L.flatten[j * k + i]? = r[i]?
 | [], j, i, r, _, h, _ => by simp at h
 | x :: L, 0, i, r, hk, h, hi => by
  obtain rfl : x = r := by simpa using h
  rw [List.flatten_cons, List.getElem?_append_left (by rw [hk x (by simp)]; omega)]
  simp
 | x :: L, j + 1, i, r, hk, h, hi => by
  have hx := hk x (by simp)
  rw [List.flatten_cons, List.getElem?_append_right (by rw [hx, Nat.succ_mul]; omega), hx, show (j + 1) * k + i - k = j * k + i by rw [Nat.succ_mul]; omega]
  exact flat_at L j i r (fun r hr => hk r (List.mem_cons_of_mem _ hr)) (by simpa using h) hi
theorem flat_len {k : Nat} : ∀ (L : List (List Value)), (∀ r ∈ L, r.length = k) → L.flatten.length = L.length * k
 | [], _ => by simp
 | x :: L, h => by rw [List.flatten_cons, lap, flat_len L fun r hr => h r (List.mem_cons_of_mem _ hr), h x (by simp), List.length_cons, Nat.succ_mul, Nat.add_comm]
theorem OL.new {α : Type} {k e : Nat} {E : World → Array Value → α → Prop} {base : Nat} (hE : Stays E) (w : World) (L : List (List Value)) (xs : List α) (hl : L.length = xs.length) (hk : ∀ r ∈ L, r.length = k) (he : ∀ (j : Nat) (r : List Value) (x : α), L[j]? = some r → xs[j]? = some x → E w r.toArray x) (hb : base ≤ w.heap.size) (hw : ∀ u ∈ L.flatten, notWord u = true) (hm : xs.length ≤ 1000000) :
  OL k e E base (w.alloc (.cells L.flatten.toArray e)) (.slice (some ⟨w.heap.size, 0, none⟩) xs.length xs.length) xs := by
 have hf := flat_len L hk
 rw [hl] at hf
 refine ⟨L.flatten, ⟨hf, .inr ⟨w.heap.size, xs.length, L.flatten.toArray, rfl, hb, Blk.new w e _, Nat.le_refl _, by unfold maxLen; omega, by simpa using hf, by rw [← hf]; exact List.take_length, fun u hu => hw u (by simpa using hu)⟩⟩, fun j a hj => ?_⟩
 obtain ⟨r, hr⟩ : ∃ r, L[j]? = some r := ⟨L[j]'(by rw [hl]; exact (List.getElem?_eq_some_iff.1 hj).1), geq _⟩
 have hrk := hk r (mog hr)
 refine ⟨r.toArray, by simpa using hrk, fun i u hu => ?_, hE _ _ _ _ (he j r a hr hj) (below_new w _)⟩
 have hi : i < k := by
  have := (Array.getElem?_eq_some_iff.1 hu).1
  simpa [hrk] using this
 rw [flat_at L j i r hk hr hi]
 simpa using hu
theorem SL.new {α : Type} {k : Nat} {E : World → Array Value → α → Prop} (hE : Stays E) (w : World) (t : Nat) (L : List (List Value)) (xs : List α) (hl : L.length = xs.length) (hk : ∀ r ∈ L, r.length = k) (he : ∀ (j : Nat) (r : List Value) (x : α), L[j]? = some r → xs[j]? = some x → E w r.toArray x) :
  SL k E (w.alloc (.cells L.flatten.toArray t)) (.slice (some ⟨w.heap.size, 0, none⟩) xs.length xs.length) xs := by
 refine ⟨_, _, rfl, Nat.le_refl _, fun _ => ⟨w.heap.size, 0, rfl, (Blk.new w t _).lt, fun j x hj => ?_⟩⟩
 obtain ⟨r, hr⟩ : ∃ r, L[j]? = some r := ⟨L[j]'(by rw [hl]; exact (List.getElem?_eq_some_iff.1 hj).1), geq _⟩
 have hrk := hk r (mog hr)
 refine ⟨r.toArray, by simpa using hrk, fun i v hv => ?_, hE _ _ _ _ (he j r x hr hj) (below_new w _)⟩
 have hi : i < k := by
  have := (Array.getElem?_eq_some_iff.1 hv).1
  simpa [hrk] using this
 have := (Blk.new w t L.flatten.toArray).cell (j := j * k + i) (v := v) (by
  rw [List.getElem?_toArray, flat_at L j i r hk hr hi]
  simpa using hv)
 simpa using this
theorem flat_one {α : Type} (f : α → Value) : ∀ l : List α, (l.map fun x => [f x]).flatten = l.map f
 | [] => rfl
 | x :: l => by rw [List.map_cons, List.flatten_cons, flat_one f l]; rfl
theorem il_new (w : World) (l : List Int) (t : Nat) : IL (w.alloc (.cells (l.map fun x => Value.int .i64 x).toArray t)) (.slice (some ⟨w.heap.size, 0, none⟩) l.length l.length) l := by
 have := SL.new EI.stays w t (l.map fun x => [Value.int .i64 x]) l (by simp) (by intro r hr; obtain ⟨x, _, rfl⟩ := List.mem_map.1 hr; rfl) (fun j r x hr hx => by
  rw [List.getElem?_map, hx] at hr
  obtain rfl : [Value.int .i64 x] = r := by simpa using hr
  rfl)
 rw [flat_one] at this
 exact this
theorem fro_new (b : Nat) (w : World) (l : List Bool) : FrO b (w.alloc (.cells (l.map fun x => Value.bool x).toArray 4)) (.slice (some ⟨w.heap.size, 0, none⟩) l.length l.length) l := by
 have := SL.new EB.stays w 4 (l.map fun x => [Value.bool x]) l (by simp) (by intro r hr; obtain ⟨x, _, rfl⟩ := List.mem_map.1 hr; rfl) (fun j r x hr hx => by
  rw [List.getElem?_map, hx] at hr
  obtain rfl : [Value.bool x] = r := by simpa using hr
  rfl)
 rw [flat_one] at this
 refine ⟨this, fun g hg _ => .inr ⟨(l.map fun x => Value.bool x).toArray, ?_⟩⟩
 have e : w.heap.size = g := by simpa [Value.ownBlock] using hg
 rw [← e]
 exact Blk.new w 4 _
theorem small_ofInt (x : Int) (h0 : -9223372036854775808 ≤ x) (h1 : x < 9223372036854775808) : Small (x : Rat) := by
 have := size_int x h0 h1
 unfold Small
 omega
def exP : ProgQ := ⟨2, [false, false], [3, 2], [⟨[1, 1], -1, 4⟩, ⟨[1, 0], -1, 3⟩]⟩
def exOne : ProgQ := ⟨1, [false], [1], []⟩
def exNone : ProgQ := ⟨1, [false], [1], [⟨[1], -1, -1⟩]⟩
def PtrQ (w : World) (v : Value) (q : Rat) : Prop := ∃ g c, v = .pointer (some ⟨g, 0, none⟩) ∧ QO 0 w (.slice (some ⟨g, 0, none⟩) 1 c) [q]
theorem PtrQ.below {w w1 : World} {v : Value} {q : Rat} (h : PtrQ w v q) (hb : Below w.heap.size w w1) : PtrQ w1 v q := by
 obtain ⟨g, c, e, h⟩ := h
 exact ⟨g, c, e, OL.below EFQ.stays h hb⟩
def RowO (b : Nat) (w : World) (v : Value) (r : RowQ) : Prop := ∃ A n c A1 n1 c1 A2 n2 c2, v = .agg #[.slice A n c, .int .i64 r.s, .bool (negQ r.b), .slice A1 n1 c1, .slice A2 n2 c2] ∧ ERO b w #[.slice A n c, .int .i64 r.s, .bool (negQ r.b), .slice A1 n1 c1, .slice A2 n2 c2] r
theorem RowO.below {b : Nat} {w w1 : World} {v : Value} {r : RowQ} (h : RowO b w v r) (hb : Below w.heap.size w w1) : RowO b w1 v r := by
 obtain ⟨A, n, c, A1, n1, c1, A2, n2, c2, e, h⟩ := h
 exact ⟨A, n, c, A1, n1, c1, A2, n2, c2, e, ERO.stays _ _ _ _ h hb⟩
def Box4 (b t : Nat) (w : World) (v : Value) : Prop := ∃ g, v = .pointer (some ⟨g, 0, none⟩) ∧ b ≤ g ∧ Blk w g t #[.int .i64 0, .slice none 0 0, .slice none 0 0, .slice none 0 0]
theorem Box4.below {b t : Nat} {w w1 : World} {v : Value} (h : Box4 b t w v) (hb : Below w.heap.size w w1) : Box4 b t w1 v := by
 obtain ⟨g, e, h1, h⟩ := h
 exact ⟨g, e, h1, h.below hb h.lt⟩
theorem chg_of_only {base g t : Nat} {w w1 : World} {cs : Array Value} (h : Only g w w1) (hb : Blk w g t cs) (hg : base ≤ g) : Chg base t w w1 := ⟨h.1, fun k hk ho => h.2.1 k hk fun e => by
 subst e
 rcases ho with ho | ho
 ·omega
 ·exact ho cs hb⟩
def F1 (b : Nat) (i : Nat) (v : Value) (w : World) : Prop :=
 match i with
 | 0 => FrO b w v [false, false]
 | 1 => IL w v [3, 2]
 | 2 => QO b w v [3, 2]
 | 3 => IL w v [1, 1]
 | 4 => QO b w v [1, 1]
 | 5 => IL w v [4]
 | 6 => QO b w v [4]
 | 7 => PtrQ w v 4
 | 8 => FQ w v 4
 | 9 => RowO b w v ⟨[1, 1], -1, 4⟩
 | 10 => IL w v [1, 0]
 | 11 => QO b w v [1, 0]
 | 12 => IL w v [3]
 | 13 => QO b w v [3]
 | 14 => PtrQ w v 3
 | 15 => FQ w v 3
 | 16 => RowO b w v ⟨[1, 0], -1, 3⟩
 | 17 => RO b w v exP.rows
 | 18 => PO b w v exP
 | 19 => Box4 b 26 w v
 | _ => True
theorem F1.below {b i : Nat} {v : Value} {w w1 : World} (h : F1 b i v w) (hb : Below w.heap.size w w1) : F1 b i v w1 := by
 match i, h with
 | 0, h => exact FrO.below (show FrO b w v _ from h) hb
 | 1, h => exact SL.below EI.stays (show IL w v _ from h) hb
 | 2, h => exact OL.below EFQ.stays (show QO b w v _ from h) hb
 | 3, h => exact SL.below EI.stays (show IL w v _ from h) hb
 | 4, h => exact OL.below EFQ.stays (show QO b w v _ from h) hb
 | 5, h => exact SL.below EI.stays (show IL w v _ from h) hb
 | 6, h => exact OL.below EFQ.stays (show QO b w v _ from h) hb
 | 7, h => exact PtrQ.below h hb
 | 8, h => exact FQ.of_below h hb
 | 9, h => exact RowO.below h hb
 | 10, h => exact SL.below EI.stays (show IL w v _ from h) hb
 | 11, h => exact OL.below EFQ.stays (show QO b w v _ from h) hb
 | 12, h => exact SL.below EI.stays (show IL w v _ from h) hb
 | 13, h => exact OL.below EFQ.stays (show QO b w v _ from h) hb
 | 14, h => exact PtrQ.below h hb
 | 15, h => exact FQ.of_below h hb
 | 16, h => exact RowO.below h hb
 | 17, h => exact OL.below ERO.stays (show RO b w v _ from h) hb
 | 18, h => exact PO.below h hb
 | 19, h => exact Box4.below h hb
 | _ + 20, h => exact trivial
noncomputable def cA : Option (Int × Tab × List Rat) := climbQ (realB exP 2 2) 20 (buildTab exP 2 2) (reducedQ (cost1 (realB exP 2 2) (widthB exP 2 2)) (buildTab exP 2 2))
noncomputable def rA : Int × Tab × List Rat := cA.getD (0, buildTab exP 2 2, [])
theorem hA : cA = some rA := by
 have : cA.isSome = true := by kernel_rfl
 obtain ⟨r, e⟩ := Option.isSome_iff_exists.1 this
 unfold rA
 rw [e]
 rfl
theorem hbad : ((List.range 2).all fun i => decide (rA.2.1.base.getD i 0 < (realB exP 2 2 : Int))) = true := by kernel_rfl
noncomputable def cB : Option (Int × Tab × List Rat) := climbQ (realB exP 2 2) 20 (driveN (realB exP 2 2) rA.2.1 2) (reducedQ (cost2 exP 2 2) (driveN (realB exP 2 2) rA.2.1 2))
noncomputable def rB : Int × Tab × List Rat := cB.getD (0, buildTab exP 2 2, [])
theorem hB : cB = some rB := by
 have : cB.isSome = true := by kernel_rfl
 obtain ⟨r, e⟩ := Option.isSome_iff_exists.1 this
 unfold rB
 rw [e]
 rfl
theorem solveE : solveQ exP 2 2 20 = some ⟨1, [3, 1], [2, 1], []⟩ := by
 have hb : ¬ ∃ i, i < 2 ∧ badAt rA.2.1 (realB exP 2 2) i := by
  rintro ⟨i, hi, h, _⟩
  have := List.all_eq_true.1 hbad i (List.mem_range.2 hi)
  simp only [decide_eq_true_eq] at this
  omega
 unfold solveQ
 rw [show climbQ (realB exP 2 2) 20 (buildTab exP 2 2) (reducedQ (cost1 (realB exP 2 2) (widthB exP 2 2)) (buildTab exP 2 2)) = some rA from hA]
 show solve2 exP 2 2 20 rA.2.1 rA.2.2 = _
 unfold solve2
 rw [if_neg hb, show climbQ (realB exP 2 2) 20 (driveN (realB exP 2 2) rA.2.1 2) (reducedQ (cost2 exP 2 2) (driveN (realB exP 2 2) rA.2.1 2)) = some rB from hB]
 show some (solve3 exP 2 2 rB.1 rB.2.1 rB.2.2) = _
 kernel_rfl
theorem solve0 : solveCode (rawP exP) = 0 := by kernel_rfl
end Go.Proofs.Ytfhambfgjigneaa
