/- Contracts of Go functions that the statement reaches, proved by walking their text, and plain laws over them (texts put together). -/
import Derived.Test.YtfhambfgjigneaaK4
import Derived.Test.YtfhambfgjigneaaK5
import Derived.Test.YtfhambfgjigneaaK1
import Derived.Test.YtfhambfgjigneaaK9
set_option linter.unusedVariables false
set_option linter.unusedSimpArgs false
namespace Go.Proofs.Ytfhambfgjigneaa
open Go.RowKit
/-- No word: what a block of structs, of slices, of int's or of bools holds. -/
def notWord : Value → Bool | .int .u32 _ => false | _ => true
/-- Every word that was there is there. -/
def Keeps (w w1 : World) : Prop := w.heap.size ≤ w1.heap.size ∧ ∀ (g o : Nat) (n : Int), w.cell? ⟨g, o, none⟩ = some (.int .u32 n) → w1.cell? ⟨g, o, none⟩ = some (.int .u32 n)
theorem Keeps.refl (w : World) : Keeps w w := ⟨Nat.le_refl _, fun _ _ _ h => h⟩
theorem Keeps.trans {a b c : World} (h : Keeps a b) (h2 : Keeps b c) : Keeps a c := ⟨Nat.le_trans h.1 h2.1, fun g o n h3 => h2.2 g o n (h.2 g o n h3)⟩
theorem Keeps.of_below {w w1 : World} (h : Below w.heap.size w w1) : Keeps w w1 := ⟨h.size, fun g o n hc => by
  have hlt := World.block_lt_of_cell? w _ hc
  rw [(bcell h).1 g o hlt]
  exact hc⟩
theorem Keeps.set {w : World} {a : Addr} {v u : Value} (hu : w.cell? a = some u) (hn : notWord u = true) : Keeps w (w.setCell a v) := ⟨by simp [World.setCell], fun g o n hc => by
  rw [World.cell?_setCell_other _ _ _ _ (by
    rintro rfl
    rw [hu] at hc
    injection hc with hc
    rw [hc] at hn
    cases hn)]
  exact hc⟩
theorem Keeps.apart {w w1 : World} {g t : Nat} {cs : Array Value} (hb : Blk w g t cs) (hn : ∀ x ∈ cs, notWord x = true) (hs : w.heap.size ≤ w1.heap.size) (hk : ∀ k, k < w.heap.size → k ≠ g → w1.heap[k]? = w.heap[k]?) : Keeps w w1 :=
  ⟨hs, fun g' o n hc => by
    have hlt := World.block_lt_of_cell? w _ hc
    have hne : g' ≠ g := by
      rintro rfl
      simp only [World.cell?] at hc
      rw [show w.heap[g']? = some (.cells cs t (0, 0)) from hb] at hc
      simp at hc
      obtain ⟨hl, he⟩ := Array.getElem?_eq_some_iff.1 hc
      have := hn _ (Array.getElem_mem hl)
      rw [he] at this
      cases this
    rw [World.cell?_of_block (a := ⟨g', o, none⟩) (hk g' hlt hne)]
    exact hc⟩
theorem Rd.keeps {w w1 : World} {v : Value} {xs : List Nat} (h : Rd w v xs) (hk : Keeps w w1) : Rd w1 v xs := by
  obtain ⟨hw, A, c, rfl, hc, hr⟩ := h
  refine ⟨hw, A, c, rfl, hc, fun hp => ?_⟩
  obtain ⟨g, o, rfl, hg, hj⟩ := hr hp
  exact ⟨g, o, rfl, Nat.lt_of_lt_of_le hg hk.1, fun j hjl => hk.2 _ _ _ (hj j hjl)⟩
theorem FQ.keeps {w w1 : World} {v : Value} {q : Rat} (h : FQ w v q) (hk : Keeps w w1) : FQ w1 v q := by
  obtain ⟨v1, v2, e, h1, h2⟩ := h
  exact ⟨v1, v2, e, Rd.keeps h1 hk, Rd.keeps h2 hk⟩
theorem FR.keeps {w w1 : World} {v : Value} {f : RawF} (h : FR w v f) (hk : Keeps w w1) : FR w1 v f := by
  obtain ⟨hl, v1, v2, e, h1, h2⟩ := h
  exact ⟨hl, v1, v2, e, h1.keeps hk, h2.keeps hk⟩
/-- Elements that lean on words alone. -/
def Leans {α : Type} (E : World → Array Value → α → Prop) : Prop := ∀ w w1 vs x, E w vs x → Keeps w w1 → E w1 vs x
theorem EF.leans : Leans EF := fun _ _ _ _ h hk => FR.keeps h hk
/-- A row of structs of k cells, of the call's own; its capacity may be written; no word lies in its block. -/
def OwnR (w : World) (base e k : Nat) (v : Value) (n : Nat) (xs : List Value) : Prop :=
  xs.length = n * k ∧ ((v = .slice none 0 0 ∧ n = 0) ∨ ∃ g cap cur, v = .slice (some ⟨g, 0, none⟩) n cap ∧ base ≤ g ∧ Blk w g e cur ∧ n ≤ cap ∧ cap ≤ maxLen ∧ cur.size = cap * k ∧ cur.toList.take (n * k) = xs ∧ ∀ u ∈ cur, notWord u = true)
theorem OwnR.nil (w : World) (base e k : Nat) : OwnR w base e k (.slice none 0 0) 0 [] := ⟨by simp, .inl ⟨rfl, rfl⟩⟩
theorem OwnR.move {w w1 : World} {base e k : Nat} {v : Value} {n : Nat} {xs : List Value} (h : OwnR w base e k v n xs) (hb : ∀ g, v.ownBlock = some g → w1.heap[g]? = w.heap[g]?) : OwnR w1 base e k v n xs := by
  obtain ⟨hl, h⟩ := h
  refine ⟨hl, ?_⟩
  rcases h with h | ⟨g, cap, cur, rfl, h1, h2, h3⟩
  · exact .inl h
  · exact .inr ⟨g, cap, cur, rfl, h1, (hb g rfl).trans h2, h3⟩
theorem OwnR.lt {w : World} {base e k : Nat} {v : Value} {n : Nat} {xs : List Value} (h : OwnR w base e k v n xs) : ∀ g, v.ownBlock = some g → base ≤ g ∧ g < w.heap.size := by
  rcases h.2 with ⟨rfl, _⟩ | ⟨g, cap, cur, rfl, h1, h2, h3⟩
  · intro g hg; simp [Value.ownBlock] at hg
  · intro g' hg
    simp [Value.ownBlock] at hg
    subst hg
    exact ⟨h1, h2.lt⟩
theorem OwnR.below {w w1 : World} {base e k : Nat} {v : Value} {n : Nat} {xs : List Value} (h : OwnR w base e k v n xs) (hb : Below w.heap.size w w1) : OwnR w1 base e k v n xs := h.move fun g hg => hb.block g (h.lt g hg).2
theorem OwnR.slice {w : World} {base e k : Nat} {v : Value} {n : Nat} {xs : List Value} (h : OwnR w base e k v n xs) : ∃ A c, v = .slice A n c ∧ n ≤ c := by
  rcases h.2 with ⟨rfl, rfl⟩ | ⟨g, cap, cur, rfl, _, _, h3, _⟩
  · exact ⟨none, 0, rfl, Nat.le_refl _⟩
  · exact ⟨_, _, rfl, h3⟩
theorem notWord_zeros {z : Array Value} (hz : ∀ u ∈ z, notWord u = true) (n : Nat) : ∀ u ∈ Builtin.zeroCells z n, notWord u = true := fun u hu => by
  simp only [Builtin.zeroCells] at hu
  obtain ⟨i, hi, rfl⟩ := Array.getElem_of_mem hu
  simp at hi
  by_cases h0 : z.size = 0
  · simp [h0] at hi
  · have hp : i % z.size < z.size := Nat.mod_lt _ (by omega)
    simp only [Array.getElem_map, Array.getElem_range]
    rw [getElem!_pos z _ hp]
    exact hz _ (Array.getElem_mem hp)
section
variable {P : Program}
theorem OwnR.append {w : World} {base e k : Nat} {v : Value} {n : Nat} {xs : List Value} (h : OwnR w base e k v n xs) (t ty : TypeId) (z : Value) (bytes : Nat) (ht : P.underlying t = some (.slice e))
    (hinfo : (P.info? e).map (fun i => (i.zero, i.size, i.bytes)) = some (some z, k, bytes)) (hzs : z.cells.size = k) (hzw : ∀ u ∈ z.cells, notWord u = true)
    (a : Addr) (m c : Nat) (news : List Value) (hl : news.length = m * k) (hnews : ∀ j u, news[j]? = some u → w.cell? (a.add j) = some u) (h1 : ∀ u ∈ news, u.oneCell' = true) (hnw : ∀ u ∈ news, notWord u = true)
    (hm : 0 < m) (h63 : n + m ≤ 140737488355328) (hbytes : (n + m) * bytes ≤ 140737488355328) (hbase : base ≤ w.heap.size) :
    ∃ v' w', (Builtin.append_ #[t, t] ty #[v, .slice (some a) m c]).run P w = .ok v' w' ∧ OwnR w' base e k v' (n + m) (xs ++ news) ∧ w.grownBy w' v.ownBlock ∧ Keeps w w' ∧ (∀ g, v'.ownBlock = some g → v.ownBlock = some g ∨ w.heap.size ≤ g) := by
  obtain ⟨i, hi, hzz⟩ := Option.map_eq_some_iff.1 hinfo
  simp only [Prod.mk.injEq] at hzz
  obtain ⟨hz, hsz, hby⟩ := hzz
  subst hsz
  subst hby
  have hlen : (xs ++ news).length = (n + m) * i.size := by rw [List.length_append, h.1, hl, Nat.add_mul]
  have grown : ∀ (old : Nat), old < n + m → (∀ u ∈ xs, notWord u = true) → ∀ (row : Option Nat),
      OwnR (w.drew.alloc (.cells (xs.toArray ++ news.toArray ++ Builtin.zeroCells z.cells (grownCap w (n + m) old e - (n + m))) e)) base e i.size
        (.slice (some ⟨w.heap.size, 0, none⟩) (n + m) (grownCap w (n + m) old e)) (n + m) (xs ++ news) ∧
      w.grownBy (w.drew.alloc (.cells (xs.toArray ++ news.toArray ++ Builtin.zeroCells z.cells (grownCap w (n + m) old e - (n + m))) e)) row ∧ Keeps w (w.drew.alloc (.cells (xs.toArray ++ news.toArray ++ Builtin.zeroCells z.cells (grownCap w (n + m) old e - (n + m))) e)) := by
    intro old ho hxw row
    have hge := grownCap_ge w (n + m) old e
    have hcm : grownCap w (n + m) old e ≤ maxLen := grownCap_le_maxLen w (n + m) old e (by unfold maxLen; omega)
    refine ⟨⟨hlen, .inr ⟨w.heap.size, _, _, rfl, hbase, heap_alloc_new w.drew _, hge, hcm, ?_, ?_, fun u hu => ?_⟩⟩, ⟨rfl, rfl, rfl, by simp, fun j hj _ => heap_alloc_old w.drew _ hj⟩, Keeps.of_below (Below.alloc (Below.drew (Below.refl _ _)) (Nat.le_refl _) _)⟩
    · simp only [Array.size_append, List.size_toArray, size_zeroCells, hzs, h.1, hl, ← Nat.add_mul]
      congr 1
      omega
    · simp only [Array.toList_append, List.append_assoc]
      rw [← List.append_assoc, ← hlen]
      exact List.take_left
    · simp only [Array.mem_append, List.mem_toArray] at hu
      rcases hu with (hu | hu) | hu
      · exact hxw u hu
      · exact hnw u hu
      · exact notWord_zeros hzw _ u hu
  rcases h.2 with ⟨rfl, rfl⟩ | ⟨g, cap, cur, rfl, hbg, hg, hnc, hcm, hcs, htake, hcw⟩
  · have hx : xs = [] := List.eq_nil_of_length_eq_zero (by simpa using h.1)
    subst hx
    have hr := run_append_nil (P := P) w t ty e i z ht hi hz a m c news hl hnews hm (by omega) (by have hb := hbytes; simp only [Nat.zero_add] at hb; omega)
    have hgr := grown 0 (by omega) (by simp) (Value.ownBlock (.slice none 0 0))
    simp only [Nat.zero_add, List.nil_append, Array.empty_append] at hgr ⊢
    exact ⟨_, _, hr, hgr.1, hgr.2.1, hgr.2.2, fun g hg => .inr (by simp [Value.ownBlock] at hg; omega)⟩
  · by_cases hroom : n + m ≤ cap
    · have hfit : n * i.size + news.length ≤ cur.size := by rw [hl, hcs, ← Nat.add_mul]; exact Nat.mul_le_mul_right _ hroom
      have hr := run_append_room (P := P) w t ty e i ht hi g n cap cur hg a m c news hl hnews h1 hroom hfit
      have hother : ∀ k, k < w.heap.size → k ≠ g → (w.setRow g (cur.toList.take (n * i.size) ++ news ++ cur.toList.drop (n * i.size + news.length)).toArray).heap[k]? = w.heap[k]? := fun k _ hk => setRow_other w g k _ hk
      refine ⟨_, _, hr, ⟨hlen, .inr ⟨g, cap, _, rfl, hbg, setRow_heap w g cur _ e _ hg, hroom, hcm, ?_, ?_, fun u hu => ?_⟩⟩, ⟨rfl, rfl, rfl, by simp, fun k hk hne => hother k hk (fun e => hne (by simp [Value.ownBlock, e]))⟩, Keeps.apart hg hcw (by simp) hother, fun q hq => .inl hq⟩
      · simp only [List.size_toArray, List.length_append, List.length_take, List.length_drop, Array.length_toList]
        omega
      · rw [htake, ← hlen]
        exact List.take_left
      · simp only [List.mem_toArray, List.mem_append] at hu
        rcases hu with (hu | hu) | hu
        · exact hcw u (by simpa using List.mem_of_mem_take hu)
        · exact hnw u hu
        · exact hcw u (by simpa using List.mem_of_mem_drop hu)
    · have holds : ∀ j u, xs[j]? = some u → w.cell? ((⟨g, 0, none⟩ : Addr).add j) = some u := fun j u hj => by
        rw [add_zero']
        refine hg.cell ?_
        rw [← htake, List.getElem?_take] at hj
        split at hj
        · simpa using hj
        · cases hj
      have hxw : ∀ u ∈ xs, notWord u = true := fun u hu => by
        rw [← htake] at hu
        exact hcw u (by simpa using List.mem_of_mem_take hu)
      have hr := run_append_grow (P := P) w t ty e i z ht hi hz ⟨g, 0, none⟩ n cap xs h.1 holds a m c news hl hnews (by omega) (by omega) (growslice_fits (by omega) hbytes)
      have hgr := grown cap (by omega) hxw (Value.ownBlock (.slice (some ⟨g, 0, none⟩) n cap))
      exact ⟨_, _, hr, hgr.1, hgr.2.1, hgr.2.2, fun q hq => .inr (by simp [Value.ownBlock] at hq; omega)⟩
variable {ops : Array Oper} {rest : List Oper} {o : Oper} {a : Act} {Q : Exit → Act → World → Prop}
theorem wpl_appendR {W : World} (hgd : o.guard = none) (s x : Operand) (t : TypeId) (ho : o.op = .call { callee := .builtin .append, args := #[s, x], argTypes := #[t, t] }) {base e k : Nat} (z : Value) (bytes : Nat)
    (ht : P.underlying t = some (.slice e)) (hinfo : (P.info? e).map (fun i => (i.zero, i.size, i.bytes)) = some (some z, k, bytes)) (hzs : z.cells.size = k) (hzw : ∀ u ∈ z.cells, notWord u = true)
    (v : Value) (n : Nat) (xs : List Value) (hs : a.eval s = v) (hown : OwnR W base e k v n xs)
    (ad : Addr) (m c : Nat) (news : List Value) (hx : a.eval x = .slice (some ad) m c) (hl : news.length = m * k) (hnews : ∀ j u, news[j]? = some u → W.cell? (ad.add j) = some u) (h1 : ∀ u ∈ news, u.oneCell' = true) (hnw : ∀ u ∈ news, notWord u = true)
    (hm : 0 < m) (h63 : n + m ≤ 140737488355328) (hbytes : (n + m) * bytes ≤ 140737488355328) (hbase : base ≤ W.heap.size)
    (h : ∀ v' w', OwnR w' base e k v' (n + m) (xs ++ news) → W.grownBy w' v.ownBlock → Keeps W w' → (∀ g, v'.ownBlock = some g → v.ownBlock = some g ∨ W.heap.size ≤ g) → wpList P ops Q rest (a.put o.dst v') w') : wpList P ops Q (o :: rest) a W :=
  wpList_plain hgd fun K hK => by
    obtain ⟨v', w', hr, h2, h3, h4, h5⟩ := hown.append (P := P) t o.type z bytes ht hinfo hzs hzw ad m c news hl hnews h1 hnw hm h63 hbytes hbase
    unfold Oper.wp execOp
    simp only [ho, resolve, invoke, builtin, Sem.run_bind, Sem.run_pure, Result.andThen_ok, List.map_toArray, List.map_cons, List.map_nil, hs, hx, hr]
    exact hK _ _ (h v' w' h2 h3 h4 h5)
end
/-- A list of structs of the call's own. -/
def OL {α : Type} (k e : Nat) (E : World → Array Value → α → Prop) (base : Nat) (w : World) (v : Value) (ys : List α) : Prop :=
  ∃ xs, OwnR w base e k v ys.length xs ∧ ∀ j a, ys[j]? = some a → ∃ vs : Array Value, vs.size = k ∧ (∀ i u, vs[i]? = some u → xs[j * k + i]? = some u) ∧ E w vs a
section
variable {α : Type} {k e : Nat} {E : World → Array Value → α → Prop} {base : Nat} {w w1 : World} {v : Value} {ys : List α}
theorem OL.nil (k e : Nat) (E : World → Array Value → α → Prop) (base : Nat) (w : World) : OL k e E base w (.slice none 0 0) [] := ⟨[], OwnR.nil _ _ _ _, fun j a h => by simp at h⟩
theorem OL.below (hE : Stays E) (h : OL k e E base w v ys) (hb : Below w.heap.size w w1) : OL k e E base w1 v ys := by
  obtain ⟨xs, h1, h2⟩ := h
  refine ⟨xs, h1.below hb, fun j a hj => ?_⟩
  obtain ⟨vs, h3, h4, h5⟩ := h2 j a hj
  exact ⟨vs, h3, h4, hE _ _ _ _ h5 hb⟩
theorem OL.slice (h : OL k e E base w v ys) : ∃ A c, v = .slice A ys.length c ∧ ys.length ≤ c := by
  obtain ⟨xs, h1, _⟩ := h
  exact h1.slice
theorem OL.lt (h : OL k e E base w v ys) : ∀ g, v.ownBlock = some g → base ≤ g ∧ g < w.heap.size := by
  obtain ⟨xs, h1, _⟩ := h
  exact h1.lt
theorem OL.sl (h : OL k e E base w v ys) : SL k E w v ys := by
  obtain ⟨xs, ⟨hl, h1⟩, h2⟩ := h
  rcases h1 with ⟨rfl, h0⟩ | ⟨g, cap, cur, rfl, hb, hk, hnc, hcm, hcs, htake, hw⟩
  · exact ⟨none, 0, by rw [h0], by omega, fun hp => by omega⟩
  · refine ⟨_, cap, rfl, hnc, fun hp => ⟨g, 0, rfl, hk.lt, fun j x hj => ?_⟩⟩
    obtain ⟨vs, h3, h4, h5⟩ := h2 j x hj
    refine ⟨vs, h3, fun i u hi => ?_, h5⟩
    have h6 := h4 i u hi
    rw [Nat.zero_add]
    refine hk.cell ?_
    rw [← htake, List.getElem?_take] at h6
    split at h6
    · simpa using h6
    · cases h6
theorem OL.push (hE : Leans E) {v' : Value} {vs : Array Value} {b : α} (h : OL k e E base w v ys) (hv : vs.size = k) (hb : E w vs b) (hk : Keeps w w1) (hown : ∀ xs, OwnR w base e k v ys.length xs → OwnR w1 base e k v' (ys.length + 1) (xs ++ vs.toList)) : OL k e E base w1 v' (ys ++ [b]) := by
  obtain ⟨xs, h1, h2⟩ := h
  refine ⟨xs ++ vs.toList, by rw [List.length_append]; exact hown xs h1, fun j a hj => ?_⟩
  rw [List.getElem?_append] at hj
  split at hj
  · rename_i hlt
    obtain ⟨us, h3, h4, h5⟩ := h2 j a hj
    refine ⟨us, h3, fun i u hi => ?_, hE _ _ _ _ h5 hk⟩
    have h6 := h4 i u hi
    rw [List.getElem?_append_left (List.getElem?_eq_some_iff.1 h6).1]
    exact h6
  · rename_i hge
    have h0 : j - ys.length = 0 := by
      have := (List.getElem?_eq_some_iff.1 hj).1
      simp at this
      omega
    rw [h0] at hj
    have hba : b = a := by simpa using hj
    subst hba
    obtain rfl : j = ys.length := by omega
    refine ⟨vs, hv, fun i u hi => ?_, hE _ _ _ _ hb hk⟩
    rw [← h1.1, List.getElem?_append_right (by omega), Nat.add_sub_cancel_left]
    simpa using hi
end
end Go.Proofs.Ytfhambfgjigneaa
set_option linter.unusedVariables false
set_option linter.unusedSimpArgs false
namespace Go.Proofs.Ytfhambfgjigneaa
open Go.RowKit
theorem HS.grown {w W W' : World} {bs : List (Nat × Nat × Array Value)} {row : Option Nat} (h : HS w bs W) (hg : W.grownBy W' row) (hb : ∀ b ∈ bs, some b.1 ≠ row) (hr : ∀ g, row = some g → w.heap.size ≤ g) : HS w bs W' :=
  ⟨fun b hm => (hg.block b.1 (h.1 b hm).lt (hb b hm)).trans (h.1 b hm), ⟨hg.os.trans h.2.os, hg.tape.trans h.2.tape, hg.output.trans h.2.output, Nat.le_trans h.2.size hg.size, fun k hk => (hg.block k (Nat.lt_of_lt_of_le hk h.2.size) (fun e => by have := hr k e.symm; omega)).trans (h.2.block k hk)⟩⟩
theorem lit_cells {w : World} {g t : Nat} {cs : Array Value} (h : Blk w g t cs) : ∀ j u, cs.toList[j]? = some u → w.cell? ((⟨g, 0, none⟩ : Addr).add j) = some u := fun j u hu => by
  rw [add_zero']
  exact h.cell (by simpa using hu)
theorem Blk.newAt {w : World} {g t : Nat} {cs : Array Value} (h : w.heap.size = g) : Blk (w.alloc (.cells cs t)) g t cs := by rw [← h]; exact Blk.new w t cs
def zeroF : Value := .agg #[.bool false, .slice none 0 0, .slice none 0 0]
theorem info40z : (Try.prog.info? 40).map (fun i => (i.zero, i.size, i.bytes)) = some (some zeroF, 3, 56) := info40m
theorem zeroF_words : ∀ u ∈ zeroF.cells, notWord u = true := by simp [zeroF, Value.cells, notWord]
theorem frac_one {b : Bool} {A1 A2 : Option Addr} {n1 c1 n2 c2 : Nat} : ∀ u ∈ [Value.bool b, .slice A1 n1 c1, .slice A2 n2 c2], u.oneCell' = true := by
  intro u hu
  simp only [List.mem_cons, List.not_mem_nil, or_false] at hu
  rcases hu with rfl | rfl | rfl <;> rfl
theorem frac_word {b : Bool} {A1 A2 : Option Addr} {n1 c1 n2 c2 : Nat} : ∀ u ∈ [Value.bool b, .slice A1 n1 c1, .slice A2 n2 c2], notWord u = true := by
  intro u hu
  simp only [List.mem_cons, List.not_mem_nil, or_false] at hu
  rcases hu with rfl | rfl | rfl <;> rfl
/-- 'append(b, x)' where b is a list of fractions of the call's own and x a fraction in a literal. -/
theorem wpl_appendF {ops : Array Oper} {rest : List Oper} {o : Oper} {a : Act} {Q : Exit → Act → World → Prop} {W : World} (hgd : o.guard = none) (s x : Operand) (ho : o.op = .call { callee := .builtin .append, args := #[s, x], argTypes := #[23, 23] }) {base : Nat}
    (v : Value) (fs : List RawF) (hs : a.eval s = v) (hown : OL 3 40 EF base W v fs) {g : Nat} {b : Bool} {A1 A2 : Option Addr} {n1 c1 n2 c2 : Nat} (f : RawF) (hx : a.eval x = .slice (some ⟨g, 0, none⟩) 1 1) (hk : Blk W g 40 #[.bool b, .slice A1 n1 c1, .slice A2 n2 c2]) (hf : FR W (.agg #[.bool b, .slice A1 n1 c1, .slice A2 n2 c2]) f)
    (hl : fs.length ≤ 1000000000) (hbase : base ≤ W.heap.size)
    (h : ∀ v' w', OL 3 40 EF base w' v' (fs ++ [f]) → W.grownBy w' v.ownBlock → Keeps W w' → (∀ g, v'.ownBlock = some g → v.ownBlock = some g ∨ W.heap.size ≤ g) → wpList Try.prog ops Q rest (a.put o.dst v') w') : wpList Try.prog ops Q (o :: rest) a W := by
  obtain ⟨xs, h1, h2⟩ := hown
  refine wpl_appendR hgd s x 23 ho (base := base) zeroF 56 Try.underlying23 info40z rfl zeroF_words v fs.length xs hs h1 ⟨g, 0, none⟩ 1 1 [.bool b, .slice A1 n1 c1, .slice A2 n2 c2] hx rfl (lit_cells hk) frac_one frac_word (by decide) (by omega) (by omega) hbase fun v' w' h3 h4 h5 h6 => h v' w' ?_ h4 h5 h6
  refine OL.push EF.leans (k := 3) (e := 40) (vs := #[.bool b, .slice A1 n1 c1, .slice A2 n2 c2]) ⟨xs, h1, h2⟩ rfl hf h5 fun ys hys => ?_
  have hxy : ys.length = xs.length := by rw [hys.1, h1.1]
  obtain rfl : ys = xs := by
    rcases h1.2 with ⟨e, h0⟩ | ⟨g1, c1', cu1, e1, _, hb1, _, _, _, ht1, _⟩
    · have l1 : xs = [] := List.eq_nil_of_length_eq_zero (by rw [h1.1, h0, Nat.zero_mul])
      rw [l1] at hxy ⊢
      exact List.eq_nil_of_length_eq_zero hxy
    · rcases hys.2 with ⟨e, h0⟩ | ⟨g2, c2', cu2, e2, _, hb2, _, _, _, ht2, _⟩
      · rw [e1] at e; cases e
      · rw [e1] at e2
        injection e2 with e2 _ _
        injection e2 with e2
        injection e2 with e2
        subst e2
        have : cu1 = cu2 := by
          have h7 := hb1.symm.trans hb2
          injection h7 with h7
          injection h7
        rw [← ht1, ← ht2, this]
  exact h3
noncomputable def rightsQ (p : ProgF) (y : List RawF) : Rat := capQ (dotQ (y.map fixQ) (p.rows.map fun r => fixQ r.b))
set_option maxHeartbeats 16000000 in
set_option maxRecDepth 100000 in
theorem rights_calls (w : World) (v v2 : Value) (p : ProgF) (y : List RawF) (h : PR w v p) (h2 : FL w v2 y) (hr : p.rows.length ≤ 400) (hy : y.length ≤ 100000) : Calls Try.prog 62 #[v, v2] w fun e w' => FPost w (rightsQ p y) e w' := by
  obtain ⟨A1, c1, A2, c2, A3, c3, rfl, HI, H1, H2, H3⟩ := h.opened
  obtain ⟨A4, c4, rfl, hc4⟩ := h2.slice
  have HY := Lib.hid h2
  clear h h2
  obtain ⟨vars, hv⟩ : ∃ n, n = p.vars := ⟨_, rfl⟩
  rw [← hv]
  clear hv
  obtain ⟨bs, hbs⟩ : ∃ bs, bs = p.rows.map (fun r => r.b) := ⟨_, rfl⟩
  have HBS := Lib.hid hbs
  have hbl : bs.length = p.rows.length := by rw [hbs, List.length_map]
  have HBL := Lib.hid hbl
  have HQ : Hid (rightsQ p y = capQ (dotQ (y.map fixQ) (bs.map fixQ))) := by unfold Hid rightsQ; rw [hbs, List.map_map]; rfl
  clear hbs hbl
  rw [HQ.out]
  go_enter Try.func62, Try.ntmps62
  go_wp2_with fail
  have H0 := Lib.hid (HS.two (w := w) #[.int .i64 vars, .slice A1 p.free.length c1, .slice A2 p.goal.length c2, .slice A3 p.rows.length c3] #[.bool false, .slice none 0 0, .slice none 0 0] 26 40)
  have hsz0 : ((w.alloc (.cells #[.int .i64 vars, .slice A1 p.free.length c1, .slice A2 p.goal.length c2, .slice A3 p.rows.length c3] 26)).alloc (.cells #[.bool false, .slice none 0 0, .slice none 0 0] 40)).heap.size = w.heap.size + 2 := by simp
  generalize (w.alloc (.cells #[.int .i64 vars, .slice A1 p.free.length c1, .slice A2 p.goal.length c2, .slice A3 p.rows.length c3] 26)).alloc (.cells #[.bool false, .slice none 0 0, .slice none 0 0] 40) = W0 at *
  have hsz : w.heap.size + 2 ≤ W0.heap.size := by omega
  clear hsz0
  go_loopw [5, 11] (fun v5 vi wr => ∃ i : Nat, i ≤ p.rows.length ∧ vi = .int .i64 (i : Int) ∧ OL 3 40 EF (w.heap.size + 2) wr v5 (bs.take i) ∧ w.heap.size + 2 ≤ wr.heap.size ∧ HS w [(w.heap.size + 1, 40, #[.bool false, .slice none 0 0, .slice none 0 0]), (w.heap.size, 26, #[.int .i64 vars, .slice A1 p.free.length c1, .slice A2 p.goal.length c2, .slice A3 p.rows.length c3])] wr) (fun _ vi _ => p.rows.length - (intOf vi).toNat)
  case atStart => exact ⟨0, Nat.zero_le _, rfl, OL.nil _ _ _ _ _, hsz, H0.out⟩
  case round =>
    obtain ⟨i, hi, rfl, hol, hsz2, hs⟩ := hrel
    have HOL := Lib.hid hol
    have HK := Lib.hid hs
    obtain ⟨A5, c5, hv5, _⟩ := hol.slice
    have htl : (bs.take i).length = i := by rw [List.length_take, HBL.out]; omega
    rw [htl] at hv5
    subst hv5
    clear hol hs
    by_cases hlt : i < p.rows.length
    · obtain ⟨r, hr'⟩ : ∃ r, p.rows[i]? = some r := ⟨p.rows[i], List.getElem?_eq_getElem hlt⟩
      obtain ⟨g, o, B1, d1, B2, n2, d2, B3, n3, d3, rfl, hg, k0, k1, k2, k3, k4, HI', HA', HB'⟩ := RL.at5 (H3.out.below ER.stays HK.out.2) hr'
      have HNX : Hid (bs.take (i + 1) = bs.take i ++ [r.b]) := by
        unfold Hid
        rw [List.take_add_one, HBS.out, List.getElem?_map, hr']
        rfl
      clear hr'
      have m1 : (i : Int) < (p.rows.length : Int) := by omega
      have m3 : (i : Int).toNat = i := by omega
      have m4 : (0 : Int) ≤ (i : Int) := by omega
      obtain ⟨s, hs⟩ : ∃ s, s = r.s := ⟨_, rfl⟩
      rw [← hs] at k1
      have hll : (bs.take i).length ≤ 1000000000 := by omega
      clear hs htl
      go_wp2_with (at_builtin; refine wpl_appendF rfl (.tmp 15) (.tmp 18) rfl (base := w.heap.size + 2) (.slice A5 i c5) (bs.take i) rfl ((HOL.out.below EF.stays (below_new _ _)).below EF.stays (below_new _ _)) r.b rfl (Blk.newAt (by simp)) ((HB'.out.of_below (below_new _ _)).of_below (below_new _ _)) hll (by simp; omega) ?_; intro v6 w6 hown6 hg6 hk6 hb6)
      have HOL6 := Lib.hid hown6
      have HK6 := Lib.hid (HS.grown ((HK.out.step (below_new _ _)).step (below_new _ _)) hg6 (fun b hm e => by
        have := (HOL.out.lt b.1 e.symm).1
        simp only [List.mem_cons, List.not_mem_nil, or_false] at hm
        rcases hm with rfl | rfl <;> (simp only at this; omega)) (fun g e => by have := (HOL.out.lt g e).1; omega))
      have hsz6 : w.heap.size + 2 ≤ w6.heap.size := by have := hk6.1; simp at this; omega
      clear hown6 hg6 hk6 hb6
      go_wp2_with fail
      go_roundw
      case rel => exact ⟨i + 1, by omega, by go_num, by rw [HNX.out]; exact HOL6.out, hsz6, HK6.out⟩
      case measure => simp [intOf]; omega
    · obtain rfl : i = p.rows.length := by omega
      have hbt : bs.take p.rows.length = bs := List.take_of_length_le (by rw [HBL.out]; exact Nat.le_refl _)
      rw [hbt] at HOL
      have HFL := Lib.hid HOL.out.sl
      clear hbt htl
      go_wp2_with fail
      refine (fdot_calls _ _ _ y bs (HY.out.below EF.stays HK.out.2) HFL.out hy (by rw [HBL.out]; omega)).mono ?_
      rintro e w2 ⟨v, rfl, hv, hb⟩
      obtain ⟨A5, n5, c5, A6, n6, c6, rfl, HV2⟩ := hv.opened
      have H2' := Lib.hid (HK.out.step hb)
      clear hb hv
      obtain ⟨e0, e1, e2⟩ := (H2'.out.blk 0 rfl).c3
      obtain ⟨f0, f1, f2⟩ := (H2'.out.blk 0 rfl).f3
      go_wp2_with fail
      exact end40 Try.results62 rfl (H2'.out.blk 0 rfl) HV2.out (by omega) H2'.out.2
end Go.Proofs.Ytfhambfgjigneaa
set_option linter.unusedVariables false
set_option linter.unusedSimpArgs false
namespace Go.Proofs.Ytfhambfgjigneaa
open Go.RowKit
theorem HS.add {w W : World} {bs : List (Nat × Nat × Array Value)} (h : HS w bs W) (cs : Array Value) (t : Nat) : HS w ((W.heap.size, t, cs) :: bs) (W.alloc (.cells cs t)) := by
  have h1 := h.step (below_new W (.cells cs t))
  refine ⟨fun b hm => ?_, h1.2⟩
  rcases List.mem_cons.1 hm with rfl | hm
  · exact Blk.new _ _ _
  · exact h1.1 b hm
structure CertF where
  kind : Int
  x : List RawF
  y : List RawF
  ray : List RawF
def CG0 (w : World) (v : Value) (c : CertF) : Prop := (c.x.length ≤ 9223372036854775807 ∧ c.y.length ≤ 9223372036854775807 ∧ c.ray.length ≤ 9223372036854775807) ∧ ∃ v1 v2 v3, v = .agg #[.int .i64 c.kind, v1, v2, v3] ∧ I64 c.kind ∧ FL0 w v1 c.x ∧ FL0 w v2 c.y ∧ FL0 w v3 c.ray
def CR (w : World) (v : Value) (c : CertF) : Prop := ∃ v1 v2 v3, v = .agg #[.int .i64 c.kind, v1, v2, v3] ∧ I64 c.kind ∧ FL w v1 c.x ∧ FL w v2 c.y ∧ FL w v3 c.ray
theorem CG0.of_below {w w1 : World} {v : Value} {c : CertF} (h : CG0 w v c) (hb : Below w.heap.size w w1) : CG0 w1 v c := by
  obtain ⟨hl, v1, v2, v3, e, hk, h1, h2, h3⟩ := h
  exact ⟨hl, v1, v2, v3, e, hk, h1.below EF0.stays hb, h2.below EF0.stays hb, h3.below EF0.stays hb⟩
theorem CR.of_below {w w1 : World} {v : Value} {c : CertF} (h : CR w v c) (hb : Below w.heap.size w w1) : CR w1 v c := by
  obtain ⟨v1, v2, v3, e, hk, h1, h2, h3⟩ := h
  exact ⟨v1, v2, v3, e, hk, h1.below EF.stays hb, h2.below EF.stays hb, h3.below EF.stays hb⟩
theorem CG0.opened {w : World} {v : Value} {c : CertF} (h : CG0 w v c) : ∃ A1 c1 A2 c2 A3 c3, v = .agg #[.int .i64 c.kind, .slice A1 c.x.length c1, .slice A2 c.y.length c2, .slice A3 c.ray.length c3] ∧ Hid (FL0 w (.slice A1 c.x.length c1) c.x) ∧ Hid (FL0 w (.slice A2 c.y.length c2) c.y) ∧ Hid (FL0 w (.slice A3 c.ray.length c3) c.ray) := by
  obtain ⟨_, v1, v2, v3, rfl, _, h1, h2, h3⟩ := h
  obtain ⟨A1, c1, rfl, _⟩ := h1.slice
  obtain ⟨A2, c2, rfl, _⟩ := h2.slice
  obtain ⟨A3, c3, rfl, _⟩ := h3.slice
  exact ⟨A1, c1, A2, c2, A3, c3, rfl, h1, h2, h3⟩
theorem CR.opened {w : World} {v : Value} {c : CertF} (h : CR w v c) : ∃ A1 c1 A2 c2 A3 c3, v = .agg #[.int .i64 c.kind, .slice A1 c.x.length c1, .slice A2 c.y.length c2, .slice A3 c.ray.length c3] ∧ Hid (FL w (.slice A1 c.x.length c1) c.x) ∧ Hid (FL w (.slice A2 c.y.length c2) c.y) ∧ Hid (FL w (.slice A3 c.ray.length c3) c.ray) := by
  obtain ⟨v1, v2, v3, rfl, _, h1, h2, h3⟩ := h
  obtain ⟨A1, c1, rfl, _⟩ := h1.slice
  obtain ⟨A2, c2, rfl, _⟩ := h2.slice
  obtain ⟨A3, c3, rfl, _⟩ := h3.slice
  exact ⟨A1, c1, A2, c2, A3, c3, rfl, h1, h2, h3⟩
def certB (c : CertF) (n : Nat) : Bool := decide (c.x.length ≤ n) && (decide (c.y.length ≤ n) && (decide (c.ray.length ≤ n) && (wordsB c.x 12 && (wordsB c.y 12 && wordsB c.ray 12))))
theorem certB_ok {c : CertF} {n : Nat} (h : certB c n = true) : (c.x.length ≤ n ∧ c.y.length ≤ n ∧ c.ray.length ≤ n) ∧ wordsB c.x 12 = true ∧ wordsB c.y 12 = true ∧ wordsB c.ray 12 = true := by
  unfold certB at h
  simp only [Bool.and_eq_true, decide_eq_true_eq] at h
  exact ⟨⟨h.1, h.2.1, h.2.2.1⟩, h.2.2.2⟩
theorem CG0.full {w : World} {v : Value} {c : CertF} (h : CG0 w v c) {n : Nat} (hc : certB c n = true) : CR w v c := by
  obtain ⟨_, v1, v2, v3, e, hk, h1, h2, h3⟩ := h
  obtain ⟨_, a, b, d⟩ := certB_ok hc
  exact ⟨v1, v2, v3, e, hk, h1.full (by decide) a, h2.full (by decide) b, h3.full (by decide) d⟩
set_option maxHeartbeats 16000000 in
set_option maxRecDepth 100000 in
theorem cert_calls (w : World) (v : Value) (c : CertF) (n : Nat) (h : CG0 w v c) (hn : n ≤ 1000) : Calls Try.prog 27 #[v, .int .i64 (n : Int)] w fun e w' => BPost w (certB c n) e w' := by
  have hl := h.1
  obtain ⟨A1, c1, A2, c2, A3, c3, rfl, H1, H2, H3⟩ := h.opened
  have hl1 := hl.1
  have hl2 := hl.2.1
  have hl3 := hl.2.2
  clear h hl
  obtain ⟨kd, hkd⟩ : ∃ k, k = c.kind := ⟨_, rfl⟩
  rw [← hkd]
  clear hkd
  go_enter Try.func27, Try.ntmps27
  by_cases a1 : n < c.x.length
  · have t1 : decide (c.x.length ≤ n) = false := decide_eq_false (by omega)
    have HR : Hid (certB c n = false) := by unfold Hid certB; rw [t1]; simp
    clear a1
    go_wp2_with fail
    go_ret
    exact ⟨by rw [HR.out]; rfl, below_new w _⟩
  have t1 : decide (c.x.length ≤ n) = true := decide_eq_true (by omega)
  by_cases a2 : n < c.y.length
  · have t2 : decide (c.y.length ≤ n) = false := decide_eq_false (by omega)
    have HR : Hid (certB c n = false) := by unfold Hid certB; rw [t2]; simp
    clear a1 a2
    go_wp2_with fail
    go_ret
    exact ⟨by rw [HR.out]; rfl, below_new w _⟩
  have t2 : decide (c.y.length ≤ n) = true := decide_eq_true (by omega)
  by_cases a3 : n < c.ray.length
  · have t3 : decide (c.ray.length ≤ n) = false := decide_eq_false (by omega)
    have HR : Hid (certB c n = false) := by unfold Hid certB; rw [t3]; simp
    clear a1 a2 a3
    go_wp2_with fail
    go_ret
    exact ⟨by rw [HR.out]; rfl, below_new w _⟩
  have t3 : decide (c.ray.length ≤ n) = true := decide_eq_true (by omega)
  have HHEAD : Hid (certB c n = (wordsB c.x 12 && (wordsB c.y 12 && wordsB c.ray 12))) := by unfold Hid certB; rw [t1, t2, t3]; rfl
  clear a1 a2 a3
  go_wp2_with fail
  have H0 := Lib.hid (HS.one (w := w) #[.int .i64 kd, .slice A1 c.x.length c1, .slice A2 c.y.length c2, .slice A3 c.ray.length c3] 44)
  generalize w.alloc (.cells #[.int .i64 kd, .slice A1 c.x.length c1, .slice A2 c.y.length c2, .slice A3 c.ray.length c3] 44) = W0 at *
  refine (words_calls W0 _ c.x 12 (H1.out.below EF0.stays H0.out.2) hl1 (by decide)).mono ?_
  rintro e w1 ⟨rfl, hb⟩
  have K1 := Lib.hid (H0.out.step hb)
  obtain ⟨x0, x1, x2, x3⟩ := K1.out.c4 0 rfl
  clear hb
  cases hg1 : wordsB c.x 12 with
  | false =>
    have HR : Hid (certB c n = false) := by unfold Hid; rw [HHEAD.out, hg1]; simp
    clear hg1
    go_wp2_with fail
    go_ret
    exact ⟨by rw [HR.out]; rfl, K1.out.2⟩
  | true =>
    have G1 := Lib.hid hg1
    clear hg1
    go_wp2_with fail
    refine (words_calls w1 _ c.y 12 (H2.out.below EF0.stays K1.out.2) hl2 (by decide)).mono ?_
    rintro e w2 ⟨rfl, hb⟩
    have K2 := Lib.hid (K1.out.step hb)
    obtain ⟨x0, x1, x2, x3⟩ := K2.out.c4 0 rfl
    clear hb
    cases hg2 : wordsB c.y 12 with
    | false =>
      have HR : Hid (certB c n = false) := by unfold Hid; rw [HHEAD.out, hg2]; simp
      clear hg2
      go_wp2_with fail
      go_ret
      exact ⟨by rw [HR.out]; rfl, K2.out.2⟩
    | true =>
      have G2 := Lib.hid hg2
      clear hg2
      go_wp2_with fail
      refine (words_calls w2 _ c.ray 12 (H3.out.below EF0.stays K2.out.2) hl3 (by decide)).mono ?_
      rintro e w3 ⟨rfl, hb⟩
      have K3 := Lib.hid (K2.out.step hb)
      obtain ⟨x0, x1, x2, x3⟩ := K3.out.c4 0 rfl
      clear hb
      cases hg3 : wordsB c.ray 12 with
      | false =>
        have HR : Hid (certB c n = false) := by unfold Hid; rw [HHEAD.out, hg3]; simp
        clear hg3
        go_wp2_with fail
        go_ret
        exact ⟨by rw [HR.out]; rfl, K3.out.2⟩
      | true =>
        have G3 := Lib.hid hg3
        clear hg3
        have HR : Hid (certB c n = true) := by unfold Hid; rw [HHEAD.out, G1.out, G2.out, G3.out]; rfl
        go_wp2_with fail
        go_ret
        exact ⟨by rw [HR.out]; rfl, K3.out.2⟩
noncomputable def rowGoes (x : List Rat) (r : RowF) : Bool := holdsB r.s (capQ (dotQ (r.a.map fixQ) x)) 0
noncomputable def goesB (p : ProgF) (x : List RawF) : Bool := decide ((x.length : Int) = p.vars) && (signedB p.free (x.map fixQ) && (p.rows.all (rowGoes (x.map fixQ)) && decide (signQ (capQ (dotQ (p.goal.map fixQ) (x.map fixQ))) > 0)))
theorem fixQ_zero : fixQ (rawQ 0) = 0 := fixQ_raw 0 (by rw [sizeQ_zero]; decide)
theorem holds0_calls (w : World) (s : Int) (v v2 : Value) (f : RawF) (h : FR w v f) (h2 : FQ w v2 0) : Calls Try.prog 96 #[.int .i64 s, v, v2] w fun e w' => BPost w (holdsB s (fixQ f) 0) e w' := by
  have := holds_calls w s v v2 f (rawQ 0) h (FR.of_fq h2 (by rw [sizeQ_zero]; decide))
  rw [fixQ_zero] at this
  exact this
theorem frac_nil_calls (w : World) : Calls Try.prog 54 #[.slice none 0 0] w fun e w' => FPost w 0 e w' := by
  have := fsum_calls w _ [] (FL.nil w) (by simp)
  rw [show capQ (sumQ (List.map fixQ [])) = 0 from capQ_zero] at this
  exact this
set_option maxHeartbeats 16000000 in
set_option maxRecDepth 100000 in
theorem goes_calls (w : World) (v v2 : Value) (p : ProgF) (x : List RawF) (h : PR w v p) (h2 : FL w v2 x) (hr : rightP p = 0) : Calls Try.prog 63 #[v, v2] w fun e w' => BPost w (goesB p x) e w' := by
  have hrl := rightP_len hr
  clear hr
  have HP := Lib.hid h
  obtain ⟨A1, c1, A2, c2, A3, c3, rfl, HI, H1, H2, H3⟩ := h.opened
  obtain ⟨A4, c4, rfl, hc4⟩ := h2.slice
  have HX := Lib.hid h2
  clear h h2
  obtain ⟨vars, hv⟩ : ∃ n, n = p.vars := ⟨_, rfl⟩
  rw [← hv] at HP ⊢
  have HV := Lib.hid hv
  have hfl : (p.free.length : Int) = vars := by rw [hv]; exact hrl.1
  have hvl : vars ≤ 160 := by rw [hv]; exact hrl.2.2.2.1
  have hrw : p.rows.length ≤ 400 := hrl.2.2.2.2.1
  have hgl : p.goal.length ≤ 100000 := by have := hrl.2.1; omega
  have HROW : Hid (∀ (r : RowF), r ∈ p.rows → (r.a.length : Int) = vars) := by unfold Hid; rw [hv]; exact fun r hm => (hrl.2.2.2.2.2 r hm).1
  clear hv hrl
  go_enter Try.func63, Try.ntmps63
  by_cases q1 : (x.length : Int) = vars
  case neg =>
    have u1 : ((x.length : Int) != vars) = true := bneI q1
    have HE : Hid (goesB p x = false) := by unfold Hid goesB; rw [decide_eq_false (by rw [← HV.out]; exact q1)]; rfl
    clear q1 hfl
    go_wp2_with fail
    go_ret
    exact ⟨by rw [HE.out]; rfl, below_new w _⟩
  have u1 : ((x.length : Int) != vars) = false := beqI q1
  have hxl : x.length ≤ 100000 := by omega
  have hxf : x.length = p.free.length := by omega
  have HXV := Lib.hid q1
  have HXF := Lib.hid hxf
  clear q1 hfl hxf
  go_wp2_with fail
  have H0 := Lib.hid (HS.one (w := w) #[.int .i64 vars, .slice A1 p.free.length c1, .slice A2 p.goal.length c2, .slice A3 p.rows.length c3] 26)
  generalize w.alloc (.cells #[.int .i64 vars, .slice A1 p.free.length c1, .slice A2 p.goal.length c2, .slice A3 p.rows.length c3] 26) = W0 at *
  refine (signed_calls W0 _ _ p x (HP.out.of_below H0.out.2) (HX.out.below EF.stays H0.out.2) HXF.out hxl).mono ?_
  rintro e w1 ⟨rfl, hb⟩
  have h1' := H0.out.step hb
  have H1' := Lib.hid h1'
  obtain ⟨x0, x1, x2, x3⟩ := H1'.out.c4 0 rfl
  clear hb h1'
  cases hsg : signedB p.free (x.map fixQ) with
  | false =>
    have HE : Hid (goesB p x = false) := by unfold Hid goesB; rw [hsg]; simp
    clear hsg
    go_wp2_with fail
    go_ret
    exact ⟨by rw [HE.out]; rfl, H1'.out.2⟩
  | true =>
    have HE : Hid (goesB p x = (p.rows.all (rowGoes (x.map fixQ)) && decide (signQ (capQ (dotQ (p.goal.map fixQ) (x.map fixQ))) > 0))) := by unfold Hid goesB; rw [hsg, decide_eq_true (by rw [← HV.out]; exact HXV.out)]; rfl
    clear hsg
    go_wp2_with fail
    clear x0 x1 x2 x3
    refine (frac_nil_calls w1).mono ?_
    rintro e w2 ⟨v, rfl, hv, hb⟩
    obtain ⟨A5, n5, c5, A6, n6, c6, rfl, HVZ⟩ := hv.opened
    have HZ1 := Lib.hid (H1'.out.step hb)
    have hz1 := H1'.out.2.size
    have hz2 := hb.size
    have hlt1 := (H1'.out.blk 0 rfl).lt
    obtain ⟨x0, x1, x2, x3⟩ := HZ1.out.c4 0 rfl
    have hlt2 := (HZ1.out.blk 0 rfl).lt
    clear hv hb
    go_wp2_with fail
    clear x0 x1 x2 x3
    have HZ := Lib.hid (HS.add HZ1.out #[.bool (negQ 0), .slice A5 n5 c5, .slice A6 n6 c6] 40)
    have HVZ2 := Lib.hid (HVZ.out.of_below (below_new w2 (.cells #[.bool (negQ 0), .slice A5 n5 c5, .slice A6 n6 c6] 40)))
    obtain ⟨gz, hgz⟩ : ∃ gz, gz = w2.heap.size := ⟨_, rfl⟩
    rw [← hgz] at HZ ⊢
    have hzne : w.heap.size < gz := by omega
    generalize w2.alloc (.cells #[.bool (negQ 0), .slice A5 n5 c5, .slice A6 n6 c6] 40) = W2 at *
    clear hgz
    go_loopw [23] (fun vi wr => ∃ i : Nat, i ≤ p.rows.length ∧ vi = .int .i64 (i : Int) ∧ (∀ (j : Nat) (r : RowF), j < i → p.rows[j]? = some r → rowGoes (x.map fixQ) r = true) ∧ HS w [(gz, 40, #[.bool (negQ 0), .slice A5 n5 c5, .slice A6 n6 c6]), (w.heap.size, 26, #[.int .i64 vars, .slice A1 p.free.length c1, .slice A2 p.goal.length c2, .slice A3 p.rows.length c3])] wr ∧ FQ wr (.agg #[.bool (negQ 0), .slice A5 n5 c5, .slice A6 n6 c6]) 0) (fun vi _ => p.rows.length - (intOf vi).toNat)
    case atStart => exact ⟨0, Nat.zero_le _, rfl, fun j _ h => absurd h (Nat.not_lt_zero _), HZ.out, HVZ2.out⟩
    case round =>
      obtain ⟨i, hi, rfl, hall, hk, hvz⟩ := hrel
      have HVZ3 := Lib.hid hvz
      clear hvz
      have HA := Lib.hid hall
      have HK := Lib.hid hk
      clear hall hk
      by_cases hlt : i < p.rows.length
      · obtain ⟨r, hr⟩ : ∃ r, p.rows[i]? = some r := ⟨p.rows[i], List.getElem?_eq_getElem hlt⟩
        obtain ⟨g, o, B1, d1, B2, n2, d2, B3, n3, d3, rfl, hg, k0, k1, k2, k3, k4, HI', HA', HB'⟩ := RL.at5 (H3.out.below ER.stays HK.out.2) hr
        have hrl : r.a.length ≤ 100000 := by have := HROW.out r (List.mem_of_getElem? hr); omega
        have HRR := Lib.hid hr
        clear hr
        have m1 : (i : Int) < (p.rows.length : Int) := by omega
        have m3 : (i : Int).toNat = i := by omega
        have m4 : (0 : Int) ≤ (i : Int) := by omega
        obtain ⟨s, hs⟩ : ∃ s, s = r.s := ⟨_, rfl⟩
        rw [← hs] at k1
        have HSE := Lib.hid hs
        clear hs
        go_wp2_with fail
        have hb1 := below_new wr (.cells #[.slice B1 r.a.length d1, .int .i64 s, .bool r.b.neg, .slice B2 n2 d2, .slice B3 n3 d3] 65)
        have hk1 := Blk.new wr 65 #[.slice B1 r.a.length d1, .int .i64 s, .bool r.b.neg, .slice B2 n2 d2, .slice B3 n3 d3]
        have HB1 := Lib.hid hb1
        have z0 := hk1.cell (j := 0) rfl
        have z1 := hk1.cell (j := 1) rfl
        have z2 := hk1.cell (j := 2) rfl
        have z3 := hk1.cell (j := 3) rfl
        have z4 := hk1.cell (j := 4) rfl
        have hz := hk1.lt
        generalize wr.alloc (.cells #[.slice B1 r.a.length d1, .int .i64 s, .bool r.b.neg, .slice B2 n2 d2, .slice B3 n3 d3] 65) = W1 at *
        clear hk1 hb1
        obtain ⟨y0, y1, y2⟩ := ((HK.out.step HB1.out).blk 0 rfl).c3
        have hzl := ((HK.out.step HB1.out).blk 0 rfl).lt
        refine wp_chainS (S := Below W1.heap.size W1) [([0, 1, 2, 3, 4, 6], 5), ([], 7)] [8] (by kernel_rfl) (by kernel_rfl) (by kernel_rfl) rfl (Below.drew (Below.refl _ _)) ?_
        refine ⟨?_, _, ?_, rfl, ?_⟩
        rotate_left
        · repeat (refine ⟨_, ?_, rfl, Or.inl ⟨by rfl, ?_⟩, ?_⟩; rotate_left; focus (intro W hW; have hcW := (bcell hW).1; clear hW; go_simp; try with_reducible rfl); (try simp only [Act.put, List.setIfInBounds_toArray, List.set_cons_zero, List.set_cons_succ]))
          exact rfl
        have hbd : Below W1.heap.size W1 W1.drew := Below.drew (Below.refl _ _)
        have hbx := below_next HB1.out hbd
        have HBX := Lib.hid hbx
        go_wp2_with fail
        refine (fdot_calls _ _ _ r.a x (HA'.out.below EF.stays HBX.out) (HX.out.below EF.stays (HK.out.step HBX.out).2) hrl hxl).mono ?_
        rintro e w7 ⟨v, rfl, hv, hb⟩
        obtain ⟨A7, n7, c7, A8, n8, c8, rfl, HV5⟩ := hv.opened
        have HB7 := Lib.hid (below_next hbd hb)
        have HB17 := Lib.hid (below_next HB1.out HB7.out)
        clear hv hb hbd hbx
        go_wp2_with fail
        refine And.intro HB7.out ⟨_, _, rfl, rfl, ?_⟩
        go_wp2_with fail
        refine (holds0_calls _ s _ _ _ (FR.of_fq HV5.out (capQ_size _)) (HVZ3.out.of_below HB17.out)).mono ?_
        rintro e w8 ⟨rfl, hb⟩
        have HB8 := Lib.hid (below_next HB7.out hb)
        have HB18 := Lib.hid (below_next HB1.out HB8.out)
        have HH : Hid (holdsB s (fixQ (rawQ (capQ (dotQ (r.a.map fixQ) (x.map fixQ))))) 0 = rowGoes (x.map fixQ) r) := by unfold Hid rowGoes; rw [fix_cap, HSE.out]
        rw [HH.out]
        clear hb
        go_wp2_with fail
        refine And.intro HB8.out ⟨?_, ?_, ?_⟩
        rotate_left
        · repeat (refine ⟨_, ?_, rfl, Or.inl ⟨by rfl, ?_⟩, ?_⟩; rotate_left; focus (intro W hW; have hcW := (bcell hW).1; clear hW; go_simp; try with_reducible rfl); (try simp only [Act.put, List.setIfInBounds_toArray, List.set_cons_zero, List.set_cons_succ]))
          exact rfl
        refine NoPanic.normal ?_
        cases hb : rowGoes (x.map fixQ) r with
        | false =>
          have HE2 : Hid (goesB p x = false) := by unfold Hid; rw [HE.out, all_false HRR.out hb]; rfl
          clear hb
          go_wp2_with fail
          go_ret
          exact ⟨by rw [HE2.out]; rfl, (HK.out.step HB18.out).2⟩
        | true =>
          have HG := Lib.hid hb
          clear hb
          go_wp2_with fail
          go_roundw
          case rel =>
            refine ⟨i + 1, by omega, by go_num, fun j r' hj hr' => ?_, HK.out.step HB18.out, HVZ3.out.of_below HB18.out⟩
            by_cases hji : j = i
            · rw [hji, HRR.out] at hr'
              injection hr' with e
              rw [← e]
              exact HG.out
            · exact HA.out j r' (by omega) hr'
          case measure => simp [intOf]; omega
      · obtain rfl : i = p.rows.length := by omega
        have HE2 : Hid (goesB p x = decide (signQ (capQ (dotQ (p.goal.map fixQ) (x.map fixQ))) > 0)) := by unfold Hid; rw [HE.out, all_true fun j r hr => HA.out j r (List.getElem?_eq_some_iff.1 hr).1 hr]; rfl
        obtain ⟨x0, x1, x2, x3⟩ := HK.out.c4 1 rfl
        go_wp2_with fail
        refine (fdot_calls _ _ _ p.goal x (H2.out.below EF.stays HK.out.2) (HX.out.below EF.stays HK.out.2) hgl hxl).mono ?_
        rintro e w7 ⟨v, rfl, hv, hb⟩
        obtain ⟨A7, n7, c7, A8, n8, c8, rfl, HV7⟩ := hv.opened
        have HK7 := Lib.hid (HK.out.step hb)
        clear hv hb
        go_wp2_with fail
        refine (sgn_calls _ _ _ (FR.of_fq HV7.out (capQ_size _))).mono ?_
        rintro e w8 ⟨rfl, hb⟩
        rw [fix_cap]
        have HK8 := Lib.hid (HK7.out.step hb)
        clear hb
        go_wp2_with fail
        go_ret
        exact ⟨by rw [HE2.out]; rfl, HK8.out.2⟩
end Go.Proofs.Ytfhambfgjigneaa
set_option linter.unusedVariables false
set_option linter.unusedSimpArgs false
namespace Go.Proofs.Ytfhambfgjigneaa
open Go.RowKit
def nthF (fs : List RawF) (i : Nat) : RawF := fs.getD i ⟨false, [], []⟩
theorem nthF_get {fs : List RawF} {i : Nat} {f : RawF} (h : fs[i]? = some f) : nthF fs i = f := by unfold nthF; rw [List.getD_eq_getElem?_getD, h]; rfl
def badSign (s : Int) (q : Rat) : Bool := (decide (s = -1) && decide (signQ q < 0)) || (decide (s = 1) && decide (signQ q > 0))
noncomputable def signsB (rows : List RowF) (y : List Rat) : Bool := (rows.zip y).all fun ry => !badSign ry.1.s ry.2
noncomputable def colL (rows : List RowF) (y : List Rat) (v : Nat) : List Rat := List.zipWith (fun r q => q * fixQ (nthF r.a v)) rows y
noncomputable def colQ (rows : List RowF) (y : List Rat) (v : Nat) : Rat := (colL rows y v).foldl dotStep 0
noncomputable def colV (rows : List RowF) (y : List Rat) (goal : Option (List RawF)) (v : Nat) : Rat := match goal with
  | none => colQ rows y v
  | some g => capQ (colQ rows y v + -(fixQ (nthF g v)))
def freeAt (p : ProgF) (v : Nat) : Bool := p.free.getD v false
noncomputable def colOk (p : ProgF) (y : List Rat) (goal : Option (List RawF)) (v : Nat) : Bool := !(decide (signQ (colV p.rows y goal v) < 0) || (decide (signQ (colV p.rows y goal v) > 0) && freeAt p v))
noncomputable def boundsB (p : ProgF) (y : List RawF) (goal : Option (List RawF)) : Bool := decide (y.length = p.rows.length) && (signsB p.rows (y.map fixQ) && (List.range p.vars.toNat).all (colOk p (y.map fixQ) goal))
theorem zip_all_false {α β : Type} {l : List α} {m : List β} {f : α × β → Bool} {i : Nat} {a : α} {b : β} (h1 : l[i]? = some a) (h2 : m[i]? = some b) (h : f (a, b) = false) : (l.zip m).all f = false := all_false (i := i) (by rw [List.getElem?_zip_eq_some]; exact ⟨h1, h2⟩) h
theorem zip_all_true {α β : Type} {l : List α} {m : List β} {f : α × β → Bool} (h : ∀ (i : Nat) (a : α) (b : β), l[i]? = some a → m[i]? = some b → f (a, b) = true) : (l.zip m).all f = true := all_true fun i ab hi => by
  obtain ⟨a, b⟩ := ab
  rw [List.getElem?_zip_eq_some] at hi
  exact h i a b hi.1 hi.2
theorem range_all_true {n : Nat} {f : Nat → Bool} (h : ∀ i, i < n → f i = true) : (List.range n).all f = true := by
  rw [List.all_eq_true]
  intro i hi
  exact h i (List.mem_range.1 hi)
theorem range_all_false {n : Nat} {f : Nat → Bool} {i : Nat} (hi : i < n) (h : f i = false) : (List.range n).all f = false := by
  rw [Bool.eq_false_iff, ne_eq, List.all_eq_true]
  intro h0
  rw [h0 i (List.mem_range.2 hi)] at h
  cases h
theorem colQ_cap (rows : List RowF) (y : List Rat) (v : Nat) : capQ (colQ rows y v) = colQ rows y v := rdot_cap _ _ capQ_zero
theorem signQ_le (q : Rat) : -1 ≤ signQ q ∧ signQ q ≤ 1 := by
  unfold signQ
  split
  · omega
  · split <;> omega
theorem signQ_zero_iff {q : Rat} : signQ q = 0 ↔ q = 0 := by
  unfold signQ
  constructor
  · intro h
    split at h
    · rename_i h0; exact Rat.num_eq_zero.1 h0
    · split at h <;> omega
  · rintro rfl; rfl
theorem neq_nil (w : World) : Sem.run Try.prog (binOp .neq 23 (.slice none 0 0) (.slice none 0 0)) w = .ok (.bool false) w := by
  kernel_rfl
theorem neq_some (w : World) (A : Addr) (n c : Nat) : Sem.run Try.prog (binOp .neq 23 (.slice (some A) n c) (.slice none 0 0)) w = .ok (.bool true) w := by
  kernel_rfl
theorem beqI' {a b : Int} (h : a = b) : (a == b) = true := by simpa using h
theorem bneI' {a b : Int} (h : a ≠ b) : (a == b) = false := by simpa using h
set_option maxHeartbeats 32000000 in
set_option maxRecDepth 100000 in
theorem bounds0_calls (w : World) (v v2 : Value) (p : ProgF) (y : List RawF) (h : PR w v p) (h2 : FL w v2 y) (hr : rightP p = 0) (hy : y.length ≤ 100000) : Calls Try.prog 61 #[v, v2, .slice none 0 0] w fun e w' => BPost w (boundsB p y none) e w' := by
  have hrl := rightP_len hr
  clear hr
  obtain ⟨A1, c1, A2, c2, A3, c3, rfl, HI, H1, H2, H3⟩ := h.opened
  obtain ⟨A4, c4, rfl, hc4⟩ := h2.slice
  have HY := Lib.hid h2
  clear h h2
  obtain ⟨vars, hv⟩ : ∃ n, n = p.vars := ⟨_, rfl⟩
  rw [← hv]
  have HV := Lib.hid hv
  have hfl : (p.free.length : Int) = vars := by rw [hv]; exact hrl.1
  have hv1 : 1 ≤ vars := by rw [hv]; exact hrl.2.2.1
  have hvl : vars ≤ 160 := by rw [hv]; exact hrl.2.2.2.1
  have hrw : p.rows.length ≤ 400 := hrl.2.2.2.2.1
  have HROW : Hid (∀ (r : RowF), r ∈ p.rows → (r.a.length : Int) = vars) := by unfold Hid; rw [hv]; exact fun r hm => (hrl.2.2.2.2.2 r hm).1
  clear hv hrl
  obtain ⟨n, hn⟩ : ∃ n : Nat, vars = (n : Int) := ⟨vars.toNat, by omega⟩
  subst hn
  have hn1 : 1 ≤ n := by omega
  have hn2 : n ≤ 160 := by omega
  have HFL : Hid (p.free.length = n) := by unfold Hid; omega
  have HVN : Hid (p.vars.toNat = n) := by unfold Hid; rw [← HV.out]; omega
  obtain ⟨ys, hys⟩ : ∃ ys, ys = y.map fixQ := ⟨_, rfl⟩
  have HYS := Lib.hid hys
  clear hfl hv1 hvl hys
  go_enter Try.func61, Try.ntmps61
  by_cases q1 : y.length = p.rows.length
  case neg =>
    have u1 : ((y.length : Int) != (p.rows.length : Int)) = true := bneI (by omega)
    have HE : Hid (boundsB p y none = false) := by unfold Hid boundsB; rw [decide_eq_false q1]; rfl
    clear q1
    go_wp2_with fail
    go_ret
    exact ⟨by rw [HE.out]; rfl, below_new w _⟩
  have HE0 : Hid (boundsB p y none = (signsB p.rows ys && (List.range n).all (colOk p ys none))) := by unfold Hid boundsB; rw [decide_eq_true q1, HYS.out, HVN.out]; rfl
  have HLEN := Lib.hid q1
  clear q1
  have hlr : p.rows.length = y.length := HLEN.out.symm
  have u1 : ((y.length : Int) != (p.rows.length : Int)) = false := beqI (by omega)
  clear hlr
  go_wp2_with fail
  have H0 := Lib.hid (HS.one (w := w) #[.int .i64 (n : Int), .slice A1 p.free.length c1, .slice A2 p.goal.length c2, .slice A3 p.rows.length c3] 26)
  generalize w.alloc (.cells #[.int .i64 (n : Int), .slice A1 p.free.length c1, .slice A2 p.goal.length c2, .slice A3 p.rows.length c3] 26) = W0 at *
  clear u1
  go_loopw [24] (fun vi wr => ∃ i : Nat, i ≤ p.rows.length ∧ vi = .int .i64 (i : Int) ∧ (∀ (j : Nat) (r : RowF) (q : Rat), j < i → p.rows[j]? = some r → ys[j]? = some q → badSign r.s q = false) ∧ HS w [(w.heap.size, 26, #[.int .i64 (n : Int), .slice A1 p.free.length c1, .slice A2 p.goal.length c2, .slice A3 p.rows.length c3])] wr) (fun vi _ => p.rows.length - (intOf vi).toNat)
  case atStart => exact ⟨0, Nat.zero_le _, rfl, fun j _ _ h => absurd h (Nat.not_lt_zero _), H0.out⟩
  case round =>
    obtain ⟨i, hi, rfl, hall, hk⟩ := hrel
    have HA := Lib.hid hall
    have HK := Lib.hid hk
    clear hall hk
    by_cases hlt : i < p.rows.length
    · obtain ⟨r, hr⟩ : ∃ r, p.rows[i]? = some r := ⟨p.rows[i], List.getElem?_eq_getElem hlt⟩
      have hly := HLEN.out
      obtain ⟨f, hf⟩ : ∃ f, y[i]? = some f := ⟨y[i]'(by omega), List.getElem?_eq_getElem _⟩
      obtain ⟨g1, o1, B1, d1, B2, n2, d2, B3, n3, d3, rfl, hg, k0, k1, k2, k3, k4, _, _, _⟩ := RL.at5 (H3.out.below ER.stays HK.out.2) hr
      obtain ⟨g2, o2, C1, l1, e1, C2, l2, e2, rfl, hg2, j0, j1, j2, HFE⟩ := FL.at3 (HY.out.below EF.stays HK.out.2) hf
      have HYI : Hid (ys[i]? = some (fixQ f)) := by unfold Hid; rw [HYS.out, List.getElem?_map, hf]; rfl
      have HRR := Lib.hid hr
      have m1 : (i : Int) < (p.rows.length : Int) := by omega
      have m2 : (i : Int) < (y.length : Int) := by omega
      have m3 : (i : Int).toNat = i := by omega
      have m4 : (0 : Int) ≤ (i : Int) := by omega
      obtain ⟨s, hs⟩ : ∃ s, s = r.s := ⟨_, rfl⟩
      rw [← hs] at k1
      have HSE := Lib.hid hs
      have hz0 := (HK.out.blk 0 rfl).lt
      clear hr hf hs hly
      go_wp2_with fail
      have HB1 := Lib.hid (below_new wr (.cells #[.slice B1 r.a.length d1, .int .i64 s, .bool r.b.neg, .slice B2 n2 d2, .slice B3 n3 d3] 65))
      have HKB1 := Lib.hid (Blk.new wr 65 #[.slice B1 r.a.length d1, .int .i64 s, .bool r.b.neg, .slice B2 n2 d2, .slice B3 n3 d3])
      generalize wr.alloc (.cells #[.slice B1 r.a.length d1, .int .i64 s, .bool r.b.neg, .slice B2 n2 d2, .slice B3 n3 d3] 65) = W1 at *
      refine (sgn_calls W1 _ f (HFE.out.of_below HB1.out)).mono ?_
      rintro e w2 ⟨rfl, hb⟩
      have HB2 := Lib.hid (below_next HB1.out hb)
      have z1 := (HKB1.out.below hb HKB1.out.lt).cell (j := 1) rfl
      clear hb
      obtain ⟨c, hc⟩ : ∃ c, c = signQ (fixQ f) := ⟨_, rfl⟩
      have HBAD : Hid (badSign r.s (fixQ f) = ((decide (s = -1) && decide (c < 0)) || (decide (s = 1) && decide (c > 0)))) := by unfold Hid badSign; rw [← HSE.out, ← hc]
      rw [← hc]
      clear hc
      have fin : ∀ wz, Below wr.heap.size wr wz → badSign r.s (fixQ f) = false → (∃ i', i' ≤ p.rows.length ∧ Value.int .i64 ((i : Int) + 1) = .int .i64 (i' : Int) ∧ (∀ (j : Nat) (r : RowF) (q : Rat), j < i' → p.rows[j]? = some r → ys[j]? = some q → badSign r.s q = false) ∧ HS w [(w.heap.size, 26, #[.int .i64 (n : Int), .slice A1 p.free.length c1, .slice A2 p.goal.length c2, .slice (some ⟨g1, o1, none⟩) p.rows.length c3])] wz) := fun wz hbz hgood => by
        refine ⟨i + 1, by omega, by go_num, fun j r' q' hj hr' hq' => ?_, HK.out.step hbz⟩
        by_cases hji : j = i
        · subst hji
          rw [HRR.out] at hr'
          rw [HYI.out] at hq'
          injection hr' with e1
          injection hq' with e2
          rw [← e1, ← e2]
          exact hgood
        · exact HA.out j r' q' (by omega) hr' hq'
      have HFin := Lib.hid fin
      have bad : badSign r.s (fixQ f) = true → boundsB p y none = false := fun h => by
        rw [HE0.out, show signsB p.rows ys = false from zip_all_false HRR.out HYI.out (by rw [h]; rfl)]
        rfl
      have HBadR := Lib.hid bad
      clear fin bad
      by_cases s1 : s = -1
      · have t1 : (s == -1) = true := beqI' s1
        by_cases s2 : c < 0
        · have t2 : decide (c < 0) = true := decide_eq_true s2
          have HE2 := Lib.hid (HBadR.out (by rw [HBAD.out, decide_eq_true s1, t2]; rfl))
          clear s1 s2
          go_wp2_with fail
          go_ret
          exact ⟨by rw [HE2.out]; rfl, (HK.out.step HB2.out).2⟩
        · have t2 : decide (c < 0) = false := decide_eq_false s2
          have t3 : (s == 1) = false := bneI' (by omega)
          have HG : Hid (badSign r.s (fixQ f) = false) := by unfold Hid; rw [HBAD.out, t2, decide_eq_false (show ¬ s = 1 by omega)]; simp
          clear s1 s2
          go_wp2_with fail
          go_roundw
          case rel => exact HFin.out _ HB2.out HG.out
          case measure => simp [intOf]; omega
      · have t1 : (s == -1) = false := bneI' s1
        by_cases s3 : s = 1
        · have t3 : (s == 1) = true := beqI' s3
          by_cases s2 : c > 0
          · have t2 : decide (c > 0) = true := decide_eq_true s2
            have HE2 := Lib.hid (HBadR.out (by rw [HBAD.out, decide_eq_true s3, t2]; simp))
            clear s1 s2 s3
            go_wp2_with fail
            go_ret
            exact ⟨by rw [HE2.out]; rfl, (HK.out.step HB2.out).2⟩
          · have t2 : decide (c > 0) = false := decide_eq_false s2
            have HG : Hid (badSign r.s (fixQ f) = false) := by unfold Hid; rw [HBAD.out, t2, decide_eq_false s1]; simp
            clear s1 s2 s3
            go_wp2_with fail
            go_roundw
            case rel => exact HFin.out _ HB2.out HG.out
            case measure => simp [intOf]; omega
        · have t3 : (s == 1) = false := bneI' s3
          have HG : Hid (badSign r.s (fixQ f) = false) := by unfold Hid; rw [HBAD.out, decide_eq_false s1, decide_eq_false s3]; simp
          clear s1 s3
          go_wp2_with fail
          go_roundw
          case rel => exact HFin.out _ HB2.out HG.out
          case measure => simp [intOf]; omega
    · obtain rfl : i = p.rows.length := by omega
      have HE1 : Hid (boundsB p y none = (List.range n).all (colOk p ys none)) := by
        unfold Hid
        rw [HE0.out, show signsB p.rows ys = true from zip_all_true fun j r q h1 h2 => by
          rw [HA.out j r q (List.getElem?_eq_some_iff.1 h1).1 h1 h2]; rfl]
        rfl
      obtain ⟨wo, hwo⟩ : ∃ wo, wo = wr := ⟨_, rfl⟩
      rw [← hwo] at HK ⊢
      obtain ⟨x0, x1, x2, x3⟩ := HK.out.c4 0 rfl
      clear hwo HA H0 HE0
      go_wp2_with fail
      clear x0 x1 x2 x3
      go_loopw [53] (fun vi wr => ∃ i : Nat, i ≤ n ∧ vi = .int .i64 (i : Int) ∧ (∀ (j : Nat), j < i → colOk p ys none j = true) ∧ HS w [(w.heap.size, 26, #[.int .i64 (n : Int), .slice A1 p.free.length c1, .slice A2 p.goal.length c2, .slice A3 p.rows.length c3])] wr) (fun vi _ => n - (intOf vi).toNat)
      case atStart => exact ⟨0, Nat.zero_le _, rfl, fun j h => absurd h (Nat.not_lt_zero _), HK.out⟩
      case round =>
        obtain ⟨i, hi, rfl, hall, hk⟩ := hrel
        have HA := Lib.hid hall
        have HK2 := Lib.hid hk
        clear hall hk HK
        by_cases hlt : i < n
        case neg =>
          obtain rfl : i = n := by omega
          have HE2 : Hid (boundsB p y none = true) := by unfold Hid; rw [HE1.out]; exact range_all_true HA.out
          go_wp2_with fail
          go_ret
          exact ⟨by rw [HE2.out]; rfl, HK2.out.2⟩
        have m1 : (i : Int) < (n : Int) := by omega
        go_wp2_with fail
        refine (frac_nil_calls wr).mono ?_
        rintro e w1 ⟨v, rfl, hv, hb⟩
        obtain ⟨D5, n5, d5, D6, n6, d6, rfl, HVZ⟩ := hv.opened
        have HK3 := Lib.hid (HK2.out.step hb)
        obtain ⟨x0, x1, x2, x3⟩ := HK3.out.c4 0 rfl
        have hlt2 := (HK3.out.blk 0 rfl).lt
        clear hv hb
        go_wp2_with fail
        clear x0 x1 x2 x3
        have HK4 := Lib.hid (HK3.out.more (.cells #[.bool (negQ 0), .slice D5 n5 d5, .slice D6 n6 d6] 40))
        have HA0 := Lib.hid (show AccF (w1.alloc (.cells #[.bool (negQ 0), .slice D5 n5 d5, .slice D6 n6 d6] 40)) w1.heap.size 0 from ⟨D5, n5, d5, D6, n6, d6, Blk.new _ _ _, HVZ.out.of_below (below_new _ _)⟩)
        obtain ⟨gz, hgz⟩ : ∃ gz, gz = w1.heap.size := ⟨_, rfl⟩
        rw [← hgz] at HA0
        have hzne : w.heap.size < gz := by omega
        generalize w1.alloc (.cells #[.bool (negQ 0), .slice D5 n5 d5, .slice D6 n6 d6] 40) = W2 at *
        rw [← hgz]
        clear hgz
        obtain ⟨ds, hds⟩ : ∃ ds, ds = colL p.rows ys i := ⟨_, rfl⟩
        have HDS := Lib.hid hds
        clear hds hlt2
        go_loopw [60] (fun vj wr => ∃ j : Nat, j ≤ p.rows.length ∧ vj = .int .i64 (j : Int) ∧ AccF wr gz ((ds.take j).foldl dotStep 0) ∧ HS w [(w.heap.size, 26, #[.int .i64 (n : Int), .slice A1 p.free.length c1, .slice A2 p.goal.length c2, .slice A3 p.rows.length c3])] wr) (fun vj _ => p.rows.length - (intOf vj).toNat)
        case atStart => exact ⟨0, Nat.zero_le _, rfl, HA0.out, HK4.out⟩
        case round =>
          obtain ⟨j, hj, rfl, hacc, hk⟩ := hrel
          have HA5 := Lib.hid hacc
          have HK5 := Lib.hid hk
          have hcap : capQ ((ds.take j).foldl dotStep 0) = (ds.take j).foldl dotStep 0 := rdot_cap _ _ capQ_zero
          obtain ⟨sm, hsm⟩ : ∃ s, s = (ds.take j).foldl dotStep 0 := ⟨_, rfl⟩
          rw [← hsm] at hcap HA5
          have HSM := Lib.hid hsm
          have HCAP := Lib.hid hcap
          clear hacc hk hsm hcap HA0 HK4 HK3
          by_cases hjlt : j < p.rows.length
          · obtain ⟨r, hr⟩ : ∃ r, p.rows[j]? = some r := ⟨p.rows[j], List.getElem?_eq_getElem hjlt⟩
            have hly := HLEN.out
            have hra := HROW.out r (List.mem_of_getElem? hr)
            obtain ⟨f, hf⟩ : ∃ f, y[j]? = some f := ⟨y[j]'(by omega), List.getElem?_eq_getElem _⟩
            obtain ⟨av, hav⟩ : ∃ f, r.a[i]? = some f := ⟨r.a[i]'(by omega), List.getElem?_eq_getElem _⟩
            obtain ⟨g1, o1, B1, d1, B2, n2, d2, B3, n3, d3, rfl, hg, k0, k1, k2, k3, k4, _, HRA, _⟩ := RL.at5 (H3.out.below ER.stays HK5.out.2) hr
            obtain ⟨g2, o2, C1, l1, e1, C2, l2, e2, rfl, hg2, j0, j1, j2, HFE⟩ := FL.at3 (HY.out.below EF.stays HK5.out.2) hf
            obtain ⟨g3, o3, C3, l3, e3, C4, l4, e4, rfl, hg3, q0, q1, q2, HAE⟩ := FL.at3 HRA.out hav
            have hdj : ds[j]? = some (fixQ f * fixQ av) := by rw [HDS.out, HYS.out]; unfold colL; simp [List.getElem?_zipWith, hr, hf, nthF_get hav]
            obtain ⟨pr, hpr⟩ : ∃ q, q = fixQ f * fixQ av := ⟨_, rfl⟩
            rw [← hpr] at hdj
            have HPR := Lib.hid hpr
            have HNX : Hid ((ds.take (j + 1)).foldl dotStep 0 = dotStep sm pr) := by
              unfold Hid
              rw [List.take_add_one, hdj]
              rw [show ds.take j ++ (some pr).toList = ds.take j ++ [pr] from rfl, fold_snoc, ← HSM.out]
            have n1 : (j : Int) < (p.rows.length : Int) := by omega
            have n2' : (j : Int) < (y.length : Int) := by omega
            have n3' : (j : Int).toNat = j := by omega
            have n4' : (0 : Int) ≤ (j : Int) := by omega
            have n5' : (i : Int) < (r.a.length : Int) := by omega
            have n6' : (i : Int).toNat = i := by omega
            have n7' : (0 : Int) ≤ (i : Int) := by omega
            obtain ⟨s, hs⟩ : ∃ s, s = r.s := ⟨_, rfl⟩
            rw [← hs] at k1
            have hz0 := (HK5.out.blk 0 rfl).lt
            clear hr hf hs hly hav hdj hpr hra
            go_wp2_with fail
            have HB1 := Lib.hid (below_new wr (.cells #[.slice (some ⟨g3, o3, none⟩) r.a.length d1, .int .i64 s, .bool r.b.neg, .slice B2 n2 d2, .slice B3 n3 d3] 65))
            have HKB1 := Lib.hid (Blk.new wr 65 #[.slice (some ⟨g3, o3, none⟩) r.a.length d1, .int .i64 s, .bool r.b.neg, .slice B2 n2 d2, .slice B3 n3 d3])
            obtain ⟨gr, hgr⟩ : ∃ gr, gr = wr.heap.size := ⟨_, rfl⟩
            rw [← hgr] at HKB1
            generalize wr.alloc (.cells #[.slice (some ⟨g3, o3, none⟩) r.a.length d1, .int .i64 s, .bool r.b.neg, .slice B2 n2 d2, .slice B3 n3 d3] 65) = W1 at *
            rw [← hgr]
            clear hgr
            refine (sgn_calls W1 _ f (HFE.out.of_below HB1.out)).mono ?_
            rintro e w2 ⟨rfl, hb⟩
            have HB2 := Lib.hid (below_next HB1.out hb)
            have hkb2 := HKB1.out.below hb HKB1.out.lt
            have z0 := hkb2.cell (j := 0) rfl
            have hzl := hkb2.lt
            clear hb hkb2
            have HRound : Hid (∀ wz, AccF wz gz (dotStep sm pr) → HS w [(w.heap.size, 26, #[.int .i64 (n : Int), .slice A1 p.free.length c1, .slice A2 p.goal.length c2, .slice (some ⟨g1, o1, none⟩) p.rows.length c3])] wz → ∃ j', j' ≤ p.rows.length ∧ Value.int .i64 ((j : Int) + 1) = .int .i64 (j' : Int) ∧ AccF wz gz ((ds.take j').foldl dotStep 0) ∧ HS w [(w.heap.size, 26, #[.int .i64 (n : Int), .slice A1 p.free.length c1, .slice A2 p.goal.length c2, .slice (some ⟨g1, o1, none⟩) p.rows.length c3])] wz) := by
              intro wz h1 h2
              exact ⟨j + 1, by omega, by go_num, by rw [HNX.out]; exact h1, h2⟩
            by_cases s0 : signQ (fixQ f) = 0
            · have t0 : (signQ (fixQ f) != 0) = false := beqI s0
              have HP0 : Hid (dotStep sm pr = sm) := by unfold Hid; rw [HPR.out, signQ_zero_iff.1 s0, Rat.zero_mul, dotStep_zero HCAP.out]
              clear s0
              go_wp2_with fail
              go_roundw
              case rel => exact HRound.out _ (by rw [HP0.out]; exact HA5.out.step HB2.out) (HK5.out.step HB2.out)
              case measure => simp [intOf]; omega
            have t0 : (signQ (fixQ f) != 0) = true := bneI s0
            clear s0
            have HA6 := Lib.hid (HA5.out.step HB2.out)
            have hb2c := (bcell HB2.out).1
            obtain ⟨E5, k5, f5, E6, k6, f6, hk, hR⟩ := HA6.out
            have HR1 := Lib.hid hR
            obtain ⟨a0, a1, a2⟩ := hk.c3
            obtain ⟨b0, b1, b2⟩ := hk.f3
            have hlt3 := hk.lt
            have HFE2 := Lib.hid (HFE.out.of_below HB2.out)
            have HAE2 := Lib.hid (HAE.out.of_below HB2.out)
            have HK6 := Lib.hid (HK5.out.step HB2.out)
            have j0' := (hb2c g2 _ hg2).trans j0
            have j1' := (hb2c g2 _ hg2).trans j1
            have j2' := (hb2c g2 _ hg2).trans j2
            have q0' := (hb2c g3 _ hg3).trans q0
            have q1' := (hb2c g3 _ hg3).trans q1
            have q2' := (hb2c g3 _ hg3).trans q2
            have hg2' : g2 < w2.heap.size := Nat.lt_of_lt_of_le hg2 HB2.out.size
            have hg3' : g3 < w2.heap.size := Nat.lt_of_lt_of_le hg3 HB2.out.size
            clear hR hk hb2c j0 j1 j2 q0 q1 q2 k0 k1 k2 k3 k4
            go_wp2_with fail
            refine wp_chain (S := Below w2.heap.size w2) 12 [([0, 1, 2, 3, 4, 5, 6, 7, 8, 9], 10), ([], 11), ([], 12)] (by kernel_rfl) (by kernel_rfl) (by kernel_rfl) rfl (Below.drew (Below.refl _ _)) ?_
            refine ⟨?_, _, ?_, rfl, ?_⟩
            rotate_left
            · repeat (refine ⟨_, ?_, rfl, Or.inl ⟨by rfl, ?_⟩, ?_⟩; rotate_left; focus (intro W hW; have hcW := (bcell hW).1; clear hW; go_simp; try with_reducible rfl); (try simp only [Act.put, List.setIfInBounds_toArray, List.set_cons_zero, List.set_cons_succ]))
              exact rfl
            go_wp2_with fail
            refine (fmul_calls _ _ _ f av (HFE2.out.of_below (Below.drew (Below.refl _ _))) (HAE2.out.of_below (Below.drew (Below.refl _ _)))).mono ?_
            rintro e w7 ⟨v, rfl, hv, hb⟩
            rw [← HPR.out] at hv
            obtain ⟨A7, n7, c7, A8, n8, c8, rfl, HV5⟩ := hv.opened
            have HB7 := Lib.hid (below_next (Below.drew (Below.refl w2.heap.size w2)) hb)
            clear hv hb
            go_wp2_with fail
            refine And.intro HB7.out ⟨_, _, rfl, rfl, ?_⟩
            go_wp2_with fail
            refine (fadd_calls _ _ _ _ _ (FR.of_fq (HR1.out.of_below HB7.out) (by rw [← HCAP.out]; exact capQ_size _)) (FR.of_fq HV5.out (capQ_size _))).mono ?_
            rintro e w8 ⟨v, rfl, hv, hb⟩
            have hpost : capQ (fixQ (rawQ sm) + fixQ (rawQ (capQ pr))) = dotStep sm pr := by
              rw [fixQ_raw _ (by rw [← HCAP.out]; exact capQ_size _), fixQ_raw _ (capQ_size _)]
              rfl
            rw [hpost] at hv
            obtain ⟨A9, n9, c9, A10, n10, c10, rfl, HV6⟩ := hv.opened
            have HB8 := Lib.hid (below_next HB7.out hb)
            clear hv hb hpost
            go_wp2_with fail
            refine And.intro HB8.out ⟨_, _, rfl, rfl, ?_⟩
            have HA8 := Lib.hid (HA6.out.step HB8.out)
            obtain ⟨_, _, _, _, _, _, hk5, _⟩ := HA8.out
            obtain ⟨y0, y1, y2⟩ := hk5.c3
            obtain ⟨f0, f1, f2⟩ := hk5.f3
            clear hk5
            go_wp2_with fail
            refine NoPanic.normal ?_
            go_wp2_with fail
            go_roundw
            case rel => exact HRound.out _ (HA8.out.put HV6.out) ((HK6.out.step HB8.out).other3 (by omega) (by simp; omega) _ _ _)
            case measure => simp [intOf]; omega
          · obtain rfl : j = p.rows.length := by omega
            have hly := HLEN.out
            have hzl : ds.take p.rows.length = ds := List.take_of_length_le (by rw [HDS.out, HYS.out]; unfold colL; rw [List.length_zipWith, List.length_map]; omega)
            have HCQ : Hid (colQ p.rows ys i = sm) := by unfold Hid colQ; rw [← HDS.out, HSM.out, hzl]
            clear hzl hly
            have hif : i < p.free.length := by have := HFL.out; omega
            obtain ⟨bf, hbf⟩ : ∃ b, p.free[i]? = some b := ⟨p.free[i], List.getElem?_eq_getElem hif⟩
            obtain ⟨g4, o4, rfl, hg4, kb⟩ := BL.at1 (H1.out.below EB.stays HK5.out.2) hbf
            have HFA : Hid (freeAt p i = bf) := by unfold Hid freeAt; rw [List.getD_eq_getElem?_getD, hbf]; rfl
            have m6 : (i : Int).toNat = i := by omega
            have m7 : (0 : Int) ≤ (i : Int) := by omega
            have m8 : (i : Int) < (p.free.length : Int) := by omega
            have HBF := Lib.hid hbf
            clear hbf hif
            have HCV : Hid (colV p.rows ys none i = sm) := by unfold Hid colV; exact HCQ.out
            obtain ⟨E5, k5, f5, E6, k6, f6, hk, hR⟩ := HA5.out
            have HR1 := Lib.hid hR
            obtain ⟨a0, a1, a2⟩ := hk.c3
            have hnn := neq_nil wr
            clear hR hk
            go_wp2_with fail
            refine (sgn_calls _ _ _ (FR.of_fq HR1.out (by rw [← HCAP.out]; exact capQ_size _))).mono ?_
            rintro e wE ⟨rfl, hb⟩
            rw [fixQ_raw _ (by rw [← HCAP.out]; exact capQ_size _)]
            have HKE := Lib.hid (HK5.out.step hb)
            have kb' := ((bcell hb).1 g4 _ hg4).trans kb
            clear hb kb
            obtain ⟨x0, x1, x2, x3⟩ := HKE.out.c4 0 rfl
            have hltp := (HKE.out.blk 0 rfl).lt
            obtain ⟨c, hc⟩ : ∃ c, c = signQ sm := ⟨_, rfl⟩
            have HOK : Hid (colOk p ys none i = !(decide (c < 0) || (decide (c > 0) && bf))) := by unfold Hid colOk; rw [HCV.out, hc, HFA.out]
            rw [← hc]
            clear hc
            have HRound : Hid (∀ wz, Below wE.heap.size wE wz → colOk p ys none i = true → ∃ i', i' ≤ n ∧ Value.int .i64 ((i : Int) + 1) = .int .i64 (i' : Int) ∧ (∀ (j : Nat), j < i' → colOk p ys none j = true) ∧ HS w [(w.heap.size, 26, #[.int .i64 (n : Int), .slice (some ⟨g4, o4, none⟩) p.free.length c1, .slice A2 p.goal.length c2, .slice A3 p.rows.length c3])] wz) := by
              intro wz h1 h2
              refine ⟨i + 1, by omega, by go_num, fun j hj => ?_, HKE.out.step h1⟩
              by_cases hji : j = i
              · rw [hji]; exact h2
              · exact HA.out j (by omega)
            by_cases s1 : c < 0
            · have t1 : decide (c < 0) = true := decide_eq_true s1
              have HE2 : Hid (boundsB p y none = false) := by unfold Hid; rw [HE1.out]; exact range_all_false hlt (by rw [HOK.out, t1]; rfl)
              clear s1
              go_wp2_with fail
              go_ret
              exact ⟨by rw [HE2.out]; rfl, HKE.out.2⟩
            have t1 : decide (c < 0) = false := decide_eq_false s1
            by_cases s2 : c > 0
            · have t2 : decide (c > 0) = true := decide_eq_true s2
              cases bf with
              | true =>
                have HE2 : Hid (boundsB p y none = false) := by unfold Hid; rw [HE1.out]; exact range_all_false hlt (by rw [HOK.out, t1, t2]; rfl)
                clear s1 s2
                go_wp2_with fail
                go_ret
                exact ⟨by rw [HE2.out]; rfl, HKE.out.2⟩
              | false =>
                have HG : Hid (colOk p ys none i = true) := by unfold Hid; rw [HOK.out, t1, t2]; rfl
                clear s1 s2
                go_wp2_with fail
                go_roundw
                case rel => exact HRound.out _ (Below.refl _ _) HG.out
                case measure => simp [intOf]; omega
            · have t2 : decide (c > 0) = false := decide_eq_false s2
              have HG : Hid (colOk p ys none i = true) := by unfold Hid; rw [HOK.out, t1, t2]; rfl
              clear s1 s2
              go_wp2_with fail
              go_roundw
              case rel => exact HRound.out _ (Below.refl _ _) HG.out
              case measure => simp [intOf]; omega
set_option maxHeartbeats 32000000 in
set_option maxRecDepth 100000 in
theorem bounds_calls (w : World) (v v2 : Value) (p : ProgF) (y : List RawF) (h : PR w v p) (h2 : FL w v2 y) (v3 : Value) (g : List RawF) (hg3 : FL w v3 g) (hgl : (g.length : Int) = p.vars) (hr : rightP p = 0) (hy : y.length ≤ 100000) : Calls Try.prog 61 #[v, v2, v3] w fun e w' => BPost w (boundsB p y (some g)) e w' := by
  have hrl := rightP_len hr
  clear hr
  obtain ⟨A1, c1, A2, c2, A3, c3, rfl, HI, H1, H2, H3⟩ := h.opened
  obtain ⟨A4, c4, rfl, hc4⟩ := h2.slice
  have HY := Lib.hid h2
  obtain ⟨g0, hg0⟩ : ∃ f, g[0]? = some f := ⟨g[0]'(by have := hrl.2.2.1; omega), List.getElem?_eq_getElem _⟩
  obtain ⟨A6, c6, rfl, hc6⟩ := hg3.slice
  obtain ⟨gb, ob, _, _, _, _, _, _, rfl, _, _, _, _, _⟩ := FL.at3 hg3 hg0
  have HG := Lib.hid hg3
  clear hg0 hg3
  clear h h2
  obtain ⟨vars, hv⟩ : ∃ n, n = p.vars := ⟨_, rfl⟩
  rw [← hv]
  have HV := Lib.hid hv
  have hfl : (p.free.length : Int) = vars := by rw [hv]; exact hrl.1
  have hv1 : 1 ≤ vars := by rw [hv]; exact hrl.2.2.1
  have hvl : vars ≤ 160 := by rw [hv]; exact hrl.2.2.2.1
  have hrw : p.rows.length ≤ 400 := hrl.2.2.2.2.1
  have HROW : Hid (∀ (r : RowF), r ∈ p.rows → (r.a.length : Int) = vars) := by unfold Hid; rw [hv]; exact fun r hm => (hrl.2.2.2.2.2 r hm).1
  have hgv : (g.length : Int) = vars := by rw [hv]; exact hgl
  have HGV := Lib.hid hgv
  clear hgv hgl
  clear hv hrl
  obtain ⟨n, hn⟩ : ∃ n : Nat, vars = (n : Int) := ⟨vars.toNat, by omega⟩
  subst hn
  have hn1 : 1 ≤ n := by omega
  have hn2 : n ≤ 160 := by omega
  have HFL : Hid (p.free.length = n) := by unfold Hid; omega
  have HVN : Hid (p.vars.toNat = n) := by unfold Hid; rw [← HV.out]; omega
  obtain ⟨ys, hys⟩ : ∃ ys, ys = y.map fixQ := ⟨_, rfl⟩
  have HYS := Lib.hid hys
  clear hfl hv1 hvl hys
  go_enter Try.func61, Try.ntmps61
  by_cases q1 : y.length = p.rows.length
  case neg =>
    have u1 : ((y.length : Int) != (p.rows.length : Int)) = true := bneI (by omega)
    have HE : Hid (boundsB p y (some g) = false) := by unfold Hid boundsB; rw [decide_eq_false q1]; rfl
    clear q1
    go_wp2_with fail
    go_ret
    exact ⟨by rw [HE.out]; rfl, below_new w _⟩
  have HE0 : Hid (boundsB p y (some g) = (signsB p.rows ys && (List.range n).all (colOk p ys (some g)))) := by unfold Hid boundsB; rw [decide_eq_true q1, HYS.out, HVN.out]; rfl
  have HLEN := Lib.hid q1
  clear q1
  have hlr : p.rows.length = y.length := HLEN.out.symm
  have u1 : ((y.length : Int) != (p.rows.length : Int)) = false := beqI (by omega)
  clear hlr
  go_wp2_with fail
  have H0 := Lib.hid (HS.one (w := w) #[.int .i64 (n : Int), .slice A1 p.free.length c1, .slice A2 p.goal.length c2, .slice A3 p.rows.length c3] 26)
  generalize w.alloc (.cells #[.int .i64 (n : Int), .slice A1 p.free.length c1, .slice A2 p.goal.length c2, .slice A3 p.rows.length c3] 26) = W0 at *
  clear u1
  go_loopw [24] (fun vi wr => ∃ i : Nat, i ≤ p.rows.length ∧ vi = .int .i64 (i : Int) ∧ (∀ (j : Nat) (r : RowF) (q : Rat), j < i → p.rows[j]? = some r → ys[j]? = some q → badSign r.s q = false) ∧ HS w [(w.heap.size, 26, #[.int .i64 (n : Int), .slice A1 p.free.length c1, .slice A2 p.goal.length c2, .slice A3 p.rows.length c3])] wr) (fun vi _ => p.rows.length - (intOf vi).toNat)
  case atStart => exact ⟨0, Nat.zero_le _, rfl, fun j _ _ h => absurd h (Nat.not_lt_zero _), H0.out⟩
  case round =>
    obtain ⟨i, hi, rfl, hall, hk⟩ := hrel
    have HA := Lib.hid hall
    have HK := Lib.hid hk
    clear hall hk
    by_cases hlt : i < p.rows.length
    · obtain ⟨r, hr⟩ : ∃ r, p.rows[i]? = some r := ⟨p.rows[i], List.getElem?_eq_getElem hlt⟩
      have hly := HLEN.out
      obtain ⟨f, hf⟩ : ∃ f, y[i]? = some f := ⟨y[i]'(by omega), List.getElem?_eq_getElem _⟩
      obtain ⟨g1, o1, B1, d1, B2, n2, d2, B3, n3, d3, rfl, hg, k0, k1, k2, k3, k4, _, _, _⟩ := RL.at5 (H3.out.below ER.stays HK.out.2) hr
      obtain ⟨g2, o2, C1, l1, e1, C2, l2, e2, rfl, hg2, j0, j1, j2, HFE⟩ := FL.at3 (HY.out.below EF.stays HK.out.2) hf
      have HYI : Hid (ys[i]? = some (fixQ f)) := by unfold Hid; rw [HYS.out, List.getElem?_map, hf]; rfl
      have HRR := Lib.hid hr
      have m1 : (i : Int) < (p.rows.length : Int) := by omega
      have m2 : (i : Int) < (y.length : Int) := by omega
      have m3 : (i : Int).toNat = i := by omega
      have m4 : (0 : Int) ≤ (i : Int) := by omega
      obtain ⟨s, hs⟩ : ∃ s, s = r.s := ⟨_, rfl⟩
      rw [← hs] at k1
      have HSE := Lib.hid hs
      have hz0 := (HK.out.blk 0 rfl).lt
      clear hr hf hs hly
      go_wp2_with fail
      have HB1 := Lib.hid (below_new wr (.cells #[.slice B1 r.a.length d1, .int .i64 s, .bool r.b.neg, .slice B2 n2 d2, .slice B3 n3 d3] 65))
      have HKB1 := Lib.hid (Blk.new wr 65 #[.slice B1 r.a.length d1, .int .i64 s, .bool r.b.neg, .slice B2 n2 d2, .slice B3 n3 d3])
      generalize wr.alloc (.cells #[.slice B1 r.a.length d1, .int .i64 s, .bool r.b.neg, .slice B2 n2 d2, .slice B3 n3 d3] 65) = W1 at *
      refine (sgn_calls W1 _ f (HFE.out.of_below HB1.out)).mono ?_
      rintro e w2 ⟨rfl, hb⟩
      have HB2 := Lib.hid (below_next HB1.out hb)
      have z1 := (HKB1.out.below hb HKB1.out.lt).cell (j := 1) rfl
      clear hb
      obtain ⟨c, hc⟩ : ∃ c, c = signQ (fixQ f) := ⟨_, rfl⟩
      have HBAD : Hid (badSign r.s (fixQ f) = ((decide (s = -1) && decide (c < 0)) || (decide (s = 1) && decide (c > 0)))) := by unfold Hid badSign; rw [← HSE.out, ← hc]
      rw [← hc]
      clear hc
      have fin : ∀ wz, Below wr.heap.size wr wz → badSign r.s (fixQ f) = false → (∃ i', i' ≤ p.rows.length ∧ Value.int .i64 ((i : Int) + 1) = .int .i64 (i' : Int) ∧ (∀ (j : Nat) (r : RowF) (q : Rat), j < i' → p.rows[j]? = some r → ys[j]? = some q → badSign r.s q = false) ∧ HS w [(w.heap.size, 26, #[.int .i64 (n : Int), .slice A1 p.free.length c1, .slice A2 p.goal.length c2, .slice (some ⟨g1, o1, none⟩) p.rows.length c3])] wz) := fun wz hbz hgood => by
        refine ⟨i + 1, by omega, by go_num, fun j r' q' hj hr' hq' => ?_, HK.out.step hbz⟩
        by_cases hji : j = i
        · subst hji
          rw [HRR.out] at hr'
          rw [HYI.out] at hq'
          injection hr' with e1
          injection hq' with e2
          rw [← e1, ← e2]
          exact hgood
        · exact HA.out j r' q' (by omega) hr' hq'
      have HFin := Lib.hid fin
      have bad : badSign r.s (fixQ f) = true → boundsB p y (some g) = false := fun h => by
        rw [HE0.out, show signsB p.rows ys = false from zip_all_false HRR.out HYI.out (by rw [h]; rfl)]
        rfl
      have HBadR := Lib.hid bad
      clear fin bad
      by_cases s1 : s = -1
      · have t1 : (s == -1) = true := beqI' s1
        by_cases s2 : c < 0
        · have t2 : decide (c < 0) = true := decide_eq_true s2
          have HE2 := Lib.hid (HBadR.out (by rw [HBAD.out, decide_eq_true s1, t2]; rfl))
          clear s1 s2
          go_wp2_with fail
          go_ret
          exact ⟨by rw [HE2.out]; rfl, (HK.out.step HB2.out).2⟩
        · have t2 : decide (c < 0) = false := decide_eq_false s2
          have t3 : (s == 1) = false := bneI' (by omega)
          have HG : Hid (badSign r.s (fixQ f) = false) := by unfold Hid; rw [HBAD.out, t2, decide_eq_false (show ¬ s = 1 by omega)]; simp
          clear s1 s2
          go_wp2_with fail
          go_roundw
          case rel => exact HFin.out _ HB2.out HG.out
          case measure => simp [intOf]; omega
      · have t1 : (s == -1) = false := bneI' s1
        by_cases s3 : s = 1
        · have t3 : (s == 1) = true := beqI' s3
          by_cases s2 : c > 0
          · have t2 : decide (c > 0) = true := decide_eq_true s2
            have HE2 := Lib.hid (HBadR.out (by rw [HBAD.out, decide_eq_true s3, t2]; simp))
            clear s1 s2 s3
            go_wp2_with fail
            go_ret
            exact ⟨by rw [HE2.out]; rfl, (HK.out.step HB2.out).2⟩
          · have t2 : decide (c > 0) = false := decide_eq_false s2
            have HG : Hid (badSign r.s (fixQ f) = false) := by unfold Hid; rw [HBAD.out, t2, decide_eq_false s1]; simp
            clear s1 s2 s3
            go_wp2_with fail
            go_roundw
            case rel => exact HFin.out _ HB2.out HG.out
            case measure => simp [intOf]; omega
        · have t3 : (s == 1) = false := bneI' s3
          have HG : Hid (badSign r.s (fixQ f) = false) := by unfold Hid; rw [HBAD.out, decide_eq_false s1, decide_eq_false s3]; simp
          clear s1 s3
          go_wp2_with fail
          go_roundw
          case rel => exact HFin.out _ HB2.out HG.out
          case measure => simp [intOf]; omega
    · obtain rfl : i = p.rows.length := by omega
      have HE1 : Hid (boundsB p y (some g) = (List.range n).all (colOk p ys (some g))) := by
        unfold Hid
        rw [HE0.out, show signsB p.rows ys = true from zip_all_true fun j r q h1 h2 => by
          rw [HA.out j r q (List.getElem?_eq_some_iff.1 h1).1 h1 h2]; rfl]
        rfl
      obtain ⟨wo, hwo⟩ : ∃ wo, wo = wr := ⟨_, rfl⟩
      rw [← hwo] at HK ⊢
      obtain ⟨x0, x1, x2, x3⟩ := HK.out.c4 0 rfl
      clear hwo HA H0 HE0
      go_wp2_with fail
      clear x0 x1 x2 x3
      go_loopw [53] (fun vi wr => ∃ i : Nat, i ≤ n ∧ vi = .int .i64 (i : Int) ∧ (∀ (j : Nat), j < i → colOk p ys (some g) j = true) ∧ HS w [(w.heap.size, 26, #[.int .i64 (n : Int), .slice A1 p.free.length c1, .slice A2 p.goal.length c2, .slice A3 p.rows.length c3])] wr) (fun vi _ => n - (intOf vi).toNat)
      case atStart => exact ⟨0, Nat.zero_le _, rfl, fun j h => absurd h (Nat.not_lt_zero _), HK.out⟩
      case round =>
        obtain ⟨i, hi, rfl, hall, hk⟩ := hrel
        have HA := Lib.hid hall
        have HK2 := Lib.hid hk
        clear hall hk HK
        by_cases hlt : i < n
        case neg =>
          obtain rfl : i = n := by omega
          have HE2 : Hid (boundsB p y (some g) = true) := by unfold Hid; rw [HE1.out]; exact range_all_true HA.out
          go_wp2_with fail
          go_ret
          exact ⟨by rw [HE2.out]; rfl, HK2.out.2⟩
        have m1 : (i : Int) < (n : Int) := by omega
        go_wp2_with fail
        refine (frac_nil_calls wr).mono ?_
        rintro e w1 ⟨v, rfl, hv, hb⟩
        obtain ⟨D5, n5, d5, D6, n6, d6, rfl, HVZ⟩ := hv.opened
        have HK3 := Lib.hid (HK2.out.step hb)
        obtain ⟨x0, x1, x2, x3⟩ := HK3.out.c4 0 rfl
        have hlt2 := (HK3.out.blk 0 rfl).lt
        clear hv hb
        go_wp2_with fail
        clear x0 x1 x2 x3
        have HK4 := Lib.hid (HK3.out.more (.cells #[.bool (negQ 0), .slice D5 n5 d5, .slice D6 n6 d6] 40))
        have HA0 := Lib.hid (show AccF (w1.alloc (.cells #[.bool (negQ 0), .slice D5 n5 d5, .slice D6 n6 d6] 40)) w1.heap.size 0 from ⟨D5, n5, d5, D6, n6, d6, Blk.new _ _ _, HVZ.out.of_below (below_new _ _)⟩)
        obtain ⟨gz, hgz⟩ : ∃ gz, gz = w1.heap.size := ⟨_, rfl⟩
        rw [← hgz] at HA0
        have hzne : w.heap.size < gz := by omega
        generalize w1.alloc (.cells #[.bool (negQ 0), .slice D5 n5 d5, .slice D6 n6 d6] 40) = W2 at *
        rw [← hgz]
        clear hgz
        obtain ⟨ds, hds⟩ : ∃ ds, ds = colL p.rows ys i := ⟨_, rfl⟩
        have HDS := Lib.hid hds
        clear hds hlt2
        go_loopw [60] (fun vj wr => ∃ j : Nat, j ≤ p.rows.length ∧ vj = .int .i64 (j : Int) ∧ AccF wr gz ((ds.take j).foldl dotStep 0) ∧ HS w [(w.heap.size, 26, #[.int .i64 (n : Int), .slice A1 p.free.length c1, .slice A2 p.goal.length c2, .slice A3 p.rows.length c3])] wr) (fun vj _ => p.rows.length - (intOf vj).toNat)
        case atStart => exact ⟨0, Nat.zero_le _, rfl, HA0.out, HK4.out⟩
        case round =>
          obtain ⟨j, hj, rfl, hacc, hk⟩ := hrel
          have HA5 := Lib.hid hacc
          have HK5 := Lib.hid hk
          have hcap : capQ ((ds.take j).foldl dotStep 0) = (ds.take j).foldl dotStep 0 := rdot_cap _ _ capQ_zero
          obtain ⟨sm, hsm⟩ : ∃ s, s = (ds.take j).foldl dotStep 0 := ⟨_, rfl⟩
          rw [← hsm] at hcap HA5
          have HSM := Lib.hid hsm
          have HCAP := Lib.hid hcap
          clear hacc hk hsm hcap HA0 HK4 HK3
          by_cases hjlt : j < p.rows.length
          · obtain ⟨r, hr⟩ : ∃ r, p.rows[j]? = some r := ⟨p.rows[j], List.getElem?_eq_getElem hjlt⟩
            have hly := HLEN.out
            have hra := HROW.out r (List.mem_of_getElem? hr)
            obtain ⟨f, hf⟩ : ∃ f, y[j]? = some f := ⟨y[j]'(by omega), List.getElem?_eq_getElem _⟩
            obtain ⟨av, hav⟩ : ∃ f, r.a[i]? = some f := ⟨r.a[i]'(by omega), List.getElem?_eq_getElem _⟩
            obtain ⟨g1, o1, B1, d1, B2, n2, d2, B3, n3, d3, rfl, hg, k0, k1, k2, k3, k4, _, HRA, _⟩ := RL.at5 (H3.out.below ER.stays HK5.out.2) hr
            obtain ⟨g2, o2, C1, l1, e1, C2, l2, e2, rfl, hg2, j0, j1, j2, HFE⟩ := FL.at3 (HY.out.below EF.stays HK5.out.2) hf
            obtain ⟨g3, o3, C3, l3, e3, C4, l4, e4, rfl, hg3, q0, q1, q2, HAE⟩ := FL.at3 HRA.out hav
            have hdj : ds[j]? = some (fixQ f * fixQ av) := by rw [HDS.out, HYS.out]; unfold colL; simp [List.getElem?_zipWith, hr, hf, nthF_get hav]
            obtain ⟨pr, hpr⟩ : ∃ q, q = fixQ f * fixQ av := ⟨_, rfl⟩
            rw [← hpr] at hdj
            have HPR := Lib.hid hpr
            have HNX : Hid ((ds.take (j + 1)).foldl dotStep 0 = dotStep sm pr) := by
              unfold Hid
              rw [List.take_add_one, hdj]
              rw [show ds.take j ++ (some pr).toList = ds.take j ++ [pr] from rfl, fold_snoc, ← HSM.out]
            have n1 : (j : Int) < (p.rows.length : Int) := by omega
            have n2' : (j : Int) < (y.length : Int) := by omega
            have n3' : (j : Int).toNat = j := by omega
            have n4' : (0 : Int) ≤ (j : Int) := by omega
            have n5' : (i : Int) < (r.a.length : Int) := by omega
            have n6' : (i : Int).toNat = i := by omega
            have n7' : (0 : Int) ≤ (i : Int) := by omega
            obtain ⟨s, hs⟩ : ∃ s, s = r.s := ⟨_, rfl⟩
            rw [← hs] at k1
            have hz0 := (HK5.out.blk 0 rfl).lt
            clear hr hf hs hly hav hdj hpr hra
            go_wp2_with fail
            have HB1 := Lib.hid (below_new wr (.cells #[.slice (some ⟨g3, o3, none⟩) r.a.length d1, .int .i64 s, .bool r.b.neg, .slice B2 n2 d2, .slice B3 n3 d3] 65))
            have HKB1 := Lib.hid (Blk.new wr 65 #[.slice (some ⟨g3, o3, none⟩) r.a.length d1, .int .i64 s, .bool r.b.neg, .slice B2 n2 d2, .slice B3 n3 d3])
            obtain ⟨gr, hgr⟩ : ∃ gr, gr = wr.heap.size := ⟨_, rfl⟩
            rw [← hgr] at HKB1
            generalize wr.alloc (.cells #[.slice (some ⟨g3, o3, none⟩) r.a.length d1, .int .i64 s, .bool r.b.neg, .slice B2 n2 d2, .slice B3 n3 d3] 65) = W1 at *
            rw [← hgr]
            clear hgr
            refine (sgn_calls W1 _ f (HFE.out.of_below HB1.out)).mono ?_
            rintro e w2 ⟨rfl, hb⟩
            have HB2 := Lib.hid (below_next HB1.out hb)
            have hkb2 := HKB1.out.below hb HKB1.out.lt
            have z0 := hkb2.cell (j := 0) rfl
            have hzl := hkb2.lt
            clear hb hkb2
            have HRound : Hid (∀ wz, AccF wz gz (dotStep sm pr) → HS w [(w.heap.size, 26, #[.int .i64 (n : Int), .slice A1 p.free.length c1, .slice A2 p.goal.length c2, .slice (some ⟨g1, o1, none⟩) p.rows.length c3])] wz → ∃ j', j' ≤ p.rows.length ∧ Value.int .i64 ((j : Int) + 1) = .int .i64 (j' : Int) ∧ AccF wz gz ((ds.take j').foldl dotStep 0) ∧ HS w [(w.heap.size, 26, #[.int .i64 (n : Int), .slice A1 p.free.length c1, .slice A2 p.goal.length c2, .slice (some ⟨g1, o1, none⟩) p.rows.length c3])] wz) := by
              intro wz h1 h2
              exact ⟨j + 1, by omega, by go_num, by rw [HNX.out]; exact h1, h2⟩
            by_cases s0 : signQ (fixQ f) = 0
            · have t0 : (signQ (fixQ f) != 0) = false := beqI s0
              have HP0 : Hid (dotStep sm pr = sm) := by unfold Hid; rw [HPR.out, signQ_zero_iff.1 s0, Rat.zero_mul, dotStep_zero HCAP.out]
              clear s0
              go_wp2_with fail
              go_roundw
              case rel => exact HRound.out _ (by rw [HP0.out]; exact HA5.out.step HB2.out) (HK5.out.step HB2.out)
              case measure => simp [intOf]; omega
            have t0 : (signQ (fixQ f) != 0) = true := bneI s0
            clear s0
            have HA6 := Lib.hid (HA5.out.step HB2.out)
            have hb2c := (bcell HB2.out).1
            obtain ⟨E5, k5, f5, E6, k6, f6, hk, hR⟩ := HA6.out
            have HR1 := Lib.hid hR
            obtain ⟨a0, a1, a2⟩ := hk.c3
            obtain ⟨b0, b1, b2⟩ := hk.f3
            have hlt3 := hk.lt
            have HFE2 := Lib.hid (HFE.out.of_below HB2.out)
            have HAE2 := Lib.hid (HAE.out.of_below HB2.out)
            have HK6 := Lib.hid (HK5.out.step HB2.out)
            have j0' := (hb2c g2 _ hg2).trans j0
            have j1' := (hb2c g2 _ hg2).trans j1
            have j2' := (hb2c g2 _ hg2).trans j2
            have q0' := (hb2c g3 _ hg3).trans q0
            have q1' := (hb2c g3 _ hg3).trans q1
            have q2' := (hb2c g3 _ hg3).trans q2
            have hg2' : g2 < w2.heap.size := Nat.lt_of_lt_of_le hg2 HB2.out.size
            have hg3' : g3 < w2.heap.size := Nat.lt_of_lt_of_le hg3 HB2.out.size
            clear hR hk hb2c j0 j1 j2 q0 q1 q2 k0 k1 k2 k3 k4
            go_wp2_with fail
            refine wp_chain (S := Below w2.heap.size w2) 12 [([0, 1, 2, 3, 4, 5, 6, 7, 8, 9], 10), ([], 11), ([], 12)] (by kernel_rfl) (by kernel_rfl) (by kernel_rfl) rfl (Below.drew (Below.refl _ _)) ?_
            refine ⟨?_, _, ?_, rfl, ?_⟩
            rotate_left
            · repeat (refine ⟨_, ?_, rfl, Or.inl ⟨by rfl, ?_⟩, ?_⟩; rotate_left; focus (intro W hW; have hcW := (bcell hW).1; clear hW; go_simp; try with_reducible rfl); (try simp only [Act.put, List.setIfInBounds_toArray, List.set_cons_zero, List.set_cons_succ]))
              exact rfl
            go_wp2_with fail
            refine (fmul_calls _ _ _ f av (HFE2.out.of_below (Below.drew (Below.refl _ _))) (HAE2.out.of_below (Below.drew (Below.refl _ _)))).mono ?_
            rintro e w7 ⟨v, rfl, hv, hb⟩
            rw [← HPR.out] at hv
            obtain ⟨A7, n7, c7, A8, n8, c8, rfl, HV5⟩ := hv.opened
            have HB7 := Lib.hid (below_next (Below.drew (Below.refl w2.heap.size w2)) hb)
            clear hv hb
            go_wp2_with fail
            refine And.intro HB7.out ⟨_, _, rfl, rfl, ?_⟩
            go_wp2_with fail
            refine (fadd_calls _ _ _ _ _ (FR.of_fq (HR1.out.of_below HB7.out) (by rw [← HCAP.out]; exact capQ_size _)) (FR.of_fq HV5.out (capQ_size _))).mono ?_
            rintro e w8 ⟨v, rfl, hv, hb⟩
            have hpost : capQ (fixQ (rawQ sm) + fixQ (rawQ (capQ pr))) = dotStep sm pr := by
              rw [fixQ_raw _ (by rw [← HCAP.out]; exact capQ_size _), fixQ_raw _ (capQ_size _)]
              rfl
            rw [hpost] at hv
            obtain ⟨A9, n9, c9, A10, n10, c10, rfl, HV6⟩ := hv.opened
            have HB8 := Lib.hid (below_next HB7.out hb)
            clear hv hb hpost
            go_wp2_with fail
            refine And.intro HB8.out ⟨_, _, rfl, rfl, ?_⟩
            have HA8 := Lib.hid (HA6.out.step HB8.out)
            obtain ⟨_, _, _, _, _, _, hk5, _⟩ := HA8.out
            obtain ⟨y0, y1, y2⟩ := hk5.c3
            obtain ⟨f0, f1, f2⟩ := hk5.f3
            clear hk5
            go_wp2_with fail
            refine NoPanic.normal ?_
            go_wp2_with fail
            go_roundw
            case rel => exact HRound.out _ (HA8.out.put HV6.out) ((HK6.out.step HB8.out).other3 (by omega) (by simp; omega) _ _ _)
            case measure => simp [intOf]; omega
          · obtain rfl : j = p.rows.length := by omega
            have hly := HLEN.out
            have hzl : ds.take p.rows.length = ds := List.take_of_length_le (by rw [HDS.out, HYS.out]; unfold colL; rw [List.length_zipWith, List.length_map]; omega)
            have HCQ : Hid (colQ p.rows ys i = sm) := by unfold Hid colQ; rw [← HDS.out, HSM.out, hzl]
            clear hzl hly
            have hif : i < p.free.length := by have := HFL.out; omega
            obtain ⟨bf, hbf⟩ : ∃ b, p.free[i]? = some b := ⟨p.free[i], List.getElem?_eq_getElem hif⟩
            obtain ⟨g4, o4, rfl, hg4, kb⟩ := BL.at1 (H1.out.below EB.stays HK5.out.2) hbf
            have HFA : Hid (freeAt p i = bf) := by unfold Hid freeAt; rw [List.getD_eq_getElem?_getD, hbf]; rfl
            have m6 : (i : Int).toNat = i := by omega
            have m7 : (0 : Int) ≤ (i : Int) := by omega
            have m8 : (i : Int) < (p.free.length : Int) := by omega
            have HBF := Lib.hid hbf
            clear hbf hif
            obtain ⟨fg, hfg⟩ : ∃ f, g[i]? = some f := ⟨g[i]'(by have := HGV.out; omega), List.getElem?_eq_getElem _⟩
            obtain ⟨g5, o5, C5, l5, e5, C6, l6, e6, ee, hg5, q0, q1, q2, HGE⟩ := FL.at3 (HG.out.below EF.stays HK5.out.2) hfg
            injection ee with ee
            injection ee with ee1 ee2
            subst ee1 ee2
            have m9 : (i : Int) < (g.length : Int) := by have := HGV.out; omega
            obtain ⟨cv, hcv⟩ : ∃ c, c = capQ (sm + -(fixQ fg)) := ⟨_, rfl⟩
            have HCV : Hid (colV p.rows ys (some g) i = cv) := by unfold Hid colV; simp only; rw [HCQ.out, nthF_get hfg, hcv]
            have HCC := Lib.hid hcv
            obtain ⟨E5, k5, f5, E6, k6, f6, hk, hR⟩ := HA5.out
            have HR1 := Lib.hid hR
            obtain ⟨a0, a1, a2⟩ := hk.c3
            obtain ⟨b0, b1, b2⟩ := hk.f3
            have hlt3 := hk.lt
            have hnn := neq_some wr ⟨gb, ob, none⟩ g.length c6
            clear hR hk hfg hcv
            go_wp2_with fail
            refine wp_chain (S := Below wr.heap.size wr) 6 [([0, 1, 2, 3, 4], 5), ([], 6)] (by kernel_rfl) (by kernel_rfl) (by kernel_rfl) rfl (Below.drew (Below.refl _ _)) ?_
            refine ⟨?_, _, ?_, rfl, ?_⟩
            rotate_left
            · repeat (refine ⟨_, ?_, rfl, Or.inl ⟨by rfl, ?_⟩, ?_⟩; rotate_left; focus (intro W hW; have hcW := (bcell hW).1; clear hW; go_simp; try with_reducible rfl); (try simp only [Act.put, List.setIfInBounds_toArray, List.set_cons_zero, List.set_cons_succ]))
              exact rfl
            go_wp2_with fail
            refine (fsub_calls _ _ _ _ fg (FR.of_fq (HR1.out.of_below (Below.drew (Below.refl _ _))) (by rw [← HCAP.out]; exact capQ_size _)) (HGE.out.of_below (Below.drew (Below.refl _ _)))).mono ?_
            rintro e w8 ⟨v, rfl, hv, hb⟩
            rw [fixQ_raw _ (by rw [← HCAP.out]; exact capQ_size _), ← HCC.out] at hv
            obtain ⟨A9, n9, c9, A10, n10, c10, rfl, HV6⟩ := hv.opened
            have HB8 := Lib.hid (below_next (Below.drew (Below.refl wr.heap.size wr)) hb)
            clear hv hb
            go_wp2_with fail
            refine And.intro HB8.out ⟨_, _, rfl, rfl, ?_⟩
            have HA8 := Lib.hid (HA5.out.step HB8.out)
            obtain ⟨_, _, _, _, _, _, hk5, _⟩ := HA8.out
            obtain ⟨y0, y1, y2⟩ := hk5.c3
            obtain ⟨f0, f1, f2⟩ := hk5.f3
            clear hk5
            go_wp2_with fail
            refine NoPanic.normal ?_
            have HA9 := Lib.hid (HA8.out.put HV6.out)
            have HK9 := Lib.hid ((HK5.out.step HB8.out).other3 (g := gz) (by omega) (by simp; omega) (.bool (negQ cv)) (.slice A9 n9 c9) (.slice A10 n10 c10))
            generalize ((w8.setCell ⟨gz, 0, none⟩ (.bool (negQ cv))).setCell ⟨gz, 1, none⟩ (.slice A9 n9 c9)).setCell ⟨gz, 2, none⟩ (.slice A10 n10 c10) = W9 at *
            obtain ⟨E7, k7, f7, E8, k8, f8, hk, hR⟩ := HA9.out
            have HR9 := Lib.hid hR
            obtain ⟨i0, i1, i2⟩ := hk.c3
            clear hR hk
            go_wp2_with fail
            have hcs : sizeQ cv ≤ 4096 := by rw [HCC.out]; exact capQ_size _
            refine (sgn_calls _ _ _ (FR.of_fq HR9.out hcs)).mono ?_
            rintro e wE ⟨rfl, hb⟩
            rw [fixQ_raw _ hcs]
            have HKE := Lib.hid (HK9.out.step hb)
            obtain ⟨g4', o4', ee, hg4', kb'⟩ := BL.at1 (H1.out.below EB.stays HKE.out.2) HBF.out
            injection ee with ee
            injection ee with ee1 ee2
            subst ee1 ee2
            clear hb kb
            obtain ⟨x0, x1, x2, x3⟩ := HKE.out.c4 0 rfl
            have hltp := (HKE.out.blk 0 rfl).lt
            obtain ⟨c, hc⟩ : ∃ c, c = signQ cv := ⟨_, rfl⟩
            have HOK : Hid (colOk p ys (some g) i = !(decide (c < 0) || (decide (c > 0) && bf))) := by unfold Hid colOk; rw [HCV.out, hc, HFA.out]
            rw [← hc]
            clear hc
            have HRound : Hid (∀ wz, Below wE.heap.size wE wz → colOk p ys (some g) i = true → ∃ i', i' ≤ n ∧ Value.int .i64 ((i : Int) + 1) = .int .i64 (i' : Int) ∧ (∀ (j : Nat), j < i' → colOk p ys (some g) j = true) ∧ HS w [(w.heap.size, 26, #[.int .i64 (n : Int), .slice (some ⟨g4, o4, none⟩) p.free.length c1, .slice A2 p.goal.length c2, .slice A3 p.rows.length c3])] wz) := by
              intro wz h1 h2
              refine ⟨i + 1, by omega, by go_num, fun j hj => ?_, HKE.out.step h1⟩
              by_cases hji : j = i
              · rw [hji]; exact h2
              · exact HA.out j (by omega)
            by_cases s1 : c < 0
            · have t1 : decide (c < 0) = true := decide_eq_true s1
              have HE2 : Hid (boundsB p y (some g) = false) := by unfold Hid; rw [HE1.out]; exact range_all_false hlt (by rw [HOK.out, t1]; rfl)
              clear s1
              go_wp2_with fail
              go_ret
              exact ⟨by rw [HE2.out]; rfl, HKE.out.2⟩
            have t1 : decide (c < 0) = false := decide_eq_false s1
            by_cases s2 : c > 0
            · have t2 : decide (c > 0) = true := decide_eq_true s2
              cases bf with
              | true =>
                have HE2 : Hid (boundsB p y (some g) = false) := by unfold Hid; rw [HE1.out]; exact range_all_false hlt (by rw [HOK.out, t1, t2]; rfl)
                clear s1 s2
                go_wp2_with fail
                go_ret
                exact ⟨by rw [HE2.out]; rfl, HKE.out.2⟩
              | false =>
                have HG : Hid (colOk p ys (some g) i = true) := by unfold Hid; rw [HOK.out, t1, t2]; rfl
                clear s1 s2
                go_wp2_with fail
                go_roundw
                case rel => exact HRound.out _ (Below.refl _ _) HG.out
                case measure => simp [intOf]; omega
            · have t2 : decide (c > 0) = false := decide_eq_false s2
              have HG : Hid (colOk p ys (some g) i = true) := by unfold Hid; rw [HOK.out, t1, t2]; rfl
              clear s1 s2
              go_wp2_with fail
              go_roundw
              case rel => exact HRound.out _ (Below.refl _ _) HG.out
              case measure => simp [intOf]; omega
end Go.Proofs.Ytfhambfgjigneaa
