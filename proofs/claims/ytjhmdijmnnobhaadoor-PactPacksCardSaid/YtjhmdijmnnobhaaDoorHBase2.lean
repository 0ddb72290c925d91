/- Hand-written contracts of the Go functions that the statement reaches, and the plain laws over them. -/
import Derived.Test.YtjhmdijmnnobhaaDoorHBase
set_option linter.unusedVariables false
set_option linter.unusedSimpArgs false
namespace Go.Proofs.YtjhmdijmnnobhaaDoor
open Go.RowKit
def bytesOf (s : ByteArray) : List Int := s.data.toList.map fun b => (b.toNat : Int)
theorem bytesOf_length (s : ByteArray) : (bytesOf s).length = s.size := by
  unfold bytesOf
  rw [List.length_map, Array.length_toList]
  rfl
def IsBytes (l : List Int) : Prop := ∀ x ∈ l, 0 ≤ x ∧ x ≤ 255
theorem bytesOf_isBytes (s : ByteArray) : IsBytes (bytesOf s) := by
  intro x hx
  obtain ⟨b, _, rfl⟩ := List.mem_map.1 hx
  have := b.toNat_lt
  omega
theorem IsBytes.nth {l : List Int} (h : IsBytes l) (j : Nat) : 0 ≤ nth l j ∧ nth l j ≤ 255 := by
  by_cases hj : j < l.length
  · unfold Proofs.YtjhmdijmnnobhaaDoor.nth
    rw [List.getD_eq_getElem?_getD, List.getElem?_eq_getElem hj]
    exact h _ (List.getElem_mem hj)
  · unfold Proofs.YtjhmdijmnnobhaaDoor.nth
    rw [List.getD_eq_getElem?_getD, List.getElem?_eq_none (by omega)]
    simp
theorem bytesOf_strOfNums {l : List Int} (h : IsBytes l) : bytesOf (strOfNums l) = l := by
  unfold bytesOf
  rw [strOfNums_data, List.map_map]
  conv => rhs; rw [← List.map_id l]
  refine List.map_congr_left fun x hx => ?_
  obtain ⟨h0, h1⟩ := h x hx
  simp only [Function.comp, id]
  rw [UInt8.toNat_ofNat_of_lt' (show x.toNat < UInt8.size by show x.toNat < 256; omega)]
  omega
theorem strOfNums_bytesOf (s : ByteArray) : strOfNums (bytesOf s) = s := by
  apply ByteArray.ext
  apply Array.ext'
  rw [strOfNums_data]
  unfold bytesOf
  rw [List.map_map]
  conv => rhs; rw [← List.map_id s.data.toList]
  refine List.map_congr_left fun x _ => ?_
  simp
theorem bytesOf_append (s t : ByteArray) : bytesOf (s ++ t) = bytesOf s ++ bytesOf t := by
  unfold bytesOf
  rw [← List.map_append]
  congr 1
theorem strOfNums_append (l m : List Int) : strOfNums (l ++ m) = strOfNums l ++ strOfNums m := by
  apply ByteArray.ext
  apply Array.ext'
  rw [ByteArray.data_append, Array.toList_append, strOfNums_data, strOfNums_data, strOfNums_data, List.map_append]
section
variable {P : Program}
/-- '[]byte(s)': a row of the call's own. -/
theorem own_bytes (w : World) (e : TypeId) (s : ByteArray) (hs : s.size ≤ maxLen) :
    OwnC .u8 w.heap.size (Lib.bytesWorld w e s) (.slice (some ⟨w.heap.size, 0, none⟩) s.size (grownCap w s.size 0 e)) (bytesOf s) ∧ w.grownBy (Lib.bytesWorld w e s) none := by
  have hg := grownCap_ge w s.size 0 e
  have hn := Lib.bytesWorld_at_new w e s
  have hsz : (Lib.bytesCells w e s).size = grownCap w s.size 0 e := by
    have : s.data.size = s.size := rfl
    simp only [Lib.bytesCells, Array.size_append, Array.size_map, Array.size_replicate, this]
    omega
  refine ⟨.inr ⟨w.heap.size, _, by rw [bytesOf_length], Nat.le_refl _, by rw [Lib.bytesWorld_size]; omega, by rw [bytesOf_length]; exact hg, grownCap_le_maxLen w s.size 0 e hs, ?_, ?_⟩, ⟨rfl, rfl, rfl, by rw [Lib.bytesWorld_size]; omega, fun k hk _ => Lib.bytesWorld_at_old w e s k hk⟩⟩
  · intro j hj
    rw [bytesOf_length] at hj
    rw [Lib.bytesWorld_cell w e s j hj]
    unfold nth bytesOf
    rw [List.getD_eq_getElem?_getD, List.getD_eq_getElem?_getD, List.getElem?_map]
    have hj' : j < s.data.toList.length := by rw [Array.length_toList]; exact hj
    rw [List.getElem?_eq_getElem hj']
    simp
  · intro j hj
    constructor
    · simp only [World.cell?]
      rw [hn]
      simp only [Option.isSome_none, Bool.false_eq_true, if_false]
      rw [Array.getElem?_eq_getElem (by omega)]
      rfl
    · simp only [World.frozen?]
      rw [hn]
      simp only [Bool.and_eq_false_iff, decide_eq_false_iff_not]
      left
      omega
/-- 'string(b)' of a row that reads as these bytes. -/
theorem str_of_cells (w : World) (src e dst : TypeId) (hs : P.underlying src = some (.slice e)) (he : P.underlying e = some (.int .u8)) (hd : P.underlying dst = some .string) (b o c : Nat) (xs : List Int)
    (hc : ∀ j, j < xs.length → w.cell? ⟨b, o + j, none⟩ = some (.int .u8 (nth xs j))) : (convert src dst (.slice (some ⟨b, o, none⟩) xs.length c)).run P w = .ok (.string (strOfNums xs)) w :=
  run_convert_bytes_arg w src e hs he b o xs.length c xs rfl hc dst hd
theorem str_of_own (w : World) (src e dst : TypeId) (hs : P.underlying src = some (.slice e)) (he : P.underlying e = some (.int .u8)) (hd : P.underlying dst = some .string) {base : Nat} {v : Value} {xs : List Int} (h : OwnC .u8 base w v xs) :
    (convert src dst v).run P w = .ok (.string (strOfNums xs)) w := by
  rcases h with ⟨rfl, rfl⟩ | ⟨g, cap, rfl, h1, h2, h3, h4, h5, h6⟩
  · exact run_convert_bytes_nil w src e hs he 0 0 dst hd
  · exact str_of_cells w src e dst hs he hd g 0 cap xs (fun j hj => by rw [Nat.zero_add]; exact h5 j hj)
variable {ops : Array Oper} {rest : List Oper} {o : Oper} {a : Act} {Q : Exit → Act → World → Prop}
theorem wpl_append {W : World} (hgd : o.guard = none) (s x : Operand) (t tx : TypeId) (ho : o.op = .call { callee := .builtin .append, args := #[s, x], argTypes := #[t, tx] }) (e : TypeId) (bytes : Nat)
    (ht : P.underlying t = some (.slice e)) {k : IntKind} (hinfo : (P.info? e).map (fun i => (i.zero, i.size, i.bytes)) = some (some (.int k 0), 1, bytes)) {base : Nat} (v : Value) (xs : List Int) (hs : a.eval s = v) (hown : OwnC k base W v xs)
    (xv : Value) (hx : a.eval x = xv) (ys : List Int) (hsrc : Src P 1 tx xv ys.length (nums k ys) W) (hbytes : (xs.length + ys.length) * bytes ≤ 140737488355328) (hmax : xs.length + ys.length ≤ 140737488355328) (hbase : base ≤ W.heap.size)
    (h : ∀ v' w', OwnC k base w' v' (xs ++ ys) → W.grownBy w' v.ownBlock → (∀ g, v'.ownBlock = some g → v.ownBlock = some g ∨ W.heap.size ≤ g) → wpList P ops Q rest (a.put o.dst v') w') : wpList P ops Q (o :: rest) a W :=
  wpList_plain hgd fun K hK => by
    obtain ⟨v', w', hr, h2, h3, h4⟩ := hown.append (P := P) t tx o.type e bytes ht hinfo xv ys hsrc hbytes hmax hbase
    unfold Oper.wp execOp
    simp only [ho, resolve, invoke, builtin, Sem.run_bind, Sem.run_pure, Result.andThen_ok, List.map_toArray, List.map_cons, List.map_nil, hs, hx, hr]
    exact hK _ _ (h v' w' h2 h3 h4)
end
end Go.Proofs.YtjhmdijmnnobhaaDoor
