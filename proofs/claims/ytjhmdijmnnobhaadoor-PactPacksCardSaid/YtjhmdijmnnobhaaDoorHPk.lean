/- Hand-written contracts of the Go functions that the statement reaches, and the plain laws over them. -/
import Derived.Test.YtjhmdijmnnobhaaDoorHRDig
set_option linter.unusedVariables false
set_option linter.unusedSimpArgs false
namespace Go.Proofs.YtjhmdijmnnobhaaDoor
open Go.RowKit
/-- The number of some bytes, the greatest first. -/
def beV (l : List Int) : Int := l.foldl (fun n b => n * 256 + b) 0
def packF : List (List Int) → List Int
  | [] => []
  | x :: xs => be8 (x.length : Nat) ++ x ++ packF xs
def unp : Nat → List Int → Option (List (List Int))
  | 0, _ => none
  | k + 1, s => if s.length = 0 then some [] else if s.length < 8 then none else if (s.length : Int) - 8 < beV (s.take 8) then none else
      (unp k ((s.drop 8).drop (beV (s.take 8)).toNat)).map ((s.drop 8).take (beV (s.take 8)).toNat :: ·)
theorem be8_eq (n : Int) : be8 n = [byteAt n 0, byteAt n 1, byteAt n 2, byteAt n 3, byteAt n 4, byteAt n 5, byteAt n 6, byteAt n 7] := rfl
theorem be8_len (n : Int) : (be8 n).length = 8 := fill8_len n 8
theorem beV_be8 (n : Int) (h0 : 0 ≤ n) (h1 : n < 9223372036854775808) : beV (be8 n) = n := by
  rw [be8_eq]
  simp only [beV, List.foldl_cons, List.foldl_nil, byteAt]
  simp only [Nat.mul_zero, Nat.sub_zero, Nat.reduceMul, Nat.reduceSub]
  have e56 : (2 : Int) ^ 56 = 72057594037927936 := by decide
  have e48 : (2 : Int) ^ 48 = 281474976710656 := by decide
  have e40 : (2 : Int) ^ 40 = 1099511627776 := by decide
  have e32 : (2 : Int) ^ 32 = 4294967296 := by decide
  have e24 : (2 : Int) ^ 24 = 16777216 := by decide
  have e16 : (2 : Int) ^ 16 = 65536 := by decide
  have e8 : (2 : Int) ^ 8 = 256 := by decide
  have e0 : (2 : Int) ^ 0 = 1 := by decide
  rw [e56, e48, e40, e32, e24, e16, e8, e0]
  omega
theorem be8_beV (l : List Int) (hl : l.length = 8) (hb : IsBytes l) : be8 (beV l) = l := by
  match l, hl with
  | [a, b, c, d, e, f, g, h], _ =>
    have ha := hb a (by simp)
    have hb' := hb b (by simp)
    have hc := hb c (by simp)
    have hd := hb d (by simp)
    have he := hb e (by simp)
    have hf := hb f (by simp)
    have hg := hb g (by simp)
    have hh := hb h (by simp)
    rw [be8_eq]
    simp only [beV, List.foldl_cons, List.foldl_nil, byteAt]
    simp only [Nat.mul_zero, Nat.sub_zero, Nat.reduceMul, Nat.reduceSub]
    have e56 : (2 : Int) ^ 56 = 72057594037927936 := by decide
    have e48 : (2 : Int) ^ 48 = 281474976710656 := by decide
    have e40 : (2 : Int) ^ 40 = 1099511627776 := by decide
    have e32 : (2 : Int) ^ 32 = 4294967296 := by decide
    have e24 : (2 : Int) ^ 24 = 16777216 := by decide
    have e16 : (2 : Int) ^ 16 = 65536 := by decide
    have e8 : (2 : Int) ^ 8 = 256 := by decide
    have e0 : (2 : Int) ^ 0 = 1 := by decide
    rw [e56, e48, e40, e32, e24, e16, e8, e0]
    congr 1
    · omega
    congr 1
    · omega
    congr 1
    · omega
    congr 1
    · omega
    congr 1
    · omega
    congr 1
    · omega
    congr 1
    · omega
    congr 1
    omega
theorem unp_pack : ∀ (ls : List (List Int)) (F : Nat), (∀ x ∈ ls, (x.length : Int) < 9223372036854775808) → (packF ls).length < F → unp F (packF ls) = some ls
  | [], F, _, hF => by
    obtain ⟨k, rfl⟩ : ∃ k, F = k + 1 := ⟨F - 1, by omega⟩
    simp [unp, packF]
  | x :: xs, F, hx, hF => by
    obtain ⟨k, rfl⟩ : ∃ k, F = k + 1 := ⟨F - 1, by omega⟩
    have hx0 := hx x (by simp)
    have hl : (packF (x :: xs)).length = 8 + x.length + (packF xs).length := by
      simp [packF, be8_len]
      omega
    have ht : (packF (x :: xs)).take 8 = be8 (x.length : Nat) := by
      rw [packF, List.append_assoc, List.take_append_of_le_length (by rw [be8_len]; omega), List.take_of_length_le (by rw [be8_len]; omega)]
    have hd : (packF (x :: xs)).drop 8 = x ++ packF xs := by
      rw [packF, List.append_assoc, List.drop_append_of_le_length (by rw [be8_len]; omega), List.drop_of_length_le (by rw [be8_len]; omega), List.nil_append]
    have hv : beV (be8 ((x.length : Nat) : Int)) = (x.length : Int) := beV_be8 _ (by omega) hx0
    rw [unp, if_neg (by omega), if_neg (by omega), ht, hv, if_neg (by omega), hd]
    have e : ((x.length : Int)).toNat = x.length := by omega
    rw [e, List.take_append_of_le_length (Nat.le_refl _), List.take_of_length_le (Nat.le_refl _), List.drop_append_of_le_length (Nat.le_refl _), List.drop_of_length_le (Nat.le_refl _), List.nil_append]
    rw [unp_pack xs k (fun y hy => hx y (by simp [hy])) (by omega)]
    rfl
theorem beV_nonneg_aux : ∀ (l : List Int) (n : Int), 0 ≤ n → (∀ x ∈ l, 0 ≤ x) → 0 ≤ l.foldl (fun n b => n * 256 + b) n
  | [], n, h, _ => h
  | x :: xs, n, h, hx => by
    have h1 := hx x (by simp)
    have h2 : 0 ≤ n * 256 + x := by omega
    exact beV_nonneg_aux xs _ h2 (fun y hy => hx y (by simp [hy]))
theorem beV_nonneg {l : List Int} (h : IsBytes l) : 0 ≤ beV l := beV_nonneg_aux l 0 (by omega) (fun x hx => (h x hx).1)
theorem isBytes_take {l : List Int} (h : IsBytes l) (n : Nat) : IsBytes (l.take n) := fun x hx => h x (List.mem_of_mem_take hx)
theorem isBytes_drop {l : List Int} (h : IsBytes l) (n : Nat) : IsBytes (l.drop n) := fun x hx => h x (List.mem_of_mem_drop hx)
theorem pack_unp : ∀ (F : Nat) (s : List Int) (us : List (List Int)), IsBytes s → unp F s = some us → packF us = s ∧ ∀ x ∈ us, IsBytes x
  | 0, s, us, _, h => by simp [unp] at h
  | F + 1, s, us, hb, h => by
    rw [unp] at h
    by_cases h0 : s.length = 0
    · rw [if_pos h0] at h
      obtain rfl := Option.some.inj h
      exact ⟨(List.eq_nil_of_length_eq_zero h0).symm, fun x hx => by cases hx⟩
    · rw [if_neg h0] at h
      by_cases h8 : s.length < 8
      · rw [if_pos h8] at h; cases h
      · rw [if_neg h8] at h
        by_cases hn : (s.length : Int) - 8 < beV (s.take 8)
        · rw [if_pos hn] at h; cases h
        · rw [if_neg hn] at h
          have hv := beV_nonneg (isBytes_take hb 8)
          obtain ⟨r, hr, rfl⟩ := Option.map_eq_some_iff.1 h
          obtain ⟨h1, h2⟩ := pack_unp F _ r (isBytes_drop (isBytes_drop hb 8) _) hr
          refine ⟨?_, fun x hx => ?_⟩
          · rw [packF, h1]
            have hl : ((s.drop 8).take (beV (s.take 8)).toNat).length = (beV (s.take 8)).toNat := by rw [List.length_take, List.length_drop]; omega
            rw [hl, show (((beV (s.take 8)).toNat : Nat) : Int) = beV (s.take 8) by omega, be8_beV _ (by rw [List.length_take]; omega) (isBytes_take hb 8), List.append_assoc, List.take_append_drop, List.take_append_drop]
          · rcases List.mem_cons.1 hx with rfl | hx
            · exact isBytes_take (isBytes_drop hb 8) _
            · exact h2 x hx
theorem packF_append (xs ys : List (List Int)) : packF (xs ++ ys) = packF xs ++ packF ys := by
  induction xs with
  | nil => rfl
  | cons x xs ih => simp [packF, ih, List.append_assoc]
theorem packF_bytes {ls : List (List Int)} (h : ∀ x ∈ ls, IsBytes x) : IsBytes (packF ls) := by
  induction ls with
  | nil => intro x hx; cases hx
  | cons y ys ih => exact isBytes_append (isBytes_append (fill8_bytes _ 8) (h y (by simp))) (ih fun x hx => h x (by simp [hx]))
def nthS (ls : List ByteArray) (j : Nat) : ByteArray := ls.getD j ByteArray.empty
/-- A slice of texts that is read. -/
def RdS (w : World) (v : Value) (ls : List ByteArray) : Prop := ∃ A c, v = .slice A ls.length c ∧ (0 < ls.length → ∃ g o, A = some ⟨g, o, none⟩ ∧ ∀ j, j < ls.length → w.cell? ⟨g, o + j, none⟩ = some (.string (nthS ls j)))
theorem RdS.below {w w1 : World} {v : Value} {ls : List ByteArray} (h : RdS w v ls) (hb : Below w.heap.size w w1) : RdS w1 v ls := by
  obtain ⟨A, c, hv, hc⟩ := h
  refine ⟨A, c, hv, fun hp => ?_⟩
  obtain ⟨g, o, hA, hcell⟩ := hc hp
  exact ⟨g, o, hA, fun j hj => (hb.cell (World.block_lt_of_cell? w _ (hcell j hj))).trans (hcell j hj)⟩
theorem take_succ_map (ls : List ByteArray) (k : Nat) (h : k < ls.length) : (ls.take (k + 1)).map bytesOf = (ls.take k).map bytesOf ++ [bytesOf (nthS ls k)] := by
  rw [List.take_succ_eq_append_getElem h, List.map_append]
  simp [nthS, List.getD_eq_getElem?_getD, List.getElem?_eq_getElem h]
theorem byteCells_nums (s : ByteArray) : byteCells s = nums .u8 (bytesOf s) := by
  unfold byteCells nums bytesOf
  rw [List.map_map]
  rfl
def FarPost (w : World) (ls : List ByteArray) (m : Int) (e : Ending) (w' : World) : Prop := ∃ b : Bool, e = .returned (.bool b) ∧ w = w' ∧ (b = false → ls.length ≤ 20 ∧ ∀ j, j < ls.length → ((nthS ls j).size : Int) ≤ m)
set_option maxHeartbeats 8000000 in
set_option maxRecDepth 100000 in
theorem far_calls (w : World) (v : Value) (ls : List ByteArray) (m : Int) (h : RdS w v ls) (hm : ls.length ≤ 9223372036854775807) (hsz : ∀ j, j < ls.length → (nthS ls j).size ≤ 9223372036854775807) :
    Calls Tryd.prog 8 #[v, .int .i64 m] w fun e w' => FarPost w ls m e w' := by
  obtain ⟨A, c, rfl, hc⟩ := h
  by_cases h20 : 20 < ls.length
  · have t : decide ((ls.length : Int) > 20) = true := by simp; omega
    go_enter Tryd.func8, Tryd.ntmps8
    go_wp2
    go_ret
    exact ⟨true, rfl, rfl, by simp⟩
  · have t : decide ((ls.length : Int) > 20) = false := by simp; omega
    have HC := Lib.hid hc
    clear hc
    go_enter Tryd.func8, Tryd.ntmps8
    go_wp2
    go_loop [5] (fun v => ∃ k : Nat, k ≤ ls.length ∧ v = .int .i64 k ∧ ∀ j, j < k → ((nthS ls j).size : Int) ≤ m) (fun v => ls.length - (intOf v).toNat)
    case atStart => exact ⟨0, by omega, rfl, fun j hj => by omega⟩
    case round =>
      obtain ⟨k, hk, rfl, hall⟩ := hrel
      have HALL := Lib.hid hall
      clear hall
      by_cases hlt : k < ls.length
      · obtain ⟨g, o, rfl, hcell⟩ := HC.out (by omega)
        have hce := hcell k hlt
        have hz := hsz k hlt
        clear hcell
        obtain ⟨x, hx⟩ : ∃ x, x = nthS ls k := ⟨_, rfl⟩
        rw [← hx] at hce hz
        have HX := Lib.hid hx
        clear hx
        have n1 : (k : Int) < (ls.length : Int) := by omega
        have n2 : (k : Int).toNat = k := by omega
        by_cases hs : (x.size : Int) > m
        · have t2 : decide ((x.size : Int) > m) = true := by simpa using hs
          go_wp2
          go_ret
          exact ⟨true, rfl, rfl, by simp⟩
        · have t2 : decide ((x.size : Int) > m) = false := by simpa using hs
          go_wp2
          go_round
          case rel =>
            refine ⟨k + 1, by omega, by go_num, fun j hj => ?_⟩
            by_cases hjk : j = k
            · subst hjk
              rw [← HX.out]
              omega
            · exact HALL.out j (by omega)
          case measure => simp [intOf]; omega
      · obtain rfl : k = ls.length := by omega
        go_wp2
        go_ret
        exact ⟨false, rfl, rfl, fun _ => ⟨by omega, HALL.out⟩⟩
def PackPost (w : World) (ls : List ByteArray) (e : Ending) (w' : World) : Prop := e = .returned (.string (strOfNums (packF (ls.map bytesOf)))) ∧ Below w.heap.size w w'
theorem packF_snoc (xs : List (List Int)) (x : List Int) : packF (xs ++ [x]) = packF xs ++ be8 (x.length : Nat) ++ x := by
  rw [packF_append]
  simp [packF]
theorem packF_take_le (ls : List ByteArray) (k : Nat) : (packF ((ls.take k).map bytesOf)).length ≤ (packF (ls.map bytesOf)).length := by
  conv => rhs; rw [← List.take_append_drop k ls, List.map_append, packF_append, List.length_append]
  omega
set_option maxHeartbeats 8000000 in
set_option maxRecDepth 100000 in
theorem pack_calls (w : World) (v : Value) (ls : List ByteArray) (h : RdS w v ls) (hm : (packF (ls.map bytesOf)).length ≤ 1000000000000) (hn : ls.length ≤ 1000000000000) :
    Calls Tryd.prog 9 #[v] w fun e w' => PackPost w ls e w' := by
  obtain ⟨A, c, rfl, hc⟩ := h
  have HC := Lib.hid hc
  have HM := Lib.hid hm
  clear hc hm
  go_enter Tryd.func9, Tryd.ntmps9
  go_wp2
  go_loopw [3, 8] (fun v vi wr => ∃ k : Nat, k ≤ ls.length ∧ vi = .int .i64 k ∧ OwnC .u8 w.heap.size wr v (packF ((ls.take k).map bytesOf)) ∧ w.grownBy wr none) (fun _ vi _ => ls.length - (intOf vi).toNat)
  case atStart => exact ⟨0, by omega, rfl, OwnC.nil _ _ _, gb_refl _ _⟩
  case round =>
    obtain ⟨k, hk, rfl, hown, hg⟩ := hrel
    by_cases hlt : k < ls.length
    · obtain ⟨g, o, rfl, hcell⟩ := HC.out (by omega)
      have hce := hg.cell (hcell k hlt) (by simp)
      clear hcell
      have hsn := take_succ_map ls k hlt
      have hle := packF_take_le ls (k + 1)
      obtain ⟨x, hx⟩ : ∃ x, x = nthS ls k := ⟨_, rfl⟩
      rw [← hx] at hce hsn
      clear hx
      rw [hsn, packF_snoc, bytesOf_length] at hle
      have HSN : Hid (packF ((ls.take (k + 1)).map bytesOf) = packF ((ls.take k).map bytesOf) ++ be8 ((x.size : Nat) : Int) ++ bytesOf x) := by
        unfold Hid
        rw [hsn, packF_snoc, bytesOf_length]
      obtain ⟨ps, hps⟩ : ∃ ps, ps = packF ((ls.take k).map bytesOf) := ⟨_, rfl⟩
      rw [← hps] at hown HSN hle
      have hpl : ps.length + 8 + x.size ≤ 1000000000000 := by
        have := HM.out
        simp only [List.length_append, be8_len, bytesOf_length] at hle
        omega
      clear hps hsn hle
      have n1 : (k : Int) < (ls.length : Int) := by omega
      have n2 : (k : Int).toNat = k := by omega
      obtain ⟨A0, c0, rfl⟩ := hown.slice
      have HO := Lib.hid hown
      have HG := Lib.hid hg
      clear hown hg
      go_wp2_with fail
      refine (size_calls ((x.size : Int)) _ (by omega) (by omega)).mono ?_
      rintro e w2 ⟨B, rfl, hB, hAB, hgB⟩
      have hown2 := HO.out.grown hgB (by simp)
      have hg2 := gb_trans HG.out hgB
      have hw2 : w.heap.size ≤ w2.heap.size := hg2.size
      have hsrc : Src Tryd.prog 1 33 (.slice (some ⟨B, 0, none⟩) 8 8) (be8 (x.size : Int)).length (nums .u8 (be8 (x.size : Int))) w2 := by
        have h := src_nums (P := Tryd.prog) (k := .u8) Tryd.underlying33 ⟨B, 0, none⟩ 8 (be8 (x.size : Int)) w2 (fun j hj => by rw [add_zero']; exact hAB.cell j hj)
        rw [be8_len] at h ⊢
        exact h
      have hl8 := be8_len (x.size : Int)
      have HL8 := Lib.hid hl8
      have HSRC := Lib.hid hsrc
      have HOWN2 := Lib.hid hown2
      have HG2 := Lib.hid hg2
      clear HO HG hAB hgB hl8 hsrc hown2 hg2
      have hsz2 := bytesOf_length x
      have HBX := Lib.hid hsz2
      clear hsz2
      have tok1 : True := trivial
      go_wp2_with (first
        | (at_builtin; have _t := tok1; refine wpl_append (P := Tryd.prog) rfl (.tmp 12) (.tmp 15) 33 33 rfl 5 1 Tryd.underlying33 info5 (base := w.heap.size) (.slice A0 ps.length c0) ps rfl HOWN2.out (.slice (some ⟨B, 0, none⟩) 8 8) rfl (be8 (x.size : Int)) HSRC.out (by rw [HL8.out]; omega) (by rw [HL8.out]; omega) hw2 ?_; intro v3 w3 hown3 hg3 hk3; have HOWN3 := Lib.hid hown3; have HG3 := Lib.hid (below_none HG2.out hg3 (fun k hk => (HOWN2.out.lt k hk).1)); clear tok1 hown3 hg3 hk3)
        | (at_builtin; refine wpl_append (P := Tryd.prog) rfl (.tmp 16) (.tmp 17) 33 9 rfl 5 1 Tryd.underlying33 info5 (base := w.heap.size) v3 (ps ++ be8 (x.size : Int)) rfl HOWN3.out (.string x) rfl (bytesOf x) (by rw [HBX.out, ← byteCells_nums]; exact Src.ofString _ Tryd.underlying9 x) (by rw [HBX.out, List.length_append, HL8.out]; omega) (by rw [HBX.out, List.length_append, HL8.out]; omega) HG3.out.size ?_; intro v4 w4 hown4 hg4 hk4; have HOWN4 := Lib.hid hown4; have HG4 := Lib.hid (below_none HG3.out hg4 (fun k hk => (HOWN3.out.lt k hk).1)); clear hown4 hg4 hk4))
      go_roundw
      case rel =>
        refine ⟨k + 1, by omega, by go_num, ?_, HG4.out⟩
        rw [HSN.out]
        exact HOWN4.out
      case measure => simp [intOf]; omega
    · obtain rfl : k = ls.length := by omega
      rw [List.take_length] at hown
      have hcv := str_of_own (P := Tryd.prog) wr 33 5 9 Tryd.underlying33 Tryd.underlying5 Tryd.underlying9 hown
      have HG := Lib.hid hg
      clear hown hg
      obtain ⟨ps, hps⟩ : ∃ ps, ps = strOfNums (packF (ls.map bytesOf)) := ⟨_, rfl⟩
      rw [← hps] at hcv
      have HPS := Lib.hid hps
      clear hps
      go_wp2
      go_ret
      exact ⟨by rw [← HPS.out]; rfl, gb_to_below HG.out⟩
end Go.Proofs.YtjhmdijmnnobhaaDoor
