/- Hand-written contracts of the Go functions that the statement reaches, and the plain laws over them. -/
import Derived.Test.YtjhmdijmnnobhaaDoorHPk
set_option linter.unusedVariables false
set_option linter.unusedSimpArgs false
namespace Go.Proofs.YtjhmdijmnnobhaaDoor
open Go.RowKit
theorem beV_snoc (l : List Int) (b : Int) : beV (l ++ [b]) = beV l * 256 + b := by simp [beV, List.foldl_append]
theorem beV_mono_aux : ∀ (m : List Int) (n : Int), 0 ≤ n → (∀ x ∈ m, 0 ≤ x) → n ≤ m.foldl (fun n b => n * 256 + b) n
  | [], n, _, _ => Int.le_refl _
  | x :: xs, n, h, hx => by
    have h1 := hx x (by simp)
    have := beV_mono_aux xs (n * 256 + x) (by omega) (fun y hy => hx y (by simp [hy]))
    simp only [List.foldl_cons]
    omega
theorem beV_le (l m : List Int) (hl : IsBytes l) (hm : IsBytes m) : beV l ≤ beV (l ++ m) := by
  unfold beV
  rw [List.foldl_append]
  exact beV_mono_aux m _ (beV_nonneg hl) (fun x hx => (hm x hx).1)
theorem beV_lt : ∀ (k : Nat) (l : List Int), l.length = k → IsBytes l → beV l < 256 ^ k
  | 0, l, hl, _ => by
    obtain rfl := List.eq_nil_of_length_eq_zero hl
    decide
  | k + 1, l, hl, hb => by
    have hne : l ≠ [] := by intro e; rw [e] at hl; simp at hl
    have e := List.dropLast_concat_getLast hne
    rw [← e] at hb ⊢
    have h1 := beV_lt k l.dropLast (by rw [List.length_dropLast, hl]; rfl) (fun x hx => hb x (by simp [hx]))
    have h2 := hb (l.getLast hne) (by simp)
    rw [beV_snoc, Int.pow_succ]
    omega
theorem take_snoc_nth (l : List Int) (i : Nat) (h : i < l.length) : l.take (i + 1) = l.take i ++ [nth l i] := by
  rw [List.take_succ_eq_append_getElem h]
  simp [nth, List.getD_eq_getElem?_getD, List.getElem?_eq_getElem h]
theorem or_byte (n b : Int) (h0 : 0 ≤ n) (h1 : n < 72057594037927936) (hb0 : 0 ≤ b) (hb1 : b ≤ 255) : bits .or .u64 (n * 256) b = n * 256 + b :=
  bits_join .u64 64 (by decide) (fun n h0 h1 => IntWalk.u64_in n (by omega)) 8 _ _ (by omega) (by omega) (by omega) hb0 (by omega) (by omega)
theorem or_byte_i (n b : Int) (h0 : 0 ≤ n) (h1 : n < 1000000000000000) (hb0 : 0 ≤ b) (hb1 : b ≤ 255) : bits .or .i64 (n * 256) b = n * 256 + b :=
  bits_join .i64 63 (by decide) (fun n h0 h1 => IntWalk.i64_in n (by omega)) 8 _ _ (by omega) (by omega) (by omega) hb0 (by omega) (by omega)
def sizeV : Value → Nat | .string s => s.size | _ => 0
def OwnS (base : Nat) (w : World) (v : Value) (ls : List ByteArray) : Prop := w.ownsRow base 9 1 v ls.length (ls.map Value.string)
theorem info9 : (Tryd.prog.info? 9).map (fun i => (i.zero, i.size, i.bytes)) = some (some (.string ⟨#[]⟩), 1, 16) := by kernel_rfl
theorem OwnS.slice {base : Nat} {w : World} {v : Value} {ls : List ByteArray} (h : OwnS base w v ls) : ∃ A c, v = .slice A ls.length c := by
  rcases h.2 with ⟨rfl, h0⟩ | ⟨g, cap, cur, rfl, _⟩
  · exact ⟨none, 0, by rw [h0]⟩
  · exact ⟨_, _, rfl⟩
theorem OwnS.rd {base : Nat} {w : World} {v : Value} {ls : List ByteArray} (h : OwnS base w v ls) : RdS w v ls := by
  obtain ⟨A, c, rfl⟩ := h.slice
  refine ⟨A, c, rfl, fun hp => ?_⟩
  rcases h.2 with ⟨e, h0⟩ | ⟨g, cap, cur, e, _⟩
  · omega
  · injection e with e1 e2 e3
    subst e1
    refine ⟨g, 0, rfl, fun j hj => ?_⟩
    have := h.cells (g := g) rfl j (.string (nthS ls j)) (by simp [nthS, List.getElem?_eq_getElem hj, List.getD_eq_getElem?_getD])
    rw [add_zero'] at this
    rw [Nat.zero_add]
    exact this
theorem wpl_appendS {ops : Array Oper} {rest : List Oper} {o : Oper} {a : Act} {Q : Exit → Act → World → Prop} {W : World} (hgd : o.guard = none) (s x : Operand)
    (ho : o.op = .call { callee := .builtin .append, args := #[s, x], argTypes := #[25, 25] }) {base : Nat} (v : Value) (ls : List ByteArray) (hs : a.eval s = v) (t : ByteArray)
    (hown : OwnS base W v ls) (hx : a.eval x = .slice (some ⟨W.heap.size, 0, none⟩) 1 1) (hn : ls.length ≤ 1000000000000) (hbase : base ≤ W.heap.size)
    (h : ∀ v' w', OwnS base w' v' (ls ++ [t]) → W.grownBy w' v.ownBlock → wpList Tryd.prog ops Q rest (a.put o.dst v') w') : wpList Tryd.prog ops Q (o :: rest) a (W.alloc (.cells #[.string t] 9)) := by
  obtain ⟨i, hi, hzz⟩ := Option.map_eq_some_iff.1 info9
  simp only [Prod.mk.injEq] at hzz
  obtain ⟨hz, hsz, hby⟩ := hzz
  refine wpList_append_own (P := Tryd.prog) (W.alloc (.cells #[.string t] 9)) hgd s x 25 ho base 9 i _ 1 16 Tryd.underlying25 hi hz hsz hby rfl (by decide) v ls.length (ls.map Value.string) hs (World.ownsRow.alloc hown _) ⟨W.heap.size, 0, none⟩ 1 1 [.string t] hx rfl ?_ ?_ (by simp only [maxLen]; omega) (by omega) (by simp; omega) ?_
  · intro j u hu
    have hj : j = 0 := by
      have := (List.getElem?_eq_some_iff.1 hu).1
      simp at this
      omega
    subst hj
    rw [add_zero', World.cell?_alloc_mark]
    simpa using hu
  · intro u hu
    rw [List.mem_singleton.1 hu]
    rfl
  · intro v' w' h1 h2 _
    refine h v' w' ?_ (gb_trans (gb_alloc (gb_refl W v.ownBlock) _) h2)
    unfold OwnS
    rw [List.length_append, List.map_append]
    exact h1
def UnpPost (w : World) (s : ByteArray) (e : Ending) (w' : World) : Prop := ∃ (v : Value) (ok : Bool) (us : List ByteArray), e = .returned (.tuple #[v, .bool ok]) ∧ RdS w' v us ∧ Below w.heap.size w w' ∧
  ((ok = true ∧ unp (s.size + 1) (bytesOf s) = some (us.map bytesOf)) ∨ (ok = false ∧ us = [] ∧ unp (s.size + 1) (bytesOf s) = none))
theorem RdS.nil (w : World) : RdS w (.slice none 0 0) [] := ⟨none, 0, rfl, fun h => absurd h (by simp)⟩
theorem unp_step (F : Nat) (l : List Int) (h8 : 8 ≤ l.length) (n : Nat) (hn : beV (l.take 8) = n) (hle : n ≤ l.length - 8) : unp (F + 1) l = (unp F ((l.drop 8).drop n)).map ((l.drop 8).take n :: ·) := by
  rw [unp, if_neg (by omega), if_neg (by omega), hn, if_neg (by omega)]
  rfl
theorem unp_more : ∀ (F : Nat) (l : List Int), l.length < F → ∀ k, unp (F + k) l = unp F l
  | 0, l, h, _ => by omega
  | F + 1, l, h, k => by
    rw [show F + 1 + k = (F + k) + 1 by omega, unp, unp]
    by_cases h0 : l.length = 0
    · rw [if_pos h0, if_pos h0]
    · rw [if_neg h0, if_neg h0]
      by_cases h8 : l.length < 8
      · rw [if_pos h8, if_pos h8]
      · rw [if_neg h8, if_neg h8]
        rw [unp_more F _ (by rw [List.length_drop, List.length_drop]; omega) k]
set_option maxHeartbeats 8000000 in
set_option maxRecDepth 100000 in
theorem rpack_calls (w : World) (v : Value) (ls : List ByteArray) (h : RdS w v ls) (hm : (packF (ls.map bytesOf)).length ≤ 1000000000000) (hn : ls.length ≤ 1000000000000) :
    Calls Tryd.prog 11 #[v] w fun e w' => PackPost w ls e w' := by
  obtain ⟨A, c, rfl, hc⟩ := h
  have HC := Lib.hid hc
  have HM := Lib.hid hm
  clear hc hm
  go_enter Tryd.func11, Tryd.ntmps11
  go_wp2
  go_loopw [3, 4] (fun v vi wr => ∃ k : Nat, k ≤ ls.length ∧ vi = .int .i64 k ∧ v = .string (strOfNums (packF ((ls.take k).map bytesOf))) ∧ Below w.heap.size w wr) (fun _ vi _ => ls.length - (intOf vi).toNat)
  case atStart => exact ⟨0, by omega, rfl, rfl, Below.refl _ _⟩
  case round =>
    obtain ⟨k, hk, rfl, rfl, hg⟩ := hrel
    by_cases hlt : k < ls.length
    · obtain ⟨g, o, rfl, hcell⟩ := HC.out (by omega)
      have hgs : g < w.heap.size := World.block_lt_of_cell? w _ (hcell k hlt)
      have hce := (hg.cell (p := ⟨g, o + k, none⟩) hgs).trans (hcell k hlt)
      clear hcell
      have hsn := take_succ_map ls k hlt
      have hle := packF_take_le ls (k + 1)
      obtain ⟨x, hx⟩ : ∃ x, x = nthS ls k := ⟨_, rfl⟩
      rw [← hx] at hce hsn
      clear hx
      rw [hsn, packF_snoc, bytesOf_length] at hle
      have HSN : Hid (strOfNums (packF ((ls.take (k + 1)).map bytesOf)) = strOfNums (packF ((ls.take k).map bytesOf)) ++ strOfNums (be8 ((x.size : Nat) : Int)) ++ x) := by
        unfold Hid
        rw [hsn, packF_snoc, bytesOf_length, strOfNums_append, strOfNums_append, strOfNums_bytesOf]
      have hz0 : (strOfNums (packF ((ls.take k).map bytesOf))).size = (packF ((ls.take k).map bytesOf)).length := strOfNums_size _
      obtain ⟨pl, hpl0⟩ : ∃ pl, pl = (packF ((ls.take k).map bytesOf)).length := ⟨_, rfl⟩
      obtain ⟨ps, hps⟩ : ∃ ps, ps = strOfNums (packF ((ls.take k).map bytesOf)) := ⟨_, rfl⟩
      rw [← hpl0, ← hps] at hz0
      rw [← hps] at HSN ⊢
      simp only [List.length_append, be8_len, bytesOf_length, ← hpl0] at hle
      have hM := HM.out
      obtain ⟨b8, hb8⟩ : ∃ b8, b8 = strOfNums (be8 ((x.size : Nat) : Int)) := ⟨_, rfl⟩
      have hbz : b8.size = 8 := by rw [hb8, strOfNums_size, be8_len]
      have hlong : ∀ w, Calls Tryd.prog 15 #[.int .i64 (x.size : Int)] w fun e w' => e = .returned (.string b8) ∧ Below w.heap.size w w' := fun w => by
        rw [hb8]
        exact long_calls _ w (by omega) (by omega)
      rw [← hb8] at HSN
      have q1 : ¬ (ps.size + b8.size > 9223372036854775807) := by omega
      have q2 : ¬ (ps.size + b8.size + x.size > 9223372036854775807) := by omega
      have hwg : g < wr.heap.size := by have := hg.size; omega
      have HLONG := Lib.hid hlong
      have HG := Lib.hid hg
      clear hps hpl0 hle hM hb8 hbz hlong hz0 hg hsn
      have n1 : (k : Int) < (ls.length : Int) := by omega
      have n2 : (k : Int).toNat = k := by omega
      have n3 : (0 : Int) ≤ (k : Int) := by omega
      go_wp2_with fail
      go_region_held3 (fun w' => w'.cell? ⟨g, o + k, none⟩ = some (.string x)) (first | exact hce | exact hce2 | go_keep)
        (first | (go_at_call 15; refine (HLONG.out _).mono ?_; rintro e w2 ⟨rfl, hb2⟩; have hce2 : w2.cell? ⟨g, o + k, none⟩ = some (.string x) := (hb2.cell (p := ⟨g, o + k, none⟩) hwg).trans hce))
      have HG2 : Hid (Below w.heap.size w w2) := HG.out.trans ((show Below wr.heap.size wr w2 from ⟨hb2.os, hb2.tape, hb2.output, hb2.size, hb2.block⟩).mono HG.out.size)
      clear hb2 hce hce2 HG HLONG q1 q2
      go_wp2_with fail
      go_roundw
      case rel =>
        refine ⟨k + 1, by omega, by go_num, ?_, HG2.out⟩
        rw [HSN.out]
      case measure => simp [intOf]; omega
    · obtain rfl : k = ls.length := by omega
      rw [List.take_length]
      obtain ⟨ps, hps⟩ : ∃ ps, ps = strOfNums (packF (ls.map bytesOf)) := ⟨_, rfl⟩
      rw [← hps]
      have HPS := Lib.hid hps
      have HG := Lib.hid hg
      clear hps hg
      go_wp2
      go_ret
      exact ⟨by rw [← HPS.out]; rfl, HG.out⟩
set_option maxHeartbeats 8000000 in
set_option maxRecDepth 100000 in
theorem unpack_calls (w : World) (s : ByteArray) (hs : s.size ≤ 1000000000000) :
    Calls Tryd.prog 10 #[.string s] w fun e w' => UnpPost w s e w' := by
  go_enter Tryd.func10, Tryd.ntmps10
  go_wp2
  go_loopw [0, 4] (fun vs vo wr => ∃ (cur : ByteArray) (acc : List ByteArray) (F : Nat), vs = .string cur ∧ cur.size + acc.length ≤ s.size ∧ OwnS w.heap.size wr vo acc ∧ w.grownBy wr none ∧ cur.size < F ∧
    unp (s.size + 1) (bytesOf s) = (unp F (bytesOf cur)).map (acc.map bytesOf ++ ·)) (fun vs _ _ => sizeV vs)
  case atStart => exact ⟨s, [], s.size + 1, rfl, by simp, ⟨rfl, .inl ⟨rfl, rfl⟩⟩, gb_refl _ _, by omega, by simp⟩
  case round =>
    obtain ⟨cur, acc, F, rfl, hsz, hown, hg, hF, hu⟩ := hrel
    have hbl := bytesOf_length cur
    have HU := Lib.hid hu
    clear hu
    by_cases h0 : cur.size = 0
    · have hfin : unp (s.size + 1) (bytesOf s) = some (acc.map bytesOf) := by
        rw [HU.out]
        obtain ⟨k, rfl⟩ : ∃ k, F = k + 1 := ⟨F - 1, by omega⟩
        rw [unp, if_pos (by omega)]
        simp
      have t0 : decide (0 < cur.size) = false := decide_eq_false (by omega)
      have t0' : decide ((0 : Int) < (cur.size : Int)) = false := decide_eq_false (by omega)
      have HF := Lib.hid hfin
      have HR := Lib.hid hown.rd
      have HG := Lib.hid hg
      obtain ⟨A, c, rfl⟩ := hown.slice
      clear hfin hbl hown hg h0 HU
      go_wp2
      go_ret2
      exact ⟨_, true, acc, rfl, HR.out, gb_to_below HG.out, .inl ⟨rfl, HF.out⟩⟩
    · have t0 : decide (0 < cur.size) = true := decide_eq_true (by omega)
      have t0' : decide ((0 : Int) < (cur.size : Int)) = true := decide_eq_true (by omega)
      by_cases h8 : cur.size < 8
      · have hfin : unp (s.size + 1) (bytesOf s) = none := by
          rw [HU.out]
          obtain ⟨k, rfl⟩ : ∃ k, F = k + 1 := ⟨F - 1, by omega⟩
          rw [unp, if_neg (by omega), if_pos (by omega)]
          rfl
        have t1 : decide ((cur.size : Int) < 8) = true := decide_eq_true (by omega)
        have HF := Lib.hid hfin
        have HG := Lib.hid hg
        clear hfin hbl hown hg h0 HU
        go_wp2
        go_ret2
        exact ⟨_, false, [], rfl, RdS.nil _, gb_to_below HG.out, .inr ⟨rfl, rfl, HF.out⟩⟩
      · have t1 : decide ((cur.size : Int) < 8) = false := decide_eq_false (by omega)
        have hby := bytesOf_isBytes cur
        have HO := Lib.hid hown
        have HG := Lib.hid hg
        clear hown hg
        go_wp2
        go_loop [5, 13] (fun vn vi => ∃ i : Nat, i ≤ 8 ∧ vi = .int .i64 i ∧ vn = .int .u64 (beV ((bytesOf cur).take i))) (fun _ vi => 8 - (intOf vi).toNat)
        case atStart => exact ⟨0, by omega, rfl, rfl⟩
        case round =>
          obtain ⟨i, hi, rfl, rfl⟩ := hrel
          have hbt := isBytes_take hby i
          have hn0 := beV_nonneg hbt
          by_cases hlt : i < 8
          · have hn1 := beV_lt i _ (by rw [List.length_take, hbl]; omega) hbt
            have hn2 : beV ((bytesOf cur).take i) < 72057594037927936 := by
              have hp : (256 : Int) ^ i ≤ 256 ^ 7 := by
                have := Nat.pow_le_pow_right (show 0 < 256 by decide) (show i ≤ 7 by omega)
                exact_mod_cast this
              have : (256 : Int) ^ 7 = 72057594037927936 := by decide
              omega
            have hsn := take_snoc_nth (bytesOf cur) i (by omega)
            rw [nth_bytes cur i (by omega)] at hsn
            have HSN : Hid (beV ((bytesOf cur).take (i + 1)) = beV ((bytesOf cur).take i) * 256 + ((cur[i]'(by omega)).toNat : Int)) := by
              unfold Hid
              rw [hsn, beV_snoc]
            have hb9 := (cur[i]'(by omega)).toNat_lt
            have hor := or_byte (beV ((bytesOf cur).take i)) ((cur[i]'(by omega)).toNat : Int) hn0 hn2 (by omega) (by omega)
            obtain ⟨n, hn⟩ : ∃ n, n = beV ((bytesOf cur).take i) := ⟨_, rfl⟩
            rw [← hn] at hn0 hn2 hor HSN ⊢
            have HB9 := Lib.hid hb9
            have HOR := Lib.hid hor
            clear hn hn1 hsn hbt hby hb9 hor
            have i1 : i < cur.size := by omega
            have i2 : (i : Int) < 8 := by omega
            have i3 : (i : Int) < (cur.size : Int) := by omega
            have i4 : (i : Int).toNat = i := by omega
            go_wp2
            go_round
            case rel =>
              refine ⟨i + 1, by omega, by go_num, ?_⟩
              rw [HSN.out, IntWalk.u64_in _ (by have := HB9.out; omega), HOR.out]
            case measure => simp [intOf]; omega
          · obtain rfl : i = 8 := by omega
            rw [show ((8 : Nat) : Int) = (8 : Int) from rfl]
            have hn1 := beV_lt 8 _ (by rw [List.length_take, hbl]; omega) hbt
            have hl8 : (bytesOf cur).take 8 = (bytesOf cur).take 8 := rfl
            obtain ⟨n, hn⟩ : ∃ n : Int, n = beV ((bytesOf cur).take 8) := ⟨_, rfl⟩
            rw [← hn] at hn0 hn1 ⊢
            have hn2 : n < 18446744073709551616 := by
              have : (256 : Int) ^ 8 = 18446744073709551616 := by decide
              omega
            obtain ⟨rst, hrst⟩ : ∃ rst, rst = cur.extract 8 cur.size := ⟨_, rfl⟩
            have hrb : bytesOf rst = (bytesOf cur).drop 8 := by
              rw [hrst, bytesOf_extract, List.take_of_length_le]
              rw [List.length_drop, hbl]
              omega
            have hrz : rst.size = cur.size - 8 := by rw [← bytesOf_length, hrb, List.length_drop, hbl]
            have HRB := Lib.hid hrb
            have HRST := Lib.hid hrst
            have HN := Lib.hid hn
            clear hl8 hrb hrst hn hn1 hbt hi hlt
            have a0 : (0 : Int) ≤ 8 := by decide
            have a1 : (8 : Int) ≤ (cur.size : Int) := by omega
            have a2 : 8 ≤ cur.size := by omega
            by_cases hbig : ((cur.size - 8 : Nat) : Int) < n
            · have hfin : unp (s.size + 1) (bytesOf s) = none := by
                rw [HU.out]
                obtain ⟨k, rfl⟩ : ∃ k, F = k + 1 := ⟨F - 1, by omega⟩
                rw [unp, if_neg (by omega), if_neg (by omega), ← HN.out, if_pos (by omega)]
                rfl
              have HF := Lib.hid hfin
              have t2 : decide (n > ((cur.size - 8 : Nat) : Int)) = true := decide_eq_true hbig
              clear hfin
              go_wp2_with fail
              go_ret2
              exact ⟨_, false, [], rfl, RdS.nil _, gb_to_below HG.out, .inr ⟨rfl, rfl, HF.out⟩⟩
            · have hle : n ≤ ((cur.size - 8 : Nat) : Int) := by omega
              have t2 : decide (n > ((cur.size - 8 : Nat) : Int)) = false := decide_eq_false hbig
              obtain ⟨m, rfl⟩ := Int.eq_ofNat_of_zero_le hn0
              have m1 : m ≤ cur.size - 8 := by omega
              have m2 : (m : Int).toNat = m := by omega
              obtain ⟨A0, c0, rfl⟩ := HO.out.slice
              have hstep : ∃ F', F = F' + 1 ∧ unp F (bytesOf cur) = (unp F' (((bytesOf cur).drop 8).drop m)).map (((bytesOf cur).drop 8).take m :: ·) := by
                obtain ⟨k, rfl⟩ : ∃ k, F = k + 1 := ⟨F - 1, by omega⟩
                exact ⟨k, rfl, unp_step k _ (by omega) m HN.out.symm (by omega)⟩
              obtain ⟨F', rfl, hstep⟩ := hstep
              have hb1 : bytesOf ((cur.extract 8 cur.size).extract 0 m) = ((bytesOf cur).drop 8).take m := by
                rw [bytesOf_extract, ← HRST.out, HRB.out]
                simp
              have hnew : unp (s.size + 1) (bytesOf s) = (unp F' (((bytesOf cur).drop 8).drop m)).map ((acc ++ [(cur.extract 8 cur.size).extract 0 m]).map bytesOf ++ ·) := by
                rw [HU.out, hstep, Option.map_map]
                congr 1
                funext r
                simp only [Function.comp, List.map_append, List.map_cons, List.map_nil, hb1, List.append_assoc, List.singleton_append]
              have HNEW := Lib.hid hnew
              clear hstep hb1 hnew
              go_wp2_with (at_builtin; refine wpl_appendS rfl (.tmp 31) (.tmp 35) rfl (base := w.heap.size) (.slice A0 acc.length c0) acc rfl ((cur.extract 8 cur.size).extract 0 m) HO.out rfl (by omega) HG.out.size ?_; intro v3 w3 hown3 hg3; have HO3 := Lib.hid hown3; have HG3 := Lib.hid (below_none HG.out hg3 (fun k hk => (HO.out.lt k hk).1)); clear hown3 hg3)
              go_roundw
              case rel =>
                have hz : ((cur.extract 8 cur.size).extract m (cur.size - 8)).size = cur.size - 8 - m := by
                  rw [← HRST.out, ByteArray.size_extract, hrz]; omega
                refine ⟨_, acc ++ [(cur.extract 8 cur.size).extract 0 m], F', rfl, by rw [hz, List.length_append, List.length_singleton]; omega, HO3.out, HG3.out, by omega, ?_⟩
                rw [HNEW.out]
                congr 2
                rw [bytesOf_extract, ← HRST.out, HRB.out, List.take_of_length_le (by rw [List.length_drop, List.length_drop, hbl]; omega)]
              case measure =>
                have hz : ((cur.extract 8 cur.size).extract m (cur.size - 8)).size = cur.size - 8 - m := by
                  rw [← HRST.out, ByteArray.size_extract, hrz]; omega
                show ((cur.extract 8 cur.size).extract m (cur.size - 8)).size < cur.size
                omega
end Go.Proofs.YtjhmdijmnnobhaaDoor
