/- Hand-written contracts of the Go functions that the statement reaches, and the plain laws over them. -/
import Derived.Test.YtjhmdijmnnobhaaDoorHPk2
set_option linter.unusedVariables false
set_option linter.unusedSimpArgs false
namespace Go.Proofs.YtjhmdijmnnobhaaDoor
open Go.RowKit
set_option maxHeartbeats 8000000 in
set_option maxRecDepth 100000 in
theorem runpack_calls (w : World) (s : ByteArray) (hs : s.size ≤ 1000000000000) :
    Calls Tryd.prog 12 #[.string s] w fun e w' => UnpPost w s e w' := by
  go_enter Tryd.func12, Tryd.ntmps12
  go_wp2
  go_loopw [0, 4] (fun vs vo wr => ∃ (cur : ByteArray) (acc : List ByteArray) (F : Nat), vs = .string cur ∧ cur.size + acc.length ≤ s.size ∧ OwnS w.heap.size wr vo acc ∧ w.grownBy wr none ∧ cur.size < F ∧
    unp (s.size + 1) (bytesOf s) = (unp F (bytesOf cur)).map (acc.map bytesOf ++ ·)) (fun vs _ _ => sizeV vs)
  case atStart => exact ⟨s, [], s.size + 1, rfl, by simp, ⟨rfl, .inl ⟨rfl, rfl⟩⟩, gb_refl _ _, by omega, by simp⟩
  case round =>
    obtain ⟨cur, acc, F, rfl, hsz, hown, hg, hF, hu⟩ := hrel
    have hbl := bytesOf_length cur
    have HU := Lib.hid hu
    clear hu
    by_cases h0 : cur.size = 0
    · have hfin : unp (s.size + 1) (bytesOf s) = some (acc.map bytesOf) := by
        rw [HU.out]
        obtain ⟨k, rfl⟩ : ∃ k, F = k + 1 := ⟨F - 1, by omega⟩
        rw [unp, if_pos (by omega)]
        simp
      have t0 : decide (0 < cur.size) = false := decide_eq_false (by omega)
      have t0' : decide ((0 : Int) < (cur.size : Int)) = false := decide_eq_false (by omega)
      have HF := Lib.hid hfin
      have HR := Lib.hid hown.rd
      have HG := Lib.hid hg
      obtain ⟨A, c, rfl⟩ := hown.slice
      clear hfin hbl hown hg h0 HU
      go_wp2
      go_ret2
      exact ⟨_, true, acc, rfl, HR.out, gb_to_below HG.out, .inl ⟨rfl, HF.out⟩⟩
    · have t0 : decide (0 < cur.size) = true := decide_eq_true (by omega)
      have t0' : decide ((0 : Int) < (cur.size : Int)) = true := decide_eq_true (by omega)
      by_cases h8 : cur.size < 8
      · have hfin : unp (s.size + 1) (bytesOf s) = none := by
          rw [HU.out]
          obtain ⟨k, rfl⟩ : ∃ k, F = k + 1 := ⟨F - 1, by omega⟩
          rw [unp, if_neg (by omega), if_pos (by omega)]
          rfl
        have t1 : decide ((cur.size : Int) < 8) = true := decide_eq_true (by omega)
        have HF := Lib.hid hfin
        have HG := Lib.hid hg
        clear hfin hbl hown hg h0 HU
        go_wp2
        go_ret2
        exact ⟨_, false, [], rfl, RdS.nil _, gb_to_below HG.out, .inr ⟨rfl, rfl, HF.out⟩⟩
      · have t1 : decide ((cur.size : Int) < 8) = false := decide_eq_false (by omega)
        have hby := bytesOf_isBytes cur
        have HO := Lib.hid hown
        have HG := Lib.hid hg
        clear hown hg
        go_wp2
        go_loop [5, 6] (fun vn vi => ∃ i : Nat, i ≤ 8 ∧ vi = .int .i64 i ∧ vn = .int .i64 (beV ((bytesOf cur).take i)) ∧ beV ((bytesOf cur).take i) ≤ (cur.size : Int) * 256 + 255) (fun _ vi => 8 - (intOf vi).toNat)
        case atStart => exact ⟨0, by omega, rfl, rfl, by show (0 : Int) ≤ _; omega⟩
        case round =>
          obtain ⟨i, hi, rfl, rfl, hnb⟩ := hrel
          have hbt := isBytes_take hby i
          have hn0 := beV_nonneg hbt
          by_cases hlt : i < 8
          · by_cases hbig : (cur.size : Int) < beV ((bytesOf cur).take i)
            · have hfin : unp (s.size + 1) (bytesOf s) = none := by
                rw [HU.out]
                obtain ⟨k, rfl⟩ : ∃ k, F = k + 1 := ⟨F - 1, by omega⟩
                have h2 : beV ((bytesOf cur).take i) ≤ beV ((bytesOf cur).take 8) := by
                  have := beV_le ((bytesOf cur).take i) (((bytesOf cur).drop i).take (8 - i)) hbt (isBytes_take (isBytes_drop hby i) _)
                  rw [← List.take_add, show i + (8 - i) = 8 by omega] at this
                  exact this
                rw [unp, if_neg (by omega), if_neg (by omega), if_pos (by omega)]
                rfl
              have HF := Lib.hid hfin
              have i2 : (i : Int) < 8 := by omega
              have t2 : decide (beV ((bytesOf cur).take i) > (cur.size : Int)) = true := decide_eq_true hbig
              clear hfin
              go_wp2
              go_ret2
              exact ⟨_, false, [], rfl, RdS.nil _, gb_to_below HG.out, .inr ⟨rfl, rfl, HF.out⟩⟩
            · have hsn := take_snoc_nth (bytesOf cur) i (by omega)
              rw [nth_bytes cur i (by omega)] at hsn
              have HSN : Hid (beV ((bytesOf cur).take (i + 1)) = beV ((bytesOf cur).take i) * 256 + ((cur[i]'(by omega)).toNat : Int)) := by
                unfold Hid
                rw [hsn, beV_snoc]
              have hb9 := (cur[i]'(by omega)).toNat_lt
              have hor := or_byte_i (beV ((bytesOf cur).take i)) ((cur[i]'(by omega)).toNat : Int) hn0 (by omega) (by omega) (by omega)
              obtain ⟨n, hn⟩ : ∃ n, n = beV ((bytesOf cur).take i) := ⟨_, rfl⟩
              rw [← hn] at hn0 hnb hbig hor HSN ⊢
              have HB9 := Lib.hid hb9
              have HOR := Lib.hid hor
              have HNB := Lib.hid hnb
              have nb : n ≤ 1000000000000 := by omega
              have t2 : decide (n > (cur.size : Int)) = false := decide_eq_false hbig
              clear hn hsn hbt hby hb9 hor hnb
              have i1 : i < cur.size := by omega
              have i2 : (i : Int) < 8 := by omega
              have i3 : (i : Int) < (cur.size : Int) := by omega
              have i4 : (i : Int).toNat = i := by omega
              go_wp2
              go_round
              case rel =>
                refine ⟨i + 1, by omega, by go_num, ?_, ?_⟩
                · rw [HSN.out]
                  first
                    | rw [HOR.out]
                    | rw [IntWalk.i64_in _ (by have := HB9.out; omega), HOR.out]
                    | (rw [show wrap64 ((cur[i]'i1).toNat : Int) = ((cur[i]'i1).toNat : Int) from IntWalk.wrap64_in _ (by have := HB9.out; omega)]; rw [HOR.out])
                · rw [HSN.out]
                  have := HB9.out
                  omega
              case measure => simp [intOf]; omega
          · obtain rfl : i = 8 := by omega
            rw [show ((8 : Nat) : Int) = (8 : Int) from rfl]
            obtain ⟨n, hn⟩ : ∃ n : Int, n = beV ((bytesOf cur).take 8) := ⟨_, rfl⟩
            rw [← hn] at hn0 hnb ⊢
            have hn2 : n < 1000000000000000 := by omega
            obtain ⟨rst, hrst⟩ : ∃ rst, rst = cur.extract 8 cur.size := ⟨_, rfl⟩
            have hrb : bytesOf rst = (bytesOf cur).drop 8 := by
              rw [hrst, bytesOf_extract, List.take_of_length_le]
              rw [List.length_drop, hbl]
              omega
            have hrz : rst.size = cur.size - 8 := by rw [← bytesOf_length, hrb, List.length_drop, hbl]
            have HRB := Lib.hid hrb
            have HRST := Lib.hid hrst
            have HN := Lib.hid hn
            clear hrb hrst hn hbt hi hlt hnb
            have a0 : (0 : Int) ≤ 8 := by decide
            have a1 : (8 : Int) ≤ (cur.size : Int) := by omega
            have a2 : 8 ≤ cur.size := by omega
            by_cases hbig : (cur.size : Int) - 8 < n
            · have hfin : unp (s.size + 1) (bytesOf s) = none := by
                rw [HU.out]
                obtain ⟨k, rfl⟩ : ∃ k, F = k + 1 := ⟨F - 1, by omega⟩
                rw [unp, if_neg (by omega), if_neg (by omega), ← HN.out, if_pos (by omega)]
                rfl
              have HF := Lib.hid hfin
              have t2 : decide (n > (cur.size : Int) - 8) = true := decide_eq_true hbig
              clear hfin
              go_wp2_with fail
              go_ret2
              exact ⟨_, false, [], rfl, RdS.nil _, gb_to_below HG.out, .inr ⟨rfl, rfl, HF.out⟩⟩
            · have t2 : decide (n > (cur.size : Int) - 8) = false := decide_eq_false hbig
              obtain ⟨m, rfl⟩ := Int.eq_ofNat_of_zero_le hn0
              have m1 : m ≤ cur.size - 8 := by omega
              have m2 : (m : Int).toNat = m := by omega
              have m3 : (8 + (m : Int)).toNat = 8 + m := by omega
              have m4 : (8 : Int) ≤ 8 + (m : Int) := by omega
              have m5 : 8 + (m : Int) ≤ (cur.size : Int) := by omega
              have m6 : 8 + m ≤ cur.size := by omega
              obtain ⟨A0, c0, rfl⟩ := HO.out.slice
              have hstep : ∃ F', F = F' + 1 ∧ unp F (bytesOf cur) = (unp F' (((bytesOf cur).drop 8).drop m)).map (((bytesOf cur).drop 8).take m :: ·) := by
                obtain ⟨k, rfl⟩ : ∃ k, F = k + 1 := ⟨F - 1, by omega⟩
                exact ⟨k, rfl, unp_step k _ (by omega) m HN.out.symm (by omega)⟩
              obtain ⟨F', rfl, hstep⟩ := hstep
              have hb1 : bytesOf (cur.extract 8 (8 + m)) = ((bytesOf cur).drop 8).take m := by
                rw [bytesOf_extract, Nat.add_sub_cancel_left]
              have hnew : unp (s.size + 1) (bytesOf s) = (unp F' (((bytesOf cur).drop 8).drop m)).map ((acc ++ [cur.extract 8 (8 + m)]).map bytesOf ++ ·) := by
                rw [HU.out, hstep, Option.map_map]
                congr 1
                funext r
                simp only [Function.comp, List.map_append, List.map_cons, List.map_nil, hb1, List.append_assoc, List.singleton_append]
              have HNEW := Lib.hid hnew
              clear hstep hb1 hnew
              go_wp2_with (at_builtin; refine wpl_appendS rfl (.tmp 33) (.tmp 38) rfl (base := w.heap.size) (.slice A0 acc.length c0) acc rfl (cur.extract 8 (8 + m)) HO.out rfl (by omega) HG.out.size ?_; intro v3 w3 hown3 hg3; have HO3 := Lib.hid hown3; have HG3 := Lib.hid (below_none HG.out hg3 (fun k hk => (HO.out.lt k hk).1)); clear hown3 hg3)
              go_roundw
              case rel =>
                have hz : (cur.extract (8 + m) cur.size).size = cur.size - 8 - m := by
                  rw [ByteArray.size_extract]; omega
                refine ⟨_, acc ++ [cur.extract 8 (8 + m)], F', rfl, by rw [hz, List.length_append, List.length_singleton]; omega, HO3.out, HG3.out, by omega, ?_⟩
                rw [HNEW.out]
                congr 2
                rw [bytesOf_extract, List.take_of_length_le (by rw [List.length_drop, hbl]; omega), List.drop_drop]
              case measure =>
                have hz : (cur.extract (8 + m) cur.size).size = cur.size - 8 - m := by
                  rw [ByteArray.size_extract]; omega
                show (cur.extract (8 + m) cur.size).size < cur.size
                omega
end Go.Proofs.YtjhmdijmnnobhaaDoor
