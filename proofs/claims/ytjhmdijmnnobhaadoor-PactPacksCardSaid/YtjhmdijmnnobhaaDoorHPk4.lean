/- Hand-written contracts of the Go functions that the statement reaches, and the plain laws over them. -/
import Derived.Test.YtjhmdijmnnobhaaDoorHPk3
import Derived.Test.YtjhmdijmnnobhaaDoorHLaw
set_option linter.unusedVariables false
set_option linter.unusedSimpArgs false
namespace Go.Proofs.YtjhmdijmnnobhaaDoor
open Go.RowKit
theorem bytesOf_inj {s t : ByteArray} (h : bytesOf s = bytesOf t) : s = t := by rw [← strOfNums_bytesOf s, h, strOfNums_bytesOf]
theorem map_bytesOf_inj : ∀ {us vs : List ByteArray}, us.map bytesOf = vs.map bytesOf → us = vs
  | [], [], _ => rfl
  | [], v :: vs, h => by simp at h
  | u :: us, [], h => by simp at h
  | u :: us, v :: vs, h => by
    simp only [List.map_cons, List.cons.injEq] at h
    rw [bytesOf_inj h.1, map_bytesOf_inj h.2]
theorem packF_len_le (ls : List ByteArray) (m : Nat) (h : ∀ j, j < ls.length → ((nthS ls j).size : Int) ≤ m) : (packF (ls.map bytesOf)).length ≤ ls.length * (m + 8) := by
  induction ls with
  | nil => simp [packF]
  | cons x xs ih =>
    have h0 := h 0 (by simp)
    have h1 := ih (fun j hj => by
      have := h (j + 1) (by simp; omega)
      simpa [nthS] using this)
    simp only [nthS, List.getD_cons_zero] at h0
    simp only [List.map_cons, packF, List.length_append, be8_len, bytesOf_length, List.length_cons, Nat.add_mul, Nat.one_mul]
    omega
theorem packF_len_ge (us : List (List Int)) : us.length ≤ (packF us).length := by
  induction us with
  | nil => simp
  | cons x xs ih => simp only [packF, List.length_append, be8_len, List.length_cons]; omega
theorem pw_drewN {B : Nat} {w W : World} (h : Below B w W) (n : Nat) : Below B w (W.drewN n) := ⟨h.os, h.tape, h.output, h.size, h.block⟩
/-- Two lists that read the same, held against each other. -/
theorem str_ne_self (x : ByteArray) : (!(x.toList == x.toList)) = false := by simp
set_option maxHeartbeats 8000000 in
set_option maxRecDepth 100000 in
theorem pactPacks_calls (w : World) (v : Value) (ls : List ByteArray) (s : ByteArray) (hl : RdS w v ls) (hm : ls.length ≤ 9223372036854775807) (hsz : ∀ j, j < ls.length → (nthS ls j).size ≤ 9223372036854775807)
    (hs : s.size ≤ 9223372036854775807) (hR : HoldsRounds w) (h0 : 0 < w.heap.size) : Calls Tryd.prog 4 #[v, .string s] w fun e w' => LawPost w e w' := by
  have HRW := Lib.hid hR
  have HL := Lib.hid hl
  have hfar := far_calls w v ls 300 hl hm hsz
  have HFAR := Lib.hid hfar
  obtain ⟨A, c, rfl, _⟩ := hl
  clear hR hfar hm
  go_enter Tryd.func4, Tryd.ntmps4
  go_wp2_with fail
  refine HFAR.out.mono ?_
  rintro e w1 ⟨b, rfl, rfl, hb⟩
  cases b with
  | true =>
    clear hb
    go_wp2_with fail
    go_ret
    exact ⟨rfl, Below.refl _ _⟩
  | false =>
    obtain ⟨hl20, hl300⟩ := hb rfl
    have HL300 := Lib.hid hl300
    clear hb hl300 hsz
    by_cases hbig : s.size > 1000
    · have t1 : decide ((s.size : Int) > 1000) = true := decide_eq_true (by omega)
      go_wp2_with fail
      go_ret
      exact ⟨rfl, Below.refl _ _⟩
    · have t1 : decide ((s.size : Int) > 1000) = false := decide_eq_false (by omega)
      have hplen := packF_len_le ls 300 HL300.out
      have hpl2 : (packF (ls.map bytesOf)).length ≤ 6160 := by
        have : ls.length * (300 + 8) ≤ 20 * (300 + 8) := Nat.mul_le_mul_right _ hl20
        omega
      obtain ⟨ps, hps⟩ : ∃ ps, ps = strOfNums (packF (ls.map bytesOf)) := ⟨_, rfl⟩
      have hpz : ps.size = (packF (ls.map bytesOf)).length := by rw [hps, strOfNums_size]
      have hpb : bytesOf ps = packF (ls.map bytesOf) := by
        rw [hps, bytesOf_strOfNums (packF_bytes fun x hx => ?_)]
        obtain ⟨y, _, rfl⟩ := List.mem_map.1 hx
        exact bytesOf_isBytes y
      have hunp : unp (ps.size + 1) (bytesOf ps) = some (ls.map bytesOf) := by
        rw [hpb]
        refine unp_pack _ _ (fun x hx => ?_) (by omega)
        obtain ⟨y, hy, rfl⟩ := List.mem_map.1 hx
        obtain ⟨j, hj, rfl⟩ := List.mem_iff_getElem.1 hy
        have := HL300.out j hj
        simp only [nthS, List.getD_eq_getElem?_getD, List.getElem?_eq_getElem hj, Option.getD_some] at this
        rw [bytesOf_length]
        omega
      have hpack : ∀ w v, RdS w v ls → Calls Tryd.prog 9 #[v] w fun e w' => e = .returned (.string ps) ∧ Below w.heap.size w w' := fun w v h => by
        rw [hps]; exact pack_calls w v ls h (by omega) (by omega)
      have hrpack : ∀ w v, RdS w v ls → Calls Tryd.prog 11 #[v] w fun e w' => e = .returned (.string ps) ∧ Below w.heap.size w w' := fun w v h => by
        rw [hps]; exact rpack_calls w v ls h (by omega) (by omega)
      have HPACK := Lib.hid hpack
      have HRPACK := Lib.hid hrpack
      have HUNP := Lib.hid hunp
      have hpz6 : ps.size ≤ 1000000000000 := by omega
      clear hpack hrpack hunp hpb hpz hps hplen hpl2
      go_wp2_with fail
      refine (HPACK.out _ _ HL.out).mono ?_
      rintro e w2 ⟨rfl, hb2⟩
      have HL2 := Lib.hid (HL.out.below hb2)
      have HB2 := Lib.hid hb2
      clear hb2
      go_wp2_with fail
      refine (unpack_calls _ ps hpz6).mono ?_
      rintro e w3 ⟨v3, ok3, us3, rfl, hr3, hb3, hcase⟩
      obtain ⟨rfl, hus⟩ : ok3 = true ∧ us3 = ls := by
        rcases hcase with ⟨h1, h2⟩ | ⟨_, _, h2⟩
        · rw [HUNP.out] at h2
          exact ⟨h1, (map_bytesOf_inj (Option.some.inj h2)).symm⟩
        · rw [HUNP.out] at h2
          cases h2
      subst hus
      obtain ⟨A3, c3, rfl, hc3⟩ := hr3
      have HC3 := Lib.hid hc3
      have HL3 := Lib.hid (HL2.out.below hb3)
      have HB3 := Lib.hid (HB2.out.trans (hb3.mono HB2.out.size))
      clear hb3 hc3 hcase HUNP
      go_wp2_with fail
      refine (HRPACK.out _ _ HL3.out).mono ?_
      rintro e w4 ⟨rfl, hb4⟩
      have HR4 := Lib.hid ((show RdS w3 (.slice A3 us3.length c3) us3 from ⟨A3, c3, rfl, HC3.out⟩).below hb4)
      have HL4 := Lib.hid (HL3.out.below hb4)
      have HB4 := Lib.hid (HB3.out.trans (hb4.mono HB3.out.size))
      clear hb4 HC3
      have n1 : (((us3.length : Int)) != (us3.length : Int)) = false := by simp
      go_wp2_with fail
      refine (awake_calls _ (fun j hj => (HB4.out.cell (p := ⟨0, j, none⟩) h0).trans (HRW.out j hj))).mono ?_
      rintro e w5 ⟨rfl, hb5⟩
      have HR5 := Lib.hid (HR4.out.below hb5)
      have HL5 := Lib.hid (HL4.out.below hb5)
      have HB5 := Lib.hid (HB4.out.trans (hb5.mono HB4.out.size))
      clear hb5 HR4 HL4 HB4
      go_wp2_with fail
      go_loopw [8] (fun vi wr => ∃ k : Nat, k ≤ us3.length ∧ vi = .int .i64 k ∧ Below w5.heap.size w5 wr) (fun vi _ => us3.length - (intOf vi).toNat)
      case atStart => exact ⟨0, by omega, rfl, Below.refl _ _⟩
      case round =>
        obtain ⟨k, hk, rfl, hbr⟩ := hrel
        by_cases hlt : k < us3.length
        · obtain ⟨A6, c6, e6, hc6⟩ := HR5.out.below hbr
          obtain ⟨A7, c7, e7, hc7⟩ := HL5.out.below hbr
          obtain ⟨g6, o6, rfl, hcell6⟩ := hc6 (by omega)
          obtain ⟨g7, o7, rfl, hcell7⟩ := hc7 (by omega)
          injection e6 with e61 e62 e63
          injection e7 with e71 e72 e73
          subst e61
          subst e71
          have hx6 := hcell6 k hlt
          have hx7 := hcell7 k hlt
          clear hcell6 hcell7 hc6 hc7 e62 e63 e72 e73
          obtain ⟨x, hx⟩ : ∃ x, x = nthS us3 k := ⟨_, rfl⟩
          rw [← hx] at hx6 hx7
          have HBR := Lib.hid hbr
          clear hx hbr
          have n2 : (k : Int) < (us3.length : Int) := by omega
          have n3 : (k : Int).toNat = k := by omega
          have n4 : (0 : Int) ≤ (k : Int) := by omega
          have hself := str_ne_self x
          go_wp2_with fail
          go_quiet (fail)
          go_wp2_with fail
          go_roundw
          case rel => exact ⟨k + 1, by omega, by go_num, pw_drewN HBR.out _⟩
          case measure => simp [intOf]; omega
        · obtain rfl : k = us3.length := by omega
          have HB6 := Lib.hid (HB5.out.trans (hbr.mono HB5.out.size))
          have HL6 := Lib.hid (HL5.out.below hbr)
          clear hbr hk hlt HR5 HL5 HB5
          go_wp2_with fail
          refine (unpack_calls _ s (by omega)).mono ?_
          rintro e w7 ⟨v7, ok7, us7, rfl, hr7, hb7, hcase7⟩
          have HL7 := Lib.hid (HL6.out.below hb7)
          have HB7 := Lib.hid (HB6.out.trans (hb7.mono HB6.out.size))
          have HC7 := Lib.hid hcase7
          have HR7 := Lib.hid hr7
          clear hb7 hcase7 hr7 HB6 HL6
          go_wp2_with fail
          refine (runpack_calls _ s (by omega)).mono ?_
          rintro e w8 ⟨v8, ok8, us8, rfl, hr8, hb8, hcase8⟩
          obtain ⟨rfl, rfl⟩ : ok8 = ok7 ∧ us8 = us7 := by
            rcases HC7.out with ⟨h1, h2⟩ | ⟨h1, h2, h3⟩ <;> rcases hcase8 with ⟨h4, h5⟩ | ⟨h4, h5, h6⟩
            · rw [h2] at h5
              exact ⟨h4.trans h1.symm, (map_bytesOf_inj (Option.some.inj h5)).symm⟩
            · rw [h2] at h6
              cases h6
            · rw [h3] at h5
              cases h5
            · exact ⟨h4.trans h1.symm, h5.trans h2.symm⟩
          have HRA := Lib.hid (HR7.out.below hb8)
          have HRB := Lib.hid hr8
          have HL8 := Lib.hid (HL7.out.below hb8)
          have HB8 := Lib.hid (HB7.out.trans (hb8.mono HB7.out.size))
          clear hb8 hcase8 hr8 HB7 HL7 HR7
          obtain ⟨A8, c8, rfl, hc8⟩ := HRB.out
          obtain ⟨A9, c9, rfl, hc9⟩ := HRA.out
          have m1 : (ok8 != ok8) = false := by simp
          have m2 : (((us8.length : Int)) != (us8.length : Int)) = false := by simp
          go_wp2_with fail
          clear hc8 hc9
          have hpk : ok8 = true → packF (us8.map bytesOf) = bytesOf s := fun h => by
            rcases HC7.out with ⟨_, h2⟩ | ⟨h1, _⟩
            · exact (pack_unp _ _ _ (bytesOf_isBytes s) h2).1
            · rw [h] at h1
              cases h1
          have hul : us8.length ≤ 1000 := by
            cases hok : ok8 with
            | true =>
              have h1 := packF_len_ge (us8.map bytesOf)
              rw [hpk hok, bytesOf_length, List.length_map] at h1
              omega
            | false =>
              rcases HC7.out with ⟨h1, _⟩ | ⟨_, h1, _⟩
              · rw [hok] at h1
                cases h1
              · rw [h1]
                simp
          have HPK := Lib.hid hpk
          clear hpk
          go_loopw [13] (fun vi wr => ∃ k : Nat, k ≤ us8.length ∧ vi = .int .i64 k ∧ Below w8.heap.size w8 wr) (fun vi _ => us8.length - (intOf vi).toNat)
          case atStart => exact ⟨0, by omega, rfl, Below.refl _ _⟩
          case round =>
            obtain ⟨k, hk, rfl, hbr⟩ := hrel
            by_cases hlt : k < us8.length
            · obtain ⟨A6, c6, e6, hc6⟩ := HRA.out.below hbr
              obtain ⟨A7, c7, e7, hc7⟩ := HRB.out.below hbr
              obtain ⟨g6, o6, rfl, hcell6⟩ := hc6 (by omega)
              obtain ⟨g7, o7, rfl, hcell7⟩ := hc7 (by omega)
              injection e6 with e61 e62 e63
              injection e7 with e71 e72 e73
              subst e61
              subst e71
              have hx6 := hcell6 k hlt
              have hx7 := hcell7 k hlt
              clear hcell6 hcell7 hc6 hc7 e62 e63 e72 e73
              obtain ⟨x, hx⟩ : ∃ x, x = nthS us8 k := ⟨_, rfl⟩
              rw [← hx] at hx6 hx7
              have HBR := Lib.hid hbr
              clear hx hbr
              have n2 : (k : Int) < (us8.length : Int) := by omega
              have n3 : (k : Int).toNat = k := by omega
              have n4 : (0 : Int) ≤ (k : Int) := by omega
              have hself := str_ne_self x
              go_wp2_with fail
              go_quiet (fail)
              go_wp2_with fail
              go_roundw
              case rel => exact ⟨k + 1, by omega, by go_num, pw_drewN HBR.out _⟩
              case measure => simp [intOf]; omega
            · obtain rfl : k = us8.length := by omega
              have HB9 := Lib.hid (HB8.out.trans (hbr.mono HB8.out.size))
              have HRU := Lib.hid (HRA.out.below hbr)
              clear hbr hk hlt HRA HRB HL8 HB8
              cases ok8 with
              | false =>
                go_wp2_with fail
                go_ret
                exact ⟨rfl, HB9.out⟩
              | true =>
                have hps := HPK.out rfl
                go_wp2_with fail
                refine (pack_calls _ _ us8 HRU.out (by rw [hps, bytesOf_length]; omega) (by omega)).mono ?_
                rintro e w10 ⟨rfl, hb10⟩
                have HB10 := Lib.hid (HB9.out.trans (hb10.mono HB9.out.size))
                rw [hps, strOfNums_bytesOf]
                have hself : (s.toList == s.toList) = true := by simp
                go_wp2_with fail
                go_ret
                exact ⟨rfl, HB10.out⟩
end Go.Proofs.YtjhmdijmnnobhaaDoor
