/- Hand-written contracts of the Go functions that the statement reaches, and the plain laws over them. -/
import Derived.Test.YtjhmdijmnnobhaaDoorHCon
set_option linter.unusedVariables false
set_option linter.unusedSimpArgs false
namespace Go.Proofs.YtjhmdijmnnobhaaDoor
open Go.RowKit
theorem agg8 (l : List Int) (h : l.length = 8) : (nums .u32 l).toArray = #[.int .u32 (nth l 0), .int .u32 (nth l 1), .int .u32 (nth l 2), .int .u32 (nth l 3), .int .u32 (nth l 4), .int .u32 (nth l 5), .int .u32 (nth l 6), .int .u32 (nth l 7)] := by
  match l, h with
  | [a, b, c, d, e, f, g, i], _ => rfl
theorem bytesOf_extract (s : ByteArray) (i j : Nat) : bytesOf (s.extract i j) = ((bytesOf s).drop i).take (j - i) := by
  unfold bytesOf
  rw [← List.map_drop, ← List.map_take, ByteArray.data_extract, Array.toList_extract, List.extract_eq_take_drop]
theorem still_load_row {P : Program} {ops : Array Oper} {w : World} {Q : Act → Prop} {o : Oper} {rest : List Oper} {a : Act} (hgd : o.guard = none) (ty : TypeId) (x : Operand) (ho : o.op = .load ty x)
    (g : Nat) (hx : a.eval x = .pointer (some ⟨g, 0, none⟩)) (t : TypeId) (cs : Array Value) (fr : Nat × Nat) (d : TypeDesc) (hg : w.heap[g]? = some (.cells cs t fr))
    (hu : P.underlying ty = some d) (hd : (match d with | .struct _ | .array _ _ => true | _ => false) = true) (hi : (P.info? ty).map (·.size) = some cs.size)
    (h : wpStill P ops w Q rest (a.put o.dst (.agg cs))) : wpStill P ops w Q (o :: rest) a := by
  unfold wpStill
  rw [if_pos (by simp [Region.wanted, hgd])]
  unfold Oper.still execOp
  simp only [ho, hx, Instr.loadAt, Instr.sureAddr, Sem.run_bind, Sem.run_pure, Result.andThen_ok, run_loadVar_row w g t ty cs fr d hg hu hd hi]
  exact ⟨rfl, h⟩
theorem mask32 (x : Int) (h0 : 0 ≤ x) (h1 : x < 4294967296) : bits .and .u32 x 255 = x % 256 :=
  bits_mask .u32 32 (by decide) (fun n h0 h1 => IntWalk.u32_in n (by omega)) 8 (by decide) x h0 (by omega)
def RDigPost (w : World) (s : ByteArray) (e : Ending) (w' : World) : Prop := e = .returned (.string (strOfNums (digestF (bytesOf s)))) ∧ Below w.heap.size w w'
theorem own_made (w : World) (c : Nat) (hc : c ≤ 1000) : OwnC .u8 w.heap.size (w.alloc (.cells (Array.replicate c (.int .u8 0)) 5)) (.slice (some ⟨w.heap.size, 0, none⟩) 0 c) [] := by
  refine .inr ⟨w.heap.size, c, rfl, Nat.le_refl _, by simp, by simp, by simp only [maxLen]; omega, fun j hj => by simp at hj, fun j hj => ⟨?_, ?_⟩⟩
  · rw [World.cell?_alloc_mark]; simp [hj]
  · simp only [World.frozen?]; rw [heap_alloc_new]; simp
set_option maxHeartbeats 8000000 in
set_option maxRecDepth 100000 in
theorem rdigest_calls (s : ByteArray) (w : World) (hs : s.size ≤ 1000000000000) :
    Calls Tryd.prog 6 #[.string s] w fun e w' => RDigPost w s e w' := by
  have hmk : ∀ w : World, Sem.run Tryd.prog (Instr.makeSlice 33 (.int .i64 0) (.int .i64 72)) w = .ok (.slice (some ⟨w.heap.size, 0, none⟩) 0 72) (w.alloc (.cells (Array.replicate 72 (.int .u8 0)) 5)) := fun _ => by kernel_rfl
  have hown0 := own_made w 72 (by decide)
  have hg0 := gb_alloc (gb_refl w none) (.cells (Array.replicate 72 (.int .u8 0)) 5)
  go_enter Tryd.func6, Tryd.ntmps6
  go_wp2_with (at_builtin; refine wpl_append (P := Tryd.prog) rfl (.tmp 11) (.tmp 12) 33 33 rfl 5 1 Tryd.underlying33 info5 (base := w.heap.size) (.slice (some ⟨w.heap.size, 0, none⟩) 0 72) [] rfl (hown0.alloc _) _ rfl [128] (src_nums Tryd.underlying33 _ 1 [128] _ (fun j hj => by
      have h := one_cell (w.alloc (.cells (Array.replicate 72 (.int .u8 0)) 5)) .u8 128 5 j hj
      have e : (w.alloc (.cells (Array.replicate 72 (.int .u8 0)) 5)).heap.size = w.heap.size + 1 := by simp
      rw [e] at h
      exact h)) (by simp) (by simp) (by simp; omega) ?_; intro v1 w1 hown1 hg1 hk1)
  have hg1' : w.grownBy w1 none := below_none (gb_alloc hg0 _) hg1 (fun k hk => (hown0.lt k hk).1)
  clear hown0 hg0 hmk hg1 hk1
  go_loopw [3] (fun v wr => ∃ j, j ≤ zpad s.size ∧ OwnC .u8 w.heap.size wr v ([128] ++ List.replicate j 0) ∧ w.grownBy wr none) (fun v _ => 66 - lenV v)
  case atStart => exact ⟨0, by omega, hown1, hg1'⟩
  case round =>
    clear hown1 hg1'
    obtain ⟨j, hj, hown, hg⟩ := hrel
    have hln : (([128] : List Int) ++ List.replicate j 0).length = j + 1 := by simp
    have HLN := Lib.hid hln
    obtain ⟨A, c, rfl⟩ := hown.slice
    rw [hln] at hown ⊢
    clear hln
    have hz := zpad_lt s.size
    by_cases hlt : j < zpad s.size
    · have hne := zpad_mid s.size j hlt
      have t1 : (((s.size : Int) + ((j + 1 : Nat) : Int)) % 64 != 56) = true := by rw [bne_iff_ne]; omega
      have t2 : (((s.size : Int) + ((j : Int) + 1)) % 64 != 56) = true := by rw [bne_iff_ne]; omega
      have HT := Lib.hid hne
      clear hne
      go_wp2_with (at_builtin; refine wpl_append (P := Tryd.prog) rfl (.tmp 21) (.tmp 22) 33 33 rfl 5 1 Tryd.underlying33 info5 (base := w.heap.size) (.slice A (j + 1) c) ([128] ++ List.replicate j 0) rfl (hown.alloc _) _ rfl [0] (src_nums Tryd.underlying33 _ 1 [0] _ (one_cell _ .u8 0 5)) (by rw [HLN.out]; simp; omega) (by rw [HLN.out]; simp; omega) (by have := hg.size; simp; omega) ?_; intro v2 w2 hown2 hg2 hk2)
      have hg2' : w.grownBy w2 none := below_none (gb_alloc hg _) hg2 (fun k hk => (hown.lt k hk).1)
      have hl2 : lenV v2 = j + 1 + 1 := by
        obtain ⟨A', c', rfl⟩ := hown2.slice
        rw [List.length_append, HLN.out]
        rfl
      rw [List.append_assoc, repl_snoc] at hown2
      clear hown hg hg2 hk2
      go_roundw
      case rel => exact ⟨j + 1, by omega, hown2, hg2'⟩
      case measure => rw [hl2]; simp [lenV]; omega
    · obtain rfl : j = zpad s.size := by omega
      have hne := zpad_end s.size
      have t1 : (((s.size : Int) + ((zpad s.size + 1 : Nat) : Int)) % 64 != 56) = false := by rw [bne_eq_false_iff_eq]; omega
      have t2 : (((s.size : Int) + ((zpad s.size : Int) + 1)) % 64 != 56) = false := by rw [bne_eq_false_iff_eq]; omega
      have HT := Lib.hid hne
      clear hne
      have hbl := bytesOf_length s
      obtain ⟨ps, hps⟩ : ∃ ps, ps = strOfNums ([128] ++ List.replicate (zpad s.size) 0) := ⟨_, rfl⟩
      have hpz : ps.size = zpad s.size + 1 := by rw [hps, strOfNums_size, HLN.out]
      obtain ⟨ls, hls⟩ : ∃ ls, ls = strOfNums (be8 (8 * (s.size : Int))) := ⟨_, rfl⟩
      have hlz : ls.size = 8 := by rw [hls, strOfNums_size]; exact fill8_len _ _
      have hd : bytesOf (s ++ ps ++ ls) = padded (bytesOf s) := by
        rw [bytesOf_append, bytesOf_append, hps, hls, bytesOf_strOfNums (isBytes_append (by intro x hx; simp at hx; omega) (by intro x hx; have := List.eq_of_mem_replicate hx; omega)), bytesOf_strOfNums (show IsBytes (be8 (8 * (s.size : Int))) from fill8_bytes _ 8)]
        unfold padded
        rw [hbl, show (8 * (s.size : Int)) = ((s.size * 8 : Nat) : Int) by omega]
        simp
      have HD := Lib.hid hd
      have HS1 : Hid (∀ w', OwnC .u8 w.heap.size w' (.slice A (zpad s.size + 1) c) ([128] ++ List.replicate (zpad s.size) 0) → Sem.run Tryd.prog (convert 33 9 (.slice A (zpad s.size + 1) c)) w' = .ok (.string ps) w') := fun w' h => by
        have hcv := str_of_own (P := Tryd.prog) w' 33 5 9 Tryd.underlying33 Tryd.underlying5 Tryd.underlying9 h
        rw [← hps] at hcv
        exact hcv
      have HO := Lib.hid hown
      have HG := Lib.hid hg
      have HPS := Lib.hid hps
      have HLS := Lib.hid hls
      have q1 : ¬ (s.size + ps.size > 9223372036854775807) := by omega
      have q2 : ¬ (s.size + ps.size + ls.size > 9223372036854775807) := by omega
      have hlong : ∀ w, Calls Tryd.prog 15 #[.int .i64 (8 * (s.size : Int))] w fun e w' => e = .returned (.string ls) ∧ Below w.heap.size w w' := fun w => by
        rw [hls]
        exact long_calls _ w (by omega) (by omega)
      have HLONG := Lib.hid hlong
      clear hlong
      have w8 : IntKind.i64.wrap (8 * (s.size : Int)) = 8 * (s.size : Int) := IntWalk.i64_in _ (by omega)
      clear hd hps hls hown hg hpz hlz hbl
      go_wp2_with fail
      have hcv := HS1.out _ HO.out.drew
      go_region_held3 (fun w' => Sem.run Tryd.prog (convert 33 9 (.slice A (zpad s.size + 1) c)) w' = .ok (.string ps) w') (first | exact hcv | exact hcv2)
        (first | (go_at_call 15; refine (HLONG.out _).mono ?_; rintro e w2 ⟨rfl, hb2⟩; have hcv2 := HS1.out w2 (HO.out.drew.grown (grown_of_below hb2 none) (by simp))))
      have hg2 : w.grownBy w2 none := gb_trans (gb_drew HG.out) (grown_of_below hb2 none)
      have HG2 := Lib.hid hg2
      clear hcv2 hcv hb2 hg2 HO HS1 HG q1 q2 w8 t1 t2 HT hlt hj HLN HLONG
      obtain ⟨al, hal⟩ : ∃ al, al = s ++ ps ++ ls := ⟨_, rfl⟩
      have hd := HD.out
      rw [← hal] at hd ⊢
      have h64 := padded_64 (bytesOf s)
      obtain ⟨d, hde⟩ : ∃ d, d = padded (bytesOf s) := ⟨_, rfl⟩
      obtain ⟨m, hm⟩ : ∃ m, m = (padded (bytesOf s)).length / 64 := ⟨_, rfl⟩
      have HDF : Hid (digestF (bytesOf s) = outs (blk d m) 8) := by rw [hde, hm]; rfl
      have hml : m ≤ 17000000000 := by
        have := padded_len (bytesOf s)
        rw [bytesOf_length] at this
        have := zpad_lt s.size
        omega
      rw [← hm] at h64
      rw [← hde] at h64 hd
      have haz : al.size = 64 * m := by rw [← bytesOf_length, hd]; exact h64
      have HAL := Lib.hid hd
      have HAZ := Lib.hid haz
      have H64 := Lib.hid h64
      clear hal hd hde hm h64 haz HD HPS HLS
      have hinit : ∀ W : World, Arr .u32 (W.alloc (.cells #[.int .u32 1779033703, .int .u32 3144134277, .int .u32 1013904242, .int .u32 2773480762, .int .u32 1359893119, .int .u32 2600822924, .int .u32 528734635, .int .u32 1541459225] 32)) W.heap.size 32 init8 := fun W => by
        show (World.alloc _ _).heap[W.heap.size]? = _
        rw [heap_alloc_new]
        rfl
      have HINIT := Lib.hid hinit
      clear hinit
      obtain ⟨ka, hka⟩ : ∃ ka, ka = (nums .u32 consts).toArray := ⟨_, rfl⟩
      have hcon : ∀ w, Calls Tryd.prog 16 #[] w fun e w' => e = .returned (.agg ka) ∧ Below w.heap.size w w' := fun w => by rw [hka]; exact constants_calls w
      have HKA := Lib.hid hka
      have HCON := Lib.hid hcon
      clear hka hcon
      go_wp2_with fail
      have hA3 := (HINIT.out w2)
      have hg3 := gb_alloc HG2.out (.cells #[.int .u32 1779033703, .int .u32 3144134277, .int .u32 1013904242, .int .u32 2773480762, .int .u32 1359893119, .int .u32 2600822924, .int .u32 528734635, .int .u32 1541459225] 32)
      have hz3 : (w2.alloc (.cells #[.int .u32 1779033703, .int .u32 3144134277, .int .u32 1013904242, .int .u32 2773480762, .int .u32 1359893119, .int .u32 2600822924, .int .u32 528734635, .int .u32 1541459225] 32)).heap.size = w2.heap.size + 1 := by simp
      generalize w2.alloc (.cells #[.int .u32 1779033703, .int .u32 3144134277, .int .u32 1013904242, .int .u32 2773480762, .int .u32 1359893119, .int .u32 2600822924, .int .u32 528734635, .int .u32 1541459225] 32) = W3 at *
      refine (HCON.out _).mono ?_
      rintro e w4 ⟨rfl, hb4⟩
      have hA4 := hA3.below hb4 (by omega)
      have hg4 := gb_below hg3 hb4
      have hz4 : w2.heap.size + 1 ≤ w4.heap.size := by have := hb4.size; omega
      clear hA3 hg3 hb4 hz3
      have hki : (Tryd.prog.info? 39).map (·.size) = some ka.size := by rw [HKA.out]; exact info39
      have hks : (nums .u32 (List.replicate 64 0)).toArray.size = ka.size := by rw [HKA.out]; simp [nums, consts]
      have hk1 : ka.all (·.oneCell') = true := by rw [HKA.out]; exact one_nums _ _
      have HKI := Lib.hid hki
      have HKS := Lib.hid hks
      have HK1 := Lib.hid hk1
      clear hki hks hk1
      go_wp2_with (((with_reducible refine gate_op (.store 39 (.tmp 6) (.tmp 34)) rfl ?_); refine wpList_store_row rfl 39 (.tmp 6) (.tmp 34) rfl w4.heap.size ka rfl rfl 39 (nums .u32 (List.replicate 64 0)).toArray (heap_alloc_new _ _) HKI.out HKS.out HK1.out ?_; generalize hW5 : (World.setRow (w4.alloc _) w4.heap.size ka) = W5))
      have hA5 : Arr .u32 W5 w2.heap.size 32 init8 := by
        rw [← hW5]
        exact (setRow_other _ _ _ _ (by have := hA4.lt; omega)).trans (hA4.alloc _)
      have hK5 : Arr .u32 W5 w4.heap.size 39 consts := by
        rw [← hW5]
        have h := setRow_heap _ w4.heap.size _ ka 39 (0, 0) (heap_alloc_new w4 (.cells (nums .u32 (List.replicate 64 0)).toArray 39))
        rw [HKA.out] at h ⊢
        exact h
      have hg5 : w.grownBy W5 none := by
        rw [← hW5]
        have h := gb_alloc hg4 (.cells (nums .u32 (List.replicate 64 0)).toArray 39)
        exact ⟨h.os, h.tape, h.output, by have := h.size; simp at this ⊢; omega, fun k hk hr => (setRow_other _ _ _ _ (by have := hg4.size; omega)).trans (h.block k hk hr)⟩
      have hne5 : w2.heap.size < w4.heap.size := by omega
      have hww : w.heap.size ≤ w2.heap.size := HG2.out.size
      clear hW5 hA4 hg4 hz4 HG2 HKI HKS HK1 HCON HINIT
      obtain ⟨HH, hHH⟩ : ∃ HH, HH = w2.heap.size := ⟨_, rfl⟩
      obtain ⟨KK, hKK⟩ : ∃ KK, KK = w4.heap.size := ⟨_, rfl⟩
      rw [← hHH] at hA5 hne5 hww ⊢
      rw [← hKK] at hK5 hne5 ⊢
      clear hHH hKK
      go_loopw [7] (fun vi wr => ∃ k : Nat, k ≤ m ∧ vi = .int .i64 (64 * k : Nat) ∧ Arr .u32 wr HH 32 (blk d k) ∧ Arr .u32 wr KK 39 consts ∧ w.grownBy wr none) (fun vi _ => 64 * m + 64 - (intOf vi).toNat)
      case atStart => exact ⟨0, by omega, rfl, hA5, hK5, hg5⟩
      case round =>
        clear hA5 hK5 hg5
        obtain ⟨k, hk, rfl, hA, hK, hg⟩ := hrel
        by_cases hlt : k < m
        · have hln8 := blk_len d k
          have hsm8 := blk_small d k
          have hln8' := blk_len d (k + 1)
          have hmix : ∀ w', Calls Tryd.prog 17 #[.agg #[.int .u32 (nth (blk d k) 0), .int .u32 (nth (blk d k) 1), .int .u32 (nth (blk d k) 2), .int .u32 (nth (blk d k) 3), .int .u32 (nth (blk d k) 4), .int .u32 (nth (blk d k) 5), .int .u32 (nth (blk d k) 6), .int .u32 (nth (blk d k) 7)],
              .string (al.extract (64 * k) (64 * k + 64)), .agg (nums .u32 consts).toArray] w' fun e w'' =>
              e = .returned (.agg #[.int .u32 (nth (blk d (k + 1)) 0), .int .u32 (nth (blk d (k + 1)) 1), .int .u32 (nth (blk d (k + 1)) 2), .int .u32 (nth (blk d (k + 1)) 3), .int .u32 (nth (blk d (k + 1)) 4), .int .u32 (nth (blk d (k + 1)) 5), .int .u32 (nth (blk d (k + 1)) 6), .int .u32 (nth (blk d (k + 1)) 7)]) ∧ Below w'.heap.size w' w'' := fun w' => by
            have h := mixed_calls w' (blk d k) (al.extract (64 * k) (64 * k + 64)) (by rw [ByteArray.size_extract, HAZ.out]; omega) hln8 hsm8
            rw [← agg8 (blk d k) hln8, ← agg8 (blk d (k + 1)) hln8']
            refine h.mono fun e w'' ⟨h1, h2⟩ => ⟨?_, h2⟩
            rw [h1, bytesOf_extract, HAL.out, Nat.add_sub_cancel_left]
            rfl
          have HMIX := Lib.hid hmix
          obtain ⟨bl, hbl⟩ : ∃ bl, bl = blk d (k + 1) := ⟨_, rfl⟩
          obtain ⟨st, hst⟩ : ∃ st, st = blk d k := ⟨_, rfl⟩
          rw [← hst] at hA HMIX hln8
          rw [← hbl] at HMIX hln8'
          have HBLE := Lib.hid hbl
          clear hmix hst hbl hsm8
          obtain ⟨kl, hkl⟩ : ∃ kl, kl = nums .u32 consts := ⟨_, rfl⟩
          rw [← hkl] at HMIX
          have hi39 : (Tryd.prog.info? 39).map (·.size) = some kl.toArray.size := by rw [hkl]; exact info39
          have HKG : Hid (∀ W, Arr .u32 W KK 39 consts → W.heap[KK]? = some (.cells kl.toArray 39 (0, 0))) := fun W h => by rw [hkl]; exact h
          have HI39 := Lib.hid hi39
          clear hi39
          clear hkl
          have HA := Lib.hid hA
          have HK := Lib.hid hK
          have HG := Lib.hid hg
          have n0 : 64 * k + 64 ≤ al.size := by rw [HAZ.out]; omega
          clear hA hK hg
          obtain ⟨i, hi⟩ : ∃ i : Int, i = ((64 * k : Nat) : Int) := ⟨_, rfl⟩
          have n1 : i + 64 ≤ (al.size : Int) := by omega
          have n2 : 0 ≤ i := by omega
          have n3 : i ≤ i + 64 := by omega
          have n4 : i.toNat = 64 * k := by omega
          have n5 : (i + 64).toNat = 64 * k + 64 := by omega
          have n6 : 0 ≤ i + 64 := by omega
          have n7 : i ≤ 1100000000000 := by omega
          have w1 : IntKind.i64.wrap (i + 64) = i + 64 := IntWalk.i64_in _ (by omega)
          rw [← hi]
          have HI := Lib.hid hi
          clear hi
          obtain ⟨g0, g1, g2, g3, g4, g5, g6, g7⟩ := cells8' HA.out hln8
          obtain ⟨r0, r1, r2, r3, r4, r5, r6, r7⟩ := frozen8 HA.out
          have kr := HKG.out _ HK.out
          have KR := Lib.hid kr
          clear kr
          go_wp2_with fail
          refine wp_region_still_tail 7 (by kernel_rfl) (by kernel_rfl) ?_
          simp only [List.take_succ_cons, List.take_zero, List.drop_succ_cons, List.drop_zero]
          iterate 6 still_step
          refine still_load_row rfl 39 (.tmp 6) rfl KK rfl 39 kl.toArray (0, 0) _ KR.out Tryd.underlying39 rfl HI39.out ?_
          refine wpStill_nil ?_
          have HA6 := Lib.hid (Arr.drew HA.out)
          have HK6 := Lib.hid (Arr.drew HK.out)
          have HG6 := Lib.hid (gb_drew HG.out)
          clear g0 g1 g2 g3 g4 g5 g6 g7 r0 r1 r2 r3 r4 r5 r6 r7 HA HK HG KR
          change wpList _ _ _ _ _ wr.drew
          generalize wr.drew = W6 at *
          go_wp2_with fail
          refine (HMIX.out _).mono ?_
          rintro e w7 ⟨rfl, hb7⟩
          have hA7 := HA6.out.below hb7 HA6.out.lt
          obtain ⟨z0, z1, z2, z3, z4, z5, z6, z7⟩ := cells8' hA7 hln8
          obtain ⟨r0, r1, r2, r3, r4, r5, r6, r7⟩ := frozen8 hA7
          have HA7 := Lib.hid hA7
          have HK7 := Lib.hid (HK6.out.below hb7 HK6.out.lt)
          have HG7 := Lib.hid (gb_below HG6.out hb7)
          clear hA7 HA6 HK6 HG6 hb7 HMIX
          go_wp2_with fail
          go_roundw
          case rel =>
            refine ⟨k + 1, by omega, ?_, ?_, other8 HK7.out (by omega) _ _ _ _ _ _ _ _, gb8 HG7.out (by omega) _ _ _ _ _ _ _ _⟩
            · have := HI.out
              congr 1
              omega
            · rw [← HBLE.out]
              have h := set8 HA7.out hln8 (nth bl 0) (nth bl 1) (nth bl 2) (nth bl 3) (nth bl 4) (nth bl 5) (nth bl 6) (nth bl 7)
              rw [list8 bl hln8'] at h
              exact h
          case measure =>
            have := HI.out
            simp [intOf]
            omega
        · obtain rfl : k = m := by omega
          obtain ⟨i, hi⟩ : ∃ i : Int, i = ((64 * k : Nat) : Int) := ⟨_, rfl⟩
          have n1 : decide (i + 64 ≤ (al.size : Int)) = false := by have := HAZ.out; simp; omega
          have n2 : 0 ≤ i := by omega
          have n7 : i ≤ 1100000000000 := by omega
          rw [← hi]
          have HI := Lib.hid hi
          clear hi hlt hk
          have hln8 := blk_len d k
          have hsm8 := blk_small d k
          obtain ⟨st, hst⟩ : ∃ st, st = blk d k := ⟨_, rfl⟩
          rw [← hst] at hA HDF hln8 hsm8
          have HA := Lib.hid hA
          have HG := Lib.hid hg
          have HDF2 := Lib.hid HDF
          clear hst hA hg hK HDF
          go_wp2_with fail
          go_loopw [8, 9] (fun v vi wq => ∃ q : Nat, q ≤ 8 ∧ vi = .int .i64 q ∧ OwnC .u8 (HH + 1) wq v (outs st q) ∧ Arr .u32 wq HH 32 st ∧ w.grownBy wq none) (fun _ vi _ => 8 - (intOf vi).toNat)
          case atStart => exact ⟨0, by omega, rfl, OwnC.nil _ _ _, HA.out, HG.out⟩
          case round =>
            clear HA HG
            obtain ⟨q, hq, rfl, hown, hA, hg⟩ := hrel
            have hlo := outs_len st q
            obtain ⟨A5, c5, rfl⟩ := hown.slice
            rw [hlo] at hown ⊢
            have HLO := Lib.hid hlo
            clear hlo
            by_cases hlt : q < 8
            · have sm := hsm8 q
              have sm0 := sm.1
              have sm1 := sm.2
              have m1 := mask32 (nth st q / 65536) (by omega) (by omega)
              have m2 := mask32 (nth st q / 256) (by omega) (by omega)
              have m3 := mask32 (nth st q) (by omega) (by omega)
              have n3 : (q : Int) < 8 := by omega
              have n4 : (q : Int).toNat = q := by omega
              have n5 : (0 : Int) ≤ (q : Int) := by omega
              have hce : wr.cell? ⟨HH, q, none⟩ = some (.int .u32 (nth st q)) := hA.cell q (by omega)
              have hlt2 := hA.lt
              have HO4 := Lib.hid (out4_small sm)
              have x0 : IntKind.u8.wrap (nth st q / 16777216) = nth st q / 16777216 := by rw [IntKind.wrap_u8]; omega
              have x1 : IntKind.u8.wrap (nth st q / 65536 % 256) = nth st q / 65536 % 256 := by rw [IntKind.wrap_u8]; omega
              have x2 : IntKind.u8.wrap (nth st q / 256 % 256) = nth st q / 256 % 256 := by rw [IntKind.wrap_u8]; omega
              have x3 : IntKind.u8.wrap (nth st q % 256) = nth st q % 256 := by rw [IntKind.wrap_u8]; omega
              have hsrc : Src Tryd.prog 1 33 (.slice (some ⟨wr.heap.size, 0, none⟩) 4 4) [nth st q / 16777216, nth st q / 65536 % 256, nth st q / 256 % 256, nth st q % 256].length (nums .u8 [nth st q / 16777216, nth st q / 65536 % 256, nth st q / 256 % 256, nth st q % 256])
                  (wr.alloc (.cells #[.int .u8 (nth st q / 16777216), .int .u8 (nth st q / 65536 % 256), .int .u8 (nth st q / 256 % 256), .int .u8 (nth st q % 256)] 5)).drew :=
                src_nums Tryd.underlying33 ⟨wr.heap.size, 0, none⟩ 4 [nth st q / 16777216, nth st q / 65536 % 256, nth st q / 256 % 256, nth st q % 256] _ (four_cells wr .u8 _ _ _ _ 5)
              have HSRC := Lib.hid hsrc
              clear hsrc
              have HO := Lib.hid hown
              have HA := Lib.hid hA
              have HG := Lib.hid hg
              clear sm hown hA hg
              go_wp2_with fail
              go_region_held3 (fun w' => w'.cell? ⟨HH, q, none⟩ = some (.int .u32 (nth st q))) (first | exact hce | exact HCE2.out | go_keep)
                (first | (refine step_append (P := Tryd.prog) rfl (.tmp 54) (.tmp 77) 33 33 rfl 5 1 Tryd.underlying33 info5 (base := HH + 1) (.slice A5 (4 * q) c5) (outs st q) rfl (HO.out.alloc _).drew (.slice (some ⟨wr.heap.size, 0, none⟩) 4 4) rfl [nth st q / 16777216, nth st q / 65536 % 256, nth st q / 256 % 256, nth st q % 256] HSRC.out (by rw [HLO.out]; simp; omega) (by rw [HLO.out]; simp; omega) (by simp; omega) ?_; intro v6 w6 hown6 hg6 hk6; have HCE2 := Lib.hid (((HA.out.alloc _).drew.grown hg6 HO.out.ne).cell q (by omega))))
              have hown6' := hown6
              rw [← HO4.out] at hown6'
              have hA6 : Arr .u32 w6 HH 32 st := ((HA.out.alloc _).drew.grown hg6 HO.out.ne)
              have hg6' : w.grownBy w6 none := below_none (gb_drew (gb_alloc HG.out _)) hg6 (fun k hk => by have := (HO.out.lt k hk).1; omega)
              clear hown6 hg6 hk6 HO HA HG HCE2
              go_wp2_with fail
              go_roundw
              case rel => exact ⟨q + 1, by omega, by go_num, hown6', hA6, hg6'⟩
              case measure => simp [intOf]; omega
            · obtain rfl : q = 8 := by omega
              rw [show 4 * 8 = 32 from rfl] at *
              have hcv := str_of_own (P := Tryd.prog) wr 33 5 9 Tryd.underlying33 Tryd.underlying5 Tryd.underlying9 hown
              rw [← HDF2.out] at hcv
              have HGE := Lib.hid hg
              clear hown hg hA
              go_wp2_with fail
              go_ret
              exact ⟨rfl, gb_to_below HGE.out⟩
end Go.Proofs.YtjhmdijmnnobhaaDoor
