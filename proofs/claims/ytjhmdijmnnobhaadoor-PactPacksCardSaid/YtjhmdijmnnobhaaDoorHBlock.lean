/- Hand-written contracts of the Go functions that the statement reaches, and the plain laws over them. -/
import Derived.Test.YtjhmdijmnnobhaaDoorHRot
set_option linter.unusedVariables false
set_option linter.unusedSimpArgs false
namespace Go.Proofs.YtjhmdijmnnobhaaDoor
open Go.RowKit
/-- What a block's round leaves: the state's block alone has turned. -/
def BlockPost (w : World) (S : Nat) (st bs : List Int) (e : Ending) (w' : World) : Prop := e = .returned (.tuple #[]) ∧ Arr .u32 w' S 32 (blockF st bs) ∧ w.grownBy w' (some S)
set_option maxHeartbeats 8000000 in
set_option maxRecDepth 100000 in
theorem block_calls (S : Nat) (w : World) (g o c : Nat) (st bs : List Int) (hS : Arr .u32 w S 32 st) (hs8 : st.length = 8) (hlen : bs.length = 64)
    (hb : ∀ j, j < 64 → w.cell? ⟨g, o + j, none⟩ = some (.int .u8 (nth bs j))) (hg : g < w.heap.size) (hbr : ∀ j, 0 ≤ nth bs j ∧ nth bs j ≤ 255)
    (hR : ∀ j, j < 64 → w.cell? ⟨0, j, none⟩ = some (.int .u32 (nth consts j))) (hss : Smalls st) :
    Calls Tryd.prog 14 #[.pointer (some ⟨S, 0, none⟩), .slice (some ⟨g, o, none⟩) 64 c] w fun e w' => BlockPost w S st bs e w' := by
  go_enter Tryd.func14, Tryd.ntmps14
  go_wp2
  obtain ⟨W, hW⟩ : ∃ W, W = w := ⟨_, rfl⟩
  go_loopw [26] (fun v wr => ∃ k : Nat, k ≤ 16 ∧ v = .int .i64 k ∧ Arr .u32 wr w.heap.size 39 (fill1 bs k) ∧ w.grownBy wr none) (fun v _ => 16 - (intOf v).toNat)
  case atStart => exact ⟨0, by omega, rfl, by
    show (World.alloc _ _).heap[w.heap.size]? = _
    rw [heap_alloc_new]; rfl, gb_alloc (gb_refl _ _) _⟩
  case round =>
    obtain ⟨k, hk, rfl, ha, hgr⟩ := hrel
    by_cases hlt : k < 16
    · have trivial_ := hlt
      have e0 := (hgr.cell (hb (4 * k) (by omega)) (by simp))
      have e1 := (hgr.cell (hb (4 * k + 1) (by omega)) (by simp))
      have e2 := (hgr.cell (hb (4 * k + 2) (by omega)) (by simp))
      have e3 := (hgr.cell (hb (4 * k + 3) (by omega)) (by simp))
      have r0 := hbr (4 * k)
      have r1 := hbr (4 * k + 1)
      have r2 := hbr (4 * k + 2)
      have r3 := hbr (4 * k + 3)
      have HN : Hid (fill1 bs (k + 1) = (fill1 bs k).set k (beW bs k)) := rfl
      have hln := fill1_len bs k
      obtain ⟨ws, hws⟩ : ∃ ws, ws = fill1 bs k := ⟨_, rfl⟩
      rw [← hws] at ha HN hln
      clear hws
      have HA := Lib.hid ha
      have hfr := ha.frozen k
      have hce : wr.cell? ⟨w.heap.size, k, none⟩ = some (.int .u32 (nth ws k)) := ha.cell k (by omega)
      have bk : (k : Int) < 64 := by omega
      have ak : 0 ≤ (k : Int) := by omega
      have tk : (k : Int).toNat = k := by omega
      clear ha
      have t0 : (4 * (k : Int)).toNat = 4 * k := by omega
      have t1 : (4 * (k : Int) + 1).toNat = 4 * k + 1 := by omega
      have t2 : (4 * (k : Int) + 2).toNat = 4 * k + 2 := by omega
      have t3 : (4 * (k : Int) + 3).toNat = 4 * k + 3 := by omega
      have b0 : 4 * (k : Int) < 64 := by omega
      have b1 : 4 * (k : Int) + 1 < 64 := by omega
      have b2 : 4 * (k : Int) + 2 < 64 := by omega
      have b3 : 4 * (k : Int) + 3 < 64 := by omega
      have a0 : 0 ≤ 4 * (k : Int) := by omega
      have a1 : 0 ≤ 4 * (k : Int) + 1 := by omega
      have a2 : 0 ≤ 4 * (k : Int) + 2 := by omega
      have a3 : 0 ≤ 4 * (k : Int) + 3 := by omega
      have w0 : IntKind.i64.wrap (4 * (k : Int)) = 4 * (k : Int) := IntWalk.i64_in _ (by omega)
      have w1 : IntKind.i64.wrap (4 * (k : Int) + 1) = 4 * (k : Int) + 1 := IntWalk.i64_in _ (by omega)
      have w2 : IntKind.i64.wrap (4 * (k : Int) + 2) = 4 * (k : Int) + 2 := IntWalk.i64_in _ (by omega)
      have w3 : IntKind.i64.wrap (4 * (k : Int) + 3) = 4 * (k : Int) + 3 := IntWalk.i64_in _ (by omega)
      go_wp2
      go_still_tail 35, (by kernel_rfl)
      go_wp2
      go_roundw
      case rel =>
        refine ⟨k + 1, by omega, by go_num, ?_, gb_drew (gb_set hgr (.inl (Nat.le_refl _)) _)⟩
        rw [HN.out]
        exact Arr.drew (HA.out.set _ _)
      case measure => simp [intOf]; omega
    · obtain rfl : k = 16 := by omega
      rw [show ((16 : Nat) : Int) = (16 : Int) from rfl]
      go_wp2
      go_loopw [6] (fun v wr => ∃ k : Nat, k ≤ 48 ∧ v = .int .i64 (16 + k : Nat) ∧ Arr .u32 wr w.heap.size 39 (fill2 (fill1 bs 16) k) ∧ w.grownBy wr none) (fun v _ => 64 - (intOf v).toNat)
      case atStart => exact ⟨0, by omega, rfl, ha, hgr⟩
      case round =>
        clear ha hgr hk hlt
        obtain ⟨k, hk, rfl, ha, hgr⟩ := hrel
        by_cases hlt : k < 48
        · have HA := Lib.hid ha
          have hsm := fill2_small (fill1_small bs 16) k
          have hln : (fill2 (fill1 bs 16) k).length = 64 := by rw [fill2_len, fill1_len]
          have HN : Hid (fill2 (fill1 bs 16) (k + 1) = (fill2 (fill1 bs 16) k).set (16 + k) (sched (fill2 (fill1 bs 16) k) (16 + k))) := rfl
          obtain ⟨ws, hws⟩ : ∃ ws, ws = fill2 (fill1 bs 16) k := ⟨_, rfl⟩
          rw [← hws] at HA ha hsm HN hln
          have HWS := Lib.hid hws
          clear hws
          have fr := ha.frozen (16 + k)
          have e0 : wr.cell? ⟨w.heap.size, 16 + k, none⟩ = some (.int .u32 (nth ws (16 + k))) := ha.cell (16 + k) (by omega)
          have e1 : wr.cell? ⟨w.heap.size, k, none⟩ = some (.int .u32 (nth ws k)) := ha.cell k (by omega)
          have e2 : wr.cell? ⟨w.heap.size, k + 1, none⟩ = some (.int .u32 (nth ws (k + 1))) := ha.cell (k + 1) (by omega)
          have e3 : wr.cell? ⟨w.heap.size, k + 14, none⟩ = some (.int .u32 (nth ws (k + 14))) := ha.cell (k + 14) (by omega)
          have e4 : wr.cell? ⟨w.heap.size, k + 9, none⟩ = some (.int .u32 (nth ws (k + 9))) := ha.cell (k + 9) (by omega)
          clear ha
          have z1 : ((16 + k : Nat) : Int) < 64 := by omega
          have z0 : (0 : Int) ≤ ((16 + k : Nat) : Int) := by omega
          obtain ⟨i, hi⟩ : ∃ i : Int, i = ((16 + k : Nat) : Int) := ⟨_, rfl⟩
          have t1 : (i - 15).toNat = k + 1 := by omega
          have t2 : (i - 2).toNat = k + 14 := by omega
          have t3 : (i - 16).toNat = k := by omega
          have t4 : (i - 7).toNat = k + 9 := by omega
          have t5 : i.toNat = 16 + k := by omega
          have a1 : 0 ≤ i - 15 := by omega
          have a2 : 0 ≤ i - 2 := by omega
          have a3 : 0 ≤ i - 16 := by omega
          have a4 : 0 ≤ i - 7 := by omega
          have d1 : 16 ≤ i := by omega
          have d2 : 7 ≤ i := by omega
          have c1 : i - 15 < 64 := by omega
          have c2 : i - 2 < 64 := by omega
          have c3 : i - 16 < 64 := by omega
          have c4 : i - 7 < 64 := by omega
          have w1 : IntKind.i64.wrap (i - 15) = i - 15 := IntWalk.i64_in _ (by omega)
          have w2 : IntKind.i64.wrap (i - 2) = i - 2 := IntWalk.i64_in _ (by omega)
          have w3 : IntKind.i64.wrap (i - 16) = i - 16 := IntWalk.i64_in _ (by omega)
          have w4 : IntKind.i64.wrap (i - 7) = i - 7 := IntWalk.i64_in _ (by omega)
          rw [← hi] at z0 z1 ⊢
          have HI := Lib.hid hi
          clear hi
          go_wp2
          go_quiet (fail)
          have s1 := hsm (k + 1)
          have s14 := hsm (k + 14)
          go_wp2_with fail
          refine (rot_calls _ _ 7 _ (by omega) (by omega) s1.1 s1.2 m7).mono ?_
          rintro e w' ⟨rfl, rfl⟩
          go_wp2_with fail
          refine (rot_calls _ _ 18 _ (by omega) (by omega) s1.1 s1.2 m18).mono ?_
          rintro e w' ⟨rfl, rfl⟩
          go_wp2_with fail
          refine (rot_calls _ _ 17 _ (by omega) (by omega) s14.1 s14.2 m17).mono ?_
          rintro e w' ⟨rfl, rfl⟩
          go_wp2_with fail
          refine (rot_calls _ _ 19 _ (by omega) (by omega) s14.1 s14.2 m19).mono ?_
          rintro e w' ⟨rfl, rfl⟩
          go_wp2_with fail
          replace HA : Hid (Arr .u32 (wr.drewN nq) w.heap.size 39 ws) := Lib.hid (HA.out.drewN nq)
          replace hgr : w.grownBy (wr.drewN nq) none := gb_drewN hgr nq
          replace fr : (wr.drewN nq).frozen? ⟨w.heap.size, 16 + k, none⟩ = false := fr
          replace e0 : (wr.drewN nq).cell? ⟨w.heap.size, 16 + k, none⟩ = some (.int .u32 (nth ws (16 + k))) := e0
          replace e1 : (wr.drewN nq).cell? ⟨w.heap.size, k, none⟩ = some (.int .u32 (nth ws k)) := e1
          replace e4 : (wr.drewN nq).cell? ⟨w.heap.size, k + 9, none⟩ = some (.int .u32 (nth ws (k + 9))) := e4
          clear e2 e3
          generalize wr.drewN nq = W2 at *
          go_still_tail 15, (by kernel_rfl)
          go_wp2
          go_roundw
          case rel =>
            refine ⟨k + 1, by omega, ?_, ?_, gb_drew (gb_set hgr (.inl (Nat.le_refl _)) _)⟩
            · have := HI.out
              congr 1
              omega
            · rw [HN.out]
              have h1 : sched ws (16 + k) = _ := rfl
              have e16 : 16 + k - 16 = k := by omega
              have e15 : 16 + k - 15 = k + 1 := by omega
              have e7 : 16 + k - 7 = k + 9 := by omega
              have e2 : 16 + k - 2 = k + 14 := by omega
              unfold sched
              rw [e16, e15, e7, e2]
              exact Arr.drew (HA.out.set _ _)
          case measure => simp [intOf]; omega
        · obtain rfl : k = 48 := by omega
          have hl48 : (fill2 (fill1 bs 16) 48).length = 64 := by rw [fill2_len, fill1_len]
          have hs48 := fill2_small (fill1_small bs 16) 48
          clear hk hlt
          rw [show ((16 + 48 : Nat) : Int) = (64 : Int) from rfl]
          have hgS : Arr .u32 wr S 32 st := hS.grown hgr (by simp)
          have f0 : wr.cell? ⟨S, 0, none⟩ = some (.int .u32 (nth st 0)) := hgS.cell 0 (by omega)
          have f1 : wr.cell? ⟨S, 1, none⟩ = some (.int .u32 (nth st 1)) := hgS.cell 1 (by omega)
          have f2 : wr.cell? ⟨S, 2, none⟩ = some (.int .u32 (nth st 2)) := hgS.cell 2 (by omega)
          have f3 : wr.cell? ⟨S, 3, none⟩ = some (.int .u32 (nth st 3)) := hgS.cell 3 (by omega)
          have f4 : wr.cell? ⟨S, 4, none⟩ = some (.int .u32 (nth st 4)) := hgS.cell 4 (by omega)
          have f5 : wr.cell? ⟨S, 5, none⟩ = some (.int .u32 (nth st 5)) := hgS.cell 5 (by omega)
          have f6 : wr.cell? ⟨S, 6, none⟩ = some (.int .u32 (nth st 6)) := hgS.cell 6 (by omega)
          have f7 : wr.cell? ⟨S, 7, none⟩ = some (.int .u32 (nth st 7)) := hgS.cell 7 (by omega)
          obtain ⟨ws, hws⟩ : ∃ ws, ws = fill2 (fill1 bs 16) 48 := ⟨_, rfl⟩
          rw [← hws] at ha hl48 hs48
          have HWS := Lib.hid hws
          clear hws
          go_wp2
          go_quiet (fail)
          obtain ⟨nqa, hnqa⟩ : ∃ a, a = nq := ⟨_, rfl⟩
          rw [← hnqa]
          clear hnqa nq
          go_wp2
          go_quiet (fail)
          go_wp2
          replace hgr : w.grownBy ((wr.drewN nqa).drewN nq) none := gb_drewN (gb_drewN hgr nqa) nq
          replace ha : Arr .u32 ((wr.drewN nqa).drewN nq) w.heap.size 39 ws := (ha.drewN nqa).drewN nq
          clear f0 f1 f2 f3 f4 f5 f6 f7 hgS
          generalize (wr.drewN nqa).drewN nq = W3 at *
          go_loopw [11, 12, 13, 14, 15, 16, 17, 18, 140] (fun va vc ve vg vb vd vf vh vi wq => ∃ n : Nat, n ≤ 64 ∧ vi = .int .i64 n ∧ va = .int .u32 (St.steps consts ws (St.of st) n).a ∧ vb = .int .u32 (St.steps consts ws (St.of st) n).b
            ∧ vc = .int .u32 (St.steps consts ws (St.of st) n).c ∧ vd = .int .u32 (St.steps consts ws (St.of st) n).d ∧ ve = .int .u32 (St.steps consts ws (St.of st) n).e ∧ vf = .int .u32 (St.steps consts ws (St.of st) n).f
            ∧ vg = .int .u32 (St.steps consts ws (St.of st) n).g ∧ vh = .int .u32 (St.steps consts ws (St.of st) n).h ∧ Arr .u32 wq w.heap.size 39 ws ∧ w.grownBy wq none) (fun _ _ _ _ _ _ _ _ vi _ => 64 - (intOf vi).toNat)
          case atStart => exact ⟨0, by omega, rfl, rfl, rfl, rfl, rfl, rfl, rfl, rfl, rfl, ha, hgr⟩
          case round =>
            clear ha hgr
            obtain ⟨n, hn, rfl, rfl, rfl, rfl, rfl, rfl, rfl, rfl, rfl, ha, hgr⟩ := hrel
            have hok := St.steps_ok (St.of_ok hss) consts ws n
            have HN : Hid (St.steps consts ws (St.of st) (n + 1) = (St.steps consts ws (St.of st) n).step (nth consts n) (nth ws n)) := rfl
            by_cases hlt : n < 64
            · obtain ⟨s, hs⟩ : ∃ s, s = St.steps consts ws (St.of st) n := ⟨_, rfl⟩
              rw [← hs] at hok HN ⊢
              clear hs
              have HA := Lib.hid ha
              have g0 := hgr.cell (hR n hlt) (by simp)
              have g1 : wr.cell? ⟨w.heap.size, n, none⟩ = some (.int .u32 (nth ws n)) := ha.cell n (by omega)
              clear ha
              have n0 : (0 : Int) ≤ (n : Int) := by omega
              have n1 : (n : Int) < 64 := by omega
              have n2 : (n : Int).toNat = n := by omega
              go_wp2_with fail
              refine (rot_calls _ _ 6 _ (by omega) (by omega) hok.e.1 hok.e.2 m6).mono ?_
              rintro e w' ⟨rfl, rfl⟩
              go_wp2_with fail
              refine (rot_calls _ _ 11 _ (by omega) (by omega) hok.e.1 hok.e.2 m11).mono ?_
              rintro e w' ⟨rfl, rfl⟩
              go_wp2_with fail
              refine (rot_calls _ _ 25 _ (by omega) (by omega) hok.e.1 hok.e.2 m25).mono ?_
              rintro e w' ⟨rfl, rfl⟩
              go_wp2_with fail
              go_quiet (fail)
              go_wp2_with fail
              refine (rot_calls _ _ 2 _ (by omega) (by omega) hok.a.1 hok.a.2 m2).mono ?_
              rintro e w' ⟨rfl, rfl⟩
              go_wp2_with fail
              refine (rot_calls _ _ 13 _ (by omega) (by omega) hok.a.1 hok.a.2 m13).mono ?_
              rintro e w' ⟨rfl, rfl⟩
              go_wp2_with fail
              refine (rot_calls _ _ 22 _ (by omega) (by omega) hok.a.1 hok.a.2 m22).mono ?_
              rintro e w' ⟨rfl, rfl⟩
              go_wp2_with fail
              go_roundw
              case rel =>
                refine ⟨n + 1, by omega, by go_num, ?_⟩
                rw [HN.out]
                exact ⟨rfl, rfl, rfl, rfl, rfl, rfl, rfl, rfl, HA.out.drewN _, gb_drewN hgr _⟩
              case measure => simp [intOf]; omega
            · obtain rfl : n = 64 := by omega
              rw [show ((64 : Nat) : Int) = (64 : Int) from rfl]
              obtain ⟨s, hs⟩ : ∃ s, s = St.steps consts ws (St.of st) 64 := ⟨_, rfl⟩
              rw [← hs] at hok ⊢
              have HS := Lib.hid hs
              clear hs HN hn hlt
              have hgS : Arr .u32 wr S 32 st := hS.grown hgr (by simp)
              go_wp2
              have hL : Arr .u32 (wr.alloc (.cells #[.int .u32 s.a, .int .u32 s.b, .int .u32 s.c, .int .u32 s.d, .int .u32 s.e, .int .u32 s.f, .int .u32 s.g, .int .u32 s.h] 31)) wr.heap.size 31 s.list := by
                show (World.alloc _ _).heap[wr.heap.size]? = _
                rw [heap_alloc_new]
                rfl
              have hgS2 := hgS.alloc (.cells #[.int .u32 s.a, .int .u32 s.b, .int .u32 s.c, .int .u32 s.d, .int .u32 s.e, .int .u32 s.f, .int .u32 s.g, .int .u32 s.h] 31)
              have hgr2 : w.grownBy (wr.alloc (.cells #[.int .u32 s.a, .int .u32 s.b, .int .u32 s.c, .int .u32 s.d, .int .u32 s.e, .int .u32 s.f, .int .u32 s.g, .int .u32 s.h] 31)) (some S) := gb_alloc (gb_none hgr) _
              have hLS : S < wr.heap.size := by have := hS.lt; have := hgr.size; omega
              obtain ⟨L, hLe⟩ : ∃ L, L = wr.heap.size := ⟨_, rfl⟩
              rw [← hLe] at hL hLS ⊢
              clear hLe ha hgS hgr
              generalize wr.alloc (.cells #[.int .u32 s.a, .int .u32 s.b, .int .u32 s.c, .int .u32 s.d, .int .u32 s.e, .int .u32 s.f, .int .u32 s.g, .int .u32 s.h] 31) = W4 at *
              go_loopw [215] (fun vi wq => ∃ k : Nat, k ≤ 8 ∧ vi = .int .i64 k ∧ Arr .u32 wq S 32 (addTo st s.list k) ∧ Arr .u32 wq L 31 s.list ∧ w.grownBy wq (some S)) (fun vi _ => 8 - (intOf vi).toNat)
              case atStart => exact ⟨0, by omega, rfl, hgS2, hL, hgr2⟩
              case round =>
                clear hgS2 hL hgr2
                obtain ⟨k, hk, rfl, hA, hL, hg2⟩ := hrel
                by_cases hlt : k < 8
                · have HN : Hid (addTo st s.list (k + 1) = (addTo st s.list k).set k ((nth (addTo st s.list k) k + nth s.list k) % 4294967296)) := rfl
                  have hln : (addTo st s.list k).length = 8 := by rw [addTo_len, hs8]
                  obtain ⟨xs, hxs⟩ : ∃ xs, xs = addTo st s.list k := ⟨_, rfl⟩
                  rw [← hxs] at hA HN hln
                  clear hxs
                  have c0 : wr.cell? ⟨S, k, none⟩ = some (.int .u32 (nth xs k)) := hA.cell k (by omega)
                  have c1 : wr.cell? ⟨L, k, none⟩ = some (.int .u32 (nth s.list k)) := hL.cell k hlt
                  have fr := hA.frozen k
                  have HA := Lib.hid hA
                  have HL := Lib.hid hL
                  clear hA hL
                  have n0 : (0 : Int) ≤ (k : Int) := by omega
                  have n1 : (k : Int) < 8 := by omega
                  have n2 : (k : Int).toNat = k := by omega
                  go_wp2
                  go_still_tail 9, (by kernel_rfl)
                  go_wp2
                  go_roundw
                  case rel =>
                    refine ⟨k + 1, by omega, by go_num, ?_, Arr.drew (HL.out.other (by simp; omega) _), gb_drew (gb_set hg2 (.inr rfl) _)⟩
                    rw [HN.out]
                    exact Arr.drew (HA.out.set _ _)
                  case measure => simp [intOf]; omega
                · obtain rfl : k = 8 := by omega
                  have HB : Hid (Arr .u32 wr S 32 (blockF st bs)) := by
                    unfold blockF
                    rw [← HWS.out, ← HS.out]
                    exact hA
                  clear hA hL
                  go_wp2
                  go_end0
                  exact ⟨rfl, HB.out, hg2⟩
end Go.Proofs.YtjhmdijmnnobhaaDoor
