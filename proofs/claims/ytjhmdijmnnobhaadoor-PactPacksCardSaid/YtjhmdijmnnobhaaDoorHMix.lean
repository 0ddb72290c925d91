/- Hand-written contracts of the Go functions that the statement reaches, and the plain laws over them. -/
import Derived.Test.YtjhmdijmnnobhaaDoorHDig
set_option linter.unusedVariables false
set_option linter.unusedSimpArgs false
namespace Go.Proofs.YtjhmdijmnnobhaaDoor
open Go.RowKit
theorem bits_or_comm (k : IntKind) (a b : Int) : bits .or k a b = bits .or k b a := by simp only [bits, BitVec.or_comm]
theorem bits_xor_comm (k : IntKind) (a b : Int) : bits .xor k a b = bits .xor k b a := by simp only [bits, BitVec.xor_comm]
set_option maxHeartbeats 400000 in
theorem turn_calls (x m : Int) (n : Nat) (w : World) (hm : m = n) (h0 : 0 < n) (h1 : n < 32) (hx0 : 0 ≤ x) (hx : x < 4294967296) :
    Calls Tryd.prog 19 #[.int .u32 x, .int .u64 m] w fun e w' => e = .returned (.int .u32 (rotr x n)) ∧ w' = w := by
  subst hm
  have hw : IntKind.u64.wrap (32 - (n : Int)) = ((32 - n : Nat) : Int) := by
    rw [show (32 - (n : Int)) = ((32 - n : Nat) : Int) by omega]
    exact IntWalk.u64_in _ (by omega)
  have b1 : (0 : Int) ≤ ((32 - n : Nat) : Int) := by omega
  have b2 : ((32 - n : Nat) : Int) < 32 := by omega
  have b3 : (n : Int) < 32 := by omega
  have hfin : rotr x n = bits .or .u32 (x / 2 ^ n) ((x * 2 ^ (32 - n)) % 4294967296) := bits_or_comm _ _ _
  obtain ⟨q, hq⟩ : ∃ q : Nat, 32 - n = q := ⟨_, rfl⟩
  rw [hq] at hw b1 b2 hfin
  have HF := Lib.hid hfin
  clear hfin
  go_enter Tryd.func19, Tryd.ntmps19
  go_wp2
  go_ret
  exact ⟨by rw [HF.out]; rfl, rfl⟩
def MixPost (w : World) (st bs : List Int) (e : Ending) (w' : World) : Prop := e = .returned (.agg (nums .u32 (blockF st bs)).toArray) ∧ Below w.heap.size w w'
theorem four_alloc (w : World) (o1 o2 o3 o4 : Obj) :
    ((((w.alloc o1).alloc o2).alloc o3).alloc o4).heap[w.heap.size]? = some o1 ∧ ((((w.alloc o1).alloc o2).alloc o3).alloc o4).heap[w.heap.size + 1]? = some o2 ∧
    ((((w.alloc o1).alloc o2).alloc o3).alloc o4).heap[w.heap.size + 1 + 1]? = some o3 ∧ ((((w.alloc o1).alloc o2).alloc o3).alloc o4).heap[w.heap.size + 1 + 1 + 1]? = some o4 := by
  show ((((w.heap.push o1).push o2).push o3).push o4)[w.heap.size]? = _ ∧ ((((w.heap.push o1).push o2).push o3).push o4)[w.heap.size + 1]? = _ ∧ ((((w.heap.push o1).push o2).push o3).push o4)[w.heap.size + 1 + 1]? = _ ∧ ((((w.heap.push o1).push o2).push o3).push o4)[w.heap.size + 1 + 1 + 1]? = _
  simp only [Array.getElem?_push, Array.size_push]
  refine ⟨?_, ?_, ?_, ?_⟩
  · rw [if_neg (by omega), if_neg (by omega), if_neg (by omega), if_pos trivial]
  · rw [if_neg (by omega), if_neg (by omega), if_pos trivial]
  · rw [if_neg (by omega), if_pos trivial]
  · rw [if_pos trivial]
structure MixInv (w wr : World) (st : List Int) : Prop where
  h : Arr .u32 wr w.heap.size 32 st
  k : Arr .u32 wr (w.heap.size + 1) 39 consts
  r : Arr .u32 wr (w.heap.size + 1 + 1) 32 (List.replicate 8 0)
  g : w.grownBy wr none
theorem MixInv.set {w wr : World} {st : List Int} (i : MixInv w wr st) {a : Addr} (ha : w.heap.size + 2 < a.block) (u : Value) : MixInv w (wr.setCell a u) st :=
  ⟨i.h.other (by omega) u, i.k.other (by omega) u, i.r.other (by omega) u, gb_set i.g (.inl (by omega)) u⟩
theorem MixInv.drew {w wr : World} {st : List Int} (i : MixInv w wr st) : MixInv w wr.drew st := ⟨i.h, i.k, i.r, gb_drew i.g⟩
theorem MixInv.drewN {w wr : World} {st : List Int} (i : MixInv w wr st) (n : Nat) : MixInv w (wr.drewN n) st := ⟨i.h.drewN n, i.k.drewN n, i.r.drewN n, gb_drewN i.g n⟩
theorem MixInv.alloc {w wr : World} {st : List Int} (i : MixInv w wr st) (o : Obj) : MixInv w (wr.alloc o) st := ⟨i.h.alloc o, i.k.alloc o, i.r.alloc o, gb_alloc i.g o⟩
theorem cells8 {w : World} {T : Nat} {s : St} (h : Arr .u32 w T 32 s.list) :
    w.cell? ⟨T, 0, none⟩ = some (.int .u32 s.a) ∧ w.cell? ⟨T, 1, none⟩ = some (.int .u32 s.b) ∧ w.cell? ⟨T, 2, none⟩ = some (.int .u32 s.c) ∧ w.cell? ⟨T, 3, none⟩ = some (.int .u32 s.d) ∧
    w.cell? ⟨T, 4, none⟩ = some (.int .u32 s.e) ∧ w.cell? ⟨T, 5, none⟩ = some (.int .u32 s.f) ∧ w.cell? ⟨T, 6, none⟩ = some (.int .u32 s.g) ∧ w.cell? ⟨T, 7, none⟩ = some (.int .u32 s.h) :=
  ⟨h.cell 0 (by simp [St.list]), h.cell 1 (by simp [St.list]), h.cell 2 (by simp [St.list]), h.cell 3 (by simp [St.list]), h.cell 4 (by simp [St.list]), h.cell 5 (by simp [St.list]), h.cell 6 (by simp [St.list]), h.cell 7 (by simp [St.list])⟩
theorem frozen8 {w : World} {T : Nat} {l : List Int} (h : Arr .u32 w T 32 l) :
    w.frozen? ⟨T, 0, none⟩ = false ∧ w.frozen? ⟨T, 1, none⟩ = false ∧ w.frozen? ⟨T, 2, none⟩ = false ∧ w.frozen? ⟨T, 3, none⟩ = false ∧
    w.frozen? ⟨T, 4, none⟩ = false ∧ w.frozen? ⟨T, 5, none⟩ = false ∧ w.frozen? ⟨T, 6, none⟩ = false ∧ w.frozen? ⟨T, 7, none⟩ = false :=
  ⟨h.frozen 0, h.frozen 1, h.frozen 2, h.frozen 3, h.frozen 4, h.frozen 5, h.frozen 6, h.frozen 7⟩
theorem cells8' {w : World} {T : Nat} {l : List Int} (h : Arr .u32 w T 32 l) (hl : l.length = 8) :
    w.cell? ⟨T, 0, none⟩ = some (.int .u32 (nth l 0)) ∧ w.cell? ⟨T, 1, none⟩ = some (.int .u32 (nth l 1)) ∧ w.cell? ⟨T, 2, none⟩ = some (.int .u32 (nth l 2)) ∧ w.cell? ⟨T, 3, none⟩ = some (.int .u32 (nth l 3)) ∧
    w.cell? ⟨T, 4, none⟩ = some (.int .u32 (nth l 4)) ∧ w.cell? ⟨T, 5, none⟩ = some (.int .u32 (nth l 5)) ∧ w.cell? ⟨T, 6, none⟩ = some (.int .u32 (nth l 6)) ∧ w.cell? ⟨T, 7, none⟩ = some (.int .u32 (nth l 7)) :=
  ⟨h.cell 0 (by omega), h.cell 1 (by omega), h.cell 2 (by omega), h.cell 3 (by omega), h.cell 4 (by omega), h.cell 5 (by omega), h.cell 6 (by omega), h.cell 7 (by omega)⟩
theorem set8 {w : World} {T : Nat} {l : List Int} (h : Arr .u32 w T 32 l) (hl : l.length = 8) (v0 v1 v2 v3 v4 v5 v6 v7 : Int) :
    Arr .u32 ((((((((w.setCell ⟨T, 0, none⟩ (.int .u32 v0)).setCell ⟨T, 1, none⟩ (.int .u32 v1)).setCell ⟨T, 2, none⟩ (.int .u32 v2)).setCell ⟨T, 3, none⟩ (.int .u32 v3)).setCell ⟨T, 4, none⟩ (.int .u32 v4)).setCell ⟨T, 5, none⟩ (.int .u32 v5)).setCell ⟨T, 6, none⟩ (.int .u32 v6)).setCell ⟨T, 7, none⟩ (.int .u32 v7)) T 32 [v0, v1, v2, v3, v4, v5, v6, v7] := by
  match l, hl with
  | [a, b, c, d, e, f, g, i], _ => exact (((((((h.set 0 v0).set 1 v1).set 2 v2).set 3 v3).set 4 v4).set 5 v5).set 6 v6).set 7 v7
theorem other8 {w : World} {T B e : Nat} {l : List Int} (h : Arr .u32 w B e l) (hb : B ≠ T) (v0 v1 v2 v3 v4 v5 v6 v7 : Value) :
    Arr .u32 ((((((((w.setCell ⟨T, 0, none⟩ v0).setCell ⟨T, 1, none⟩ v1).setCell ⟨T, 2, none⟩ v2).setCell ⟨T, 3, none⟩ v3).setCell ⟨T, 4, none⟩ v4).setCell ⟨T, 5, none⟩ v5).setCell ⟨T, 6, none⟩ v6).setCell ⟨T, 7, none⟩ v7) B e l :=
  (((((((h.other hb v0).other hb v1).other hb v2).other hb v3).other hb v4).other hb v5).other hb v6).other hb v7
theorem gb8 {w0 w : World} {T : Nat} (h : w0.grownBy w none) (hT : w0.heap.size ≤ T) (v0 v1 v2 v3 v4 v5 v6 v7 : Value) :
    w0.grownBy ((((((((w.setCell ⟨T, 0, none⟩ v0).setCell ⟨T, 1, none⟩ v1).setCell ⟨T, 2, none⟩ v2).setCell ⟨T, 3, none⟩ v3).setCell ⟨T, 4, none⟩ v4).setCell ⟨T, 5, none⟩ v5).setCell ⟨T, 6, none⟩ v6).setCell ⟨T, 7, none⟩ v7) none :=
  gb_set (gb_set (gb_set (gb_set (gb_set (gb_set (gb_set (gb_set h (.inl hT) _) (.inl hT) _) (.inl hT) _) (.inl hT) _) (.inl hT) _) (.inl hT) _) (.inl hT) _) (.inl hT) _
theorem step_list (s : St) (k w : Int) : (s.step k w).list = [(s.h + bits .xor .u32 (bits .xor .u32 (rotr s.e 6) (rotr s.e 11)) (rotr s.e 25) + bits .xor .u32 (bits .and .u32 s.e s.f) (bits .and .u32 (bits .xor .u32 s.e 4294967295) s.g) + k + w +
    (bits .xor .u32 (bits .xor .u32 (rotr s.a 2) (rotr s.a 13)) (rotr s.a 22) + bits .xor .u32 (bits .xor .u32 (bits .and .u32 s.a s.b) (bits .and .u32 s.a s.c)) (bits .and .u32 s.b s.c))) % 4294967296, s.a, s.b, s.c,
    (s.d + (s.h + bits .xor .u32 (bits .xor .u32 (rotr s.e 6) (rotr s.e 11)) (rotr s.e 25) + bits .xor .u32 (bits .and .u32 s.e s.f) (bits .and .u32 (bits .xor .u32 s.e 4294967295) s.g) + k + w)) % 4294967296, s.e, s.f, s.g] := by
  simp only [St.step, St.list, St.t1, St.t2]
  rw [bits_xor_comm .u32 4294967295 s.e]
  generalize bits .xor .u32 (bits .xor .u32 (rotr s.e 6) (rotr s.e 11)) (rotr s.e 25) = x1
  generalize bits .xor .u32 (bits .and .u32 s.e s.f) (bits .and .u32 (bits .xor .u32 s.e 4294967295) s.g) = x2
  generalize bits .xor .u32 (bits .xor .u32 (rotr s.a 2) (rotr s.a 13)) (rotr s.a 22) = x3
  generalize bits .xor .u32 (bits .xor .u32 (bits .and .u32 s.a s.b) (bits .and .u32 s.a s.c)) (bits .and .u32 s.b s.c) = x4
  congr 1
  · omega
  · congr 4
    omega
theorem MixInv.set8 {w wr : World} {st : List Int} (i : MixInv w wr st) {T : Nat} (hT : w.heap.size + 2 < T) (v0 v1 v2 v3 v4 v5 v6 v7 : Value) :
    MixInv w ((((((((wr.setCell ⟨T, 0, none⟩ v0).setCell ⟨T, 1, none⟩ v1).setCell ⟨T, 2, none⟩ v2).setCell ⟨T, 3, none⟩ v3).setCell ⟨T, 4, none⟩ v4).setCell ⟨T, 5, none⟩ v5).setCell ⟨T, 6, none⟩ v6).setCell ⟨T, 7, none⟩ v7) st :=
  ⟨other8 i.h (by omega) _ _ _ _ _ _ _ _, other8 i.k (by omega) _ _ _ _ _ _ _ _, other8 i.r (by omega) _ _ _ _ _ _ _ _, gb8 i.g (by omega) _ _ _ _ _ _ _ _⟩
theorem nth_bytes (s : ByteArray) (i : Nat) (h : i < s.size) : nth (bytesOf s) i = ((s[i]'h).toNat : Int) := by
  unfold nth bytesOf
  have h' : i < s.data.toList.length := by rw [Array.length_toList]; exact h
  rw [List.getD_eq_getElem?_getD, List.getElem?_map, List.getElem?_eq_getElem h']
  rfl
set_option maxHeartbeats 8000000 in
set_option maxRecDepth 100000 in
theorem mixed_calls (w : World) (st : List Int) (s : ByteArray) (hs : s.size = 64) (hs8 : st.length = 8) (hss : Smalls st) :
    Calls Tryd.prog 17 #[.agg (nums .u32 st).toArray, .string s, .agg (nums .u32 consts).toArray] w fun e w' => MixPost w st (bytesOf s) e w' := by
  obtain ⟨sa, hsa⟩ : ∃ sa, sa = (nums .u32 st).toArray := ⟨_, rfl⟩
  obtain ⟨ka, hka⟩ : ∃ ka, ka = (nums .u32 consts).toArray := ⟨_, rfl⟩
  rw [← hsa, ← hka]
  have HSA := Lib.hid hsa
  have HKA := Lib.hid hka
  have HS := Lib.hid hs
  clear hsa hka hs
  go_enter Tryd.func17, Tryd.ntmps17
  go_wp2
  go_loopw [8] (fun v wr => ∃ k : Nat, k ≤ 16 ∧ v = .int .i64 k ∧ Arr .u32 wr (w.heap.size + 1 + 1 + 1) 39 (fill1 (bytesOf s) k) ∧ MixInv w wr st) (fun v _ => 16 - (intOf v).toNat)
  case atStart =>
    exact ⟨0, by omega, rfl, (four_alloc w _ _ _ _).2.2.2, ⟨by rw [HSA.out]; exact (four_alloc w _ _ _ _).1, by rw [HKA.out]; exact (four_alloc w _ _ _ _).2.1, (four_alloc w _ _ _ _).2.2.1, gb_alloc (gb_alloc (gb_alloc (gb_alloc (gb_refl _ _) _) _) _) _⟩⟩
  case round =>
    obtain ⟨k, hk, rfl, ha, hi⟩ := hrel
    by_cases hlt : k < 16
    · have HN : Hid (fill1 (bytesOf s) (k + 1) = (fill1 (bytesOf s) k).set k (beW (bytesOf s) k)) := rfl
      have hln := fill1_len (bytesOf s) k
      have HBE : Hid (beW (bytesOf s) k = bits .or .u32 (bits .or .u32 (bits .or .u32 (nth (bytesOf s) (4 * k) * 16777216) (nth (bytesOf s) (4 * k + 1) * 65536)) (nth (bytesOf s) (4 * k + 2) * 256)) (nth (bytesOf s) (4 * k + 3))) := rfl
      obtain ⟨ws, hws⟩ : ∃ ws, ws = fill1 (bytesOf s) k := ⟨_, rfl⟩
      rw [← hws] at ha HN hln
      clear hws
      have HA := Lib.hid ha
      have hfr := ha.frozen k
      have hce : wr.cell? ⟨w.heap.size + 1 + 1 + 1, k, none⟩ = some (.int .u32 (nth ws k)) := ha.cell k (by omega)
      clear ha
      have hs := HS.out
      have bk : (k : Int) < 64 := by omega
      have ak : 0 ≤ (k : Int) := by omega
      have tk : (k : Int).toNat = k := by omega
      have t0 : (4 * (k : Int)).toNat = 4 * k := by omega
      have t1 : (4 * (k : Int) + 1).toNat = 4 * k + 1 := by omega
      have t2 : (4 * (k : Int) + 2).toNat = 4 * k + 2 := by omega
      have t3 : (4 * (k : Int) + 3).toNat = 4 * k + 3 := by omega
      have b0 : 4 * (k : Int) < (s.size : Int) := by omega
      have b1 : 4 * (k : Int) + 1 < (s.size : Int) := by omega
      have b2 : 4 * (k : Int) + 2 < (s.size : Int) := by omega
      have b3 : 4 * (k : Int) + 3 < (s.size : Int) := by omega
      have c0 : 4 * k < s.size := by omega
      have c1 : 4 * k + 1 < s.size := by omega
      have c2 : 4 * k + 2 < s.size := by omega
      have c3 : 4 * k + 3 < s.size := by omega
      have a0 : 0 ≤ 4 * (k : Int) := by omega
      have a1 : 0 ≤ 4 * (k : Int) + 1 := by omega
      have a2 : 0 ≤ 4 * (k : Int) + 2 := by omega
      have a3 : 0 ≤ 4 * (k : Int) + 3 := by omega
      have w0 : IntKind.i64.wrap (4 * (k : Int)) = 4 * (k : Int) := IntWalk.i64_in _ (by omega)
      have w1 : IntKind.i64.wrap (4 * (k : Int) + 1) = 4 * (k : Int) + 1 := IntWalk.i64_in _ (by omega)
      have w2 : IntKind.i64.wrap (4 * (k : Int) + 2) = 4 * (k : Int) + 2 := IntWalk.i64_in _ (by omega)
      have w3 : IntKind.i64.wrap (4 * (k : Int) + 3) = 4 * (k : Int) + 3 := IntWalk.i64_in _ (by omega)
      clear hs
      go_wp2
      go_still_tail 31, (by kernel_rfl)
      go_wp2
      go_roundw
      case rel =>
        refine ⟨k + 1, by omega, by go_num, ?_, (hi.set (by simp) _).drew⟩
        have z0 : (((s[4 * k]'c0).toNat : Int)) % 4294967296 * 16777216 % 4294967296 = ((s[4 * k]'c0).toNat : Int) * 16777216 := by have := (s[4 * k]'c0).toNat_lt; omega
        have z1 : (((s[4 * k + 1]'c1).toNat : Int)) % 4294967296 * 65536 % 4294967296 = ((s[4 * k + 1]'c1).toNat : Int) * 65536 := by have := (s[4 * k + 1]'c1).toNat_lt; omega
        have z2 : (((s[4 * k + 2]'c2).toNat : Int)) % 4294967296 * 256 % 4294967296 = ((s[4 * k + 2]'c2).toNat : Int) * 256 := by have := (s[4 * k + 2]'c2).toNat_lt; omega
        have z3 : (((s[4 * k + 3]'c3).toNat : Int)) % 4294967296 = ((s[4 * k + 3]'c3).toNat : Int) := by have := (s[4 * k + 3]'c3).toNat_lt; omega
        rw [HN.out, HBE.out, nth_bytes s _ c0, nth_bytes s _ c1, nth_bytes s _ c2, nth_bytes s _ c3, z0, z1, z2, z3]
        exact Arr.drew (HA.out.set _ _)
      case measure => simp [intOf]; omega
    · obtain rfl : k = 16 := by omega
      rw [show ((16 : Nat) : Int) = (16 : Int) from rfl]
      clear hk hlt
      go_wp2
      go_loopw [9] (fun v wr => ∃ k : Nat, k ≤ 48 ∧ v = .int .i64 (16 + k : Nat) ∧ Arr .u32 wr (w.heap.size + 1 + 1 + 1) 39 (fill2 (fill1 (bytesOf s) 16) k) ∧ MixInv w wr st) (fun v _ => 64 - (intOf v).toNat)
      case atStart => exact ⟨0, by omega, rfl, ha, hi⟩
      case round =>
        clear ha hi
        obtain ⟨k, hk, rfl, ha, hi⟩ := hrel
        by_cases hlt : k < 48
        · have HA := Lib.hid ha
          have hsm := fill2_small (fill1_small (bytesOf s) 16) k
          have hln : (fill2 (fill1 (bytesOf s) 16) k).length = 64 := by rw [fill2_len, fill1_len]
          have HN : Hid (fill2 (fill1 (bytesOf s) 16) (k + 1) = (fill2 (fill1 (bytesOf s) 16) k).set (16 + k) (sched (fill2 (fill1 (bytesOf s) 16) k) (16 + k))) := rfl
          obtain ⟨ws, hws⟩ : ∃ ws, ws = fill2 (fill1 (bytesOf s) 16) k := ⟨_, rfl⟩
          rw [← hws] at HA ha hsm HN hln
          clear hws
          have fr := ha.frozen (16 + k)
          have e0 : wr.cell? ⟨w.heap.size + 1 + 1 + 1, 16 + k, none⟩ = some (.int .u32 (nth ws (16 + k))) := ha.cell (16 + k) (by omega)
          have e1 : wr.cell? ⟨w.heap.size + 1 + 1 + 1, k, none⟩ = some (.int .u32 (nth ws k)) := ha.cell k (by omega)
          have e2 : wr.cell? ⟨w.heap.size + 1 + 1 + 1, k + 1, none⟩ = some (.int .u32 (nth ws (k + 1))) := ha.cell (k + 1) (by omega)
          have e3 : wr.cell? ⟨w.heap.size + 1 + 1 + 1, k + 14, none⟩ = some (.int .u32 (nth ws (k + 14))) := ha.cell (k + 14) (by omega)
          have e4 : wr.cell? ⟨w.heap.size + 1 + 1 + 1, k + 9, none⟩ = some (.int .u32 (nth ws (k + 9))) := ha.cell (k + 9) (by omega)
          clear ha
          have z1 : ((16 + k : Nat) : Int) < 64 := by omega
          have z0 : (0 : Int) ≤ ((16 + k : Nat) : Int) := by omega
          obtain ⟨i, hi'⟩ : ∃ i : Int, i = ((16 + k : Nat) : Int) := ⟨_, rfl⟩
          have t1 : (i - 15).toNat = k + 1 := by omega
          have t2 : (i - 2).toNat = k + 14 := by omega
          have t3 : (i - 16).toNat = k := by omega
          have t4 : (i - 7).toNat = k + 9 := by omega
          have t5 : i.toNat = 16 + k := by omega
          have a1 : 0 ≤ i - 15 := by omega
          have a2 : 0 ≤ i - 2 := by omega
          have a3 : 0 ≤ i - 16 := by omega
          have a4 : 0 ≤ i - 7 := by omega
          have d1 : 16 ≤ i := by omega
          have d2 : 7 ≤ i := by omega
          have d3 : 15 ≤ i := by omega
          have d4 : 2 ≤ i := by omega
          have c1 : i - 15 < 64 := by omega
          have c2 : i - 2 < 64 := by omega
          have c3 : i - 16 < 64 := by omega
          have c4 : i - 7 < 64 := by omega
          have s1 := hsm (k + 1)
          have s14 := hsm (k + 14)
          have s10 := s1.1
          have s11 := s1.2
          have s140 := s14.1
          have s141 := s14.2
          have w1 : IntKind.i64.wrap (i - 15) = i - 15 := IntWalk.i64_in _ (by omega)
          have w2 : IntKind.i64.wrap (i - 2) = i - 2 := IntWalk.i64_in _ (by omega)
          have w3 : IntKind.i64.wrap (i - 16) = i - 16 := IntWalk.i64_in _ (by omega)
          have w4 : IntKind.i64.wrap (i - 7) = i - 7 := IntWalk.i64_in _ (by omega)
          rw [← hi'] at z0 z1 ⊢
          have HI := Lib.hid hi'
          have HII := Lib.hid hi
          clear hi' hi
          have c7 : ∀ w, Calls Tryd.prog 19 #[.int .u32 (nth ws (k + 1)), .int .u64 7] w fun e w' => e = .returned (.int .u32 (rotr (nth ws (k + 1)) 7)) ∧ w' = w := fun w => turn_calls _ 7 7 w rfl (by decide) (by decide) s1.1 s1.2
          have c18 : ∀ w, Calls Tryd.prog 19 #[.int .u32 (nth ws (k + 1)), .int .u64 18] w fun e w' => e = .returned (.int .u32 (rotr (nth ws (k + 1)) 18)) ∧ w' = w := fun w => turn_calls _ 18 18 w rfl (by decide) (by decide) s1.1 s1.2
          have c17 : ∀ w, Calls Tryd.prog 19 #[.int .u32 (nth ws (k + 14)), .int .u64 17] w fun e w' => e = .returned (.int .u32 (rotr (nth ws (k + 14)) 17)) ∧ w' = w := fun w => turn_calls _ 17 17 w rfl (by decide) (by decide) s14.1 s14.2
          have c19 : ∀ w, Calls Tryd.prog 19 #[.int .u32 (nth ws (k + 14)), .int .u64 19] w fun e w' => e = .returned (.int .u32 (rotr (nth ws (k + 14)) 19)) ∧ w' = w := fun w => turn_calls _ 19 19 w rfl (by decide) (by decide) s14.1 s14.2
          have H7 := Lib.hid c7
          have H18 := Lib.hid c18
          have H17 := Lib.hid c17
          have H19 := Lib.hid c19
          clear c7 c18 c17 c19 s1 s14
          go_wp2_with fail
          go_quiet ((first | (with_reducible exact Calls.quiet_of_same (H7.out _)) | (with_reducible exact Calls.quiet_of_same (H18.out _))))
          replace HA : Hid (Arr .u32 (wr.drewN nq) (w.heap.size + 1 + 1 + 1) 39 ws) := Lib.hid (HA.out.drewN nq)
          replace HII : Hid (MixInv w (wr.drewN nq) st) := Lib.hid (HII.out.drewN nq)
          replace fr : (wr.drewN nq).frozen? ⟨w.heap.size + 1 + 1 + 1, 16 + k, none⟩ = false := fr
          replace e0 : (wr.drewN nq).cell? ⟨w.heap.size + 1 + 1 + 1, 16 + k, none⟩ = some (.int .u32 (nth ws (16 + k))) := e0
          replace e1 : (wr.drewN nq).cell? ⟨w.heap.size + 1 + 1 + 1, k, none⟩ = some (.int .u32 (nth ws k)) := e1
          replace e2 : (wr.drewN nq).cell? ⟨w.heap.size + 1 + 1 + 1, k + 1, none⟩ = some (.int .u32 (nth ws (k + 1))) := e2
          replace e3 : (wr.drewN nq).cell? ⟨w.heap.size + 1 + 1 + 1, k + 14, none⟩ = some (.int .u32 (nth ws (k + 14))) := e3
          replace e4 : (wr.drewN nq).cell? ⟨w.heap.size + 1 + 1 + 1, k + 9, none⟩ = some (.int .u32 (nth ws (k + 9))) := e4
          generalize wr.drewN nq = W2 at *
          clear nq
          go_wp2_with fail
          go_quiet ((first | (with_reducible exact Calls.quiet_of_same (H17.out _)) | (with_reducible exact Calls.quiet_of_same (H19.out _))))
          go_wp2_with fail
          replace HA : Hid (Arr .u32 (W2.drewN nq) (w.heap.size + 1 + 1 + 1) 39 ws) := Lib.hid (HA.out.drewN nq)
          replace HII : Hid (MixInv w (W2.drewN nq) st) := Lib.hid (HII.out.drewN nq)
          replace fr : (W2.drewN nq).frozen? ⟨w.heap.size + 1 + 1 + 1, 16 + k, none⟩ = false := fr
          replace e0 : (W2.drewN nq).cell? ⟨w.heap.size + 1 + 1 + 1, 16 + k, none⟩ = some (.int .u32 (nth ws (16 + k))) := e0
          replace e1 : (W2.drewN nq).cell? ⟨w.heap.size + 1 + 1 + 1, k, none⟩ = some (.int .u32 (nth ws k)) := e1
          replace e2 : (W2.drewN nq).cell? ⟨w.heap.size + 1 + 1 + 1, k + 1, none⟩ = some (.int .u32 (nth ws (k + 1))) := e2
          replace e3 : (W2.drewN nq).cell? ⟨w.heap.size + 1 + 1 + 1, k + 14, none⟩ = some (.int .u32 (nth ws (k + 14))) := e3
          replace e4 : (W2.drewN nq).cell? ⟨w.heap.size + 1 + 1 + 1, k + 9, none⟩ = some (.int .u32 (nth ws (k + 9))) := e4
          generalize W2.drewN nq = W3 at *
          go_still_tail 15, (by kernel_rfl)
          go_wp2
          go_roundw
          case rel =>
            refine ⟨k + 1, by omega, ?_, ?_, (HII.out.set (by simp) _).drew⟩
            · have := HI.out
              congr 1
              omega
            · rw [HN.out]
              have e16 : 16 + k - 16 = k := by omega
              have e15 : 16 + k - 15 = k + 1 := by omega
              have e7 : 16 + k - 7 = k + 9 := by omega
              have e2 : 16 + k - 2 = k + 14 := by omega
              unfold sched
              rw [e16, e15, e7, e2]
              exact Arr.drew (HA.out.set _ _)
          case measure => simp [intOf]; omega
        · obtain rfl : k = 48 := by omega
          have hl48 : (fill2 (fill1 (bytesOf s) 16) 48).length = 64 := by rw [fill2_len, fill1_len]
          have hs48 := fill2_small (fill1_small (bytesOf s) 16) 48
          clear hk hlt
          rw [show ((16 + 48 : Nat) : Int) = (64 : Int) from rfl]
          have f0 : wr.cell? ⟨w.heap.size, 0, none⟩ = some (.int .u32 (nth st 0)) := hi.h.cell 0 (by omega)
          have f1 : wr.cell? ⟨w.heap.size, 1, none⟩ = some (.int .u32 (nth st 1)) := hi.h.cell 1 (by omega)
          have f2 : wr.cell? ⟨w.heap.size, 2, none⟩ = some (.int .u32 (nth st 2)) := hi.h.cell 2 (by omega)
          have f3 : wr.cell? ⟨w.heap.size, 3, none⟩ = some (.int .u32 (nth st 3)) := hi.h.cell 3 (by omega)
          have f4 : wr.cell? ⟨w.heap.size, 4, none⟩ = some (.int .u32 (nth st 4)) := hi.h.cell 4 (by omega)
          have f5 : wr.cell? ⟨w.heap.size, 5, none⟩ = some (.int .u32 (nth st 5)) := hi.h.cell 5 (by omega)
          have f6 : wr.cell? ⟨w.heap.size, 6, none⟩ = some (.int .u32 (nth st 6)) := hi.h.cell 6 (by omega)
          have f7 : wr.cell? ⟨w.heap.size, 7, none⟩ = some (.int .u32 (nth st 7)) := hi.h.cell 7 (by omega)
          obtain ⟨ws, hws⟩ : ∃ ws, ws = fill2 (fill1 (bytesOf s) 16) 48 := ⟨_, rfl⟩
          rw [← hws] at ha hl48 hs48
          have HWS := Lib.hid hws
          have HII := Lib.hid hi
          have HA := Lib.hid ha
          clear hws hi ha
          have hT : w.heap.size + 2 < wr.heap.size := by have := HA.out.lt; omega
          have hAT : Arr .u32 (wr.alloc (.cells #[.int .u32 (nth st 0), .int .u32 (nth st 1), .int .u32 (nth st 2), .int .u32 (nth st 3), .int .u32 (nth st 4), .int .u32 (nth st 5), .int .u32 (nth st 6), .int .u32 (nth st 7)] 32)) wr.heap.size 32 (St.of st).list := by
            show (World.alloc _ _).heap[wr.heap.size]? = _
            rw [heap_alloc_new]
            rfl
          have HA' := HA.out.alloc (.cells #[.int .u32 (nth st 0), .int .u32 (nth st 1), .int .u32 (nth st 2), .int .u32 (nth st 3), .int .u32 (nth st 4), .int .u32 (nth st 5), .int .u32 (nth st 6), .int .u32 (nth st 7)] 32)
          have HI' := HII.out.alloc (.cells #[.int .u32 (nth st 0), .int .u32 (nth st 1), .int .u32 (nth st 2), .int .u32 (nth st 3), .int .u32 (nth st 4), .int .u32 (nth st 5), .int .u32 (nth st 6), .int .u32 (nth st 7)] 32)
          have h3T : w.heap.size + 1 + 1 + 1 < wr.heap.size := HA.out.lt
          obtain ⟨T, hTe⟩ : ∃ T, T = wr.heap.size := ⟨_, rfl⟩
          rw [← hTe] at hT hAT h3T
          have HTE := Lib.hid hTe
          clear hTe HA HII
          go_wp2
          rw [← HTE.out]
          clear f0 f1 f2 f3 f4 f5 f6 f7 HTE
          generalize wr.alloc (.cells #[.int .u32 (nth st 0), .int .u32 (nth st 1), .int .u32 (nth st 2), .int .u32 (nth st 3), .int .u32 (nth st 4), .int .u32 (nth st 5), .int .u32 (nth st 6), .int .u32 (nth st 7)] 32) = W4 at *
          go_loopw [13] (fun vi wq => ∃ n : Nat, n ≤ 64 ∧ vi = .int .i64 n ∧ Arr .u32 wq T 32 (St.steps consts ws (St.of st) n).list ∧ Arr .u32 wq (w.heap.size + 1 + 1 + 1) 39 ws ∧ MixInv w wq st) (fun vi _ => 64 - (intOf vi).toNat)
          case atStart => exact ⟨0, by omega, rfl, hAT, HA', HI'⟩
          case round =>
            clear hAT HA' HI'
            obtain ⟨n, hn, rfl, hAT, ha, hi⟩ := hrel
            have hok := St.steps_ok (St.of_ok hss) consts ws n
            have HN : Hid (St.steps consts ws (St.of st) (n + 1) = (St.steps consts ws (St.of st) n).step (nth consts n) (nth ws n)) := rfl
            by_cases hlt : n < 64
            · obtain ⟨s', hs'⟩ : ∃ s', s' = St.steps consts ws (St.of st) n := ⟨_, rfl⟩
              rw [← hs'] at hok HN hAT
              clear hs'
              have HT := Lib.hid hAT
              have HA := Lib.hid ha
              have HII := Lib.hid hi
              clear hAT ha hi
              have n0 : (0 : Int) ≤ (n : Int) := by omega
              have n1 : (n : Int) < 64 := by omega
              have n2 : (n : Int).toNat = n := by omega
              have c6 : ∀ w, Calls Tryd.prog 19 #[.int .u32 s'.e, .int .u64 6] w fun e w' => e = .returned (.int .u32 (rotr s'.e 6)) ∧ w' = w := fun w => turn_calls _ 6 6 w rfl (by decide) (by decide) hok.e.1 hok.e.2
              have c11 : ∀ w, Calls Tryd.prog 19 #[.int .u32 s'.e, .int .u64 11] w fun e w' => e = .returned (.int .u32 (rotr s'.e 11)) ∧ w' = w := fun w => turn_calls _ 11 11 w rfl (by decide) (by decide) hok.e.1 hok.e.2
              have c25 : ∀ w, Calls Tryd.prog 19 #[.int .u32 s'.e, .int .u64 25] w fun e w' => e = .returned (.int .u32 (rotr s'.e 25)) ∧ w' = w := fun w => turn_calls _ 25 25 w rfl (by decide) (by decide) hok.e.1 hok.e.2
              have c2 : ∀ w, Calls Tryd.prog 19 #[.int .u32 s'.a, .int .u64 2] w fun e w' => e = .returned (.int .u32 (rotr s'.a 2)) ∧ w' = w := fun w => turn_calls _ 2 2 w rfl (by decide) (by decide) hok.a.1 hok.a.2
              have c13 : ∀ w, Calls Tryd.prog 19 #[.int .u32 s'.a, .int .u64 13] w fun e w' => e = .returned (.int .u32 (rotr s'.a 13)) ∧ w' = w := fun w => turn_calls _ 13 13 w rfl (by decide) (by decide) hok.a.1 hok.a.2
              have c22 : ∀ w, Calls Tryd.prog 19 #[.int .u32 s'.a, .int .u64 22] w fun e w' => e = .returned (.int .u32 (rotr s'.a 22)) ∧ w' = w := fun w => turn_calls _ 22 22 w rfl (by decide) (by decide) hok.a.1 hok.a.2
              have H6 := Lib.hid c6
              have H11 := Lib.hid c11
              have H25 := Lib.hid c25
              have H2 := Lib.hid c2
              have H13 := Lib.hid c13
              have H22 := Lib.hid c22
              clear c6 c11 c25 c2 c13 c22
              obtain ⟨g0, g1, g2, g3, g4, g5, g6, g7⟩ := cells8 HT.out
              go_wp2_with fail
              go_quiet ((first | (with_reducible exact Calls.quiet_of_same (H6.out _)) | (with_reducible exact Calls.quiet_of_same (H11.out _)) | (with_reducible exact Calls.quiet_of_same (H25.out _))))
              clear g0 g1 g2 g3 g4 g5 g6 g7
              replace HT : Hid (Arr .u32 (wr.drewN nq) T 32 s'.list) := Lib.hid (HT.out.drewN nq)
              replace HA : Hid (Arr .u32 (wr.drewN nq) (w.heap.size + 1 + 1 + 1) 39 ws) := Lib.hid (HA.out.drewN nq)
              replace HII : Hid (MixInv w (wr.drewN nq) st) := Lib.hid (HII.out.drewN nq)
              generalize wr.drewN nq = W5 at *
              clear nq
              obtain ⟨g0, g1, g2, g3, g4, g5, g6, g7⟩ := cells8 HT.out
              have ek : W5.cell? ⟨w.heap.size + 1, n, none⟩ = some (.int .u32 (nth consts n)) := HII.out.k.cell n hlt
              have ew : W5.cell? ⟨w.heap.size + 1 + 1 + 1, n, none⟩ = some (.int .u32 (nth ws n)) := HA.out.cell n (by omega)
              go_wp2_with fail
              go_quiet (fail)
              clear g0 g1 g2 g3 g4 g5 g6 g7 ek ew
              replace HT : Hid (Arr .u32 (W5.drewN nq) T 32 s'.list) := Lib.hid (HT.out.drewN nq)
              replace HA : Hid (Arr .u32 (W5.drewN nq) (w.heap.size + 1 + 1 + 1) 39 ws) := Lib.hid (HA.out.drewN nq)
              replace HII : Hid (MixInv w (W5.drewN nq) st) := Lib.hid (HII.out.drewN nq)
              generalize W5.drewN nq = W6 at *
              clear nq
              obtain ⟨g0, g1, g2, g3, g4, g5, g6, g7⟩ := cells8 HT.out
              go_wp2_with fail
              go_quiet ((first | (with_reducible exact Calls.quiet_of_same (H2.out _)) | (with_reducible exact Calls.quiet_of_same (H13.out _)) | (with_reducible exact Calls.quiet_of_same (H22.out _))))
              clear g0 g1 g2 g3 g4 g5 g6 g7
              replace HT : Hid (Arr .u32 (W6.drewN nq) T 32 s'.list) := Lib.hid (HT.out.drewN nq)
              replace HA : Hid (Arr .u32 (W6.drewN nq) (w.heap.size + 1 + 1 + 1) 39 ws) := Lib.hid (HA.out.drewN nq)
              replace HII : Hid (MixInv w (W6.drewN nq) st) := Lib.hid (HII.out.drewN nq)
              generalize W6.drewN nq = W7 at *
              clear nq
              obtain ⟨g0, g1, g2, g3, g4, g5, g6, g7⟩ := cells8 HT.out
              obtain ⟨r0, r1, r2, r3, r4, r5, r6, r7⟩ := frozen8 HT.out
              go_wp2_with fail
              go_roundw
              case rel =>
                refine ⟨n + 1, by omega, by go_num, ?_, other8 HA.out (by omega) _ _ _ _ _ _ _ _, HII.out.set8 hT _ _ _ _ _ _ _ _⟩
                rw [HN.out, step_list]
                exact set8 HT.out rfl _ _ _ _ _ _ _ _
              case measure => simp [intOf]; omega
            · obtain rfl : n = 64 := by omega
              rw [show ((64 : Nat) : Int) = (64 : Int) from rfl]
              have HB : Hid (blockF st (bytesOf s) = addTo st (St.steps consts ws (St.of st) 64).list 8) := by
                unfold blockF
                rw [← HWS.out]
                rfl
              obtain ⟨xs, hxs⟩ : ∃ xs, xs = (St.steps consts ws (St.of st) 64).list := ⟨_, rfl⟩
              have hxl : xs.length = 8 := by rw [hxs]; rfl
              rw [← hxs] at HB hAT
              clear hxs HN hn hlt hok ha
              obtain ⟨hh, hk0, hr0, hg0⟩ := hi
              have HH := Lib.hid hh
              have HR := Lib.hid hr0
              have HGG := Lib.hid hg0
              have HAT := Lib.hid hAT
              clear hh hk0 hr0 hg0 hAT
              go_wp2
              go_loopw [20] (fun vi wq => ∃ k : Nat, k ≤ 8 ∧ vi = .int .i64 k ∧ Arr .u32 wq w.heap.size 32 (addTo st xs k) ∧ Arr .u32 wq T 32 xs ∧ Arr .u32 wq (w.heap.size + 1 + 1) 32 (List.replicate 8 0) ∧ w.grownBy wq none) (fun vi _ => 8 - (intOf vi).toNat)
              case atStart => exact ⟨0, by omega, rfl, HH.out, HAT.out, HR.out, HGG.out⟩
              case round =>
                clear HH HR HGG HAT
                obtain ⟨k, hk, rfl, hA, hL, hR0, hg2⟩ := hrel
                by_cases hlt : k < 8
                · have HN : Hid (addTo st xs (k + 1) = (addTo st xs k).set k ((nth (addTo st xs k) k + nth xs k) % 4294967296)) := rfl
                  have hln : (addTo st xs k).length = 8 := by rw [addTo_len, hs8]
                  obtain ⟨ys, hys⟩ : ∃ ys, ys = addTo st xs k := ⟨_, rfl⟩
                  rw [← hys] at hA HN hln
                  clear hys
                  have c0 : wr.cell? ⟨w.heap.size, k, none⟩ = some (.int .u32 (nth ys k)) := hA.cell k (by omega)
                  have c1 : wr.cell? ⟨T, k, none⟩ = some (.int .u32 (nth xs k)) := hL.cell k (by omega)
                  have fr := hA.frozen k
                  have HA := Lib.hid hA
                  have HL := Lib.hid hL
                  have HR0 := Lib.hid hR0
                  clear hA hL hR0
                  have n0 : (0 : Int) ≤ (k : Int) := by omega
                  have n1 : (k : Int) < 8 := by omega
                  have n2 : (k : Int).toNat = k := by omega
                  go_wp2
                  go_still_tail 9, (by kernel_rfl)
                  go_wp2
                  go_roundw
                  case rel =>
                    refine ⟨k + 1, by omega, by go_num, ?_, Arr.drew (HL.out.other (by simp; omega) _), Arr.drew (HR0.out.other (by simp; omega) _), gb_drew (gb_set hg2 (.inl (Nat.le_refl _)) _)⟩
                    rw [HN.out]
                    exact Arr.drew (HA.out.set _ _)
                  case measure => simp [intOf]; omega
                · obtain rfl : k = 8 := by omega
                  rw [← HB.out] at hA
                  have hbl : (blockF st (bytesOf s)).length = 8 := by rw [blockF_len, hs8]
                  clear hL hk hlt
                  obtain ⟨bl, hbl2⟩ : ∃ bl, bl = blockF st (bytesOf s) := ⟨_, rfl⟩
                  rw [← hbl2] at hA hbl
                  have HBL2 := Lib.hid hbl2
                  clear hbl2
                  obtain ⟨g0, g1, g2, g3, g4, g5, g6, g7⟩ := cells8' hA hbl
                  obtain ⟨z0, z1, z2, z3, z4, z5, z6, z7⟩ := cells8' hR0 (by simp)
                  obtain ⟨r0, r1, r2, r3, r4, r5, r6, r7⟩ := frozen8 hR0
                  have HA := Lib.hid hA
                  have HR0 := Lib.hid hR0
                  have HG2 := Lib.hid hg2
                  clear hA hR0 hg2
                  go_wp2
                  have hfin := set8 HR0.out (by simp) (nth bl 0) (nth bl 1) (nth bl 2) (nth bl 3) (nth bl 4) (nth bl 5) (nth bl 6) (nth bl 7)
                  have hgf : w.grownBy ((((((((wr.setCell ⟨w.heap.size + 1 + 1, 0, none⟩ (.int .u32 (nth bl 0))).setCell ⟨w.heap.size + 1 + 1, 1, none⟩ (.int .u32 (nth bl 1))).setCell ⟨w.heap.size + 1 + 1, 2, none⟩ (.int .u32 (nth bl 2))).setCell ⟨w.heap.size + 1 + 1, 3, none⟩ (.int .u32 (nth bl 3))).setCell ⟨w.heap.size + 1 + 1, 4, none⟩ (.int .u32 (nth bl 4))).setCell ⟨w.heap.size + 1 + 1, 5, none⟩ (.int .u32 (nth bl 5))).setCell ⟨w.heap.size + 1 + 1, 6, none⟩ (.int .u32 (nth bl 6))).setCell ⟨w.heap.size + 1 + 1, 7, none⟩ (.int .u32 (nth bl 7))) none := gb8 HG2.out (by omega) _ _ _ _ _ _ _ _
                  rw [list8 bl hbl] at hfin
                  have hsz : (Tryd.prog.info? 32).map (·.size) = some (nums .u32 bl).toArray.size := by
                    have e1 : (Tryd.prog.info? 32).map (·.size) = some 8 := by kernel_rfl
                    rw [e1]; simp [nums, hbl]
                  refine bodyPost_ret (v := .agg (nums .u32 bl).toArray) (results_cell_row Tryd.results17 _ _ (w.heap.size + 1 + 1) 32 (nums .u32 bl).toArray (0, 0) _ rfl hfin Tryd.underlying32 rfl hsz) rfl ⟨?_, ?_⟩
                  · rw [HBL2.out]
                  · exact gb_to_below hgf
end Go.Proofs.YtjhmdijmnnobhaaDoor
