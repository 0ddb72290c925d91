/- Hand-written contracts of the Go functions that the statement reaches, and the plain laws over them. -/
import Derived.Test.YtjhmdijmnnobhaaDoorHSize
set_option linter.unusedVariables false
set_option linter.unusedSimpArgs false
namespace Go.Proofs.YtjhmdijmnnobhaaDoor
open Go.RowKit
/-- How many zero bytes are put behind n bytes and the mark. -/
def zpad (n : Nat) : Nat := (119 - n % 64) % 64
theorem zpad_end (n : Nat) : (n + 1 + zpad n) % 64 = 56 := by unfold zpad; omega
theorem zpad_mid (n j : Nat) (h : j < zpad n) : (n + 1 + j) % 64 ≠ 56 := by unfold zpad at h; omega
theorem zpad_lt (n : Nat) : zpad n < 64 := by unfold zpad; omega
def padded (s : List Int) : List Int := s ++ [128] ++ List.replicate (zpad s.length) 0 ++ be8 (s.length * 8 : Nat)
theorem padded_len (s : List Int) : (padded s).length = s.length + 1 + zpad s.length + 8 := by
  simp [padded, be8, fill8_len]
  omega
theorem padded_64 (s : List Int) : (padded s).length = 64 * ((padded s).length / 64) := by
  have h := padded_len s
  have := zpad_end s.length
  omega
def init8 : List Int := [1779033703, 3144134277, 1013904242, 2773480762, 1359893119, 2600822924, 528734635, 1541459225]
def blk (d : List Int) : Nat → List Int
  | 0 => init8
  | k + 1 => blockF (blk d k) ((d.drop (64 * k)).take 64)
def out4 (x : Int) : List Int := [x / 16777216 % 256, x / 65536 % 256, x / 256 % 256, x % 256]
def outs (st : List Int) : Nat → List Int
  | 0 => []
  | k + 1 => outs st k ++ out4 (nth st k)
/-- SHA-256. -/
def digestF (s : List Int) : List Int := outs (blk (padded s) ((padded s).length / 64)) 8
theorem init8_small : Smalls init8 := by
  intro i
  unfold nth init8
  match i with
  | 0 | 1 | 2 | 3 | 4 | 5 | 6 | 7 => exact ⟨by decide, by decide⟩
  | n + 8 => exact ⟨by simp, by simp⟩
theorem blk_len (d : List Int) (k : Nat) : (blk d k).length = 8 := by
  induction k with
  | zero => rfl
  | succ k ih => rw [blk, blockF_len, ih]
theorem blk_small (d : List Int) (k : Nat) : Smalls (blk d k) := by
  induction k with
  | zero => exact init8_small
  | succ k ih => rw [blk]; exact blockF_small ih _
theorem byteAt_byte (n : Int) (k : Nat) : 0 ≤ byteAt n k ∧ byteAt n k ≤ 255 := by unfold byteAt; omega
theorem isBytes_set {l : List Int} (h : IsBytes l) (k : Nat) {v : Int} (hv : 0 ≤ v ∧ v ≤ 255) : IsBytes (l.set k v) := by
  intro x hx
  rcases List.mem_or_eq_of_mem_set hx with hx | rfl
  · exact h x hx
  · exact hv
theorem fill8_bytes (n : Int) (k : Nat) : IsBytes (fill8 n k) := by
  induction k with
  | zero => intro x hx; have := List.eq_of_mem_replicate hx; omega
  | succ k ih => exact isBytes_set ih _ (byteAt_byte n k)
theorem isBytes_append {l m : List Int} (h : IsBytes l) (h2 : IsBytes m) : IsBytes (l ++ m) := by
  intro x hx
  rcases List.mem_append.1 hx with hx | hx
  · exact h x hx
  · exact h2 x hx
theorem padded_bytes {s : List Int} (h : IsBytes s) : IsBytes (padded s) := by
  unfold padded
  refine isBytes_append (isBytes_append (isBytes_append h ?_) ?_) (fill8_bytes _ _)
  · intro x hx; simp at hx; omega
  · intro x hx; have := List.eq_of_mem_replicate hx; omega
theorem out4_bytes (x : Int) : IsBytes (out4 x) := by
  intro y hy
  simp [out4] at hy
  omega
theorem outs_bytes (st : List Int) (k : Nat) : IsBytes (outs st k) := by
  induction k with
  | zero => intro x hx; cases hx
  | succ k ih => exact isBytes_append ih (out4_bytes _)
theorem outs_len (st : List Int) (k : Nat) : (outs st k).length = 4 * k := by
  induction k with
  | zero => rfl
  | succ k ih => rw [outs, List.length_append, ih]; rfl
def lenV : Value → Nat | .slice _ n _ => n | _ => 0
theorem info5 : (Tryd.prog.info? 5).map (fun i => (i.zero, i.size, i.bytes)) = some (some (.int .u8 0), 1, 1) := by kernel_rfl
theorem repl_snoc (j : Nat) : List.replicate j (0 : Int) ++ [0] = List.replicate (j + 1) 0 := (List.replicate_succ').symm
theorem OwnC.lower {k : IntKind} {base base' : Nat} {w : World} {v : Value} {xs : List Int} (h : OwnC k base w v xs) (hb : base' ≤ base) : OwnC k base' w v xs := by
  rcases h with h | ⟨g, cap, rfl, h1, h⟩
  · exact .inl h
  · exact .inr ⟨g, cap, rfl, by omega, h⟩
theorem one_cell (w : World) (k : IntKind) (x : Int) (e : Nat) : ∀ j, j < [x].length → (w.alloc (.cells #[.int k x] e)).cell? ((⟨w.heap.size, 0, none⟩ : Addr).add j) = some (.int k (nth [x] j)) := by
  intro j hj
  obtain rfl : j = 0 := by simp at hj; omega
  rw [add_zero']
  simp [nth, World.cell?_alloc_mark]
theorem below_none {w w1 w2 : World} {row : Option Nat} (h : w.grownBy w1 none) (h2 : w1.grownBy w2 row) (hr : ∀ k, row = some k → w.heap.size ≤ k) : w.grownBy w2 none :=
  ⟨h2.os.trans h.os, h2.tape.trans h.tape, h2.output.trans h.output, Nat.le_trans h.size h2.size, fun k hk _ => (h2.block k (by have := h.size; omega) (fun e => by have := hr k e.symm; omega)).trans (h.block k hk (by simp))⟩
theorem OwnC.ne {k : IntKind} {S : Nat} {w : World} {v : Value} {xs : List Int} (h : OwnC k (S + 1) w v xs) : some S ≠ v.ownBlock := by
  intro e
  have := (h.lt S e.symm).1
  omega
theorem idx8 (x0 x1 x2 x3 x4 x5 x6 x7 : Int) (k : Nat) (hk : k < 8) (w : World) :
    Sem.run Tryd.prog (Instr.index 32 (.agg #[.int .u32 x0, .int .u32 x1, .int .u32 x2, .int .u32 x3, .int .u32 x4, .int .u32 x5, .int .u32 x6, .int .u32 x7]) (.int .i64 (k : Int))) w = .ok (.int .u32 (nth [x0, x1, x2, x3, x4, x5, x6, x7] k)) w := by
  obtain rfl | rfl | rfl | rfl | rfl | rfl | rfl | rfl : k = 0 ∨ k = 1 ∨ k = 2 ∨ k = 3 ∨ k = 4 ∨ k = 5 ∨ k = 6 ∨ k = 7 := by omega
  · kernel_rfl
  · kernel_rfl
  · kernel_rfl
  · kernel_rfl
  · kernel_rfl
  · kernel_rfl
  · kernel_rfl
  · kernel_rfl
theorem list8 (l : List Int) (h : l.length = 8) : [nth l 0, nth l 1, nth l 2, nth l 3, nth l 4, nth l 5, nth l 6, nth l 7] = l := by
  match l, h with
  | [a, b, c, d, e, f, g, i], _ => rfl
theorem four_cells (w : World) (k : IntKind) (a b c d : Int) (e : Nat) : ∀ j, j < [a, b, c, d].length → (w.alloc (.cells #[.int k a, .int k b, .int k c, .int k d] e)).cell? ((⟨w.heap.size, 0, none⟩ : Addr).add j) = some (.int k (nth [a, b, c, d] j)) := by
  intro j hj
  rw [add_zero']
  rw [World.cell?_alloc_mark]
  match j, hj with
  | 0, _ => rfl
  | 1, _ => rfl
  | 2, _ => rfl
  | 3, _ => rfl
theorem out4_small {x : Int} (h : Small x) : out4 x = [x / 16777216, x / 65536 % 256, x / 256 % 256, x % 256] := by
  have h0 := h.1
  have h1 := h.2
  unfold out4
  rw [show x / 16777216 % 256 = x / 16777216 by omega]
def DigPost (w : World) (s : ByteArray) (e : Ending) (w' : World) : Prop := e = .returned (.string (strOfNums (digestF (bytesOf s)))) ∧ Below w.heap.size w w'
/-- The world in which the state lies and the text's bytes do. -/
theorem dig_start (w : World) (s : ByteArray) (hs : s.size ≤ 1000000000000) :
    ∃ (W1 : World) (c1 : Nat), (∀ w1 : World, w1 = w.alloc (.cells #[.int .u32 1779033703, .int .u32 3144134277, .int .u32 1013904242, .int .u32 2773480762, .int .u32 1359893119, .int .u32 2600822924, .int .u32 528734635, .int .u32 1541459225] 32) →
        Sem.run Tryd.prog (convert 9 33 (.string s)) w1 = .ok (.slice (some ⟨w.heap.size + 1, 0, none⟩) s.size c1) W1) ∧
      OwnC .u8 (w.heap.size + 1) W1 (.slice (some ⟨w.heap.size + 1, 0, none⟩) s.size c1) (bytesOf s) ∧ Arr .u32 W1 w.heap.size 32 init8 ∧ w.grownBy W1 none ∧ w.heap.size + 1 < W1.heap.size := by
  have hsz : (w.alloc (.cells #[.int .u32 1779033703, .int .u32 3144134277, .int .u32 1013904242, .int .u32 2773480762, .int .u32 1359893119, .int .u32 2600822924, .int .u32 528734635, .int .u32 1541459225] 32)).heap.size = w.heap.size + 1 := by simp
  have ha : Arr .u32 (w.alloc (.cells #[.int .u32 1779033703, .int .u32 3144134277, .int .u32 1013904242, .int .u32 2773480762, .int .u32 1359893119, .int .u32 2600822924, .int .u32 528734635, .int .u32 1541459225] 32)) w.heap.size 32 init8 := by
    show (World.alloc _ _).heap[w.heap.size]? = _
    rw [heap_alloc_new]
    rfl
  have hga := gb_alloc (gb_refl w none) (.cells #[.int .u32 1779033703, .int .u32 3144134277, .int .u32 1013904242, .int .u32 2773480762, .int .u32 1359893119, .int .u32 2600822924, .int .u32 528734635, .int .u32 1541459225] 32)
  generalize w.alloc (.cells #[.int .u32 1779033703, .int .u32 3144134277, .int .u32 1013904242, .int .u32 2773480762, .int .u32 1359893119, .int .u32 2600822924, .int .u32 528734635, .int .u32 1541459225] 32) = w0 at *
  have h := own_bytes w0 5 s (by simp only [maxLen]; omega)
  refine ⟨Lib.bytesWorld w0 5 s, grownCap w0 s.size 0 5, ?_, ?_, ?_, ?_, ?_⟩
  · rintro w1 rfl
    have := Lib.run_convert_string_bytes (P := Tryd.prog) w1 9 33 5 s Tryd.underlying9 Tryd.underlying33 Tryd.underlying5
    rw [hsz] at this
    exact this
  · rw [← hsz]
    exact h.1
  · exact ha.grown h.2 (by simp)
  · exact gb_trans hga h.2
  · rw [Lib.bytesWorld_size]; omega
set_option maxHeartbeats 8000000 in
set_option maxRecDepth 100000 in
theorem digest_calls (s : ByteArray) (w : World) (hs : s.size ≤ 1000000000000) (hR : ∀ j, j < 64 → w.cell? ⟨0, j, none⟩ = some (.int .u32 (nth consts j))) :
    Calls Tryd.prog 5 #[.string s] w fun e w' => DigPost w s e w' := by
  obtain ⟨W1, c1, hconv0, hown0, hA0, hg0, hsz0⟩ := dig_start w s hs
  have hconv := hconv0 _ rfl
  clear hconv0
  have hbl := bytesOf_length s
  have HBL := Lib.hid hbl
  clear hbl
  go_enter Tryd.func5, Tryd.ntmps5
  go_wp2_with (at_builtin; refine wpl_append (P := Tryd.prog) rfl (.tmp 10) (.tmp 11) 33 33 rfl 5 1 Tryd.underlying33 info5 (base := w.heap.size + 1) (.slice (some ⟨w.heap.size + 1, 0, none⟩) s.size c1) (bytesOf s) rfl (hown0.alloc _) _ rfl [128] (src_nums Tryd.underlying33 _ 1 [128] _ (one_cell _ .u8 128 5)) (by rw [HBL.out]; simp; omega) (by rw [HBL.out]; simp; omega) (by simp; omega) ?_; intro v1 w1 hown1 hg1 hk1)
  have hg1' : w.grownBy w1 none := below_none (gb_alloc hg0 _) hg1 (fun k hk => by have := (hown0.lt k hk).1; omega)
  have hA1 : Arr .u32 w1 w.heap.size 32 init8 := (hA0.alloc _).grown hg1 hown0.ne
  have hs1 : w.heap.size + 1 < w1.heap.size := by have := hg1.size; simp at this; omega
  clear hown0 hA0 hg0 hsz0 hconv hg1 hk1
  go_loopw [4] (fun v wr => ∃ j, j ≤ zpad s.size ∧ OwnC .u8 (w.heap.size + 1) wr v (bytesOf s ++ [128] ++ List.replicate j 0) ∧ Arr .u32 wr w.heap.size 32 init8 ∧ w.grownBy wr none ∧ w.heap.size + 1 < wr.heap.size) (fun v _ => s.size + 65 - lenV v)
  case atStart => exact ⟨0, by omega, by simpa using hown1, hA1, hg1', hs1⟩
  case round =>
    clear hown1 hA1 hg1' hs1
    obtain ⟨j, hj, hown, hA, hg, hsz⟩ := hrel
    have hln : (bytesOf s ++ [128] ++ List.replicate j 0).length = s.size + 1 + j := by
      simp [HBL.out]
      omega
    have HLN := Lib.hid hln
    obtain ⟨A, c, rfl⟩ := hown.slice
    rw [hln] at hown ⊢
    clear hln
    have hz := zpad_lt s.size
    by_cases hlt : j < zpad s.size
    · have hne := zpad_mid s.size j hlt
      have t1 : (((s.size + 1 + j : Nat) : Int) % 64 != 56) = true := by rw [bne_iff_ne]; omega
      have HT := Lib.hid hne
      clear hne
      go_wp2_with (at_builtin; refine wpl_append (P := Tryd.prog) rfl (.tmp 17) (.tmp 18) 33 33 rfl 5 1 Tryd.underlying33 info5 (base := w.heap.size + 1) (.slice A (s.size + 1 + j) c) (bytesOf s ++ [128] ++ List.replicate j 0) rfl (hown.alloc _) _ rfl [0] (src_nums Tryd.underlying33 _ 1 [0] _ (one_cell _ .u8 0 5)) (by rw [HLN.out]; simp; omega) (by rw [HLN.out]; simp; omega) (by simp; omega) ?_; intro v2 w2 hown2 hg2 hk2)
      have hg2' : w.grownBy w2 none := below_none (gb_alloc hg _) hg2 (fun k hk => by have := (hown.lt k hk).1; omega)
      have hA2 : Arr .u32 w2 w.heap.size 32 init8 := (hA.alloc _).grown hg2 hown.ne
      have hs2 : w.heap.size + 1 < w2.heap.size := by have := hg2.size; simp at this; omega
      have hl2 : lenV v2 = s.size + 1 + j + 1 := by
        obtain ⟨A', c', rfl⟩ := hown2.slice
        rw [List.length_append, HLN.out]
        rfl
      rw [List.append_assoc, repl_snoc] at hown2
      clear hown hA hg hg2 hk2
      go_roundw
      case rel => exact ⟨j + 1, by omega, hown2, hA2, hg2', hs2⟩
      case measure => rw [hl2]; simp [lenV]; omega
    · obtain rfl : j = zpad s.size := by omega
      have hne := zpad_end s.size
      have t1 : (((s.size + 1 + zpad s.size : Nat) : Int) % 64 != 56) = false := by rw [bne_eq_false_iff_eq]; omega
      have HT := Lib.hid hne
      clear hne
      go_wp2_with fail
      refine (size_calls ((s.size : Int) * 8) _ (by omega) (by omega)).mono ?_
      rintro e w2 ⟨B, rfl, hB, hAB, hgB⟩
      have hlb : (be8 ((s.size : Int) * 8)).length = 8 := fill8_len _ 8
      have hown2 := hown.grown hgB (by simp)
      have hA2 := hA.grown hgB (by simp)
      have hg2 := gb_trans hg hgB
      have hs2 : w.heap.size + 1 < w2.heap.size := by have := hgB.size; omega
      clear hown hA hg hgB hsz
      have hsrc : Src Tryd.prog 1 33 (.slice (some ⟨B, 0, none⟩) 8 8) (be8 ((s.size : Int) * 8)).length (nums .u8 (be8 ((s.size : Int) * 8))) w2 := by
        have h := src_nums (P := Tryd.prog) (k := .u8) Tryd.underlying33 ⟨B, 0, none⟩ 8 (be8 ((s.size : Int) * 8)) w2 (fun j hj => by rw [add_zero']; exact hAB.cell j hj)
        rw [hlb] at h ⊢
        exact h
      clear hAB
      have HLB := Lib.hid hlb
      clear hlb
      go_wp2_with (at_builtin; refine wpl_append (P := Tryd.prog) rfl (.tmp 20) (.tmp 24) 33 33 rfl 5 1 Tryd.underlying33 info5 (base := w.heap.size + 1) (.slice A (s.size + 1 + zpad s.size) c) (bytesOf s ++ [128] ++ List.replicate (zpad s.size) 0) rfl hown2 _ rfl (be8 ((s.size : Int) * 8)) hsrc (by rw [HLN.out, HLB.out]; omega) (by rw [HLN.out, HLB.out]; omega) (by omega) ?_; intro v3 w3 hown3 hg3 hk3)
      have hg3' : w.grownBy w3 none := below_none hg2 hg3 (fun k hk => by have := (hown2.lt k hk).1; omega)
      have hA3 : Arr .u32 w3 w.heap.size 32 init8 := hA2.grown hg3 hown2.ne
      have hs3 : w.heap.size + 1 < w3.heap.size := by have := hg3.size; omega
      have hpd : bytesOf s ++ [128] ++ List.replicate (zpad s.size) 0 ++ be8 ((s.size : Int) * 8) = padded (bytesOf s) := by
        unfold padded
        rw [HBL.out]
        simp
      rw [hpd] at hown3
      clear hpd hown2 hA2 hg2 hg3 hk3 hs2 hsrc
      have h64 := padded_64 (bytesOf s)
      have hby := padded_bytes (bytesOf_isBytes s)
      obtain ⟨d, hd⟩ : ∃ d, d = padded (bytesOf s) := ⟨_, rfl⟩
      obtain ⟨m, hm⟩ : ∃ m, m = (padded (bytesOf s)).length / 64 := ⟨_, rfl⟩
      have HDF : Hid (digestF (bytesOf s) = outs (blk d m) 8) := by rw [hd, hm]; rfl
      rw [← hm] at h64
      rw [← hd] at hown3 h64 hby
      have hml : m ≤ 17000000000 := by
        have := padded_len (bytesOf s)
        rw [HBL.out] at this
        omega
      have hd8 : 8 ≤ (padded (bytesOf s)).length := by rw [padded_len]; omega
      rw [← hd] at hd8
      have H64 := Lib.hid h64
      clear hd hm h64 t1 HT HLN HLB hlt hj
      obtain ⟨g, cap, rfl, hSg, hgw, hlc, hcm, hcell⟩ : ∃ g cap, v3 = .slice (some ⟨g, 0, none⟩) (64 * m) cap ∧ w.heap.size + 1 ≤ g ∧ g < w3.heap.size ∧ 64 * m ≤ cap ∧ cap ≤ maxLen ∧ (∀ j, j < 64 * m → w3.cell? ⟨g, j, none⟩ = some (.int .u8 (nth d j))) := by
        rcases hown3 with ⟨_, rfl⟩ | ⟨g, cap, rfl, h1, h2, h3, h4, h5, _⟩
        · have := H64.out
          simp at hd8
        · rw [← H64.out]
          exact ⟨g, cap, rfl, h1, h2, h3, h4, h5⟩
      clear hown3 hgw hs3
      obtain ⟨hcap⟩ : Nonempty (64 * m ≤ cap) := ⟨hlc⟩
      go_loopw [4] (fun v wr => ∃ (k q : Nat) (A' : Option Addr) (c' : Nat), k + q = m ∧ v = .slice A' (64 * q) c' ∧ (0 < q → A' = some ⟨g, 64 * k, none⟩ ∧ c' = cap - 64 * k) ∧ (∀ j, j < 64 * m → wr.cell? ⟨g, j, none⟩ = some (.int .u8 (nth d j)))
        ∧ Arr .u32 wr w.heap.size 32 (blk d k) ∧ w.grownBy wr none) (fun v _ => lenV v)
      case atStart => exact ⟨0, m, _, _, by omega, rfl, fun _ => ⟨by simp, by simp⟩, hcell, hA3, hg3'⟩
      case round =>
        clear hcell hA3 hg3'
        obtain ⟨k, q, A', c', hkq, rfl, hq, hcell, hA, hg⟩ := hrel
        by_cases hlt : 0 < q
        · obtain ⟨rfl, rfl⟩ := hq hlt
          obtain ⟨p, rfl⟩ : ∃ p, q = p + 1 := ⟨q - 1, by omega⟩
          have HKQ := Lib.hid hkq
          have n0 : (0 : Int) < ((64 * (p + 1) : Nat) : Int) := by omega
          have n1 : 64 ≤ cap - 64 * k := by omega
          have n2 : 64 ≤ 64 * (p + 1) := by omega
          have n3 : (64 : Int) ≤ ((64 * (p + 1) : Nat) : Int) := by omega
          have n4 : (64 : Int) ≤ ((cap - 64 * k : Nat) : Int) := by omega
          clear hkq hq
          obtain ⟨cc, hcc⟩ : ∃ cc, cc = cap - 64 * k := ⟨_, rfl⟩
          rw [← hcc] at n1 n4 ⊢
          have HCC := Lib.hid hcc
          clear hcc
          have hln8 := blk_len d k
          have hsm8 := blk_small d k
          have HN : Hid (blk d (k + 1) = blockF (blk d k) ((d.drop (64 * k)).take 64)) := rfl
          obtain ⟨st, hst⟩ : ∃ st, st = blk d k := ⟨_, rfl⟩
          rw [← hst] at hA hln8 hsm8 HN
          clear hst
          have hS0 := hA.lt
          have hblk := block_calls w.heap.size wr g (64 * k) cc st ((d.drop (64 * k)).take 64) hA hln8 (by have h1 := H64.out; have h2 := HKQ.out; rw [List.length_take, List.length_drop, h1, ← h2]; omega)
            (fun j hj => by rw [nth_take hj, nth_drop]; exact hcell _ (by have := HKQ.out; omega)) (World.block_lt_of_cell? wr _ (hcell (64 * k) (by have := HKQ.out; omega)))
            (fun j => by
              by_cases hj : j < 64
              · rw [nth_take hj]; rw [nth_drop]; exact hby.nth _
              · unfold nth; rw [List.getD_eq_getElem?_getD, List.getElem?_eq_none (by rw [List.length_take]; omega)]; simp) (fun j hj => hg.cell (hR j hj) (by simp)) hsm8
          have HC := Lib.hid hcell
          have HG := Lib.hid hg
          clear hcell hg hA
          go_wp2_with fail
          refine hblk.mono ?_
          rintro e w4 ⟨rfl, hA4, hgr4⟩
          clear hblk
          have hcell4 : ∀ j, j < 64 * m → w4.cell? ⟨g, j, none⟩ = some (.int .u8 (nth d j)) := fun j hj => hgr4.cell (HC.out j hj) (fun e => by
            have e2 : g = w.heap.size := by injection e
            omega)
          have hg4 : w.grownBy w4 none := below_none HG.out hgr4 (fun k hk => by injection hk with hk; omega)
          rw [← HN.out] at hA4
          have HC4 := Lib.hid hcell4
          have HA4 := Lib.hid hA4
          have HG4 := Lib.hid hg4
          clear hcell4 hA4 hg4 hgr4
          go_wp2_with fail
          go_roundw
          case rel =>
            have h2 := HKQ.out
            have h3 := HCC.out
            refine ⟨k + 1, p, _, _, by omega, by rw [show 64 * (p + 1) - 64 = 64 * p by omega], fun hp => ?_, HC4.out, HA4.out, HG4.out⟩
            rw [if_neg (by omega)]
            exact ⟨by rw [show 64 * k + 64 = 64 * (k + 1) by omega], by omega⟩
          case measure => simp [lenV]; omega
        · obtain rfl : q = 0 := by omega
          obtain rfl : k = m := by omega
          clear hq hlt hkq
          have n0 : decide ((0 : Int) > ((0 : Nat) : Int)) = false := by decide
          have HDF2 : Hid (digestF (bytesOf s) = outs (blk d k) 8) := HDF
          clear HDF
          have hln8 := blk_len d k
          have hsm8 := blk_small d k
          obtain ⟨st, hst⟩ : ∃ st, st = blk d k := ⟨_, rfl⟩
          rw [← hst] at hA hln8 hsm8 HDF2
          clear hst
          have hS0 := hA.lt
          have f0 : wr.cell? ⟨w.heap.size, 0, none⟩ = some (.int .u32 (nth st 0)) := hA.cell 0 (by omega)
          have f1 : wr.cell? ⟨w.heap.size, 1, none⟩ = some (.int .u32 (nth st 1)) := hA.cell 1 (by omega)
          have f2 : wr.cell? ⟨w.heap.size, 2, none⟩ = some (.int .u32 (nth st 2)) := hA.cell 2 (by omega)
          have f3 : wr.cell? ⟨w.heap.size, 3, none⟩ = some (.int .u32 (nth st 3)) := hA.cell 3 (by omega)
          have f4 : wr.cell? ⟨w.heap.size, 4, none⟩ = some (.int .u32 (nth st 4)) := hA.cell 4 (by omega)
          have f5 : wr.cell? ⟨w.heap.size, 5, none⟩ = some (.int .u32 (nth st 5)) := hA.cell 5 (by omega)
          have f6 : wr.cell? ⟨w.heap.size, 6, none⟩ = some (.int .u32 (nth st 6)) := hA.cell 6 (by omega)
          have f7 : wr.cell? ⟨w.heap.size, 7, none⟩ = some (.int .u32 (nth st 7)) := hA.cell 7 (by omega)
          have HG := Lib.hid hg
          have HWR : Hid (w.heap.size ≤ wr.heap.size) := hg.size
          clear hA hg hcell
          have hmk : ∀ w : World, Sem.run Tryd.prog (Instr.makeSlice 33 (.int .i64 0) (.int .i64 32)) w = .ok (.slice (some ⟨w.heap.size, 0, none⟩) 0 32) (w.alloc (.cells (Array.replicate 32 (.int .u8 0)) 5)) := fun _ => by kernel_rfl
          have hown : OwnC .u8 w.heap.size (wr.alloc (.cells (Array.replicate 32 (.int .u8 0)) 5)) (.slice (some ⟨wr.heap.size, 0, none⟩) 0 32) [] := by
            refine .inr ⟨wr.heap.size, 32, rfl, HWR.out, by simp, by simp, by decide, fun j hj => by simp at hj, fun j hj => ⟨?_, ?_⟩⟩
            · rw [World.cell?_alloc_mark]; simp [hj]
            · simp only [World.frozen?]; rw [heap_alloc_new]; simp
          have hg5 : w.grownBy (wr.alloc (.cells (Array.replicate 32 (.int .u8 0)) 5)) none := gb_alloc HG.out _
          have HO := Lib.hid hown
          have HG5 := Lib.hid hg5
          clear hown hg5 HG
          rw [show 64 * 0 = 0 from rfl]
          go_wp2_with fail
          clear hmk f0 f1 f2 f3 f4 f5 f6 f7
          generalize wr.alloc (.cells (Array.replicate 32 (.int .u8 0)) 5) = W5 at *
          go_loopw [5, 36] (fun v vi wq => ∃ i : Nat, i ≤ 8 ∧ vi = .int .i64 i ∧ OwnC .u8 w.heap.size wq v (outs st i) ∧ w.grownBy wq none) (fun _ vi _ => 8 - (intOf vi).toNat)
          case atStart => exact ⟨0, by omega, rfl, HO.out, HG5.out⟩
          case round =>
            clear HO HG5
            obtain ⟨i, hi, rfl, hown, hg⟩ := hrel
            have hlo := outs_len st i
            obtain ⟨A5, c5, rfl⟩ := hown.slice
            rw [hlo] at hown ⊢
            have HLO := Lib.hid hlo
            clear hlo
            by_cases hlt : i < 8
            · have hix := idx8 (nth st 0) (nth st 1) (nth st 2) (nth st 3) (nth st 4) (nth st 5) (nth st 6) (nth st 7) i hlt wr
              rw [list8 st hln8] at hix
              have sm := hsm8 i
              have sm0 := sm.1
              have sm1 := sm.2
              have n1 : (i : Int) < 8 := by omega
              clear sm
              have HO4 := Lib.hid (out4_small (hsm8 i))
              go_wp2_with (at_builtin; refine wpl_append (P := Tryd.prog) rfl (.tmp 39) (.tmp 51) 33 33 rfl 5 1 Tryd.underlying33 info5 (base := w.heap.size) (.slice A5 (4 * i) c5) (outs st i) rfl (hown.alloc _) _ rfl [nth st i / 16777216, nth st i / 65536 % 256, nth st i / 256 % 256, nth st i % 256] (src_nums Tryd.underlying33 _ 4 _ _ (four_cells _ .u8 _ _ _ _ 5)) (by rw [HLO.out]; simp; omega) (by rw [HLO.out]; simp; omega) (by have := hg.size; simp; omega) ?_; intro v6 w6 hown6 hg6 hk6)
              rw [← HO4.out] at hown6
              have hg6' : w.grownBy w6 none := below_none (gb_alloc hg _) hg6 (fun k hk => (hown.lt k hk).1)
              clear hg6 hk6 hown hg
              go_roundw
              case rel => exact ⟨i + 1, by omega, by go_num, hown6, hg6'⟩
              case measure => simp [intOf]; omega
            · obtain rfl : i = 8 := by omega
              rw [show 4 * 8 = 32 from rfl] at *
              have hcv := str_of_own (P := Tryd.prog) wr 33 5 9 Tryd.underlying33 Tryd.underlying5 Tryd.underlying9 hown
              rw [← HDF2.out] at hcv
              have HGE := Lib.hid hg
              clear hown hg
              go_wp2_with fail
              go_ret
              exact ⟨rfl, gb_to_below HGE.out⟩
end Go.Proofs.YtjhmdijmnnobhaaDoor
