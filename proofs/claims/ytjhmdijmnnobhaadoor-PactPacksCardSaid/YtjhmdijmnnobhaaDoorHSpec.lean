/- Hand-written contracts of the Go functions that the statement reaches, and the plain laws over them. -/
import Derived.Test.YtjhmdijmnnobhaaDoorHBase2
set_option linter.unusedVariables false
set_option linter.unusedSimpArgs false
namespace Go.Proofs.YtjhmdijmnnobhaaDoor
open Go.RowKit
/-- A word turned to the right by n. -/
def rotr (x : Int) (n : Nat) : Int := bits .or .u32 ((x * 2 ^ (32 - n)) % 4294967296) (x / 2 ^ n)
def beW (bs : List Int) (k : Nat) : Int := bits .or .u32 (bits .or .u32 (bits .or .u32 (nth bs (4 * k) * 16777216) (nth bs (4 * k + 1) * 65536)) (nth bs (4 * k + 2) * 256)) (nth bs (4 * k + 3))
def fill1 (bs : List Int) : Nat → List Int
  | 0 => List.replicate 64 0
  | k + 1 => (fill1 bs k).set k (beW bs k)
def sig0 (x : Int) : Int := bits .xor .u32 (bits .xor .u32 (rotr x 7) (rotr x 18)) (x / 8)
def sig1 (x : Int) : Int := bits .xor .u32 (bits .xor .u32 (rotr x 17) (rotr x 19)) (x / 1024)
def sched (ws : List Int) (i : Nat) : Int := (nth ws (i - 16) + sig0 (nth ws (i - 15)) + nth ws (i - 7) + sig1 (nth ws (i - 2))) % 4294967296
def fill2 (ws : List Int) : Nat → List Int
  | 0 => ws
  | k + 1 => (fill2 ws k).set (16 + k) (sched (fill2 ws k) (16 + k))
structure St where
  (a b c d e f g h : Int)
def St.t1 (s : St) (k w : Int) : Int :=
  (s.h + bits .xor .u32 (bits .xor .u32 (rotr s.e 6) (rotr s.e 11)) (rotr s.e 25) + bits .xor .u32 (bits .and .u32 s.e s.f) (bits .and .u32 (bits .xor .u32 4294967295 s.e) s.g) + k + w) % 4294967296
def St.t2 (s : St) : Int :=
  (bits .xor .u32 (bits .xor .u32 (rotr s.a 2) (rotr s.a 13)) (rotr s.a 22) + bits .xor .u32 (bits .xor .u32 (bits .and .u32 s.a s.b) (bits .and .u32 s.a s.c)) (bits .and .u32 s.b s.c)) % 4294967296
def St.step (s : St) (k w : Int) : St := ⟨(s.t1 k w + s.t2) % 4294967296, s.a, s.b, s.c, (s.d + s.t1 k w) % 4294967296, s.e, s.f, s.g⟩
def St.steps (ks ws : List Int) (s : St) : Nat → St
  | 0 => s
  | n + 1 => (St.steps ks ws s n).step (nth ks n) (nth ws n)
def St.of (l : List Int) : St := ⟨nth l 0, nth l 1, nth l 2, nth l 3, nth l 4, nth l 5, nth l 6, nth l 7⟩
def St.list (s : St) : List Int := [s.a, s.b, s.c, s.d, s.e, s.f, s.g, s.h]
def addTo (st xs : List Int) : Nat → List Int
  | 0 => st
  | k + 1 => (addTo st xs k).set k ((nth (addTo st xs k) k + nth xs k) % 4294967296)
def consts : List Int := [1116352408, 1899447441, 3049323471, 3921009573, 961987163, 1508970993, 2453635748, 2870763221, 3624381080, 310598401, 607225278, 1426881987, 1925078388, 2162078206, 2614888103, 3248222580, 3835390401, 4022224774, 264347078, 604807628, 770255983, 1249150122, 1555081692, 1996064986, 2554220882, 2821834349, 2952996808, 3210313671, 3336571891, 3584528711, 113926993, 338241895, 666307205, 773529912, 1294757372, 1396182291, 1695183700, 1986661051, 2177026350, 2456956037, 2730485921, 2820302411, 3259730800, 3345764771, 3516065817, 3600352804, 4094571909, 275423344, 430227734, 506948616, 659060556, 883997877, 958139571, 1322822218, 1537002063, 1747873779, 1955562222, 2024104815, 2227730452, 2361852424, 2428436474, 2756734187, 3204031479, 3329325298]
/-- The state behind a block of 64 bytes. -/
def blockF (st bs : List Int) : List Int := addTo st ((St.of st).steps consts (fill2 (fill1 bs 16) 48) 64).list 8
def Small (x : Int) : Prop := 0 ≤ x ∧ x < 4294967296
def Smalls (l : List Int) : Prop := ∀ i, Small (nth l i)
theorem small_mod (x : Int) : Small (x % 4294967296) := ⟨by omega, by omega⟩
theorem small_bits (b : BinOp) (x y : Int) : Small (bits b .u32 x y) := by
  have h : ∀ n : Int, Small (IntKind.u32.wrap n) := fun n => by rw [IntKind.wrap_u32]; exact small_mod n
  unfold bits
  split <;> exact h _
theorem small_set {l : List Int} (h : Smalls l) (k : Nat) {v : Int} (hv : Small v) : Smalls (l.set k v) := by
  intro i
  unfold nth
  rw [List.getD_eq_getElem?_getD, List.getElem?_set]
  split
  · split
    · exact hv
    · exact ⟨by simp, by simp⟩
  · exact h i
theorem fill1_len (bs : List Int) (k : Nat) : (fill1 bs k).length = 64 := by
  induction k with
  | zero => simp [fill1]
  | succ k ih => simp [fill1, ih]
theorem fill1_small (bs : List Int) (k : Nat) : Smalls (fill1 bs k) := by
  induction k with
  | zero =>
    intro i
    unfold nth fill1
    rw [List.getD_eq_getElem?_getD, List.getElem?_replicate]
    split <;> exact ⟨by simp, by simp⟩
  | succ k ih => exact small_set ih _ (small_bits _ _ _)
theorem fill2_len (ws : List Int) (k : Nat) : (fill2 ws k).length = ws.length := by
  induction k with
  | zero => simp [fill2]
  | succ k ih => simp [fill2, ih]
theorem fill2_small {ws : List Int} (h : Smalls ws) (k : Nat) : Smalls (fill2 ws k) := by
  induction k with
  | zero => exact h
  | succ k ih => exact small_set ih _ (small_mod _)
structure St.Ok (s : St) : Prop where
  (a : Small s.a) (b : Small s.b) (c : Small s.c) (d : Small s.d) (e : Small s.e) (f : Small s.f) (g : Small s.g) (h : Small s.h)
theorem St.step_ok {s : St} (h : s.Ok) (k w : Int) : (s.step k w).Ok := ⟨small_mod _, h.a, h.b, h.c, small_mod _, h.e, h.f, h.g⟩
theorem St.steps_ok {s : St} (h : s.Ok) (ks ws : List Int) (n : Nat) : (St.steps ks ws s n).Ok := by
  induction n with
  | zero => exact h
  | succ n ih => exact St.step_ok ih _ _
theorem St.of_ok {l : List Int} (h : Smalls l) : (St.of l).Ok := ⟨h 0, h 1, h 2, h 3, h 4, h 5, h 6, h 7⟩
theorem addTo_len (st xs : List Int) (k : Nat) : (addTo st xs k).length = st.length := by
  induction k with
  | zero => simp [addTo]
  | succ k ih => simp [addTo, ih]
theorem addTo_small {st : List Int} (h : Smalls st) (xs : List Int) (k : Nat) : Smalls (addTo st xs k) := by
  induction k with
  | zero => exact h
  | succ k ih => exact small_set ih _ (small_mod _)
theorem St.list_small {s : St} (h : s.Ok) : Smalls s.list := by
  intro i
  obtain ⟨a, b, c, d, e, f, g, hh⟩ := h
  unfold nth St.list
  match i with
  | 0 => exact a
  | 1 => exact b
  | 2 => exact c
  | 3 => exact d
  | 4 => exact e
  | 5 => exact f
  | 6 => exact g
  | 7 => exact hh
  | n + 8 => exact ⟨by simp, by simp⟩
theorem blockF_len (st bs : List Int) : (blockF st bs).length = st.length := addTo_len _ _ _
theorem blockF_small {st : List Int} (h : Smalls st) (bs : List Int) : Smalls (blockF st bs) := addTo_small h _ _
end Go.Proofs.YtjhmdijmnnobhaaDoor
