/- Contracts of the Go functions that the statement reaches, and plain laws over them. -/
import Derived.Test.YtfhambfgjigneaaKT1
import Derived.Lib.ItoaNum
import Derived.Test.YtfhambfgjigneaaKT2
import Derived.Test.YtfhambfgjigneaaKT3
import Derived.Test.YtfhambfgjigneaaKT7
import Derived.Test.YtfhambfgjigneaaKT4
import Derived.Test.YtfhambfgjigneaaKT9
set_option linter.unusedVariables false
set_option linter.unusedSimpArgs false
set_option maxHeartbeats 64000000
set_option maxRecDepth 100000
namespace Go.Proofs.Ytfhambfgjigneaa
open Go.RowKit
section
variable {P : Program}
theorem str_of_cells (w : World) (src e dst : TypeId) (hs : P.underlying src = some (.slice e)) (he : P.underlying e = some (.int .u8)) (hd : P.underlying dst = some .string) (b o c : Nat) (xs : List Int)
  (hc : ∀ j, j < xs.length → w.cell? ⟨b, o + j, none⟩ = some (.int .u8 (nth xs j))) : (convert src dst (.slice (some ⟨b, o, none⟩) xs.length c)).run P w = .ok (.string (strOfNums xs)) w :=
 run_convert_bytes_arg w src e hs he b o xs.length c xs rfl hc dst hd
theorem str_of_own (w : World) (src e dst : TypeId) (hs : P.underlying src = some (.slice e)) (he : P.underlying e = some (.int .u8)) (hd : P.underlying dst = some .string) {base : Nat} {v : Value} {xs : List Int} (h : OwnC .u8 base w v xs) :
  (convert src dst v).run P w = .ok (.string (strOfNums xs)) w := by
 rcases h with ⟨rfl, rfl⟩ | ⟨g, cap, rfl, h1, h2, h3, h4, h5, h6⟩
 ·exact run_convert_bytes_nil w src e hs he 0 0 dst hd
 ·exact str_of_cells w src e dst hs he hd g 0 cap xs (fun j hj => by rw [Nat.zero_add]; exact h5 j hj)
variable {ops : Array Oper} {rest : List Oper} {o : Oper} {a : Act} {Q : Exit → Act → World → Prop}
theorem wpl_append {W : World} (hgd : o.guard = none) (s x : Operand) (t tx : TypeId) (ho : o.op = .call { callee := .builtin .append, args := #[s, x], argTypes := #[t, tx] }) (e : TypeId) (bytes : Nat)
  (ht : P.underlying t = some (.slice e)) {k : IntKind} (hinfo : (P.info? e).map (fun i => (i.zero, i.size, i.bytes)) = some (some (.int k 0), 1, bytes)) {base : Nat} (v : Value) (xs : List Int) (hs : a.eval s = v) (hown : OwnC k base W v xs)
  (xv : Value) (hx : a.eval x = xv) (ys : List Int) (hsrc : Src P 1 tx xv ys.length (nums k ys) W) (hbytes : (xs.length + ys.length) * bytes ≤ 140737488355328) (hmax : xs.length + ys.length ≤ 140737488355328) (hbase : base ≤ W.heap.size)
  (h : ∀ v' w', OwnC k base w' v' (xs ++ ys) → W.grownBy w' v.ownBlock → (∀ g, v'.ownBlock = some g → v.ownBlock = some g ∨ W.heap.size ≤ g) → wpList P ops Q rest (a.put o.dst v') w') : wpList P ops Q (o :: rest) a W :=
 wpList_plain hgd fun K hK => by
  obtain ⟨v', w', hr, h2, h3, h4⟩ := hown.append (P := P) t tx o.type e bytes ht hinfo xv ys hsrc hbytes hmax hbase
  unfold Oper.wp execOp
  simp only [ho, resolve, invoke, builtin, Sem.run_bind, Sem.run_pure, Result.andThen_ok, List.map_toArray, List.map_cons, List.map_nil, hs, hx, hr]
  exact hK _ _ (h v' w' h2 h3 h4)
end
def nine (r : Nat) : List UInt8 := (List.range 9).map fun t => Lib.dg r (8 - t)
theorem nine_eq (r : Nat) : nine r = [Lib.dg r 8, Lib.dg r 7, Lib.dg r 6, Lib.dg r 5, Lib.dg r 4, Lib.dg r 3, Lib.dg r 2, Lib.dg r 1, Lib.dg r 0] := rfl
theorem dec_ten {u : Nat} (h : 10 ≤ u) : Lib.decDigits u = Lib.decDigits (u / 10) ++ [Lib.dg u 0] := by
 rw [Lib.decDigits, dif_neg (by omega)]
 unfold Lib.dg
 simp
theorem dec_step {n : Nat} (h : 1000000000 ≤ n) : Lib.decDigits n = Lib.decDigits (n / 1000000000) ++ nine (n % 1000000000) := by
 have e : ∀ j, j < 9 → Lib.dg (n % 1000000000) j = Lib.dg n j := by
  intro j hj
  unfold Lib.dg
  have : n % 1000000000 / 10 ^ j % 10 = n / 10 ^ j % 10 := by
   rcases (by omega : j = 0 ∨ j = 1 ∨ j = 2 ∨ j = 3 ∨ j = 4 ∨ j = 5 ∨ j = 6 ∨ j = 7 ∨ j = 8) with rfl | rfl | rfl | rfl | rfl | rfl | rfl | rfl | rfl <;> simp only [Nat.pow_zero, Nat.reducePow] <;> omega
  rw [this]
 rw [nine_eq, e 0 (by omega), e 1 (by omega), e 2 (by omega), e 3 (by omega), e 4 (by omega), e 5 (by omega), e 6 (by omega), e 7 (by omega), e 8 (by omega)]
 rw [dec_ten (u := n) (by omega), dec_ten (u := n / 10) (by omega), Nat.div_div_eq_div_mul, dec_ten (u := n / (10 * 10)) (by omega), Nat.div_div_eq_div_mul, dec_ten (u := n / (10 * 10 * 10)) (by omega), Nat.div_div_eq_div_mul, dec_ten (u := n / (10 * 10 * 10 * 10)) (by omega), Nat.div_div_eq_div_mul,
  dec_ten (u := n / (10 * 10 * 10 * 10 * 10)) (by omega), Nat.div_div_eq_div_mul, dec_ten (u := n / (10 * 10 * 10 * 10 * 10 * 10)) (by omega), Nat.div_div_eq_div_mul, dec_ten (u := n / (10 * 10 * 10 * 10 * 10 * 10 * 10)) (by omega), Nat.div_div_eq_div_mul, dec_ten (u := n / (10 * 10 * 10 * 10 * 10 * 10 * 10 * 10)) (by omega), Nat.div_div_eq_div_mul]
 have f : ∀ k j, Lib.dg (n / 10 ^ k) j = Lib.dg n (k + j) := by
  intro k j
  unfold Lib.dg
  rw [Nat.div_div_eq_div_mul, ← Nat.pow_add]
 have g1 := f 1 0; have g2 := f 2 0; have g3 := f 3 0; have g4 := f 4 0; have g5 := f 5 0; have g6 := f 6 0; have g7 := f 7 0; have g8 := f 8 0
 simp only [Nat.reducePow, Nat.add_zero] at g1 g2 g3 g4 g5 g6 g7 g8
 simp only [Nat.reduceMul, g1, g2, g3, g4, g5, g6, g7, g8, List.append_assoc, List.cons_append, List.nil_append]
theorem nd_le {x k : Nat} (hk : 0 < k) (h : x < 10 ^ k) : Lib.nDigits x ≤ k := by
 induction k generalizing x with
 | zero => omega
 | succ k ih =>
  by_cases hx : x < 10
  ·rw [Lib.nDigits_small hx]; omega
  ·rw [Lib.nDigits_big hx]
   cases k with
   | zero => simp at h; omega
   | succ k =>
    have := ih (x := x / 10) (by omega) (by rw [Nat.pow_succ] at h; exact Nat.div_lt_of_lt_mul (by rw [Nat.mul_comm]; exact h))
    omega
theorem le_nd {x : Nat} (h : 0 < x) : 10 ^ (Lib.nDigits x - 1) ≤ x := by
 induction x using Nat.strongRecOn with
 | _ x ih =>
  by_cases hx : x < 10
  ·rw [Lib.nDigits_small hx]; show 10 ^ 0 ≤ x; rw [Nat.pow_zero]; omega
  ·rw [Lib.nDigits_big hx]
   have h1 := ih (x / 10) (by omega) (by omega)
   have h2 := Lib.nDigits_pos (x / 10)
   rw [show Lib.nDigits (x / 10) + 1 - 1 = (Lib.nDigits (x / 10) - 1) + 1 by omega, Nat.pow_succ]
   have := Nat.div_mul_le_self x 10
   omega
theorem dec_nine {x : Nat} (h : x < 1000000000) : Lib.decDigits x = (nine x).drop (9 - Lib.nDigits x) := by
 have h9 : Lib.nDigits x ≤ 9 := nd_le (by decide) (by simpa using h)
 have h1 := Lib.nDigits_pos x
 rw [Lib.decDigits_eq]
 apply List.ext_getElem
 ·simp [nine]; omega
 ·intro i hi _
  simp [nine]
  congr 1
  simp at hi
  omega
theorem nine_zero {x j : Nat} (h : x < 1000000000) (hj : j < 9 - Lib.nDigits x) : (nine x)[j]? = some 48 := by
 have hlt := Lib.lt_pow_nDigits x
 have hj9 : j < 9 := by omega
 have : x < 10 ^ (8 - j) := Nat.lt_of_lt_of_le hlt (Nat.pow_le_pow_right (by decide) (by omega))
 simp [nine, hj9]
 unfold Lib.dg
 rw [Nat.div_eq_of_lt this]
 rfl
theorem nine_first {x : Nat} (h0 : 0 < x) (h : x < 1000000000) : ∃ b, (nine x)[9 - Lib.nDigits x]? = some b ∧ b ≠ 48 := by
 have h9 : Lib.nDigits x ≤ 9 := nd_le (by decide) (by simpa using h)
 have h1 := Lib.nDigits_pos x
 refine ⟨Lib.dg x (Lib.nDigits x - 1), ?_, ?_⟩
 ·unfold nine
  rw [List.getElem?_map, List.getElem?_range (by omega)]
  show some (Lib.dg x (8 - (9 - Lib.nDigits x))) = _
  rw [show 8 - (9 - Lib.nDigits x) = Lib.nDigits x - 1 by omega]
 ·have hl := le_nd h0
  have hu := Lib.lt_pow_nDigits x
  have hd : x / 10 ^ (Lib.nDigits x - 1) < 10 := by
   refine Nat.div_lt_of_lt_mul ?_
   rw [← Nat.pow_succ, show (Lib.nDigits x - 1).succ = Lib.nDigits x by omega]
   exact hu
  have hp : 0 < x / 10 ^ (Lib.nDigits x - 1) := Nat.div_pos hl (Nat.pow_pos (by decide))
  unfold Lib.dg
  rw [Nat.mod_eq_of_lt hd]
  generalize x / 10 ^ (Lib.nDigits x - 1) = d at hd hp
  have : d = 1 ∨ d = 2 ∨ d = 3 ∨ d = 4 ∨ d = 5 ∨ d = 6 ∨ d = 7 ∨ d = 8 ∨ d = 9 := by omega
  rcases this with rfl | rfl | rfl | rfl | rfl | rfl | rfl | rfl | rfl <;> decide
theorem dec_ne (n : Nat) : Lib.decDigits n ≠ [] := by
 intro h
 have := Lib.decDigits_length n
 rw [h] at this
 have h2 := Lib.nDigits_pos n
 simp at this
 omega
def partsN (n : Nat) : List Nat := if h : n = 0 then [] else n % 1000000000 :: partsN (n / 1000000000)
termination_by n
decreasing_by omega
theorem partsN_zero : partsN 0 = [] := by rw [partsN]; simp
theorem partsN_pos {n : Nat} (h : n ≠ 0) : partsN n = n % 1000000000 :: partsN (n / 1000000000) := by rw [partsN, dif_neg h]
theorem partsN_lt (n : Nat) : ∀ x ∈ partsN n, x < 1000000000 := by
 induction n using Nat.strongRecOn with
 | _ n ih =>
  intro x hx
  by_cases h : n = 0
  ·rw [h, partsN_zero] at hx; cases hx
  ·rw [partsN_pos h] at hx
   rcases List.mem_cons.1 hx with rfl | hx
   ·exact Nat.mod_lt _ (by decide)
   ·exact ih _ (by omega) x hx
def grpB (out : List UInt8) (x : Nat) : List UInt8 := out ++ if out = [] then Lib.decDigits x else nine x
theorem parts_dec {n : Nat} (h : n ≠ 0) : (partsN n).reverse.foldl grpB [] = Lib.decDigits n := by
 induction n using Nat.strongRecOn with
 | _ n ih =>
  rw [partsN_pos h, List.reverse_cons, List.foldl_append]
  by_cases hq : n / 1000000000 = 0
  ·rw [hq, partsN_zero]
   show grpB [] (n % 1000000000) = _
   have : n < 1000000000 := by omega
   rw [Nat.mod_eq_of_lt this]
   rfl
  ·rw [ih _ (by omega) hq]
   show grpB (Lib.decDigits (n / 1000000000)) (n % 1000000000) = _
   unfold grpB
   rw [if_neg (dec_ne _), ← dec_step (by omega)]
def strB (l : List UInt8) : ByteArray := ⟨l.toArray⟩
theorem strB_append (a b : List UInt8) : strB a ++ strB b = strB (a ++ b) := by
 apply ByteArray.ext
 simp [strB]
theorem strB_size (l : List UInt8) : (strB l).size = l.length := by simp [strB, ByteArray.size]
def SPost (w : World) (l : List UInt8) (e : Ending) (w' : World) : Prop := e = .returned (.string (strB l)) ∧ Below w.heap.size w w'
def decN (m : Nat) : List UInt8 := if m = 0 then [] else Lib.decDigits m
theorem decN_len {n : Nat} (hm : wlen n ≤ 100000) : (decN n).length ≤ 1000001 := by
 unfold decN
 split
 ·exact Nat.zero_le _
 ·rename_i h
  rw [Lib.decDigits_length]
  have h1 : n < 4294967296 ^ wlen n := lt_dg_len n
  have h2 : 0 < wlen n := wlen_pos.2 h
  have h3 : n < 10 ^ (10 * wlen n) := by
   rw [Nat.pow_mul]
   exact Nat.lt_of_lt_of_le h1 (Nat.pow_le_pow_left (by decide) _)
  have := nd_le (by omega) h3
  omega
theorem decN_step {m : Nat} (h : m ≠ 0) : decN m = decN (m / 1000000000) ++ if m / 1000000000 = 0 then Lib.decDigits (m % 1000000000) else nine (m % 1000000000) := by
 unfold decN
 rw [if_neg h]
 by_cases hq : m / 1000000000 = 0
 ·rw [if_pos hq, if_pos hq, Nat.mod_eq_of_lt (by omega)]; rfl
 ·rw [if_neg hq, if_neg hq, dec_step (by omega)]theorem info5 : (Try.prog.info? 5).map (fun i => (i.zero, i.size, i.bytes)) = some (some (.int .u8 0), 1, 1) := by kernel_rfl
theorem one_cell (w : World) (k : IntKind) (x : Int) (e : Nat) : ∀ j, j < [x].length → (w.alloc (.cells #[.int k x] e)).cell? ((⟨w.heap.size, 0, none⟩ : Addr).add j) = some (.int k (nth [x] j)) := by
 intro j hj
 obtain rfl : j = 0 := by simp at hj; omega
 rw [add_zero']
 simp [nth, World.cell?_alloc_mark]
def Short2Post (w : World) (m d : Nat) (e : Ending) (w' : World) : Prop := ∃ v, e = .returned (.tuple #[v, .int .u32 ((m % d : Nat) : Int)]) ∧ RN w' v (m / d) ∧ Below w.heap.size w w' ∧ ∃ n, v = .slice (some ⟨w.heap.size, 0, none⟩) n n
theorem short2_calls (w : World) (v : Value) (m d : Nat) (h : RN w v m) (hm : wlen m ≤ 100000000000) (hd : 0 < d) (hd2 : d < 4294967296) :
  Calls Try.prog 114 #[v, .int .u32 d] w fun e w' => Short2Post w m d e w' := by
 obtain ⟨A, c, xs, rfl, hc, HX, HR⟩ := h.opened
 clear h
 have hlx : xs.length ≤ 100000000000 := by rw [HX.out]; exact hm
 have HVX : Hid (valN xs = m) := by unfold Hid; rw [HX.out, valN_dg]
 clear HX hm
 go_enter Try.func114, Try.ntmps114
 have hmk := make_words 83 Try.underlying83 xs.length (by omega)
 go_wp2_with fail
 clear hmk
 have hw0 := gb_alloc (gb_refl w none) (zw xs.length)
 have ha0 := zw_arr w xs.length
 generalize w.alloc (zw xs.length) = W0 at *
 go_loopw [7, 8] (fun vr vi wr => ∃ (k rest : Nat) (q : List Nat), k ≤ xs.length ∧ vi = .int .i64 ((k : Int) - 1) ∧ vr = .int .u64 (rest : Int) ∧ rest < d ∧ q.length = xs.length - k ∧ Wd q ∧
   valN (xs.drop k) = d * valN q + rest ∧ Arr .u32 wr w.heap.size 103 (ints (List.replicate k 0 ++ q)) ∧ w.grownBy wr none) (fun _ vi _ => (intOf vi + 1).toNat)
 case atStart => exact ⟨xs.length, 0, [], Nat.le_refl _, by go_num, rfl, hd, by simp, (fun x hx => (by cases hx)), by simp [valN], by rw [List.append_nil]; exact ha0, hw0⟩
 case round =>
  obtain ⟨k, rest, q, hk, rfl, rfl, hrest, hql, hqw, hval, harr, hgb⟩ := hrel
  have HD := Hd hqw
  have HV := Hd hval
  have HA := Hd harr
  have HG := Hd hgb
  have HL := Hd hql
  clear hqw hval harr hql
  by_cases h0 : 0 < k
  ·exact sq13 _
  ·obtain rfl : k = 0 := by omega
   have ha2 := HA.out
   rw [List.replicate_zero, List.nil_append] at ha2
   have hql : q.length = xs.length := by have := HL.out; omega
   have hrd := Rd.of_arr ha2 HD.out
   have HRD := Hd (show Rd wr (.slice (some ⟨w.heap.size, 0, none⟩) q.length xs.length) q by rw [hql] at hrd ⊢; exact hrd)
   have HQL := Hd hql
   clear ha2 hrd hql hgb
   have f4 : IntKind.u32.wrap (rest : Int) = (rest : Int) := by rw [IntKind.wrap_u32]; omega
   go_wp2_with fail
   have htr := trim_calls wr (some ⟨w.heap.size, 0, none⟩) xs.length q HRD.out (by rw [HQL.out]; omega) (by rw [HQL.out]; exact Nat.le_refl _)
   rw [HQL.out] at htr
   refine htr.mono ?_
   rintro e w' ⟨nn, hnn, rfl, htk, hb⟩
   have hv : RN w' (.slice (some ⟨w.heap.size, 0, none⟩) nn nn) (valN q) := by
    have h := (HRD.out.below hb).take nn hnn
    rw [htk] at h
    exact h
   have hval : m = d * valN q + rest := by
    have := HV.out
    rw [List.drop_zero, HVX.out] at this
    exact this
   have hq : valN q = m / d := by
    rw [hval, Nat.add_comm, Nat.add_mul_div_left _ _ hd, Nat.div_eq_of_lt hrest, Nat.zero_add]
   have hr : rest = m % d := by
    rw [hval, Nat.mul_add_mod, Nat.mod_eq_of_lt hrest]
   rw [hq] at hv
   have HBB := Hd (gb_to_below (gb_below HG.out hb))
   have HRR := Hd hr
   clear hq hr hval
   go_wp2_with fail
   go_ret2
   exact ⟨_, by rw [← HRR.out]; rfl, hv, HBB.out, ⟨nn, rfl⟩⟩
theorem info103u : (Try.prog.info? 103).map (fun i => (i.zero, i.size, i.bytes)) = some (some (.int .u32 0), 1, 4) := by kernel_rfl
theorem partsN_len (n : Nat) : (partsN n).length ≤ n := by
 induction n using Nat.strongRecOn with
 | _ n ih =>
  by_cases h : n = 0
  ·rw [h, partsN_zero]; exact Nat.le_refl _
  ·rw [partsN_pos h, List.length_cons]
   have := ih (n / 1000000000) (by omega)
   omega
theorem partsN_len2 (n : Nat) : (partsN n).length ≤ (decN n).length := by
 induction n using Nat.strongRecOn with
 | _ n ih =>
  by_cases h : n = 0
  ·rw [h, partsN_zero]; exact Nat.zero_le _
  ·rw [partsN_pos h, List.length_cons, decN_step h, lap]
   have := ih (n / 1000000000) (by omega)
   have h2 : 0 < (if n / 1000000000 = 0 then Lib.decDigits (n % 1000000000) else nine (n % 1000000000)).length := by
    split
    ·rw [Lib.decDigits_length]; exact Lib.nDigits_pos _
    ·simp [nine]
   omega
theorem below_grown {w W w7 : World} {row : Option Nat} (h : Below w.heap.size w W) (hg : W.grownBy w7 row) (hr : ∀ g, row = some g → w.heap.size ≤ g) : Below w.heap.size w w7 :=
 ⟨hg.os.trans h.os, hg.tape.trans h.tape, hg.output.trans h.output, Nat.le_trans h.size hg.size, fun k hk => (hg.block k (Nat.lt_of_lt_of_le hk h.size) (fun e => absurd (hr k e.symm) (Nat.not_le.2 hk))).trans (h.block k hk)⟩
def bytesI (l : List UInt8) : List Int := l.map fun b => (b.toNat : Int)
theorem bytesI_length (l : List UInt8) : (bytesI l).length = l.length := by simp [bytesI]
theorem strOf_bytesI (l : List UInt8) : strOfNums (bytesI l) = strB l := by
 unfold strOfNums bytesI strB
 congr 2
 rw [List.map_map]
 conv => rhs; rw [← List.map_id l]
 refine List.map_congr_left fun b _ => ?_
 simp
theorem bytesI_append (a b : List UInt8) : bytesI (a ++ b) = bytesI a ++ bytesI b := by simp [bytesI]
theorem grp_len : ∀ (a b : List Nat) (c : List UInt8), (a.foldl grpB c).length ≤ (b.foldl grpB (a.foldl grpB c)).length := by
 intro a b c
 generalize a.foldl grpB c = o
 induction b generalizing o with
 | nil => exact Nat.le_refl _
 | cons x b ih =>
  refine Nat.le_trans ?_ (ih (grpB o x))
  unfold grpB
  rw [lap]
  omega
theorem slice_nine (w : World) (g f : Nat) (hf : f ≤ 8) : Sem.run Try.prog (Instr.sliceAt 130 (.pointer (some ⟨g, 0, none⟩)) (some (.int .i64 (f : Int))) none none) w = .ok (.slice (some ⟨g, f, none⟩) (9 - f) (9 - f)) w := by
 have hal : Try.prog.arrayLen 130 = 9 := by kernel_rfl
 have hel : Try.prog.elem 130 = 5 := by kernel_rfl
 have h := run_sliceAt_array_l (P := Try.prog) w 130 ⟨g, 0, none⟩ (by rw [hal, hel]; exact Try.underlying130) .i64 (f : Int) (by omega) (by rw [hal]; omega)
 rw [hal, hel] at h
 refine h.trans ?_
 go_simp
 try omega
def fillD (x j : Nat) : List Int := (List.range 9).map fun t => if t < 9 - j then 0 else ((48 + x / 10 ^ (8 - t) % 10 : Nat) : Int)
theorem fillD_length (x j : Nat) : (fillD x j).length = 9 := by simp [fillD]
theorem fillD_zero (x : Nat) : fillD x 0 = List.replicate 9 0 := by
 apply List.ext_getElem
 ·simp [fillD]
 ·intro i h1 h2
  have h3 : i < 9 := by simpa [fillD] using h1
  rw [List.getElem_replicate]
  simp only [fillD, List.getElem_map, List.getElem_range]
  rw [if_pos (by omega)]
theorem fillD_set {x j : Nat} (hj : j < 9) : (fillD x j).set (8 - j) ((48 + x / 10 ^ j % 10 : Nat) : Int) = fillD x (j + 1) := by
 apply List.ext_getElem
 ·simp [fillD]
 ·intro i h1 h2
  simp only [fillD, List.length_set, lmp, List.length_range] at h1
  rw [List.getElem_set]
  by_cases e : 8 - j = i
  ·rw [if_pos e]
   subst e
   simp only [fillD, List.getElem_map, List.getElem_range]
   rw [if_neg (by omega), show 8 - (8 - j) = j by omega]
  ·rw [if_neg e]
   simp only [fillD, List.getElem_map, List.getElem_range]
   by_cases h : i < 9 - (j + 1)
   ·rw [if_pos h, if_pos (by omega)]
   ·rw [if_neg h, if_neg (by omega)]
theorem fillD_nine (x : Nat) : fillD x 9 = bytesI (nine x) := by
 unfold fillD bytesI nine
 rw [List.map_map]
 refine List.map_congr_left fun t _ => ?_
 rw [if_neg (by omega)]
 show _ = (((Lib.dg x (8 - t)).toNat : Nat) : Int)
 unfold Lib.dg
 have : x / 10 ^ (8 - t) % 10 < 10 := Nat.mod_lt _ (by decide)
 rw [UInt8.toNat_ofNat']
 congr 1
 omega
theorem sq21 (P : Prop) (h : P := by
 go_wp2_with (at_builtin; refine wpl_append (P := Try.prog) rfl (.tmp 66) (.tmp 68) 129 129 rfl 5 1 Try.underlying129 info5 (base := wA.heap.size) (.slice P6 out.length p6) (bytesI out) rfl HO8.out _ rfl (bytesI ((nine x).drop f)) HSR.out (by rw [bytesI_length, HLD.out]; omega) (by rw [bytesI_length, HLD.out]; omega) HBA.out.size ?_; intro v7 w7 ho7 hg7 hob7)
 have HB7 := Hd (below_grown HBA.out hg7 fun g hg => (HO8.out.lt g hg).1)
 have HO7 : Hid (OwnC .u8 wA.heap.size w7 v7 (bytesI ((ps.reverse.take (k + 1)).foldl grpB []))) := by unfold Hid; rw [HNXT.out, ← HGR.out, bytesI_append]; exact ho7
 clear ho7 hg7 hob7
 go_roundw
 case rel => exact ⟨k + 1, by omega, by go_num, HO7.out, HB7.out⟩
 case measure => simp [intOf]; omega) : P := h
theorem text_calls (w : World) (v : Value) (n : Nat) (h : RN w v n) (hm : wlen n ≤ 100000) : Calls Try.prog 81 #[v] w fun e w' => SPost w (Lib.decDigits n) e w' := by
 by_cases hz : n = 0
 ·subst hz
  obtain ⟨A, c, xs, rfl, hc, HX, HR⟩ := h.opened
  obtain rfl : xs = [] := HX.out
  have u1 : ((([] : List Nat).length : Int) == 0) = true := by decide
  clear h HR HX
  go_enter Try.func81, Try.ntmps81
  go_wp2_with fail
  go_ret
  exact ⟨by rw [Lib.decDigits]; rfl, Below.refl _ _⟩
 obtain ⟨A, c, xs, rfl, hc, HX, HR⟩ := h.opened
 have hlx : xs.length ≤ 100000 := by rw [HX.out]; exact hm
 have hl0 : 0 < xs.length := by
  have := wlen_pos.2 hz
  rw [HX.out]; exact this
 have u1 : ((xs.length : Int) == 0) = false := bneI' (by omega)
 have HH := Hd h
 have HNZ := Hd hz
 clear h HX HR hl0
 go_enter Try.func81, Try.ntmps81
 go_wp2_with fail
 clear u1
 go_loopg [0, 3] n (fun m v0 v3 wr => m ≤ n ∧ RN wr v0 m ∧ (∃ ps, OwnC .u32 w.heap.size wr v3 (ints ps) ∧ ps ++ partsN m = partsN n) ∧ (∀ g, v0.ownBlock = some g → v3.ownBlock ≠ some g) ∧ Below w.heap.size w wr)
 case atStart => exact ⟨Nat.le_refl _, HH.out, ⟨[], OwnC.nil _ _ _, rfl⟩, fun _ _ => by simp [Value.ownBlock], Below.refl _ _⟩
 case round =>
  obtain ⟨m, rfl⟩ : ∃ x, x = gk := ⟨_, rfl⟩
  obtain ⟨hmn, hrn, ⟨ps, hps, hpp⟩, hdj, hb⟩ := hrel
  obtain ⟨P3, p3, rfl⟩ := hps.slice
  rw [ints_length] at *
  have HPS := Hd hps
  have HPP := Hd hpp
  have HB := Hd hb
  have HDJ := Hd hdj
  have hpl : ps.length ≤ 1000001 := by
   have h1 := congrArg List.length hpp
   rw [lap] at h1
   have h2 := partsN_len2 n
   have h3 := decN_len hm
   omega
  clear hps hpp hb hdj
  by_cases hm0 : m = 0
  ·subst hm0
   obtain ⟨A2, c2, ys, rfl, hc2, HY, HR2⟩ := hrn.opened
   obtain rfl : ys = [] := HY.out
   have HE : Hid (ps = partsN n) := by have := HPP.out; rw [partsN_zero, List.append_nil] at this; exact this
   have hpl9 : ∀ y ∈ ps, y < 1000000000 := by rw [HE.out]; exact partsN_lt n
   have HP9 := Hd hpl9
   have HPB : Hid (∀ g, (Value.slice P3 ps.length p3).ownBlock = some g → g < wr.heap.size) := fun g hg => (HPS.out.lt g hg).2
   obtain ⟨wA, rfl⟩ : ∃ x, x = wr := ⟨_, rfl⟩
   clear hrn HY HR2 HDJ HPP hpl9
   rw [show ([] : List Nat).length = 0 from rfl]
   go_wp2_with fail
   go_loopw [6, 7] (fun v6 v7 wz => ∃ k : Nat, k ≤ ps.length ∧ v7 = .int .i64 ((ps.length : Int) - 1 - (k : Int)) ∧ OwnC .u8 wA.heap.size wz v6 (bytesI ((ps.reverse.take k).foldl grpB [])) ∧ Below wA.heap.size wA wz) (fun _ v7 _ => (intOf v7 + 1).toNat)
   case atStart => exact ⟨0, Nat.zero_le _, by go_num, OwnC.nil _ _ _, Below.refl _ _⟩
   case round =>
    obtain ⟨wk, rfl⟩ : ∃ x, x = wr := ⟨_, rfl⟩
    obtain ⟨k, hk, rfl, hov, hb⟩ := hrel
    obtain ⟨P6, p6, rfl⟩ := hov.slice
    have HO6 := Hd hov
    have HB6 := Hd hb
    have HPS6 := Hd (HPS.out.move hb.size fun g hg => hb.block g (HPS.out.lt g hg).2)
    obtain ⟨out, hout⟩ : ∃ o, o = (ps.reverse.take k).foldl grpB [] := ⟨_, rfl⟩
    rw [← hout] at HO6 ⊢
    have HOU := Hd hout
    rw [bytesI_length] at *
    clear hov hb hout
    by_cases hkl : k < ps.length
    ·obtain ⟨x, hx⟩ : ∃ x, ps[ps.length - 1 - k]? = some x := ⟨ps[ps.length - 1 - k]'(by omega), geq _⟩
     have hx9 : x < 1000000000 := HP9.out x (mog hx)
     have hrev : ps.reverse[k]? = some x := by rw [List.getElem?_reverse hkl]; exact hx
     have HNXT : Hid ((ps.reverse.take (k + 1)).foldl grpB [] = grpB out x) := by unfold Hid; rw [List.take_add_one, hrev, List.foldl_append, ← HOU.out]; rfl
     have hnx : nth (ints ps) (ps.length - 1 - k) = (x : Int) := by
      unfold nth ints
      rw [gdd, List.getElem?_map, hx]
      rfl
     obtain ⟨g3, rfl, hg3, c0⟩ : ∃ g3, P3 = some ⟨g3, 0, none⟩ ∧ g3 < wk.heap.size ∧ wk.cell? ⟨g3, ps.length - 1 - k, none⟩ = some (.int .u32 (x : Int)) := by
      rcases HPS6.out with ⟨_, h0⟩ | ⟨g3, cap3, e3, _, hg3l, _, _, hcells, _⟩
      ·have := congrArg List.length h0
       rw [ints_length] at this
       have h1 : ps.length = 0 := this
       omega
      ·injection e3 with e3 _ _
       refine ⟨g3, e3, hg3l, ?_⟩
       rw [← hnx]
       exact hcells _ (by rw [ints_length]; omega)
     have m1 : (0 : Int) ≤ (ps.length : Int) - 1 - (k : Int) := by omega
     have m2 : ((ps.length : Int) - 1 - (k : Int)).toNat = ps.length - 1 - k := by omega
     have m3 : (ps.length : Int) - 1 - (k : Int) < (ps.length : Int) := by omega
     clear hx hrev hnx
     go_wp2_with fail
     have hbn := below_new wk (.cells #[.int .u8 0, .int .u8 0, .int .u8 0, .int .u8 0, .int .u8 0, .int .u8 0, .int .u8 0, .int .u8 0, .int .u8 0] 130)
     have HAR : Hid (Arr .u8 (wk.alloc (.cells #[.int .u8 0, .int .u8 0, .int .u8 0, .int .u8 0, .int .u8 0, .int .u8 0, .int .u8 0, .int .u8 0, .int .u8 0] 130)) wk.heap.size 130 (fillD x 0)) := by unfold Hid; rw [fillD_zero]; exact heap_alloc_new _ _
     have HB5 := Hd hbn
     have HG9 := Hd (fun (g : Nat) hg => (HO6.out.lt g hg).2)
     have HG36 := Hd hg3
     obtain ⟨g9, hg9⟩ : ∃ g, g = wk.heap.size := ⟨_, rfl⟩
     rw [← hg9] at HAR ⊢
     have hw9 : wk.heap.size ≤ g9 := Nat.le_of_eq hg9.symm
     generalize wk.alloc (.cells #[.int .u8 0, .int .u8 0, .int .u8 0, .int .u8 0, .int .u8 0, .int .u8 0, .int .u8 0, .int .u8 0, .int .u8 0] 130) = W5 at *
     clear hbn c0 m1 m2 m3 hg9
     go_loopw [9, 10] (fun v9 v10 wz => ∃ j : Nat, j ≤ 9 ∧ v10 = .int .i64 (8 - (j : Int)) ∧ v9 = .int .u32 ((x / 10 ^ j : Nat) : Int) ∧ Arr .u8 wz g9 130 (fillD x j) ∧ Below wk.heap.size wk wz) (fun _ v10 _ => (intOf v10 + 1).toNat)
     case atStart => exact ⟨0, by omega, rfl, by simp, HAR.out, HB5.out⟩
     case round =>
      obtain ⟨wz, rfl⟩ : ∃ y, y = wr := ⟨_, rfl⟩
      obtain ⟨j, hj, rfl, rfl, har, hb⟩ := hrel
      have HA := Hd har
      have HBz := Hd hb
      clear har hb
      obtain ⟨y, hy⟩ : ∃ y, y = x / 10 ^ j := ⟨_, rfl⟩
      rw [← hy]
      have hyx : y ≤ x := by rw [hy]; exact Nat.div_le_self _ _
      have HYY := Hd hy
      clear hy
      by_cases hj9 : j < 9
      ·have n1 : (0 : Int) ≤ 8 - (j : Int) := by omega
       have n2 : (8 - (j : Int)).toNat = 8 - j := by omega
       have n3 : 8 - (j : Int) < 9 := by omega
       have hy10 : y % 10 < 10 := Nat.mod_lt _ (by decide)
       have hco := HA.out.cell (8 - j) (by rw [fillD_length]; omega)
       have hfr := HA.out.frozen (8 - j)
       have hlt9 := HA.out.lt
       obtain ⟨old, hold⟩ : ∃ o, o = (fillD x j).getD (8 - j) 0 := ⟨_, rfl⟩
       rw [← hold] at hco
       clear hold
       have HNX : Hid (x / 10 ^ (j + 1) = y / 10) := by unfold Hid; rw [Nat.pow_succ, ← Nat.div_div_eq_div_mul, ← HYY.out]
       have HA1 : Hid (Arr .u8 (wz.setCell ⟨g9, 8 - j, none⟩ (.int .u8 (48 + (y : Int) % 10))) g9 130 (fillD x (j + 1))) := by
        unfold Hid
        rw [← fillD_set hj9, ← HYY.out]
        have := HA.out.set (8 - j) ((48 + y % 10 : Nat) : Int)
        rw [show ((48 + y % 10 : Nat) : Int) = 48 + (y : Int) % 10 by omega] at this ⊢
        exact this
       have HB1 := Hd (below_put HBz.out ⟨g9, 8 - j, none⟩ hw9 (.int .u8 (48 + (y : Int) % 10)))
       go_wp2_with fail
       go_roundw
       case rel => exact ⟨j + 1, by omega, by go_num, by rw [HNX.out]; simp, HA1.out, HB1.out⟩
       case measure => simp [intOf]; omega
      ·obtain rfl : j = 9 := by omega
       go_wp2_with fail
       have HA9 : Hid (Arr .u8 wz g9 130 (bytesI (nine x))) := by unfold Hid; rw [← fillD_nine]; exact HA.out
       clear HA HAR HB5 HYY
       go_loopw [11] (fun v11 wq => (∃ f : Nat, f ≤ 8 ∧ v11 = .int .i64 (f : Int) ∧ (f = 0 ∨ out = []) ∧ ∀ i, i < f → (nine x)[i]? = some 48) ∧ Arr .u8 wq g9 130 (bytesI (nine x)) ∧ Below wk.heap.size wk wq) (fun v11 _ => 8 - (intOf v11).toNat)
       case atStart => exact ⟨⟨0, by omega, rfl, .inl rfl, fun i h => absurd h (Nat.not_lt_zero _)⟩, HA9.out, HBz.out⟩
       case round =>
        obtain ⟨wq, rfl⟩ : ∃ y, y = wr := ⟨_, rfl⟩
        obtain ⟨⟨f, hf8, rfl, hfo, hall⟩, har, hbq⟩ := hrel
        have HA8 := Hd har
        have HBq := Hd hbq
        clear har hbq HA9
        have HALL := Hd hall
        have HFO := Hd hfo
        clear hall hfo
        have hlt9 := HA8.out.lt
        obtain ⟨b, hb⟩ : ∃ b, (nine x)[f]? = some b := ⟨(nine x)[f]'(by simp [nine]; omega), geq _⟩
        have hc9 := HA8.out.cell f (by rw [bytesI_length]; simp [nine]; omega)
        have hgd : (bytesI (nine x)).getD f 0 = (b.toNat : Int) := by
         unfold bytesI
         rw [gdd, List.getElem?_map, hb]
         rfl
        rw [hgd] at hc9
        have HBB := Hd hb
        have n1 : (f : Int).toNat = f := by omega
        have n2 : (0 : Int) ≤ (f : Int) := by omega
        have n3 : (f : Int) < 9 := by omega
        clear hgd hb
        by_cases hgo : out = [] ∧ f < 8 ∧ b = 48
        ·obtain ⟨ho, hf, rfl⟩ := hgo
         have u1 : ((out.length : Int) == 0) = true := beqI' (by rw [ho]; rfl)
         have u2 : decide ((f : Int) < 8) = true := dct
         have u3 : ((((48 : UInt8).toNat : Nat) : Int) == 48) = true := by decide
         have n4 : (f : Int) < 8 := by omega
         have HNF : Hid (∀ i, i < f + 1 → (nine x)[i]? = some 48) := fun i h => by
          by_cases e : i = f
          ·rw [e]; exact HBB.out
          ·exact HALL.out i (by omega)
         have HO0 := Hd ho
         clear ho
         go_wp2_with fail
         go_roundw
         case rel => exact ⟨⟨f + 1, by omega, by go_num, .inr HO0.out, HNF.out⟩, HA8.out, HBq.out⟩
         case measure => simp [intOf]; omega
        ·have HGR : Hid (out ++ (nine x).drop f = grpB out x) := by
          unfold Hid grpB
          congr 1
          by_cases ho : out = []
          ·rw [if_pos ho, dec_nine hx9]
           congr 1
           have hd := Lib.nDigits_pos x
           have h8 : 9 - Lib.nDigits x ≤ 8 := by omega
           rcases Nat.lt_trichotomy f (9 - Lib.nDigits x) with h | h | h
           ·have h1 := nine_zero hx9 h
            rw [HBB.out] at h1
            injection h1 with h1
            exact absurd ⟨ho, by omega, h1⟩ hgo
           ·exact h
           ·have hx0 : 0 < x := by
             rcases Nat.eq_zero_or_pos x with e | e
             ·subst e
              rw [Lib.nDigits_small (by decide)] at h
              omega
             ·exact e
            obtain ⟨b', h1, h2⟩ := nine_first hx0 hx9
            rw [HALL.out _ h] at h1
            injection h1 with h1
            exact absurd h1.symm h2
          ·rw [if_neg ho]
           rcases HFO.out with h | h
           ·rw [h]; rfl
           ·exact absurd h ho
         have hst : ((out.length : Int) == 0) = false ∨ (((out.length : Int) == 0) = true ∧ decide ((f : Int) < 8) = false) ∨ (((out.length : Int) == 0) = true ∧ decide ((f : Int) < 8) = true ∧ (((b.toNat : Nat) : Int) == 48) = false) := by
          by_cases ho : out = []
          ·by_cases hf : f < 8
           ·refine .inr (.inr ⟨beqI' (by rw [ho]; rfl), decide_eq_true (by omega), bneI' fun e => hgo ⟨ho, hf, ?_⟩⟩)
            have : b.toNat = 48 := by omega
            exact UInt8.toNat_inj.1 this
           ·exact .inr (.inl ⟨beqI' (by rw [ho]; rfl), decide_eq_false (by omega)⟩)
          ·refine .inl (bneI' fun e => ho (List.eq_nil_of_length_eq_zero (by omega)))
         clear hgo
         have hsl := slice_nine wq g9 f hf8
         have HBA := Hd (below_next HB6.out HBq.out)
         have HO8 := Hd (HO6.out.move HBq.out.size fun g hg => HBq.out.block g (HO6.out.lt g hg).2)
         have HLD : Hid ((bytesI ((nine x).drop f)).length = 9 - f) := by unfold Hid; rw [bytesI_length, List.length_drop]; rfl
         have HSR : Hid (Src Try.prog 1 129 (.slice (some ⟨g9, f, none⟩) (9 - f) (9 - f)) (bytesI ((nine x).drop f)).length (nums .u8 (bytesI ((nine x).drop f))) wq) := by
          have h := src_nums (P := Try.prog) Try.underlying129 (k := .u8) ⟨g9, f, none⟩ (9 - f) (bytesI ((nine x).drop f)) wq (fun j hj => by
           rw [HLD.out] at hj
           have h1 := HA8.out.cell (f + j) (by rw [bytesI_length]; show f + j < 9; omega)
           rw [add_at', h1]
           congr 2
           unfold nth bytesI
           rw [gdd, gdd, List.getElem?_map, List.getElem?_map, List.getElem?_drop])
          rw [HLD.out] at h ⊢
          exact h
         have hol : out.length ≤ 1000001 := by
          have h1 : out.length ≤ (decN n).length := by
           have h2 := grp_len (ps.reverse.take k) (ps.reverse.drop k) []
           rw [← List.foldl_append, List.take_append_drop, ← HOU.out, HE.out, parts_dec HNZ.out] at h2
           rw [show decN n = Lib.decDigits n from if_neg HNZ.out]
           exact h2
          exact Nat.le_trans h1 (decN_len hm)
         rcases hst with u1 | ⟨u1, u2⟩ | ⟨u1, u2, u3⟩
         ·exact sq21 _
         ·exact sq21 _
         ·exact sq21 _
    ·obtain rfl : k = ps.length := by omega
     have HF : Hid (out = decN n) := by
      unfold Hid
      rw [HOU.out, HE.out, List.take_of_length_le (by rw [List.length_reverse, ← HE.out]; exact Nat.le_refl _), parts_dec HNZ.out]
      exact (if_neg HNZ.out).symm
     have hcv := str_of_own (P := Try.prog) wk 129 5 9 Try.underlying129 Try.underlying5 Try.underlying9 HO6.out
     rw [strOf_bytesI] at hcv
     have HDN : Hid (decN n = Lib.decDigits n) := if_neg HNZ.out
     go_wp2_with fail
     go_ret
     exact ⟨by rw [HF.out, HDN.out]; rfl, below_next HB.out HB6.out⟩
  obtain ⟨A2, c2, ys, rfl, hc2, HY, HR2⟩ := hrn.opened
  have hl1 : (0 : Int) < (ys.length : Int) := by
   have := wlen_pos.2 hm0
   have h2 : ys.length = wlen m := by rw [HY.out]; rfl
   omega
  have HM := Hd hrn
  have hwm : wlen m ≤ 100000000000 := by have := wlen_mono hmn; omega
  clear hrn HY HR2
  go_wp2_with fail
  refine (short2_calls _ _ m 1000000000 HM.out hwm (by decide) (by decide)).mono ?_
  rintro e w4 ⟨v, rfl, hq, hb, ⟨nq, hnq⟩⟩
  obtain ⟨r, hr⟩ : ∃ r, r = m % 1000000000 := ⟨_, rfl⟩
  obtain ⟨q, hqq⟩ : ∃ q, q = m / 1000000000 := ⟨_, rfl⟩
  rw [← hr]
  rw [← hqq] at hq
  have HQ := Hd hq
  have HNX : Hid (ps ++ [r] ++ partsN q = partsN n) := by unfold Hid; rw [List.append_assoc, ← HPP.out, partsN_pos hm0, hqq, hr]; rfl
  have HQM : Hid (q < m) := by unfold Hid; omega
  have HB4 := Hd (below_next HB.out hb)
  have HPS4 := Hd (HPS.out.move hb.size fun g hg => hb.block g (HPS.out.lt g hg).2)
  have HGQ : Hid (∀ g, v.ownBlock = some g → g = wr.heap.size) := fun g hg => by
   rw [hnq] at hg
   simp [Value.ownBlock] at hg
   exact hg.symm
  have HGP : Hid (∀ g, (Value.slice P3 ps.length p3).ownBlock = some g → g < wr.heap.size) := fun g hg => (HPS.out.lt g hg).2
  obtain ⟨Aq, cq, zs, ev, hcq, HZ, HRZ⟩ := hq.opened
  subst ev
  have hwq : w.heap.size ≤ w4.heap.size := HB4.out.size
  have hwr : wr.heap.size ≤ w4.heap.size := hb.size
  clear hq hb hr hqq hnq HZ HRZ HPP
  go_wp2_with (at_builtin; refine wpl_append (P := Try.prog) rfl (.tmp 23) (.tmp 25) 38 38 rfl 103 4 Try.underlying38 info103u (base := w.heap.size) (.slice P3 ps.length p3) (ints ps) rfl (HPS4.out.alloc _) _ rfl [(r : Int)] (src_nums Try.underlying38 _ 1 [(r : Int)] _ (one_cell _ .u32 (r : Int) 103)) (by rw [ints_length]; simp; omega) (by rw [ints_length]; simp; omega) (by simp; omega) ?_; intro v7 w7 ho7 hg7 hob7)
  have hB6 := below_next HB4.out (below_new w4 (.cells #[.int .u32 (r : Int)] 103))
  have HB7 := Hd (below_grown hB6 hg7 fun g hg => (HPS.out.lt g hg).1)
  have HQ7 := Hd ((HQ.out.below (below_new w4 (.cells #[.int .u32 (r : Int)] 103))).grown hg7 fun g hg e => by
   have h1 := HGQ.out g hg
   have h2 := HGP.out g e.symm
   omega)
  have HO7 : Hid (OwnC .u32 w.heap.size w7 v7 (ints (ps ++ [r]))) := by unfold Hid; rw [ints_append]; exact ho7
  have HD7 : Hid (∀ g, (Value.slice Aq zs.length cq).ownBlock = some g → v7.ownBlock ≠ some g) := fun g hg e => by
   have h1 := HGQ.out g hg
   rcases hob7 g e with h2 | h2
   ·have := HGP.out g h2
    omega
   ·have : (w4.alloc (.cells #[.int .u32 (r : Int)] 103)).heap.size = w4.heap.size + 1 := by simp
    have hsz := HB4.out.size
    omega
  clear hB6 ho7 hg7 hob7
  go_roundg q
  case rel => exact ⟨Nat.le_trans (Nat.le_of_lt HQM.out) hmn, HQ7.out, ⟨ps ++ [r], HO7.out, HNX.out⟩, HD7.out, HB7.out⟩
  case measure => exact HQM.out
def printB (q : Rat) : List UInt8 := (if negQ q = true then [45] else []) ++ Lib.decDigits q.num.natAbs ++ (if q.den = 1 then [] else 47 :: Lib.decDigits q.den)
theorem dec_len {n : Nat} (hm : wlen n ≤ 100000) : (Lib.decDigits n).length ≤ 1000001 := by
 by_cases h : n = 0
 ·subst h; rw [Lib.decDigits_length, Lib.nDigits_small (by decide)]; decide
 ·have := decN_len hm
  rwa [show decN n = Lib.decDigits n from if_neg h] at this
theorem fprint_calls (w : World) (v : Value) (f : RawF) (h : FR w v f) : Calls Try.prog 39 #[v] w fun e w' => SPost w (printB (fixQ f)) e w' := by
 obtain ⟨A1, n1, c1, A2, n2, c2, rfl, H⟩ := h.opened
 have hsz := sizeQ_fix f
 have hw1 : wlen (fixQ f).num.natAbs ≤ 100000 := by unfold sizeQ at hsz; omega
 have hw2 : wlen (fixQ f).den ≤ 100000 := by unfold sizeQ at hsz; omega
 clear h hsz
 go_enter Try.func39, Try.ntmps39
 go_wp2_with fail
 have HB0 := Hd (below_new w (.cells #[.bool f.neg, .slice A1 n1 c1, .slice A2 n2 c2] 40))
 generalize w.alloc (.cells #[.bool f.neg, .slice A1 n1 c1, .slice A2 n2 c2] 40) = W0 at *
 refine (taken_calls W0 _ f (H.out.of_below HB0.out)).mono ?_
 rintro e w1 ⟨v, rfl, hq, hb⟩
 obtain ⟨v1, v2, rfl, hr1, hr2⟩ := hq
 obtain ⟨B1, d1, x1, rfl, _, hx1, _⟩ := hr1.opened
 obtain ⟨B2, d2, x2, rfl, _, hx2, _⟩ := hr2.opened
 have HR1 := Hd hr1
 have HR2 := Hd hr2
 have HB1 := Hd (below_next HB0.out hb)
 clear hr1 hr2 hb hx1 hx2
 go_upto_region 2 with (fail)
 have hbn := below_new w1 (.cells #[.slice B1 x1.length d1, .slice B2 x2.length d2, .bool (negQ (fixQ f))] 85)
 have HBK := Hd (Blk.new w1 85 #[.slice B1 x1.length d1, .slice B2 x2.length d2, .bool (negQ (fixQ f))])
 have HB2 := Hd (below_next HB1.out hbn)
 have HS1 := Hd (HR1.out.below hbn)
 have HS2 := Hd (HR2.out.below hbn)
 obtain ⟨gt, hgt⟩ : ∃ g, g = w1.heap.size := ⟨_, rfl⟩
 rw [← hgt] at HBK ⊢
 generalize w1.alloc (.cells #[.slice B1 x1.length d1, .slice B2 x2.length d2, .bool (negQ (fixQ f))] 85) = W2 at *
 clear hgt hbn HR1 HR2 HB1
 obtain ⟨k0, k1, k2⟩ := HBK.out.c3
 have hlt := HBK.out.lt
 go_wp2_with fail
 refine (text_calls W2 _ _ HS1.out hw1).mono ?_
 rintro e w3 ⟨rfl, hb⟩
 have HB3 := Hd (below_next HB2.out hb)
 have HK3 := Hd (HBK.out.below hb HBK.out.lt)
 have HS3 := Hd (HS2.out.below hb)
 clear hb k0 k1 k2 hlt HBK HS1 HS2 HB2
 obtain ⟨k0, k1, k2⟩ := HK3.out.c3
 have hlt := HK3.out.lt
 obtain ⟨s1, hs1⟩ : ∃ s, s = strB (Lib.decDigits (fixQ f).num.natAbs) := ⟨_, rfl⟩
 rw [← hs1]
 have hz1 : s1.size ≤ 1000001 := by rw [hs1, strB_size]; exact dec_len hw1
 have HE1 := Hd hs1
 have hcc : ¬ 9223372036854775807 < (ByteArray.mk #[45]).size + s1.size := by show ¬ 9223372036854775807 < 1 + s1.size; omega
 clear hs1
 cases hn : negQ (fixQ f)
 case false =>
  rw [hn] at k2
  have HN : Hid ((if negQ (fixQ f) = true then [(45 : UInt8)] else []) = []) := by unfold Hid; rw [hn]; rfl
  clear hn
  go_wp2_with fail
  refine (one_calls _ _ _ HS3.out).mono ?_
  rintro e w4 ⟨rfl, hb⟩
  have HB4 := Hd (below_next HB3.out hb)
  have HK4 := Hd (HK3.out.below hb HK3.out.lt)
  have HS4 := Hd (HS3.out.below hb)
  clear hb k0 k1 k2 hlt
  obtain ⟨k0, k1, k2⟩ := HK4.out.c3
  have hlt := HK4.out.lt
  by_cases hd : (fixQ f).den = 1
  ·have hd1 : decide ((fixQ f).den = 1) = true := decide_eq_true hd
   have HP : Hid (strB (printB (fixQ f)) = s1) := by
    unfold Hid printB
    rw [HN.out, if_pos hd, HE1.out, List.append_nil]
    rfl
   clear hd
   go_wp2_with fail
   go_ret
   exact ⟨by rw [HP.out]; rfl, HB4.out⟩
  ·have hd1 : decide ((fixQ f).den = 1) = false := decide_eq_false hd
   have HD := Hd hd
   clear hd
   go_wp2_with fail
   refine (text_calls _ _ _ HS4.out hw2).mono ?_
   rintro e w5 ⟨rfl, hb⟩
   have HB5 := Hd (below_next HB4.out hb)
   clear hb
   obtain ⟨s3, hs3⟩ : ∃ s, s = strB (Lib.decDigits (fixQ f).den) := ⟨_, rfl⟩
   rw [← hs3]
   have hz3 : s3.size ≤ 1000001 := by rw [hs3, strB_size]; exact dec_len hw2
   have HE3 := Hd hs3
   clear hs3
   have hd2 : ¬ 9223372036854775807 < (ByteArray.mk #[47]).size + s3.size := by show ¬ 9223372036854775807 < 1 + s3.size; omega
   have hd3 : ¬ 9223372036854775807 < s1.size + (ByteArray.mk #[47] ++ s3).size := by
    rw [ByteArray.size_append]
    show ¬ 9223372036854775807 < s1.size + (1 + s3.size)
    omega
   have HP : Hid (strB (printB (fixQ f)) = s1 ++ (ByteArray.mk #[47] ++ s3)) := by
    unfold Hid printB
    rw [HN.out, if_neg HD.out, HE1.out, HE3.out, ← strB_append]
    rw [show (47 :: Lib.decDigits (fixQ f).den) = [47] ++ Lib.decDigits (fixQ f).den from rfl, ← strB_append]
    rfl
   go_wp2_with fail
   go_ret
   exact ⟨by rw [HP.out]; rfl, HB5.out⟩
 case true =>
  rw [hn] at k2
  have HN : Hid ((if negQ (fixQ f) = true then [(45 : UInt8)] else []) = [45]) := by unfold Hid; rw [hn]; rfl
  clear hn
  go_wp2_with fail
  refine (one_calls _ _ _ HS3.out).mono ?_
  rintro e w4 ⟨rfl, hb⟩
  have HB4 := Hd (below_next HB3.out hb)
  have HK4 := Hd (HK3.out.below hb HK3.out.lt)
  have HS4 := Hd (HS3.out.below hb)
  clear hb k0 k1 k2 hlt
  obtain ⟨k0, k1, k2⟩ := HK4.out.c3
  have hlt := HK4.out.lt
  by_cases hd : (fixQ f).den = 1
  ·have hd1 : decide ((fixQ f).den = 1) = true := decide_eq_true hd
   have HP : Hid (strB (printB (fixQ f)) = (ByteArray.mk #[45] ++ s1)) := by
    unfold Hid printB
    rw [HN.out, if_pos hd, HE1.out, List.append_nil]
    exact (strB_append [45] _).symm
   clear hd
   go_wp2_with fail
   go_ret
   exact ⟨by rw [HP.out]; rfl, HB4.out⟩
  ·have hd1 : decide ((fixQ f).den = 1) = false := decide_eq_false hd
   have HD := Hd hd
   clear hd
   go_wp2_with fail
   refine (text_calls _ _ _ HS4.out hw2).mono ?_
   rintro e w5 ⟨rfl, hb⟩
   have HB5 := Hd (below_next HB4.out hb)
   clear hb
   obtain ⟨s3, hs3⟩ : ∃ s, s = strB (Lib.decDigits (fixQ f).den) := ⟨_, rfl⟩
   rw [← hs3]
   have hz3 : s3.size ≤ 1000001 := by rw [hs3, strB_size]; exact dec_len hw2
   have HE3 := Hd hs3
   clear hs3
   have hd2 : ¬ 9223372036854775807 < (ByteArray.mk #[47]).size + s3.size := by show ¬ 9223372036854775807 < 1 + s3.size; omega
   have hd3 : ¬ 9223372036854775807 < (ByteArray.mk #[45] ++ s1).size + (ByteArray.mk #[47] ++ s3).size := by
    rw [ByteArray.size_append, ByteArray.size_append]
    show ¬ 9223372036854775807 < 1 + s1.size + (1 + s3.size)
    omega
   have HP : Hid (strB (printB (fixQ f)) = (ByteArray.mk #[45] ++ s1) ++ (ByteArray.mk #[47] ++ s3)) := by
    unfold Hid printB
    rw [HN.out, if_neg HD.out, HE1.out, HE3.out, ← strB_append, ← strB_append]
    rw [show (47 :: Lib.decDigits (fixQ f).den) = [47] ++ Lib.decDigits (fixQ f).den from rfl, ← strB_append]
    rfl
   go_wp2_with fail
   go_ret
   exact ⟨by rw [HP.out]; rfl, HB5.out⟩
theorem fixN (x : Int) (h0 : -9223372036854775808 ≤ x) (h1 : x < 9223372036854775808) : fixQ (rawQ (x : Rat)) = (x : Rat) := fixQ_raw _ (by have := size_int x h0 h1; omega)
theorem fq0 : fixQ (rawQ 0) = 0 := fixN 0 (by decide) (by decide)
theorem fq1 : fixQ (rawQ 1) = 1 := fixN 1 (by decide) (by decide)
theorem fq2 : fixQ (rawQ 2) = 2 := fixN 2 (by decide) (by decide)
theorem fq3 : fixQ (rawQ 3) = 3 := fixN 3 (by decide) (by decide)
theorem fq4 : fixQ (rawQ 4) = 4 := fixN 4 (by decide) (by decide)
theorem fqm : fixQ (rawQ (-1)) = -1 := fixN (-1) (by decide) (by decide)
theorem ev2 : fitsP (rawP exP) [rawQ 3, rawQ 1] = true := by
 simp only [fitsP, fitsB, rightP, rawP, rawR, exP, List.map_cons, List.map_nil, List.all_cons, List.all_nil, List.any_cons, List.any_nil, rowBad, rowHolds, fq0, fq1, fq2, fq3, fq4, fqm, List.length_cons, List.length_nil]
 decide +kernel
theorem ev3 : fitsP (rawP exP) [rawQ 4, rawQ 1] = false := by
 simp only [fitsP, fitsB, rightP, rawP, rawR, exP, List.map_cons, List.map_nil, List.all_cons, List.all_nil, List.any_cons, List.any_nil, rowBad, rowHolds, fq0, fq1, fq2, fq3, fq4, fqm, List.length_cons, List.length_nil]
 decide +kernel
theorem ev1 : judgeB (rawP exP) ⟨1, [rawQ 3, rawQ 1], [rawQ 2, rawQ 1], []⟩ = true := by
 simp only [judgeB, boundsB, rightsQ, signsB, fitsB, rightP, rawP, rawR, exP, List.map_cons, List.map_nil, List.all_cons, List.all_nil, List.any_cons, List.any_nil, rowBad, rowHolds, fq0, fq1, fq2, fq3, fq4, fqm, List.length_cons, List.length_nil, show List.range (2 : Int).toNat = [0, 1] from rfl, colOk, colV, colQ, colL, nthF, List.getD_cons_zero, List.getD_cons_succ, List.zipWith_cons_cons, List.zipWith_nil_left, List.zipWith_nil_right]
 decide +kernel
theorem ev4 : judgeB (rawP exOne) ⟨3, [rawQ 0], [], [rawQ 1]⟩ = true := by
 simp only [judgeB, boundsB, goesB, rowGoes, rightsQ, signsB, fitsB, rightP, rawP, rawR, exOne, List.map_cons, List.map_nil, List.all_cons, List.all_nil, List.any_cons, List.any_nil, rowBad, rowHolds, fq0, fq1, fq2, fq3, fq4, fqm, List.length_cons, List.length_nil]
 decide +kernel
theorem ev5 : judgeB (rawP exNone) ⟨2, [], [rawQ 1], []⟩ = true := by
 simp only [judgeB, boundsB, rightsQ, signsB, fitsB, rightP, rawP, rawR, exNone, List.map_cons, List.map_nil, List.all_cons, List.all_nil, List.any_cons, List.any_nil, rowBad, rowHolds, fq0, fq1, fq2, fq3, fq4, fqm, List.length_cons, List.length_nil, show List.range (1 : Int).toNat = [0] from rfl, colOk, colV, colQ, colL, nthF, List.getD_cons_zero, List.getD_cons_succ, List.zipWith_cons_cons, List.zipWith_nil_left, List.zipWith_nil_right]
 decide +kernel
theorem val1 : valueP (rawP exP) [rawQ 3, rawQ 1] = 11 := by
 simp only [valueP, rightP, rawP, rawR, exP, List.map_cons, List.map_nil, List.all_cons, List.all_nil, List.any_cons, List.any_nil, rowBad, fq0, fq1, fq2, fq3, fq4, fqm, List.length_cons, List.length_nil]
 decide +kernel
theorem sm (x : Int) (h0 : -9223372036854775808 ≤ x) (h1 : x < 9223372036854775808) : Small (x : Rat) := small_ofInt x h0 h1
theorem smallP : SmallP exP ∧ SmallP exOne ∧ SmallP exNone := by
 have s0 : Small 0 := sm 0 (by decide) (by decide)
 have s1 : Small 1 := sm 1 (by decide) (by decide)
 have s2 : Small 2 := sm 2 (by decide) (by decide)
 have s3 : Small 3 := sm 3 (by decide) (by decide)
 have s4 : Small 4 := sm 4 (by decide) (by decide)
 have sm' : Small (-1) := sm (-1) (by decide) (by decide)
 simp [SmallP, SmallR, exP, exOne, exNone, s0, s1, s2, s3, s4, sm']
theorem print11 : printB 11 = [49, 49] := by kernel_rfl
theorem bnd1 : boundedQ (rawP exP) [] = exP := by
 simp only [boundedQ, rawP, rawR, exP, cleanR, List.map_cons, List.map_nil, List.append_nil, fq0, fq1, fq2, fq3, fq4, fqm]
theorem rgt1 : rightP (rawP exP) = 0 := by kernel_rfl
theorem fit1 : fitsB (rawP exP) [rawQ 3, rawQ 1] = true := by
 have := ev2
 unfold fitsP at this
 rw [rgt1] at this
 simpa using this
theorem le1 : ordQ (valueP (rawP exP) [rawQ 3, rawQ 1]) (valueP (rawP exP) [rawQ 3, rawQ 1]) ≤ 0 := by simp [ordQ]
theorem i64_all (l : List Int) (h : (l.all fun x => decide (-1000 ≤ x) && decide (x ≤ 1000)) = true) : ∀ x ∈ l, I64 x := fun x hx => by
 have := List.all_eq_true.1 h x hx
 simp only [Bool.and_eq_true, decide_eq_true_eq] at this
 unfold I64
 omega
theorem small_all (l : List Int) (h : (l.all fun x => decide (-1000 ≤ x) && decide (x ≤ 1000)) = true) : ∀ x ∈ l, -9223372036854775808 ≤ x ∧ x < 9223372036854775808 := fun x hx => by
 have := List.all_eq_true.1 h x hx
 simp only [Bool.and_eq_true, decide_eq_true_eq] at this
 omega
theorem own_one {base : Nat} {w : World} {v : Value} {q : Rat} (h : QO base w v [q]) : ∃ g c, v = .slice (some ⟨g, 0, none⟩) 1 c := by
 obtain ⟨xs, ⟨_, h1⟩, _⟩ := h
 rcases h1 with ⟨_, h0⟩ | ⟨g, cap, cur, e, _⟩
 ·cases h0
 ·exact ⟨g, cap, e⟩
theorem own_cells {base g c : Nat} {w : World} {q : Rat} (h : QO base w (.slice (some ⟨g, 0, none⟩) 1 c) [q]) : ∃ A1 n1 c1 A2 n2 c2, g < w.heap.size ∧ w.cell? ⟨g, 0, none⟩ = some (.bool (negQ q)) ∧ w.cell? ⟨g, 1, none⟩ = some (.slice A1 n1 c1) ∧ w.cell? ⟨g, 2, none⟩ = some (.slice A2 n2 c2) ∧ FQ w (.agg #[.bool (negQ q), .slice A1 n1 c1, .slice A2 n2 c2]) q := by
 obtain ⟨g', o', A1, n1, c1, A2, n2, c2, e, hg, h0, h1, h2, HF⟩ := QO.at3 h (j := 0) rfl
 injection e with e
 injection e with e1 e2 _
 subst e1 e2
 exact ⟨A1, n1, c1, A2, n2, c2, hg, by simpa using h0, by simpa using h1, by simpa using h2, HF.out⟩
theorem getD_q {a : Array Value} {d : Nat} {v : Value} (h : a.getD d undef = v) : a[d]?.getD undef = v := by rw [← Array.getD_eq_getD_getElem?]; exact h
theorem OL.shape {α : Type} {k e : Nat} {E : World → Array Value → α → Prop} {base : Nat} {w : World} {v : Value} {xs : List α} (h : OL k e E base w v xs) : ∃ A n c, v = .slice A n c := by
 obtain ⟨xs', ⟨_, h1⟩, _⟩ := h
 rcases h1 with ⟨h, _⟩ | ⟨g, cap, cur, e, _⟩
 ·exact ⟨_, _, _, h⟩
 ·exact ⟨_, _, _, e⟩
theorem nq {l : List Int} {qs : List Rat} (h : ratsI l = qs) {b c : Nat} {w : World} {v : Value} (hq : QO c w v (ratsI l)) (hb : b ≤ c) : QO b w v qs := by
 rw [← h]
 exact QO.lower hq hb
theorem il_at {w : World} {n : Nat} (l : List Int) (t : Nat) (hn : n = w.heap.size) : IL (w.alloc (.cells (l.map fun x => Value.int .i64 x).toArray t)) (.slice (some ⟨n, 0, none⟩) l.length l.length) l := by
 subst hn
 exact il_new w l t
theorem alloc_sz (w : World) (o : Obj) : w.heap.size + 1 = (w.alloc o).heap.size := by simp
theorem RO.nil (b : Nat) (w : World) : RO b w (.slice none 0 0) [] := ⟨[], ⟨rfl, .inl ⟨rfl, rfl⟩⟩, fun j a h => by simp at h⟩
def BoxP (b : Nat) (w : World) (g : Nat) (p : ProgQ) : Prop := ∃ x1 x2 x3, Blk w g 26 #[.int .i64 p.vars, x1, x2, x3] ∧ PO b w (.agg #[.int .i64 p.vars, x1, x2, x3]) p
theorem BoxP.below {b : Nat} {w w1 : World} {g : Nat} {p : ProgQ} (h : BoxP b w g p) (hb : Below w.heap.size w w1) : BoxP b w1 g p := by
 obtain ⟨x1, x2, x3, h1, h2⟩ := h
 exact ⟨x1, x2, x3, h1.below hb h1.lt, h2.below hb⟩
theorem box_put {b : Nat} {w : World} {g : Nat} {p : ProgQ} {x1 x2 x3 : Value} (h : Blk w g 26 #[.int .i64 0, .slice none 0 0, .slice none 0 0, .slice none 0 0]) (hg : b ≤ g) (hp : PO b w (.agg #[.int .i64 p.vars, x1, x2, x3]) p) : BoxP b ((((w.setCell ⟨g, 0, none⟩ (.int .i64 p.vars)).setCell ⟨g, 1, none⟩ x1).setCell ⟨g, 2, none⟩ x2).setCell ⟨g, 3, none⟩ x3) g p :=
 ⟨x1, x2, x3, h.put4 _ _ _ _, PO.chg hp (chg_of_only (put4_only h zc_words _ _ _ _) h hg) (by decide) (by decide) (by decide)⟩
theorem BoxP.new {b : Nat} {w : World} {p : ProgQ} (v : Int) {x1 x2 x3 : Value} (hp : PO b w (.agg #[.int .i64 v, x1, x2, x3]) p) : BoxP b (w.alloc (.cells #[.int .i64 v, x1, x2, x3] 26)) w.heap.size p ∧ Below w.heap.size w (w.alloc (.cells #[.int .i64 v, x1, x2, x3] 26)) := by
 obtain rfl : v = p.vars := by
  obtain ⟨_, _, _, e, _⟩ := hp
  injection e with e
  have := congrArg (·[0]?) e
  simpa using this
 exact ⟨⟨x1, x2, x3, Blk.new w 26 _, hp.below (below_new _ _)⟩, below_new _ _⟩
theorem RO.new1 {b : Nat} {w : World} {r : RowQ} {A A1 A2 : Option Addr} {n c n1 c1 n2 c2 : Nat} {s : Int} {t : Bool} (h : ERO b w #[.slice A n c, .int .i64 s, .bool t, .slice A1 n1 c1, .slice A2 n2 c2] r) (hb : b ≤ w.heap.size) : RO b (w.alloc (.cells #[.slice A n c, .int .i64 s, .bool t, .slice A1 n1 c1, .slice A2 n2 c2] 65)) (.slice (some ⟨w.heap.size, 0, none⟩) 1 1) [r] ∧ Below w.heap.size w (w.alloc (.cells #[.slice A n c, .int .i64 s, .bool t, .slice A1 n1 c1, .slice A2 n2 c2] 65)) :=
 ⟨OL.new (α := RowQ) ERO.stays w [[_, _, _, _, _]] [r] rfl (by intro r hr; simp at hr; subst hr; rfl) (fun j r' x hr hx => by
  match j, hr, hx with
  | 0, hr, hx => obtain rfl := Option.some.inj hr; obtain rfl := Option.some.inj hx; exact h
  | j + 1, hr, hx => cases hx) hb (by intro u hu; simp at hu; rcases hu with rfl | rfl | rfl | rfl | rfl <;> rfl) (by simp), below_new _ _⟩
theorem QO.bel {b : Nat} {w w1 : World} {v : Value} {qs : List Rat} (h : QO b w v qs) (hb : Below w.heap.size w w1) : QO b w1 v qs := OL.below EFQ.stays h hb
def BoxC (w : World) (g : Nat) (c : CertF) : Prop := ∃ x1 x2 x3, Blk w g 44 #[.int .i64 c.kind, x1, x2, x3] ∧ CR w (.agg #[.int .i64 c.kind, x1, x2, x3]) c
theorem BoxC.below {w w1 : World} {g : Nat} {c : CertF} (h : BoxC w g c) (hb : Below w.heap.size w w1) : BoxC w1 g c := by
 obtain ⟨x1, x2, x3, h1, h2⟩ := h
 exact ⟨x1, x2, x3, h1.below hb h1.lt, h2.of_below hb⟩
theorem BoxC.new {w : World} {c : CertF} (v : Int) {x1 x2 x3 : Value} (hp : CR w (.agg #[.int .i64 v, x1, x2, x3]) c) : BoxC (w.alloc (.cells #[.int .i64 v, x1, x2, x3] 44)) w.heap.size c ∧ Below w.heap.size w (w.alloc (.cells #[.int .i64 v, x1, x2, x3] 44)) := by
 obtain rfl : v = c.kind := by
  obtain ⟨_, _, _, e, _⟩ := hp
  injection e with e
  have := congrArg (·[0]?) e
  simpa using this
 exact ⟨⟨x1, x2, x3, Blk.new w 44 _, hp.of_below (below_new _ _)⟩, below_new _ _⟩
theorem small_nums (l : List Int) (h : (l.all fun x => decide (-1000 ≤ x) && decide (x ≤ 1000)) = true) : ∀ q ∈ ratsI l, Small q := fun q hq => by
 obtain ⟨x, hx, rfl⟩ := List.mem_map.1 hq
 exact small_ofInt x (small_all l h x hx).1 (small_all l h x hx).2
theorem flN (l : List Int) {b : Nat} {w : World} {v : Value} (hq : QO b w v (ratsI l)) (h : (l.all fun x => decide (-1000 ≤ x) && decide (x ≤ 1000)) = true) : FL w v ((ratsI l).map rawQ) := QO.fl hq (small_nums l h)
theorem FL.nil0 (w : World) : FL w (.slice none 0 0) [] := QO.fl (base := 0) (qs := []) ⟨[], ⟨rfl, .inl ⟨rfl, rfl⟩⟩, fun j a h => by simp at h⟩ (by simp)
def BoxR (w : World) (g : Nat) (p : ProgF) : Prop := ∃ x1 x2 x3, Blk w g 26 #[.int .i64 p.vars, x1, x2, x3] ∧ PR w (.agg #[.int .i64 p.vars, x1, x2, x3]) p
theorem BoxR.below {w w1 : World} {g : Nat} {p : ProgF} (h : BoxR w g p) (hb : Below w.heap.size w w1) : BoxR w1 g p := by
 obtain ⟨x1, x2, x3, h1, h2⟩ := h
 exact ⟨x1, x2, x3, h1.below hb h1.lt, h2.of_below hb⟩
theorem BoxP.read {b : Nat} {w : World} {g : Nat} {p : ProgQ} (h : BoxP b w g p) (hs : SmallP p) : BoxR w g (rawP p) := by
 obtain ⟨x1, x2, x3, h1, h2⟩ := h
 exact ⟨x1, x2, x3, h1, h2.pr hs⟩
section
variable {P : Program} {ops : Array Oper} {Q : Exit → Act → World → Prop}
theorem getD_bool {a : Array Value} {d : Nat} {b : Bool} (h : a.getD d undef = .bool b) : a[d]? = some (.bool b) := by
 rw [Array.getD_eq_getD_getElem?] at h
 cases e : a[d]? with
 | none => rw [e] at h; cases h
 | some u => rw [e] at h; exact congrArg some h
theorem wpOp_guard {o : Oper} {c j d : Nat} {b : Bool} {K : Act → World → Prop} {a : Act} {w : World} (hc : ops[c]? = some o) (hg : o.guard = some (j, b)) (hd : dstAt ops j = some d) (hv : a.tmps.getD d undef = .bool b) (h : wpList P ops (chainQ Q K) [{ o with guard := none }] a w) : wpOp P ops Q c K a w := by
 have hy : yielded ops a.tmps j = some b := by
  unfold yielded
  unfold dstAt at hd
  rw [hd]
  simp [getD_bool hv]
 have hw : Region.wanted o (yielded ops a.tmps) = true := by
  unfold Region.wanted
  rw [hg]
  simp [hy]
 have hw2 : Region.wanted { o with guard := none } (yielded ops a.tmps) = true := rfl
 unfold wpList at h
 rw [if_pos hw2] at h
 unfold wpOp
 simp only [hc]
 rw [if_pos hw]
 rcases h with h | h
 ·exact .inl (wp_of_chain h)
 ·exact .inr h
end
theorem ev1' : judgeB (rawP exP) ⟨1, (ratsI [3, 1]).map rawQ, (ratsI [2, 1]).map rawQ, []⟩ = true := ev1
theorem ev2' : fitsP (rawP exP) ((ratsI [3, 1]).map rawQ) = true := ev2
theorem ev3' : fitsP (rawP exP) ((ratsI [4, 1]).map rawQ) = false := ev3
theorem ev4' : judgeB (rawP exOne) ⟨3, (ratsI [0]).map rawQ, [], (ratsI [1]).map rawQ⟩ = true := ev4
theorem ev5' : judgeB (rawP exNone) ⟨2, [], (ratsI [1]).map rawQ, []⟩ = true := ev5
theorem i64_m : I64 (-1) := by unfold I64; decide
theorem i64_z : I64 0 := by unfold I64; decide
theorem i64_o : I64 1 := by unfold I64; decide
def SmallC (c : CertQ) : Prop := I64 c.kind ∧ (∀ q ∈ c.x, Small q) ∧ (∀ q ∈ c.y, Small q) ∧ ∀ q ∈ c.ray, Small q
def rawC (c : CertQ) : CertF := ⟨c.kind, c.x.map rawQ, c.y.map rawQ, c.ray.map rawQ⟩
def CO (b : Nat) (w : World) (v : Value) (c : CertQ) : Prop := ∃ v1 v2 v3, v = .agg #[.int .i64 c.kind, v1, v2, v3] ∧ QO b w v1 c.x ∧ QO b w v2 c.y ∧ QO b w v3 c.ray
theorem CO.below {b : Nat} {w w1 : World} {v : Value} {c : CertQ} (h : CO b w v c) (hb : Below w.heap.size w w1) : CO b w1 v c := by
 obtain ⟨v1, v2, v3, e, h1, h2, h3⟩ := h
 exact ⟨v1, v2, v3, e, OL.below EFQ.stays h1 hb, OL.below EFQ.stays h2 hb, OL.below EFQ.stays h3 hb⟩
theorem CO.chg {b t : Nat} {w w1 : World} {v : Value} {c : CertQ} (h : CO b w v c) (hc : Chg b t w w1) (hne : 40 ≠ t) : CO b w1 v c := by
 obtain ⟨v1, v2, v3, e, h1, h2, h3⟩ := h
 exact ⟨v1, v2, v3, e, h1.chg hc hne, h2.chg hc hne, h3.chg hc hne⟩
theorem CO.read {b : Nat} {w : World} {v : Value} {c : CertQ} (h : CO b w v c) (hs : SmallC c) : CR w v (rawC c) := by
 obtain ⟨v1, v2, v3, e, h1, h2, h3⟩ := h
 exact ⟨v1, v2, v3, e, hs.1, QO.fl h1 hs.2.1, QO.fl h2 hs.2.2.1, QO.fl h3 hs.2.2.2⟩
def ECO (b : Nat) (w : World) (vs : Array Value) (c : CertQ) : Prop := ∃ v1 v2 v3, vs = #[.int .i64 (-1), .int .i64 0, .int .i64 0, .int .i64 c.kind, v1, v2, v3] ∧ CO b w (.agg #[.int .i64 c.kind, v1, v2, v3]) c
theorem ECO.stays {b : Nat} : Stays (ECO b) := fun _ _ _ _ h hb => by
 obtain ⟨v1, v2, v3, e, h⟩ := h
 exact ⟨v1, v2, v3, e, h.below hb⟩
abbrev KO (b : Nat) (w : World) (v : Value) (cs : List CertQ) : Prop := OL 7 82 (ECO b) b w v cs
theorem KO.chg {b t : Nat} {w w1 : World} {v : Value} {cs : List CertQ} (h : KO b w v cs) (hc : Chg b t w w1) (hne : 40 ≠ t) (hne2 : 82 ≠ t) : KO b w1 v cs := by
 obtain ⟨xs, h1, h2⟩ := h
 refine ⟨xs, h1.chg hc hne2, fun j a hj => ?_⟩
 obtain ⟨vs, h3, h4, v1, v2, v3, e, h5⟩ := h2 j a hj
 exact ⟨vs, h3, h4, v1, v2, v3, e, h5.chg hc hne⟩
def rawK (c : CertQ) : CaseF := ⟨-1, 0, 0, rawC c⟩
theorem KO.read {b : Nat} {w : World} {v : Value} {cs : List CertQ} (h : KO b w v cs) (hs : ∀ c ∈ cs, SmallC c) : CL w v (cs.map rawK) :=
 SL.mapE rawK (OL.sl h) fun vs c hm ⟨v1, v2, v3, e, he⟩ => ⟨v1, v2, v3, e, ⟨(i64_m : I64 (-1)), (i64_z : I64 0), (i64_z : I64 0)⟩, he.read (hs c hm)⟩
theorem KO.new1 {b : Nat} {w : World} {c : CertQ} {v1 v2 v3 : Value} {k : Int} (h : CO b w (.agg #[.int .i64 k, v1, v2, v3]) c) (hb : b ≤ w.heap.size) (n1 : notWord v1 = true) (n2 : notWord v2 = true) (n3 : notWord v3 = true) : KO b (w.alloc (.cells #[.int .i64 (-1), .int .i64 0, .int .i64 0, .int .i64 k, v1, v2, v3] 82)) (.slice (some ⟨w.heap.size, 0, none⟩) 1 1) [c] :=
 OL.new (α := CertQ) ECO.stays w [[_, _, _, _, _, _, _]] [c] rfl (by intro r hr; simp at hr; subst hr; rfl) (fun j r' x hr hx => by
  match j, hr, hx with
  | 0, hr, hx =>
   obtain rfl := Option.some.inj hr
   obtain rfl := Option.some.inj hx
   obtain ⟨u1, u2, u3, e, h1⟩ := h
   have e' := e
   injection e' with e'
   obtain ⟨rfl, rfl, rfl, rfl⟩ : k = c.kind ∧ v1 = u1 ∧ v2 = u2 ∧ v3 = u3 := by simpa using e'
   exact ⟨_, _, _, rfl, _, _, _, rfl, h1⟩
  | j + 1, hr, hx => cases hx) hb (by intro u hu; simp at hu; rcases hu with rfl | rfl | rfl | rfl | rfl | rfl | rfl <;> first | rfl | assumption) (by simp)
def TO (b : Nat) (w : World) (v : Value) (x : List Rat) (cs : List CertQ) : Prop := ∃ v1 v3, v = .agg #[.int .i64 1, v1, .slice none 0 0, v3] ∧ QO b w v1 x ∧ KO b w v3 cs
theorem TO.below {b : Nat} {w w1 : World} {v : Value} {x : List Rat} {cs : List CertQ} (h : TO b w v x cs) (hb : Below w.heap.size w w1) : TO b w1 v x cs := by
 obtain ⟨v1, v3, e, h1, h3⟩ := h
 exact ⟨v1, v3, e, OL.below EFQ.stays h1 hb, OL.below ECO.stays h3 hb⟩
theorem TO.chg {b t : Nat} {w w1 : World} {v : Value} {x : List Rat} {cs : List CertQ} (h : TO b w v x cs) (hc : Chg b t w w1) (hne : 40 ≠ t) (hne2 : 82 ≠ t) : TO b w1 v x cs := by
 obtain ⟨v1, v3, e, h1, h3⟩ := h
 exact ⟨v1, v3, e, h1.chg hc hne, h3.chg hc hne hne2⟩
theorem TO.read {b : Nat} {w : World} {v : Value} {x : List Rat} {cs : List CertQ} (h : TO b w v x cs) (hx : ∀ q ∈ x, Small q) (hs : ∀ c ∈ cs, SmallC c) : TR w v ⟨1, x.map rawQ, [], cs.map rawK⟩ := by
 obtain ⟨v1, v3, e, h1, h3⟩ := h
 exact ⟨v1, _, v3, e, (i64_o : I64 1), QO.fl h1 hx, FL.nil0 _, h3.read hs⟩
def BoxO (b : Nat) (w : World) (g : Nat) (c : CertQ) : Prop := ∃ x1 x2 x3, Blk w g 44 #[.int .i64 c.kind, x1, x2, x3] ∧ CO b w (.agg #[.int .i64 c.kind, x1, x2, x3]) c
theorem BoxO.below {b : Nat} {w w1 : World} {g : Nat} {c : CertQ} (h : BoxO b w g c) (hb : Below w.heap.size w w1) : BoxO b w1 g c := by
 obtain ⟨x1, x2, x3, h1, h2⟩ := h
 exact ⟨x1, x2, x3, h1.below hb h1.lt, h2.below hb⟩
theorem BoxO.new {b : Nat} {w : World} {c : CertQ} (v : Int) {x1 x2 x3 : Value} (hp : CO b w (.agg #[.int .i64 v, x1, x2, x3]) c) : BoxO b (w.alloc (.cells #[.int .i64 v, x1, x2, x3] 44)) w.heap.size c ∧ Below w.heap.size w (w.alloc (.cells #[.int .i64 v, x1, x2, x3] 44)) := by
 obtain rfl : v = c.kind := by
  obtain ⟨_, _, _, e, _⟩ := hp
  injection e with e
  have := congrArg (·[0]?) e
  simpa using this
 exact ⟨⟨x1, x2, x3, Blk.new w 44 _, hp.below (below_new _ _)⟩, below_new _ _⟩
def BoxT (w : World) (g : Nat) (t : TreeF) : Prop := ∃ x1 x2 x3, Blk w g 56 #[.int .i64 t.kind, x1, x2, x3] ∧ TR w (.agg #[.int .i64 t.kind, x1, x2, x3]) t
theorem BoxT.below {w w1 : World} {g : Nat} {t : TreeF} (h : BoxT w g t) (hb : Below w.heap.size w w1) : BoxT w1 g t := by
 obtain ⟨x1, x2, x3, h1, h2⟩ := h
 exact ⟨x1, x2, x3, h1.below hb h1.lt, h2.of_below hb⟩
theorem boxT_put {b b2 : Nat} {w0 w : World} {g : Nat} {x : List Rat} {cs : List CertQ} {x1 x3 : Value} (h : Blk w g 56 #[.int .i64 0, .slice none 0 0, .slice none 0 0, .slice none 0 0]) (hB : Below b2 w0 w) (hg : b2 ≤ g) (hb : b ≤ b2) (hp : TO b w (.agg #[.int .i64 1, x1, .slice none 0 0, x3]) x cs) (hx : ∀ q ∈ x, Small q) (hs : ∀ c ∈ cs, SmallC c) :
  BoxT ((((w.setCell ⟨g, 0, none⟩ (.int .i64 1)).setCell ⟨g, 1, none⟩ x1).setCell ⟨g, 2, none⟩ (.slice none 0 0)).setCell ⟨g, 3, none⟩ x3) g ⟨1, x.map rawQ, [], cs.map rawK⟩ ∧ Below b2 w0 ((((w.setCell ⟨g, 0, none⟩ (.int .i64 1)).setCell ⟨g, 1, none⟩ x1).setCell ⟨g, 2, none⟩ (.slice none 0 0)).setCell ⟨g, 3, none⟩ x3) :=
 ⟨⟨x1, _, x3, h.put4 _ _ _ _, (TO.chg hp (chg_of_only (put4_only h zc_words _ _ _ _) h (Nat.le_trans hb hg)) (by decide) (by decide)).read hx hs⟩, below_put4 hB hg _ _ _ _⟩
def CaseO (b : Nat) (w : World) (v : Value) : Prop := ∃ A1 n1 c1 A2 n2 c2 A3 n3 c3, v = .agg #[.int .i64 (-1), .int .i64 0, .int .i64 0, .int .i64 1, .slice A1 n1 c1, .slice A2 n2 c2, .slice A3 n3 c3] ∧ CO b w (.agg #[.int .i64 1, .slice A1 n1 c1, .slice A2 n2 c2, .slice A3 n3 c3]) ⟨1, ratsI [3, 1], ratsI [2, 1], []⟩
theorem CaseO.below {b : Nat} {w w1 : World} {v : Value} (h : CaseO b w v) (hb : Below w.heap.size w w1) : CaseO b w1 v := by
 obtain ⟨A1, n1, c1, A2, n2, c2, A3, n3, c3, e, h⟩ := h
 exact ⟨A1, n1, c1, A2, n2, c2, A3, n3, c3, e, h.below hb⟩
theorem QO.nil0 (b : Nat) (w : World) : QO b w (.slice none 0 0) [] := ⟨[], ⟨rfl, .inl ⟨rfl, rfl⟩⟩, fun j a h => by simp at h⟩
def exA : CertQ := ⟨1, ratsI [3, 1], ratsI [2, 1], []⟩
theorem smallA : SmallC exA := ⟨by unfold I64; decide, small_nums [3, 1] rfl, small_nums [2, 1] rfl, by simp [exA]⟩
def exC : CertF := ⟨1, (ratsI [3, 1]).map rawQ, (ratsI [2, 1]).map rawQ, []⟩
def F7 (b b2 i : Nat) (v : Value) (w : World) : Prop :=
 match i with
 | 0 => IL w v [3, 1]
 | 1 => QO b w v (ratsI [3, 1])
 | 2 => CO b w v exA
 | 3 => CaseO b w v
 | 4 => KO b w v [exA]
 | 5 => TO b w v (ratsI [3, 1]) [exA]
 | 6 => Box4 b2 56 w v
 | _ => True
theorem F7.below {b b2 i : Nat} {v : Value} {w w1 : World} (h : F7 b b2 i v w) (hb : Below w.heap.size w w1) : F7 b b2 i v w1 := by
 match i, h with
 | 0, h => exact SL.below EI.stays (show IL w v _ from h) hb
 | 1, h => exact QO.bel (show QO b w v _ from h) hb
 | 2, h => exact CO.below h hb
 | 3, h => exact CaseO.below h hb
 | 4, h => exact OL.below ECO.stays (show KO b w v _ from h) hb
 | 5, h => exact TO.below h hb
 | 6, h => exact Box4.below h hb
 | _ + 7, h => exact trivial
def F5 (i : Nat) (v : Value) (w : World) : Prop :=
 match i with
 | 0 => PR w v (rawP exP)
 | 1 => CR w v exC
 | 2 => v = .bool true
 | 3 => v = .bool false
 | 4 => v = .bool false
 | 5 => PR w v (rawP exP)
 | 6 => IL w v [3, 1]
 | 7 => FL w v ((ratsI [3, 1]).map rawQ)
 | 8 => v = .bool true
 | 9 => v = .bool false
 | 10 => v = .bool false
 | 11 => v = .bool false
 | 12 => PR w v (rawP exP)
 | 13 => IL w v [4, 1]
 | 14 => FL w v ((ratsI [4, 1]).map rawQ)
 | 15 => v = .bool false
 | 16 => v = .bool false
 | 17 => v = .bool false
 | 18 => PR w v (rawP exOne)
 | 19 => IL w v [0]
 | 20 => FL w v ((ratsI [0]).map rawQ)
 | 21 => IL w v [1]
 | 22 => FL w v ((ratsI [1]).map rawQ)
 | 23 => CR w v ⟨3, (ratsI [0]).map rawQ, [], (ratsI [1]).map rawQ⟩
 | 24 => v = .bool true
 | 25 => v = .bool false
 | 26 => v = .bool false
 | 27 => v = .bool false
 | 28 => PR w v (rawP exNone)
 | 29 => IL w v [1]
 | 30 => FL w v ((ratsI [1]).map rawQ)
 | 31 => CR w v ⟨2, [], (ratsI [1]).map rawQ, []⟩
 | 32 => v = .bool true
 | 33 => v = .bool false
 | 34 => v = .bool false
 | _ => True
theorem F5.below {i : Nat} {v : Value} {w w1 : World} (h : F5 i v w) (hb : Below w.heap.size w w1) : F5 i v w1 := by
 match i, h with
 | 0, h => exact PR.of_below h hb
 | 1, h => exact CR.of_below h hb
 | 2, h => exact h
 | 3, h => exact h
 | 4, h => exact h
 | 5, h => exact PR.of_below h hb
 | 6, h => exact SL.below EI.stays (show IL w v _ from h) hb
 | 7, h => exact SL.below EF.stays (show FL w v _ from h) hb
 | 8, h => exact h
 | 9, h => exact h
 | 10, h => exact h
 | 11, h => exact h
 | 12, h => exact PR.of_below h hb
 | 13, h => exact SL.below EI.stays (show IL w v _ from h) hb
 | 14, h => exact SL.below EF.stays (show FL w v _ from h) hb
 | 15, h => exact h
 | 16, h => exact h
 | 17, h => exact h
 | 18, h => exact PR.of_below h hb
 | 19, h => exact SL.below EI.stays (show IL w v _ from h) hb
 | 20, h => exact SL.below EF.stays (show FL w v _ from h) hb
 | 21, h => exact SL.below EI.stays (show IL w v _ from h) hb
 | 22, h => exact SL.below EF.stays (show FL w v _ from h) hb
 | 23, h => exact CR.of_below h hb
 | 24, h => exact h
 | 25, h => exact h
 | 26, h => exact h
 | 27, h => exact h
 | 28, h => exact PR.of_below h hb
 | 29, h => exact SL.below EI.stays (show IL w v _ from h) hb
 | 30, h => exact SL.below EF.stays (show FL w v _ from h) hb
 | 31, h => exact CR.of_below h hb
 | 32, h => exact h
 | 33, h => exact h
 | 34, h => exact h
 | _ + 35, h => exact trivial
theorem sq40 (P : Prop) (h : P := by
 have td : a.tmps.getD 1 undef = .pointer (some ⟨g1, 0, none⟩) := hold 1 (by kernel_rfl)
 have ud := getD_q td
 obtain ⟨x1, x2, x3, hB, hP⟩ := Z1.out.below (Bd.trans hb)
 obtain ⟨y0, y1, y2, y3⟩ := hB.c4
 have hl := hB.lt
 go_wp2_with fail
 exact hK _ _ (Below.refl _ _) hP) : P := h
theorem exfixed_calls (w : World) : Calls Try.prog 30 #[] w fun e w' => BPost w true e w' := by
 go_enter Try.func30, Try.ntmps30
 go_wp2_with fail
 refine wp_mono (l := [_, _, _, _, _, _, _, _, _, _, _, _, _, _, _, _, _, _, _, _, _]) 20 (F1 w.heap.size) (by kernel_rfl) (by kernel_rfl) (by kernel_rfl) (by kernel_rfl) (by kernel_rfl) (fun i v w w' _ h hb => F1.below h hb) ?_ ?_
 ·intro i hi
  match i, hi with
  | 0, _ =>
   intro a w1 vs hb hold hdep K hK
   refine wpOp_of_chain rfl ?_
   go_wp2_with fail
   exact hK _ _ (below_new _ _) (fro_new w.heap.size w1 [false, false])
  | 1, _ =>
   intro a w1 vs hb hold hdep K hK
   refine wpOp_of_chain rfl ?_
   go_wp2_with fail
   exact hK _ _ (below_new _ _) (il_new w1 [3, 2] 3)
  | 2, _ =>
   intro a w1 vs hb hold hdep K hK
   refine wpOp_of_chain rfl ?_
   obtain ⟨s1, f1⟩ := hdep 1 (by kernel_rfl)
   have t1 := s1 9 (by kernel_rfl)
   go_wp2_with fail
   refine (nums_calls w1 _ [3, 2] f1 (by decide) (i64_all [3, 2] rfl)).mono ?_
   rintro e w2 ⟨v, rfl, hq, hb2⟩
   go_wp2_with fail
   exact hK v w2 hb2 (nq (l := [3, 2]) rfl hq hb.size)
  | 3, _ =>
   intro a w1 vs hb hold hdep K hK
   refine wpOp_of_chain rfl ?_
   go_wp2_with fail
   exact hK _ _ (below_new _ _) (il_new w1 [1, 1] 3)
  | 4, _ =>
   intro a w1 vs hb hold hdep K hK
   refine wpOp_of_chain rfl ?_
   obtain ⟨s3, f3⟩ := hdep 3 (by kernel_rfl)
   have t3 := s3 11 (by kernel_rfl)
   go_wp2_with fail
   refine (nums_calls w1 _ [1, 1] f3 (by decide) (i64_all [1, 1] rfl)).mono ?_
   rintro e w2 ⟨v, rfl, hq, hb2⟩
   go_wp2_with fail
   exact hK v w2 hb2 (nq (l := [1, 1]) rfl hq hb.size)
  | 5, _ =>
   intro a w1 vs hb hold hdep K hK
   refine wpOp_of_chain rfl ?_
   go_wp2_with fail
   exact hK _ _ (below_new _ _) (il_new w1 [4] 3)
  | 6, _ =>
   intro a w1 vs hb hold hdep K hK
   refine wpOp_of_chain rfl ?_
   obtain ⟨s5, f5⟩ := hdep 5 (by kernel_rfl)
   have t5 := s5 13 (by kernel_rfl)
   go_wp2_with fail
   refine (nums_calls w1 _ [4] f5 (by decide) (i64_all [4] rfl)).mono ?_
   rintro e w2 ⟨v, rfl, hq, hb2⟩
   go_wp2_with fail
   exact hK v w2 hb2 (nq (l := [4]) rfl hq hb.size)
  | 7, _ =>
   intro a w1 vs hb hold hdep K hK
   refine wpOp_of_chain rfl ?_
   obtain ⟨s6, f6⟩ := hdep 6 (by kernel_rfl)
   have t6 := s6 14 (by kernel_rfl)
   obtain ⟨g, c, e⟩ := own_one (show QO w.heap.size w1 (vs 6) _ from f6)
   rw [e] at t6 f6
   go_wp2_with fail
   exact hK _ _ (Below.refl _ _) ⟨g, c, rfl, QO.lower f6 (Nat.zero_le _)⟩
  | 8, _ =>
   intro a w1 vs hb hold hdep K hK
   refine wpOp_of_chain rfl ?_
   obtain ⟨s7, f7⟩ := hdep 7 (by kernel_rfl)
   have t7 := s7 15 (by kernel_rfl)
   obtain ⟨g, c, e, hq⟩ := (show PtrQ w1 (vs 7) _ from f7)
   rw [e] at t7
   obtain ⟨A1, n1, c1, A2, n2, c2, hg, k0, k1, k2, hf⟩ := own_cells hq
   go_wp2_with fail
   exact hK _ _ (Below.refl _ _) hf
  | 9, _ =>
   intro a w1 vs hb hold hdep K hK
   refine wpOp_of_chain rfl ?_
   obtain ⟨s4, f4⟩ := hdep 4 (by kernel_rfl)
   have t4 := s4 12 (by kernel_rfl)
   obtain ⟨s8, f8⟩ := hdep 8 (by kernel_rfl)
   have t8 := s8 16 (by kernel_rfl)
   obtain ⟨A, n, c, e⟩ := OL.shape (show QO w.heap.size w1 (vs 4) [1, 1] from f4)
   obtain ⟨A1, n1, c1, A2, n2, c2, e2, HF⟩ := FQ.opened (show FQ w1 (vs 8) 4 from f8)
   rw [e] at t4 f4
   rw [e2] at t8
   have u1 := getD_q t4
   have u2 := getD_q t8
   go_wp2_with fail
   exact hK _ _ (Below.refl _ _) ⟨_, _, _, _, _, _, _, _, _, rfl, _, _, _, _, _, _, _, rfl, by unfold I64; decide, f4, HF.out⟩
  | 10, _ =>
   intro a w1 vs hb hold hdep K hK
   refine wpOp_of_chain rfl ?_
   go_wp2_with fail
   exact hK _ _ (below_new _ _) (il_new w1 [1, 0] 3)
  | 11, _ =>
   intro a w1 vs hb hold hdep K hK
   refine wpOp_of_chain rfl ?_
   obtain ⟨s10, f10⟩ := hdep 10 (by kernel_rfl)
   have t10 := s10 18 (by kernel_rfl)
   go_wp2_with fail
   refine (nums_calls w1 _ [1, 0] f10 (by decide) (i64_all [1, 0] rfl)).mono ?_
   rintro e w2 ⟨v, rfl, hq, hb2⟩
   go_wp2_with fail
   exact hK v w2 hb2 (nq (l := [1, 0]) rfl hq hb.size)
  | 12, _ =>
   intro a w1 vs hb hold hdep K hK
   refine wpOp_of_chain rfl ?_
   go_wp2_with fail
   exact hK _ _ (below_new _ _) (il_new w1 [3] 3)
  | 13, _ =>
   intro a w1 vs hb hold hdep K hK
   refine wpOp_of_chain rfl ?_
   obtain ⟨s12, f12⟩ := hdep 12 (by kernel_rfl)
   have t12 := s12 20 (by kernel_rfl)
   go_wp2_with fail
   refine (nums_calls w1 _ [3] f12 (by decide) (i64_all [3] rfl)).mono ?_
   rintro e w2 ⟨v, rfl, hq, hb2⟩
   go_wp2_with fail
   exact hK v w2 hb2 (nq (l := [3]) rfl hq hb.size)
  | 14, _ =>
   intro a w1 vs hb hold hdep K hK
   refine wpOp_of_chain rfl ?_
   obtain ⟨s13, f13⟩ := hdep 13 (by kernel_rfl)
   have t13 := s13 21 (by kernel_rfl)
   obtain ⟨g, c, e⟩ := own_one (show QO w.heap.size w1 (vs 13) _ from f13)
   rw [e] at t13 f13
   go_wp2_with fail
   exact hK _ _ (Below.refl _ _) ⟨g, c, rfl, QO.lower f13 (Nat.zero_le _)⟩
  | 15, _ =>
   intro a w1 vs hb hold hdep K hK
   refine wpOp_of_chain rfl ?_
   obtain ⟨s14, f14⟩ := hdep 14 (by kernel_rfl)
   have t14 := s14 22 (by kernel_rfl)
   obtain ⟨g, c, e, hq⟩ := (show PtrQ w1 (vs 14) _ from f14)
   rw [e] at t14
   obtain ⟨A1, n1, c1, A2, n2, c2, hg, k0, k1, k2, hf⟩ := own_cells hq
   go_wp2_with fail
   exact hK _ _ (Below.refl _ _) hf
  | 16, _ =>
   intro a w1 vs hb hold hdep K hK
   refine wpOp_of_chain rfl ?_
   obtain ⟨s11, f11⟩ := hdep 11 (by kernel_rfl)
   have t11 := s11 19 (by kernel_rfl)
   obtain ⟨s15, f15⟩ := hdep 15 (by kernel_rfl)
   have t15 := s15 23 (by kernel_rfl)
   obtain ⟨A, n, c, e⟩ := OL.shape (show QO w.heap.size w1 (vs 11) [1, 0] from f11)
   obtain ⟨A1, n1, c1, A2, n2, c2, e2, HF⟩ := FQ.opened (show FQ w1 (vs 15) 3 from f15)
   rw [e] at t11 f11
   rw [e2] at t15
   have u1 := getD_q t11
   have u2 := getD_q t15
   go_wp2_with fail
   exact hK _ _ (Below.refl _ _) ⟨_, _, _, _, _, _, _, _, _, rfl, _, _, _, _, _, _, _, rfl, by unfold I64; decide, f11, HF.out⟩
  | 17, _ =>
   intro a w1 vs hb hold hdep K hK
   refine wpOp_of_chain rfl ?_
   obtain ⟨s9, f9⟩ := hdep 9 (by kernel_rfl)
   have t9 := s9 17 (by kernel_rfl)
   obtain ⟨s16, f16⟩ := hdep 16 (by kernel_rfl)
   have t16 := s16 24 (by kernel_rfl)
   obtain ⟨B, m, d, B1, m1, d1, B2, m2, d2, e, h1⟩ := (show RowO w.heap.size w1 (vs 9) _ from f9)
   obtain ⟨C, k, f, C1, k1, f1, C2, k2, f2, e2, h2⟩ := (show RowO w.heap.size w1 (vs 16) _ from f16)
   rw [e] at t9
   rw [e2] at t16
   have u1 := getD_q t9
   have u2 := getD_q t16
   go_wp2_with fail
   refine hK _ _ (below_new _ _) (OL.new (α := RowQ) ERO.stays w1 [[_, _, _, _, _], [_, _, _, _, _]] exP.rows rfl (by intro r hr; simp at hr; rcases hr with rfl | rfl <;> rfl) (fun j r x hr hx => ?_) hb.size (by intro u hu; simp at hu; rcases hu with rfl | rfl | rfl | rfl | rfl | rfl | rfl | rfl | rfl | rfl <;> rfl) (by decide))
   match j, hr, hx with
   | 0, hr, hx => obtain rfl := Option.some.inj hr; obtain rfl := Option.some.inj hx; exact h1
   | 1, hr, hx => obtain rfl := Option.some.inj hr; obtain rfl := Option.some.inj hx; exact h2
   | j + 2, hr, hx => cases hx
  | 18, _ =>
   intro a w1 vs hb hold hdep K hK
   refine wpOp_of_chain rfl ?_
   obtain ⟨s0, f0⟩ := hdep 0 (by kernel_rfl)
   have t0 := s0 8 (by kernel_rfl)
   obtain ⟨s2, f2⟩ := hdep 2 (by kernel_rfl)
   have t2 := s2 10 (by kernel_rfl)
   obtain ⟨s17, f17⟩ := hdep 17 (by kernel_rfl)
   have t17 := s17 25 (by kernel_rfl)
   obtain ⟨⟨A, c, e, hc⟩, hA⟩ := (show FrO w.heap.size w1 (vs 0) [false, false] from f0)
   obtain ⟨B, n2, d, e2⟩ := OL.shape (show QO w.heap.size w1 (vs 2) [3, 2] from f2)
   obtain ⟨C, n3, k, e3⟩ := OL.shape (show RO w.heap.size w1 (vs 17) exP.rows from f17)
   rw [e] at t0 f0
   rw [e2] at t2 f2
   rw [e3] at t17 f17
   have u1 := getD_q t0
   have u2 := getD_q t2
   have u3 := getD_q t17
   go_wp2_with fail
   exact hK _ _ (Below.refl _ _) ⟨_, _, _, rfl, by unfold I64; decide, f0, f2, f17⟩
  | 19, _ =>
   intro a w1 vs hb hold hdep K hK
   refine wpOp_of_chain rfl ?_
   go_wp2_with fail
   exact hK _ _ (below_new _ _) ⟨_, rfl, hb.size, Blk.new _ _ _⟩
  | k + 20, h => exact absurd h (by omega)
 ·intro vs w2 hb hF
  have HP : Hid (PO w.heap.size w2 (vs 18) exP) := hF 18 (by omega)
  obtain ⟨g1, e1, hg1, hk1⟩ := (show Box4 w.heap.size 26 w2 (vs 19) from hF 19 (by omega))
  obtain ⟨p1, p2, p3, e2, _, ⟨⟨A1, c1, q1, _⟩, _⟩, q2, q3⟩ := HP.out
  obtain ⟨A2, m2, c2, q2⟩ := OL.shape q2
  obtain ⟨A3, m3, c3, q3⟩ := OL.shape q3
  subst q1 q2 q3
  have HB : Hid (Below w.heap.size w w2) := Bd.trans hb
  have HK := Hd hk1
  simp only [putN, dstAt, List.drop_succ_cons, List.drop_zero, List.getElem?_toArray, List.getElem?_cons_succ, List.getElem?_cons_zero, Option.bind_some, Act.put, List.setIfInBounds_toArray, List.set_cons_zero, List.set_cons_succ]
  rw [e1, e2]
  rw [e2] at HP
  clear hF hb hk1 e1 e2
  obtain ⟨y0, y1, y2, y3⟩ := HK.out.c4
  obtain ⟨f0, f1, f2, f3⟩ := HK.out.f4
  have hlt := HK.out.lt
  generalize vs 0 = u0 at *
  go_wp2_with fail
  refine NoPanic.normal ?_
  have BX := And.intro (box_put (p := exP) HK.out hg1 HP.out) (below_put4 HB.out hg1 (.int .i64 exP.vars) (.slice A1 exP.free.length c1) (.slice A2 m2 c2) (.slice A3 m3 c3))
  generalize ((((w2.setCell _ _).setCell _ _).setCell _ _).setCell _ _) = w3 at *
  have HX1 := Hd BX.1
  have HB3 := Hd BX.2
  clear BX HB HP HK y0 y1 y2 y3 f0 f1 f2 f3 hlt q2 q3
  go_upto_region 3 with fail
  have frx1 := fro_new w.heap.size w3 [false]
  refine (nums_calls _ _ [1] (il_at [1] 3 (alloc_sz _ _)) (by decide) (i64_all [1] rfl)).mono ?_
  rintro e w4 ⟨v, rfl, hq, hb⟩
  have Dx1 := Hd (below_next (below_next (below_new w3 _) (below_new _ _)) hb)
  have fsx1 := Hd (frx1.below (below_next (below_new _ _) hb))
  clear frx1
  obtain ⟨Ax1, nx1, cx1, rfl⟩ := OL.shape hq
  have H2 := Hd (nq (l := [1]) rfl hq (Nat.le_trans HB3.out.size (Nat.le_trans (below_new _ _).size (below_new _ _).size)))
  clear hq hb
  have H3 := Hd (HX1.out.below Dx1.out)
  clear HX1
  have HB4 := Hd (below_next HB3.out Dx1.out)
  clear HB3
  clear Dx1
  go_upto_region 3 with fail
  have BX := BoxP.new (p := exOne) 1 ⟨_, _, _, rfl, by unfold I64; decide, fsx1.out, H2.out, RO.nil _ _⟩
  generalize eD5 : w4.alloc _ = w5 at BX ⊢
  clear eD5
  have D5 := Hd BX.2
  have H6 := Hd (H3.out.below D5.out)
  clear H3
  have H7 := Hd (QO.bel H2.out D5.out)
  clear H2
  have H8 := Hd (fsx1.out.below D5.out)
  clear fsx1
  have HB9 := Hd (below_next HB4.out D5.out)
  clear HB4
  have H10 := Hd BX.1
  clear BX D5
  generalize w4.heap.size = g2 at *
  clear w4
  go_upto_region 4 with fail
  have frx11 := fro_new w.heap.size w5 [false]
  refine (nums_calls _ _ [1] (il_at [1] 3 (alloc_sz _ _)) (by decide) (i64_all [1] rfl)).mono ?_
  rintro e w6 ⟨v, rfl, hq, hb⟩
  have Dx11 := Hd (below_next (below_next (below_new w5 _) (below_new _ _)) hb)
  have fsx11 := Hd (frx11.below (below_next (below_new _ _) hb))
  clear frx11
  obtain ⟨Ax11, nx11, cx11, rfl⟩ := OL.shape hq
  have H12 := Hd (nq (l := [1]) rfl hq (Nat.le_trans HB9.out.size (Nat.le_trans (below_new _ _).size (below_new _ _).size)))
  clear hq hb
  have H13 := Hd (H6.out.below Dx11.out)
  clear H6
  have H14 := Hd (H10.out.below Dx11.out)
  clear H10
  have HB15 := Hd (below_next HB9.out Dx11.out)
  clear HB9
  clear Dx11
  go_upto_region 4 with fail
  refine (nums_calls _ _ [1] (il_at [1] 3 rfl) (by decide) (i64_all [1] rfl)).mono ?_
  rintro e w7 ⟨v, rfl, hq, hb⟩
  have Dx16 := Hd (below_next (below_new w6 _) hb)
  obtain ⟨Ax16, nx16, cx16, rfl⟩ := OL.shape hq
  have H17 := Hd (nq (l := [1]) rfl hq (Nat.le_trans HB15.out.size (below_new _ _).size))
  clear hq hb
  have H18 := Hd (H13.out.below Dx16.out)
  clear H13
  have H19 := Hd (H14.out.below Dx16.out)
  clear H14
  have H20 := Hd (QO.bel H12.out Dx16.out)
  clear H12
  have H21 := Hd (fsx11.out.below Dx16.out)
  clear fsx11
  have HB22 := Hd (below_next HB15.out Dx16.out)
  clear HB15
  clear Dx16
  go_upto_region 4 with fail
  refine (nums_calls _ _ [-1] (il_at [-1] 3 rfl) (by decide) (i64_all [-1] rfl)).mono ?_
  rintro e w8 ⟨v, rfl, hq, hb⟩
  have Dx23 := Hd (below_next (below_new w7 _) hb)
  obtain ⟨Ax23, nx23, cx23, rfl⟩ := OL.shape hq
  have H24 := Hd (nq (l := [-1]) rfl hq (Nat.le_trans HB22.out.size (below_new _ _).size))
  clear hq hb
  have H25 := Hd (H18.out.below Dx23.out)
  clear H18
  have H26 := Hd (H19.out.below Dx23.out)
  clear H19
  have H27 := Hd (QO.bel H20.out Dx23.out)
  clear H20
  have H28 := Hd (H21.out.below Dx23.out)
  clear H21
  have H29 := Hd (QO.bel H17.out Dx23.out)
  clear H17
  have HB30 := Hd (below_next HB22.out Dx23.out)
  clear HB22
  clear Dx23
  obtain ⟨gb3, cb3, eb3⟩ := own_one H24.out
  rw [eb3] at H24 ⊢
  clear eb3
  obtain ⟨B1, m1, d1, B2, m2', d2, hgb, k0, k1, k2, hf⟩ := own_cells H24.out
  go_upto_region 4 with fail
  have RX := RO.new1 (r := ⟨[1], -1, -1⟩) (s := -1) (t := negQ (-1)) ⟨_, _, _, _, _, _, _, rfl, by unfold I64; decide, H29.out, hf⟩ HB30.out.size
  clear hf k0 k1 k2 hgb
  have hsz := alloc_sz w8 (.cells #[.slice Ax16 nx16 cx16, .int .i64 (-1), .bool (negQ (-1)), .slice B1 m1 d1, .slice B2 m2' d2] 65)
  rw [hsz]
  generalize eW : w8.alloc _ = w9 at RX hsz ⊢
  clear eW hsz
  have DW := Hd RX.2
  have H31 := Hd (H25.out.below DW.out)
  clear H25
  have H32 := Hd (H26.out.below DW.out)
  clear H26
  have H33 := Hd (QO.bel H27.out DW.out)
  clear H27
  have H34 := Hd (H28.out.below DW.out)
  clear H28
  have H35 := Hd (QO.bel H29.out DW.out)
  clear H29
  have H36 := Hd (QO.bel H24.out DW.out)
  clear H24
  have HB37 := Hd (below_next HB30.out DW.out)
  clear HB30
  have H38 := Hd RX.1
  clear RX DW
  have BX := BoxP.new (p := exNone) 1 ⟨_, _, _, rfl, by unfold I64; decide, H34.out, H33.out, H38.out⟩
  generalize eD39 : w9.alloc _ = w10 at BX ⊢
  clear eD39
  have D39 := Hd BX.2
  have H40 := Hd (H31.out.below D39.out)
  clear H31
  have H41 := Hd (H32.out.below D39.out)
  clear H32
  have H42 := Hd (QO.bel H33.out D39.out)
  clear H33
  have H43 := Hd (H34.out.below D39.out)
  clear H34
  have H44 := Hd (QO.bel H35.out D39.out)
  clear H35
  have H45 := Hd (QO.bel H36.out D39.out)
  clear H36
  have H46 := Hd (OL.below ERO.stays H38.out D39.out)
  clear H38
  have HB47 := Hd (below_next HB37.out D39.out)
  clear HB37
  have H48 := Hd BX.1
  clear BX D39
  generalize w9.heap.size = g3 at *
  clear w9
  go_upto_region 5 with fail
  refine (nums_calls _ _ [3, 1] (il_at [3, 1] 3 rfl) (by decide) (i64_all [3, 1] rfl)).mono ?_
  rintro e w11 ⟨v, rfl, hq, hb⟩
  have Dx49 := Hd (below_next (below_new w10 _) hb)
  obtain ⟨Ax49, nx49, cx49, rfl⟩ := OL.shape hq
  have H50 := Hd (nq (l := [3, 1]) rfl hq (Nat.le_trans HB47.out.size (below_new _ _).size))
  clear hq hb
  have H51 := Hd (H40.out.below Dx49.out)
  clear H40
  have H52 := Hd (H41.out.below Dx49.out)
  clear H41
  have H53 := Hd (H48.out.below Dx49.out)
  clear H48
  have HB54 := Hd (below_next HB47.out Dx49.out)
  clear HB47
  clear Dx49
  go_upto_region 5 with fail
  refine (nums_calls _ _ [2, 1] (il_at [2, 1] 3 rfl) (by decide) (i64_all [2, 1] rfl)).mono ?_
  rintro e w12 ⟨v, rfl, hq, hb⟩
  have Dx55 := Hd (below_next (below_new w11 _) hb)
  obtain ⟨Ax55, nx55, cx55, rfl⟩ := OL.shape hq
  have H56 := Hd (nq (l := [2, 1]) rfl hq (Nat.le_trans HB54.out.size (below_new _ _).size))
  clear hq hb
  have H57 := Hd (H51.out.below Dx55.out)
  clear H51
  have H58 := Hd (H52.out.below Dx55.out)
  clear H52
  have H59 := Hd (H53.out.below Dx55.out)
  clear H53
  have H60 := Hd (QO.bel H50.out Dx55.out)
  clear H50
  have HB61 := Hd (below_next HB54.out Dx55.out)
  clear HB54
  clear Dx55
  go_upto_region 5 with fail
  have BX := BoxO.new (c := exA) 1 ⟨_, _, _, rfl, H60.out, H56.out, QO.nil0 _ _⟩
  generalize eD62 : w12.alloc _ = w13 at BX ⊢
  clear eD62
  have D62 := Hd BX.2
  have H63 := Hd (H57.out.below D62.out)
  clear H57
  have H64 := Hd (H58.out.below D62.out)
  clear H58
  have H65 := Hd (H59.out.below D62.out)
  clear H59
  have H66 := Hd (QO.bel H60.out D62.out)
  clear H60
  have H67 := Hd (QO.bel H56.out D62.out)
  clear H56
  have HB68 := Hd (below_next HB61.out D62.out)
  clear HB61
  have H69 := Hd BX.1
  clear BX D62
  generalize w12.heap.size = g4 at *
  clear w12
  have Z1 := Hd (H63.out.read smallP.1)
  have Z2 := Hd (H64.out.read smallP.2.1)
  have Z3 := Hd (H65.out.read smallP.2.2)
  clear H63 H64 H65
  refine wp_mono (l := [_, _, _, _, _, _, _, _, _, _, _, _, _, _, _, _, _, _, _, _, _, _, _, _, _, _, _, _, _, _, _, _, _, _, _]) 35 F5 (by kernel_rfl) (by kernel_rfl) (by kernel_rfl) (by kernel_rfl) (by kernel_rfl) (fun i v w w' _ h hb => F5.below h hb) ?_ ?_
  ·intro i hi
   match i, hi with
   | 0, _ =>
    intro a w1 vs hb hold hdep K hK
    refine wpOp_of_chain rfl ?_
    exact sq40 _
   | 1, _ =>
    intro a w1 vs hb hold hdep K hK
    refine wpOp_of_chain rfl ?_
    have td : a.tmps.getD 4 undef = .pointer (some ⟨g4, 0, none⟩) := hold 4 (by kernel_rfl)
    have ud := getD_q td
    obtain ⟨x1, x2, x3, hB, hP⟩ := H69.out.below (Bd.trans hb)
    obtain ⟨y0, y1, y2, y3⟩ := hB.c4
    have hl := hB.lt
    go_wp2_with fail
    exact hK _ _ (Below.refl _ _) (hP.read smallA)
   | 2, _ =>
    intro a w1 vs hb hold hdep K hK
    refine wpOp_of_chain rfl ?_
    obtain ⟨s0, f0⟩ := hdep 0 (by kernel_rfl)
    have t0 := s0 48 (by kernel_rfl)
    obtain ⟨s1, f1⟩ := hdep 1 (by kernel_rfl)
    have t1 := s1 49 (by kernel_rfl)
    go_wp2_with fail
    refine (judge_calls w1 _ _ _ _ f0 f1 (by decide) (by decide) (by decide)).mono ?_
    rintro e w2 ⟨rfl, hb2⟩
    go_wp2_with fail
    exact hK _ w2 hb2 (congrArg Value.bool ev1')
   | 3, _ =>
    intro a w1 vs hb hold hdep K hK
    refine wpOp_of_chain rfl ?_
    obtain ⟨s2, f2⟩ := hdep 2 (by kernel_rfl)
    have t2 := s2 50 (by kernel_rfl)
    rw [show vs 2 = .bool true from f2] at t2
    have u2 := getD_q t2
    go_wp2_with fail
    exact hK _ _ (Below.refl _ _) rfl
   | 4, _ =>
    intro a w1 vs hb hold hdep K hK
    refine wpOp_of_chain rfl ?_
    obtain ⟨s3, f3⟩ := hdep 3 (by kernel_rfl)
    have t3 := s3 51 (by kernel_rfl)
    rw [show vs 3 = .bool false from f3] at t3
    have u3 := getD_q t3
    go_wp2_with fail
    exact hK _ _ (Below.refl _ _) rfl
   | 5, _ =>
    intro a w1 vs hb hold hdep K hK
    obtain ⟨sg, fg⟩ := hdep 4 (by kernel_rfl)
    have tg := sg 52 (by kernel_rfl)
    rw [show vs 4 = .bool false from fg] at tg
    refine wpOp_guard rfl rfl (d := 52) rfl tg ?_
    clear sg tg fg
    exact sq40 _
   | 6, _ =>
    intro a w1 vs hb hold hdep K hK
    obtain ⟨sg, fg⟩ := hdep 4 (by kernel_rfl)
    have tg := sg 52 (by kernel_rfl)
    rw [show vs 4 = .bool false from fg] at tg
    refine wpOp_guard rfl rfl (d := 52) rfl tg ?_
    clear sg tg fg
    go_wp2_with fail
    exact hK _ _ (below_new _ _) (il_new w1 [3, 1] 3)
   | 7, _ =>
    intro a w1 vs hb hold hdep K hK
    obtain ⟨sg, fg⟩ := hdep 4 (by kernel_rfl)
    have tg := sg 52 (by kernel_rfl)
    rw [show vs 4 = .bool false from fg] at tg
    refine wpOp_guard rfl rfl (d := 52) rfl tg ?_
    clear sg tg fg
    obtain ⟨s6, f6⟩ := hdep 6 (by kernel_rfl)
    have t6 := s6 54 (by kernel_rfl)
    go_wp2_with fail
    refine (nums_calls w1 _ [3, 1] f6 (by decide) (i64_all [3, 1] rfl)).mono ?_
    rintro e w2 ⟨v, rfl, hq, hb2⟩
    go_wp2_with fail
    exact hK v w2 hb2 (flN [3, 1] hq rfl)
   | 8, _ =>
    intro a w1 vs hb hold hdep K hK
    obtain ⟨sg, fg⟩ := hdep 4 (by kernel_rfl)
    have tg := sg 52 (by kernel_rfl)
    rw [show vs 4 = .bool false from fg] at tg
    refine wpOp_guard rfl rfl (d := 52) rfl tg ?_
    clear sg tg fg
    obtain ⟨s5, f5⟩ := hdep 5 (by kernel_rfl)
    have t5 := s5 53 (by kernel_rfl)
    obtain ⟨s7, f7⟩ := hdep 7 (by kernel_rfl)
    have t7 := s7 55 (by kernel_rfl)
    go_wp2_with fail
    refine (pfits_calls w1 _ _ _ _ f5 f7).mono ?_
    rintro e w2 ⟨rfl, hb2⟩
    go_wp2_with fail
    exact hK _ w2 hb2 (congrArg Value.bool ev2')
   | 9, _ =>
    intro a w1 vs hb hold hdep K hK
    obtain ⟨sg, fg⟩ := hdep 4 (by kernel_rfl)
    have tg := sg 52 (by kernel_rfl)
    rw [show vs 4 = .bool false from fg] at tg
    refine wpOp_guard rfl rfl (d := 52) rfl tg ?_
    clear sg tg fg
    obtain ⟨s8, f8⟩ := hdep 8 (by kernel_rfl)
    have t8 := s8 56 (by kernel_rfl)
    rw [show vs 8 = .bool true from f8] at t8
    have u8 := getD_q t8
    go_wp2_with fail
    exact hK _ _ (Below.refl _ _) rfl
   | 10, _ =>
    intro a w1 vs hb hold hdep K hK
    refine wpOp_of_chain rfl ?_
    obtain ⟨s4, f4⟩ := hdep 4 (by kernel_rfl)
    have t4 := s4 52 (by kernel_rfl)
    rw [show vs 4 = .bool false from f4] at t4
    have u4 := getD_q t4
    obtain ⟨s9, f9⟩ := hdep 9 (by kernel_rfl)
    have t9 := s9 57 (by kernel_rfl)
    rw [show vs 9 = .bool false from f9] at t9
    have u9 := getD_q t9
    go_wp2_with fail
    exact hK _ _ (Below.refl _ _) rfl
   | 11, _ =>
    intro a w1 vs hb hold hdep K hK
    refine wpOp_of_chain rfl ?_
    obtain ⟨s10, f10⟩ := hdep 10 (by kernel_rfl)
    have t10 := s10 58 (by kernel_rfl)
    rw [show vs 10 = .bool false from f10] at t10
    have u10 := getD_q t10
    go_wp2_with fail
    exact hK _ _ (Below.refl _ _) rfl
   | 12, _ =>
    intro a w1 vs hb hold hdep K hK
    obtain ⟨sg, fg⟩ := hdep 11 (by kernel_rfl)
    have tg := sg 59 (by kernel_rfl)
    rw [show vs 11 = .bool false from fg] at tg
    refine wpOp_guard rfl rfl (d := 59) rfl tg ?_
    clear sg tg fg
    exact sq40 _
   | 13, _ =>
    intro a w1 vs hb hold hdep K hK
    obtain ⟨sg, fg⟩ := hdep 11 (by kernel_rfl)
    have tg := sg 59 (by kernel_rfl)
    rw [show vs 11 = .bool false from fg] at tg
    refine wpOp_guard rfl rfl (d := 59) rfl tg ?_
    clear sg tg fg
    go_wp2_with fail
    exact hK _ _ (below_new _ _) (il_new w1 [4, 1] 3)
   | 14, _ =>
    intro a w1 vs hb hold hdep K hK
    obtain ⟨sg, fg⟩ := hdep 11 (by kernel_rfl)
    have tg := sg 59 (by kernel_rfl)
    rw [show vs 11 = .bool false from fg] at tg
    refine wpOp_guard rfl rfl (d := 59) rfl tg ?_
    clear sg tg fg
    obtain ⟨s13, f13⟩ := hdep 13 (by kernel_rfl)
    have t13 := s13 61 (by kernel_rfl)
    go_wp2_with fail
    refine (nums_calls w1 _ [4, 1] f13 (by decide) (i64_all [4, 1] rfl)).mono ?_
    rintro e w2 ⟨v, rfl, hq, hb2⟩
    go_wp2_with fail
    exact hK v w2 hb2 (flN [4, 1] hq rfl)
   | 15, _ =>
    intro a w1 vs hb hold hdep K hK
    obtain ⟨sg, fg⟩ := hdep 11 (by kernel_rfl)
    have tg := sg 59 (by kernel_rfl)
    rw [show vs 11 = .bool false from fg] at tg
    refine wpOp_guard rfl rfl (d := 59) rfl tg ?_
    clear sg tg fg
    obtain ⟨s12, f12⟩ := hdep 12 (by kernel_rfl)
    have t12 := s12 60 (by kernel_rfl)
    obtain ⟨s14, f14⟩ := hdep 14 (by kernel_rfl)
    have t14 := s14 62 (by kernel_rfl)
    go_wp2_with fail
    refine (pfits_calls w1 _ _ _ _ f12 f14).mono ?_
    rintro e w2 ⟨rfl, hb2⟩
    go_wp2_with fail
    exact hK _ w2 hb2 (congrArg Value.bool ev3')
   | 16, _ =>
    intro a w1 vs hb hold hdep K hK
    refine wpOp_of_chain rfl ?_
    obtain ⟨s11, f11⟩ := hdep 11 (by kernel_rfl)
    have t11 := s11 59 (by kernel_rfl)
    rw [show vs 11 = .bool false from f11] at t11
    have u11 := getD_q t11
    obtain ⟨s15, f15⟩ := hdep 15 (by kernel_rfl)
    have t15 := s15 63 (by kernel_rfl)
    rw [show vs 15 = .bool false from f15] at t15
    have u15 := getD_q t15
    go_wp2_with fail
    exact hK _ _ (Below.refl _ _) rfl
   | 17, _ =>
    intro a w1 vs hb hold hdep K hK
    refine wpOp_of_chain rfl ?_
    obtain ⟨s16, f16⟩ := hdep 16 (by kernel_rfl)
    have t16 := s16 64 (by kernel_rfl)
    rw [show vs 16 = .bool false from f16] at t16
    have u16 := getD_q t16
    go_wp2_with fail
    exact hK _ _ (Below.refl _ _) rfl
   | 18, _ =>
    intro a w1 vs hb hold hdep K hK
    obtain ⟨sg, fg⟩ := hdep 17 (by kernel_rfl)
    have tg := sg 65 (by kernel_rfl)
    rw [show vs 17 = .bool false from fg] at tg
    refine wpOp_guard rfl rfl (d := 65) rfl tg ?_
    clear sg tg fg
    have td : a.tmps.getD 2 undef = .pointer (some ⟨g2, 0, none⟩) := hold 2 (by kernel_rfl)
    have ud := getD_q td
    obtain ⟨x1, x2, x3, hB, hP⟩ := Z2.out.below (Bd.trans hb)
    obtain ⟨y0, y1, y2, y3⟩ := hB.c4
    have hl := hB.lt
    go_wp2_with fail
    exact hK _ _ (Below.refl _ _) hP
   | 19, _ =>
    intro a w1 vs hb hold hdep K hK
    obtain ⟨sg, fg⟩ := hdep 17 (by kernel_rfl)
    have tg := sg 65 (by kernel_rfl)
    rw [show vs 17 = .bool false from fg] at tg
    refine wpOp_guard rfl rfl (d := 65) rfl tg ?_
    clear sg tg fg
    go_wp2_with fail
    exact hK _ _ (below_new _ _) (il_new w1 [0] 3)
   | 20, _ =>
    intro a w1 vs hb hold hdep K hK
    obtain ⟨sg, fg⟩ := hdep 17 (by kernel_rfl)
    have tg := sg 65 (by kernel_rfl)
    rw [show vs 17 = .bool false from fg] at tg
    refine wpOp_guard rfl rfl (d := 65) rfl tg ?_
    clear sg tg fg
    obtain ⟨s19, f19⟩ := hdep 19 (by kernel_rfl)
    have t19 := s19 67 (by kernel_rfl)
    go_wp2_with fail
    refine (nums_calls w1 _ [0] f19 (by decide) (i64_all [0] rfl)).mono ?_
    rintro e w2 ⟨v, rfl, hq, hb2⟩
    go_wp2_with fail
    exact hK v w2 hb2 (flN [0] hq rfl)
   | 21, _ =>
    intro a w1 vs hb hold hdep K hK
    obtain ⟨sg, fg⟩ := hdep 17 (by kernel_rfl)
    have tg := sg 65 (by kernel_rfl)
    rw [show vs 17 = .bool false from fg] at tg
    refine wpOp_guard rfl rfl (d := 65) rfl tg ?_
    clear sg tg fg
    go_wp2_with fail
    exact hK _ _ (below_new _ _) (il_new w1 [1] 3)
   | 22, _ =>
    intro a w1 vs hb hold hdep K hK
    obtain ⟨sg, fg⟩ := hdep 17 (by kernel_rfl)
    have tg := sg 65 (by kernel_rfl)
    rw [show vs 17 = .bool false from fg] at tg
    refine wpOp_guard rfl rfl (d := 65) rfl tg ?_
    clear sg tg fg
    obtain ⟨s21, f21⟩ := hdep 21 (by kernel_rfl)
    have t21 := s21 69 (by kernel_rfl)
    go_wp2_with fail
    refine (nums_calls w1 _ [1] f21 (by decide) (i64_all [1] rfl)).mono ?_
    rintro e w2 ⟨v, rfl, hq, hb2⟩
    go_wp2_with fail
    exact hK v w2 hb2 (flN [1] hq rfl)
   | 23, _ =>
    intro a w1 vs hb hold hdep K hK
    obtain ⟨sg, fg⟩ := hdep 17 (by kernel_rfl)
    have tg := sg 65 (by kernel_rfl)
    rw [show vs 17 = .bool false from fg] at tg
    refine wpOp_guard rfl rfl (d := 65) rfl tg ?_
    clear sg tg fg
    obtain ⟨s20, f20⟩ := hdep 20 (by kernel_rfl)
    have t20 := s20 68 (by kernel_rfl)
    obtain ⟨A20, c20, e20, h20⟩ := (show FL w1 (vs 20) ((ratsI [0]).map rawQ) from f20).slice
    rw [e20] at t20 f20
    have u20 := getD_q t20
    obtain ⟨s22, f22⟩ := hdep 22 (by kernel_rfl)
    have t22 := s22 70 (by kernel_rfl)
    obtain ⟨A22, c22, e22, h22⟩ := (show FL w1 (vs 22) ((ratsI [1]).map rawQ) from f22).slice
    rw [e22] at t22 f22
    have u22 := getD_q t22
    go_wp2_with fail
    exact hK _ _ (Below.refl _ _) ⟨_, _, _, rfl, by unfold I64; decide, f20, FL.nil0 _, f22⟩
   | 24, _ =>
    intro a w1 vs hb hold hdep K hK
    obtain ⟨sg, fg⟩ := hdep 17 (by kernel_rfl)
    have tg := sg 65 (by kernel_rfl)
    rw [show vs 17 = .bool false from fg] at tg
    refine wpOp_guard rfl rfl (d := 65) rfl tg ?_
    clear sg tg fg
    obtain ⟨s18, f18⟩ := hdep 18 (by kernel_rfl)
    have t18 := s18 66 (by kernel_rfl)
    obtain ⟨s23, f23⟩ := hdep 23 (by kernel_rfl)
    have t23 := s23 71 (by kernel_rfl)
    go_wp2_with fail
    refine (judge_calls w1 _ _ _ _ f18 f23 (by decide) (by decide) (by decide)).mono ?_
    rintro e w2 ⟨rfl, hb2⟩
    go_wp2_with fail
    exact hK _ w2 hb2 (congrArg Value.bool ev4')
   | 25, _ =>
    intro a w1 vs hb hold hdep K hK
    obtain ⟨sg, fg⟩ := hdep 17 (by kernel_rfl)
    have tg := sg 65 (by kernel_rfl)
    rw [show vs 17 = .bool false from fg] at tg
    refine wpOp_guard rfl rfl (d := 65) rfl tg ?_
    clear sg tg fg
    obtain ⟨s24, f24⟩ := hdep 24 (by kernel_rfl)
    have t24 := s24 72 (by kernel_rfl)
    rw [show vs 24 = .bool true from f24] at t24
    have u24 := getD_q t24
    go_wp2_with fail
    exact hK _ _ (Below.refl _ _) rfl
   | 26, _ =>
    intro a w1 vs hb hold hdep K hK
    refine wpOp_of_chain rfl ?_
    obtain ⟨s17, f17⟩ := hdep 17 (by kernel_rfl)
    have t17 := s17 65 (by kernel_rfl)
    rw [show vs 17 = .bool false from f17] at t17
    have u17 := getD_q t17
    obtain ⟨s25, f25⟩ := hdep 25 (by kernel_rfl)
    have t25 := s25 73 (by kernel_rfl)
    rw [show vs 25 = .bool false from f25] at t25
    have u25 := getD_q t25
    go_wp2_with fail
    exact hK _ _ (Below.refl _ _) rfl
   | 27, _ =>
    intro a w1 vs hb hold hdep K hK
    refine wpOp_of_chain rfl ?_
    obtain ⟨s26, f26⟩ := hdep 26 (by kernel_rfl)
    have t26 := s26 74 (by kernel_rfl)
    rw [show vs 26 = .bool false from f26] at t26
    have u26 := getD_q t26
    go_wp2_with fail
    exact hK _ _ (Below.refl _ _) rfl
   | 28, _ =>
    intro a w1 vs hb hold hdep K hK
    obtain ⟨sg, fg⟩ := hdep 27 (by kernel_rfl)
    have tg := sg 75 (by kernel_rfl)
    rw [show vs 27 = .bool false from fg] at tg
    refine wpOp_guard rfl rfl (d := 75) rfl tg ?_
    clear sg tg fg
    have td : a.tmps.getD 3 undef = .pointer (some ⟨g3, 0, none⟩) := hold 3 (by kernel_rfl)
    have ud := getD_q td
    obtain ⟨x1, x2, x3, hB, hP⟩ := Z3.out.below (Bd.trans hb)
    obtain ⟨y0, y1, y2, y3⟩ := hB.c4
    have hl := hB.lt
    go_wp2_with fail
    exact hK _ _ (Below.refl _ _) hP
   | 29, _ =>
    intro a w1 vs hb hold hdep K hK
    obtain ⟨sg, fg⟩ := hdep 27 (by kernel_rfl)
    have tg := sg 75 (by kernel_rfl)
    rw [show vs 27 = .bool false from fg] at tg
    refine wpOp_guard rfl rfl (d := 75) rfl tg ?_
    clear sg tg fg
    go_wp2_with fail
    exact hK _ _ (below_new _ _) (il_new w1 [1] 3)
   | 30, _ =>
    intro a w1 vs hb hold hdep K hK
    obtain ⟨sg, fg⟩ := hdep 27 (by kernel_rfl)
    have tg := sg 75 (by kernel_rfl)
    rw [show vs 27 = .bool false from fg] at tg
    refine wpOp_guard rfl rfl (d := 75) rfl tg ?_
    clear sg tg fg
    obtain ⟨s29, f29⟩ := hdep 29 (by kernel_rfl)
    have t29 := s29 77 (by kernel_rfl)
    go_wp2_with fail
    refine (nums_calls w1 _ [1] f29 (by decide) (i64_all [1] rfl)).mono ?_
    rintro e w2 ⟨v, rfl, hq, hb2⟩
    go_wp2_with fail
    exact hK v w2 hb2 (flN [1] hq rfl)
   | 31, _ =>
    intro a w1 vs hb hold hdep K hK
    obtain ⟨sg, fg⟩ := hdep 27 (by kernel_rfl)
    have tg := sg 75 (by kernel_rfl)
    rw [show vs 27 = .bool false from fg] at tg
    refine wpOp_guard rfl rfl (d := 75) rfl tg ?_
    clear sg tg fg
    obtain ⟨s30, f30⟩ := hdep 30 (by kernel_rfl)
    have t30 := s30 78 (by kernel_rfl)
    obtain ⟨A30, c30, e30, h30⟩ := (show FL w1 (vs 30) ((ratsI [1]).map rawQ) from f30).slice
    rw [e30] at t30 f30
    have u30 := getD_q t30
    go_wp2_with fail
    exact hK _ _ (Below.refl _ _) ⟨_, _, _, rfl, by unfold I64; decide, FL.nil0 _, f30, FL.nil0 _⟩
   | 32, _ =>
    intro a w1 vs hb hold hdep K hK
    obtain ⟨sg, fg⟩ := hdep 27 (by kernel_rfl)
    have tg := sg 75 (by kernel_rfl)
    rw [show vs 27 = .bool false from fg] at tg
    refine wpOp_guard rfl rfl (d := 75) rfl tg ?_
    clear sg tg fg
    obtain ⟨s28, f28⟩ := hdep 28 (by kernel_rfl)
    have t28 := s28 76 (by kernel_rfl)
    obtain ⟨s31, f31⟩ := hdep 31 (by kernel_rfl)
    have t31 := s31 79 (by kernel_rfl)
    go_wp2_with fail
    refine (judge_calls w1 _ _ _ _ f28 f31 (by decide) (by decide) (by decide)).mono ?_
    rintro e w2 ⟨rfl, hb2⟩
    go_wp2_with fail
    exact hK _ w2 hb2 (congrArg Value.bool ev5')
   | 33, _ =>
    intro a w1 vs hb hold hdep K hK
    obtain ⟨sg, fg⟩ := hdep 27 (by kernel_rfl)
    have tg := sg 75 (by kernel_rfl)
    rw [show vs 27 = .bool false from fg] at tg
    refine wpOp_guard rfl rfl (d := 75) rfl tg ?_
    clear sg tg fg
    obtain ⟨s32, f32⟩ := hdep 32 (by kernel_rfl)
    have t32 := s32 80 (by kernel_rfl)
    rw [show vs 32 = .bool true from f32] at t32
    have u32 := getD_q t32
    go_wp2_with fail
    exact hK _ _ (Below.refl _ _) rfl
   | 34, _ =>
    intro a w1 vs hb hold hdep K hK
    refine wpOp_of_chain rfl ?_
    obtain ⟨s27, f27⟩ := hdep 27 (by kernel_rfl)
    have t27 := s27 75 (by kernel_rfl)
    rw [show vs 27 = .bool false from f27] at t27
    have u27 := getD_q t27
    obtain ⟨s33, f33⟩ := hdep 33 (by kernel_rfl)
    have t33 := s33 81 (by kernel_rfl)
    rw [show vs 33 = .bool false from f33] at t33
    have u33 := getD_q t33
    go_wp2_with fail
    exact hK _ _ (Below.refl _ _) rfl
   | k + 35, h => exact absurd h (by omega)
  ·intro vs w14 hb14 hF
   have hF34 : vs 34 = .bool false := hF 34 (by omega)
   clear hF
   have DB := Hd (Bd.trans hb14)
   clear hb14
   simp only [putN, dstAt, List.drop_succ_cons, List.drop_zero, List.getElem?_toArray, List.getElem?_cons_succ, List.getElem?_cons_zero, Option.bind_some, Act.put, List.setIfInBounds_toArray, List.set_cons_zero, List.set_cons_succ]
   rw [hF34]
   have Y1 := Hd (Z1.out.below DB.out)
   have Y4 := Hd (H69.out.below DB.out)
   have YB := Hd (below_next HB68.out DB.out)
   clear Z1 Z2 Z3 H69 DB HB68 hF34
   refine NoPanic.normal ?_
   go_upto_region 7 with fail
   refine wp_mono (l := [_, _, _, _, _, _, _, _]) 7 (F7 w.heap.size w14.heap.size) (by kernel_rfl) (by kernel_rfl) (by kernel_rfl) (by kernel_rfl) (by kernel_rfl) (fun i v w w' _ h hb => F7.below h hb) ?_ ?_
   ·intro i hi
    match i, hi with
    | 0, _ =>
     intro a w1 vs hb hold hdep K hK
     refine wpOp_of_chain rfl ?_
     go_wp2_with fail
     exact hK _ _ (below_new _ _) (il_new w1 [3, 1] 3)
    | 1, _ =>
     intro a w1 vs hb hold hdep K hK
     refine wpOp_of_chain rfl ?_
     obtain ⟨s0, f0⟩ := hdep 0 (by kernel_rfl)
     have t0 := s0 83 (by kernel_rfl)
     have hle : w.heap.size ≤ w1.heap.size := Nat.le_trans YB.out.size hb.size
     go_wp2_with fail
     refine (nums_calls w1 _ [3, 1] f0 (by decide) (i64_all [3, 1] rfl)).mono ?_
     rintro e w2 ⟨v, rfl, hq, hb2⟩
     go_wp2_with fail
     exact hK v w2 hb2 (QO.lower hq hle)
    | 2, _ =>
     intro a w1 vs hb hold hdep K hK
     refine wpOp_of_chain rfl ?_
     have td : a.tmps.getD 4 undef = .pointer (some ⟨g4, 0, none⟩) := hold 4 (by kernel_rfl)
     have ud := getD_q td
     obtain ⟨x1, x2, x3, hB, hP⟩ := Y4.out.below (Bd.trans hb)
     obtain ⟨y0, y1, y2, y3⟩ := hB.c4
     have hl := hB.lt
     go_wp2_with fail
     exact hK _ _ (Below.refl _ _) hP
    | 3, _ =>
     intro a w1 vs hb hold hdep K hK
     refine wpOp_of_chain rfl ?_
     obtain ⟨s2, f2⟩ := hdep 2 (by kernel_rfl)
     have t2 := s2 85 (by kernel_rfl)
     obtain ⟨v1, v2, v3, e, h1, h2, h3⟩ := (show CO w.heap.size w1 (vs 2) exA from f2)
     obtain ⟨A1, n1, c1, rfl⟩ := OL.shape h1
     obtain ⟨A2, n2, c2, rfl⟩ := OL.shape h2
     obtain ⟨A3, n3, c3, rfl⟩ := OL.shape h3
     replace e : vs 2 = .agg #[.int .i64 1, .slice A1 n1 c1, .slice A2 n2 c2, .slice A3 n3 c3] := e
     rw [e] at t2
     have u2 := getD_q t2
     go_wp2_with fail
     exact hK _ _ (Below.refl _ _) ⟨_, _, _, _, _, _, _, _, _, rfl, _, _, _, rfl, h1, h2, h3⟩
    | 4, _ =>
     intro a w1 vs hb hold hdep K hK
     refine wpOp_of_chain rfl ?_
     obtain ⟨s3, f3⟩ := hdep 3 (by kernel_rfl)
     have t3 := s3 86 (by kernel_rfl)
     have hle : w.heap.size ≤ w1.heap.size := Nat.le_trans YB.out.size hb.size
     obtain ⟨A1, n1, c1, A2, n2, c2, A3, n3, c3, e, h1⟩ := (show CaseO w.heap.size w1 (vs 3) from f3)
     rw [e] at t3
     have u3 := getD_q t3
     go_wp2_with fail
     exact hK _ _ (below_new _ _) (KO.new1 (c := exA) h1 hle rfl rfl rfl)
    | 5, _ =>
     intro a w1 vs hb hold hdep K hK
     refine wpOp_of_chain rfl ?_
     obtain ⟨s1, f1⟩ := hdep 1 (by kernel_rfl)
     have t1 := s1 84 (by kernel_rfl)
     obtain ⟨s4, f4⟩ := hdep 4 (by kernel_rfl)
     have t4 := s4 87 (by kernel_rfl)
     obtain ⟨A1, n1, c1, e1⟩ := OL.shape (show QO w.heap.size w1 (vs 1) (ratsI [3, 1]) from f1)
     obtain ⟨A2, n2, c2, e2⟩ := OL.shape (show KO w.heap.size w1 (vs 4) [exA] from f4)
     rw [e1] at t1 f1
     rw [e2] at t4 f4
     have u1 := getD_q t1
     have u4 := getD_q t4
     go_wp2_with fail
     exact hK _ _ (Below.refl _ _) ⟨_, _, rfl, f1, f4⟩
    | 6, _ =>
     intro a w1 vs hb hold hdep K hK
     refine wpOp_of_chain rfl ?_
     go_wp2_with fail
     exact hK _ _ (below_new _ _) ⟨_, rfl, hb.size, Blk.new _ _ _⟩
    | k + 7, h => exact absurd h (by omega)
   ·intro vs7 w15 hb15 hF
    have T5 : TO w.heap.size w15 (vs7 5) (ratsI [3, 1]) [exA] := hF 5 (by omega)
    obtain ⟨g5, e6, hg5, hk5⟩ := (show Box4 w14.heap.size 56 w15 (vs7 6) from hF 6 (by omega))
    clear hF
    obtain ⟨v1, v3, e5, q1, q3⟩ := T5
    obtain ⟨P1, r1, d1', rfl⟩ := OL.shape q1
    obtain ⟨P3, r3, d3', rfl⟩ := OL.shape q3
    have DB := Hd (Bd.trans hb15)
    have HT := Hd (show TO w.heap.size w15 (.agg #[.int .i64 1, .slice P1 r1 d1', .slice none 0 0, .slice P3 r3 d3']) (ratsI [3, 1]) [exA] from ⟨_, _, rfl, q1, q3⟩)
    have HK := Hd hk5
    clear hb15 q1 q3
    simp only [putN, dstAt, List.drop_succ_cons, List.drop_zero, List.getElem?_toArray, List.getElem?_cons_succ, List.getElem?_cons_zero, Option.bind_some, Act.put, List.setIfInBounds_toArray, List.set_cons_zero, List.set_cons_succ]
    rw [e6, e5]
    clear e5 e6 hk5
    obtain ⟨y0, y1, y2, y3⟩ := HK.out.c4
    obtain ⟨f0, f1, f2, f3⟩ := HK.out.f4
    have hlt := HK.out.lt
    generalize vs7 0 = z0 at *
    generalize vs7 1 = z1 at *
    generalize vs7 2 = z2 at *
    generalize vs7 3 = z3 at *
    generalize vs7 4 = z4 at *
    go_wp2_with fail
    refine NoPanic.normal ?_
    have BX := boxT_put HK.out DB.out hg5 YB.out.size HT.out (small_nums [3, 1] rfl) (by intro c hc; simp at hc; subst hc; exact smallA)
    generalize ((((w15.setCell _ _).setCell _ _).setCell _ _).setCell _ _) = w16 at BX ⊢
    have X5 := Hd BX.1
    have D16 := Hd BX.2
    clear BX HT HK DB y0 y1 y2 y3 f0 f1 f2 f3 hlt
    have X1 := Hd (Y1.out.below D16.out)
    have XB := Hd (below_next YB.out D16.out)
    clear Y1 Y4 YB D16
    obtain ⟨a1, a2, a3, hB1, hP1⟩ := X1.out
    obtain ⟨y0, y1, y2, y3⟩ := hB1.c4
    have hl1 := hB1.lt
    have HP1 := Hd hP1
    clear hP1 hB1
    go_wp2_with fail
    refine (psolve_calls w16 _ (rawP exP) 20 ⟨1, [3, 1], [2, 1], []⟩ HP1.out (by rw [if_pos solve0, clean_raw smallP.1]; exact solveE)).mono ?_
    rintro e w17 ⟨r1, r2, r3, rfl, L1, L2, L3, hb17⟩
    rw [show solveCode (rawP exP) = 0 from solve0]
    obtain ⟨B1', d1, rfl⟩ := LV.slice L1
    obtain ⟨B2', d2', rfl⟩ := LV.slice L2
    obtain ⟨B3', d3, rfl⟩ := LV.slice L3
    have M1 := Hd L1.fl
    have M2 := Hd L2.fl
    have M3 := Hd L3.fl
    have V1 := Hd (X1.out.below hb17)
    have V5 := Hd (X5.out.below hb17)
    have VB := Hd (below_next XB.out hb17)
    clear L1 L2 L3 hb17 X1 X5 XB y0 y1 y2 y3 hl1 HP1
    go_upto_region 9 with fail
    have BX := BoxC.new (c := ⟨1, [rawQ 3, rawQ 1], [rawQ 2, rawQ 1], []⟩) 1 ⟨_, _, _, rfl, i64_o, M1.out, M2.out, M3.out⟩
    generalize e18 : w17.alloc _ = w18 at BX ⊢
    clear e18
    have U1 := Hd (V1.out.below BX.2)
    have U5 := Hd (V5.out.below BX.2)
    have UB := Hd (below_next VB.out BX.2)
    have U6 := Hd BX.1
    clear V1 V5 VB BX M1 M2 M3
    generalize w17.heap.size = g6 at *
    clear w17
    obtain ⟨p1, p2, p3, hB1, hP1⟩ := U1.out
    obtain ⟨y0, y1, y2, y3⟩ := hB1.c4
    have hl1 := hB1.lt
    obtain ⟨q1, q2, q3, hB5, hT5⟩ := U5.out
    obtain ⟨z0, z1, z2, z3⟩ := hB5.c4
    have hl5 := hB5.lt
    have HP1 := Hd hP1
    have HT5 := Hd hT5
    clear hP1 hB1 hB5 hT5
    go_wp2_with fail
    refine (tree1_calls w18 _ _ (rawP exP) _ (rawK exA) HP1.out HT5.out rfl rfl rfl rfl rgt1 (by rw [bnd1]; exact rgt1) fit1 (by rw [bnd1]; exact ev1) (by rw [bnd1]; exact le1) (by decide) (by decide)).mono ?_
    rintro e w19 ⟨rfl, hb19⟩
    have R1 := Hd (U1.out.below hb19)
    have R6 := Hd (U6.out.below hb19)
    have RB := Hd (below_next UB.out hb19)
    clear U1 U5 U6 UB hb19 y0 y1 y2 y3 z0 z1 z2 z3 hl1 hl5 HP1 HT5
    obtain ⟨p1, p2, p3, hB1, hP1⟩ := R1.out
    obtain ⟨y0, y1, y2, y3⟩ := hB1.c4
    have hl1 := hB1.lt
    obtain ⟨q1, q2, q3, hB6, hC6⟩ := R6.out
    obtain ⟨z0, z1, z2, z3⟩ := hB6.c4
    have hl6 := hB6.lt
    have HP1 := Hd hP1
    have HC6 := Hd hC6
    clear hP1 hB1 hB6 hC6
    go_wp2_with fail
    refine (judge_calls w19 _ _ (rawP exP) _ HP1.out HC6.out (by decide) (by decide) (by decide)).mono ?_
    rintro e w20 ⟨rfl, hb20⟩
    rw [ev1]
    have S1 := Hd (R1.out.below hb20)
    have S6 := Hd (R6.out.below hb20)
    have SB := Hd (below_next RB.out hb20)
    clear R1 R6 RB hb20 y0 y1 y2 y3 z0 z1 z2 z3 hl1 hl6 HP1 HC6
    obtain ⟨p1, p2, p3, hB1, hP1⟩ := S1.out
    obtain ⟨y0, y1, y2, y3⟩ := hB1.c4
    have hl1 := hB1.lt
    obtain ⟨q1, q2, q3, hB6, hC6⟩ := S6.out
    obtain ⟨z0, z1, z2, z3⟩ := hB6.c4
    have hl6 := hB6.lt
    have HP1 := Hd hP1
    have HX6 := Hd (CR.fl hC6)
    clear hP1 hB1 hB6 hC6
    go_wp2_with fail
    refine (value_calls w20 _ _ (rawP exP) _ HP1.out HX6.out).mono ?_
    rintro e w21 ⟨v, rfl, hq, hb21⟩
    rw [val1] at hq
    have FR1 := Hd (FR.of_fq hq (small_ofInt 11 (by decide) (by decide)))
    have QB := Hd (below_next SB.out hb21)
    clear S1 S6 SB hb21 y0 y1 y2 y3 z0 z1 z2 z3 hl1 hl6 HP1 HX6 hq
    go_wp2_with fail
    refine (fprint_calls w21 _ _ FR1.out).mono ?_
    rintro e w22 hS
    rw [show fixQ (rawQ 11) = 11 from fixN 11 (by decide) (by decide), print11] at hS
    obtain ⟨rfl, hb22⟩ := hS
    rw [show strB [49, 49] = (⟨#[49, 49]⟩ : ByteArray) from rfl]
    have FB := Hd (below_next QB.out hb22)
    clear QB hb22 FR1
    go_wp2_with fail
    go_ret
    exact ⟨rfl, FB.out⟩
theorem value_sz (p : ProgF) (x : List RawF) : sizeQ (valueP p x) ≤ 4096 := by
 unfold valueP
 split
 ·rw [sizeQ_zero]; decide
 ·exact capQ_size _
theorem ba_loop (bs : ByteArray) : ∀ (k i : Nat) (r : List UInt8), bs.size - i = k → ByteArray.toList.loop bs i r = r.reverse ++ bs.data.toList.drop i
 | 0, i, r, h => by
  rw [ByteArray.toList.loop]
  have h1 : ¬ i < bs.size := by omega
  rw [if_neg h1, List.drop_of_length_le (by rw [Array.length_toList]; exact Nat.le_of_not_lt h1), List.append_nil]
 | k + 1, i, r, h => by
  rw [ByteArray.toList.loop]
  have h1 : i < bs.size := by omega
  rw [if_pos h1, ba_loop bs k (i + 1) _ (by omega), List.reverse_cons, List.append_assoc]
  congr 1
  have h2 : i < bs.data.toList.length := by rw [Array.length_toList]; exact h1
  rw [List.drop_eq_getElem_cons h2]
  have h3 : bs.get! i = bs.data.toList[i] := by
   rw [Array.getElem_toList]
   exact getElem!_pos bs.data i h1
  rw [h3]
  rfl
theorem ba_toList (bs : ByteArray) : bs.toList = bs.data.toList := by
 unfold ByteArray.toList
 rw [ba_loop bs _ 0 [] rfl]
 rfl
theorem dec_one {m : Nat} (h : Lib.decDigits m = [49]) : m = 1 := by
 by_cases hm : m < 10
 ·rw [Lib.decDigits_one hm] at h
  have h1 := congrArg (fun l => (l.map UInt8.toNat)) h
  simp at h1
  omega
 ·have h1 := congrArg List.length h
  have h2 := Lib.nDigits_pos (m / 10)
  rw [Lib.decDigits_length, Lib.nDigits_big hm] at h1
  simp at h1
  omega
theorem decD_ne (m : Nat) : Lib.decDigits m ≠ [] := fun h => by
 have h1 := congrArg List.length h
 have h2 := Lib.nDigits_pos m
 rw [Lib.decDigits_length] at h1
 simp at h1
 omega
theorem print_one {q : Rat} (h : printB q = [49]) : q = 1 := by
 unfold printB at h
 have hd : q.den = 1 := Classical.byContradiction fun hd => by
  rw [if_neg hd] at h
  have h1 := congrArg List.length h
  have h2 := decD_ne q.num.natAbs
  have h3 := List.length_pos_iff.2 h2
  simp at h1
  omega
 rw [if_pos hd, List.append_nil] at h
 cases hn : negQ q with
 | true =>
  rw [hn, if_pos rfl] at h
  have h2 := decD_ne q.num.natAbs
  have h1 := congrArg List.length h
  have h3 := List.length_pos_iff.2 h2
  simp at h1
  exact absurd h1 h2
 | false =>
  rw [hn, if_neg (by simp), List.nil_append] at h
  have h1 := dec_one h
  have h2 : ¬ q.num < 0 := by unfold negQ at hn; exact of_decide_eq_false hn
  have h3 : q.num = 1 := by omega
  rw [← Rat.mkRat_self q, h3, hd]
  rfl
theorem sq18 (P : Prop) (h : P := by
 have hne : k6 ≠ k7 := Blk.ne_typ H6.out H7.out (by decide)
 have hg6 : w.heap.size ≠ k6 := Blk.ne_typ HK2.out H6.out (by decide)
 clear D0 D1 HKd HK1 HA HA2 HB2 ha hb
 obtain ⟨f0, f1, f2, f3⟩ := H6.out.f4
 obtain ⟨i0, i1, i2, i3⟩ := H6.out.c4
 have l6 := H6.out.lt
 go_wp2_with fail
 refine And.intro ((((HK2.out.other (a := ⟨k6, 0, none⟩) hg6 _).other (a := ⟨k6, 1, none⟩) hg6 _).other (a := ⟨k6, 2, none⟩) hg6 _).other (a := ⟨k6, 3, none⟩) hg6 _) ⟨?_, ?_, ?_⟩
 rotate_left
 ·((refine ⟨_, ?_, rfl, Or.inl ⟨by rfl, ?_⟩, ?_⟩; rotate_left; focus (intro W hW; clear hW; go_simp; try with_reducible rfl)); (try simp only [SQ]))
  exact rfl
 have h6 : HS w [(k6, 26, #[.int .i64 vars, .slice A1 p.free.length c1, .slice A2 p.goal.length c2, .slice A3 p.rows.length c3])] ((((Wc.setCell ⟨k6, 0, none⟩ (.int .i64 vars)).setCell ⟨k6, 1, none⟩ (.slice A1 p.free.length c1)).setCell ⟨k6, 2, none⟩ (.slice A2 p.goal.length c2)).setCell ⟨k6, 3, none⟩ (.slice A3 p.rows.length c3)) := ⟨fun b hb => by rw [List.mem_singleton.1 hb]; exact H6.out.put4 _ _ _ _, below_put4 D2.out hw6 _ _ _ _⟩
 have h7 := ((((H7.out.other (a := ⟨k6, 0, none⟩) hne.symm (.int .i64 vars)).other (a := ⟨k6, 1, none⟩) hne.symm (.slice A1 p.free.length c1)).other (a := ⟨k6, 2, none⟩) hne.symm (.slice A2 p.goal.length c2)).other (a := ⟨k6, 3, none⟩) hne.symm (.slice A3 p.rows.length c3))
 have HS6 := Hd h6
 have H8 := Hd h7
 clear h6 h7 f0 f1 f2 f3 i0 i1 i2 i3 l6 hg6 D2 HK2 H6 H7
 generalize ((((Wc.setCell ⟨k6, 0, none⟩ (.int .i64 vars)).setCell ⟨k6, 1, none⟩ (.slice A1 p.free.length c1)).setCell ⟨k6, 2, none⟩ (.slice A2 p.goal.length c2)).setCell ⟨k6, 3, none⟩ (.slice A3 p.rows.length c3)) = Wd at *
 obtain ⟨f0, f1, f2, f3⟩ := H8.out.f4
 obtain ⟨i0, i1, i2, i3⟩ := H8.out.c4
 have l7 := H8.out.lt
 go_wp2_with fail
 refine NoPanic.normal ?_
 refine ⟨rfl, k6, k7, rfl, ?_⟩
 have h7 := HS6.out.other4 (g := k7) hw7 (by simp; exact hne) (.int .i64 kd) (.slice B1 t.x.length d1) (.slice B2 t.ray.length d2) (.slice B3 t.cases.length d3)
 refine ⟨fun b hb => ?_, h7.2⟩
 rcases List.mem_cons.1 hb with rfl | hb'
 ·exact H8.out.put4 _ _ _ _
 ·exact h7.1 b hb') : P := h
theorem sq20 (P : Prop) (h : P := by
 go_wp2_with fail
 refine (exfixed_calls _).mono ?_
 rintro e w9 ⟨rfl, hb⟩
 go_wp2_with fail
 go_ret
 first | exact ⟨rfl, (K5.out.step hb).2⟩ | exact ⟨rfl, (K4.out.step hb).2⟩ | exact ⟨rfl, (K3.out.step hb).2⟩ | exact ⟨rfl, (K2.out.step hb).2⟩ | exact ⟨rfl, (K1.out.step hb).2⟩) : P := h
theorem treesound_calls (w : World) (v v2 : Value) (p : ProgF) (xs : List Int) (t : TreeF) (x : List RawF) (h : QG0 w v p xs t) (h2 : FL0 w v2 x) (hx : x.length ≤ 9223372036854775807) : Calls Try.prog 9 #[v, v2] w fun e w' => BPost w true e w' := by
 obtain ⟨a0, a1, a2, a3, a4, a5, a6, a7, a8, rfl, hp, hil, hxl, hxi, ht⟩ := h
 have HP := Hd hp
 have HT := Hd ht
 have HIL := Hd hil
 have HXI := Hd hxi
 have HXS := Hd hxl
 have HX0 := Hd h2
 have HXL := Hd hx
 obtain ⟨A1, c1, A2, c2, A3, c3, ep, HI, H1, H2, H3⟩ := hp.opened
 obtain ⟨B1, d1, B2, d2, B3, d3, et, HTX, HTR, HTC⟩ := ht.opened
 obtain ⟨X1, xc, rfl, _⟩ := hil.slice
 obtain ⟨A4, c4, rfl, hc4⟩ := h2.slice
 have ep' : a0 = .int .i64 p.vars ∧ a1 = .slice A1 p.free.length c1 ∧ a2 = .slice A2 p.goal.length c2 ∧ a3 = .slice A3 p.rows.length c3 := by simpa using ep
 have et' : a5 = .int .i64 t.kind ∧ a6 = .slice B1 t.x.length d1 ∧ a7 = .slice B2 t.ray.length d2 ∧ a8 = .slice B3 t.cases.length d3 := by simpa using et
 obtain ⟨rfl, rfl, rfl, rfl⟩ := ep'
 obtain ⟨rfl, rfl, rfl, rfl⟩ := et'
 clear hp hil hxl hxi ht h2 hx ep et
 obtain ⟨vars, hv⟩ : ∃ n, n = p.vars := ⟨_, rfl⟩
 rw [← hv] at HP ⊢
 have HV := Hd hv
 obtain ⟨kd, hkd⟩ : ∃ k, k = t.kind := ⟨_, rfl⟩
 rw [← hkd] at HT ⊢
 have HKD := Hd hkd
 clear hv hkd
 go_enter Try.func9, Try.ntmps9
 go_wp2_with fail
 have HB0 := Hd (below_new w (.cells #[.int .i64 vars, .slice A1 p.free.length c1, .slice A2 p.goal.length c2, .slice A3 p.rows.length c3, .slice X1 xs.length xc, .int .i64 kd, .slice B1 t.x.length d1, .slice B2 t.ray.length d2, .slice B3 t.cases.length d3] 58))
 have HK0 := Hd (Blk.new w 58 #[.int .i64 vars, .slice A1 p.free.length c1, .slice A2 p.goal.length c2, .slice A3 p.rows.length c3, .slice X1 xs.length xc, .int .i64 kd, .slice B1 t.x.length d1, .slice B2 t.ray.length d2, .slice B3 t.cases.length d3])
 generalize w.alloc (.cells #[.int .i64 vars, .slice A1 p.free.length c1, .slice A2 p.goal.length c2, .slice A3 p.rows.length c3, .slice X1 xs.length xc, .int .i64 kd, .slice B1 t.x.length d1, .slice B2 t.ray.length d2, .slice B3 t.cases.length d3] 58) = W0 at *
 refine Code.wp_mono (Q := fun e a W => e = .normal ∧ ∃ k6 k7, a = { tmps := #[.agg #[.int .i64 vars, .slice A1 p.free.length c1, .slice A2 p.goal.length c2, .slice A3 p.rows.length c3, .slice X1 xs.length xc, .int .i64 kd, .slice B1 t.x.length d1, .slice B2 t.ray.length d2, .slice B3 t.cases.length d3], .slice A4 x.length c4, .pointer (some ⟨w.heap.size, 0, none⟩), undef, .bool false, .pointer (some ⟨k6, 0, none⟩), .slice X1 xs.length xc, .pointer (some ⟨k7, 0, none⟩), undef, undef, undef, .pointer (some ⟨w.heap.size, 0, none⟩), .agg #[.int .i64 vars, .slice A1 p.free.length c1, .slice A2 p.goal.length c2, .slice A3 p.rows.length c3], .pointer (some ⟨w.heap.size, 4, none⟩), .slice X1 xs.length xc, .pointer (some ⟨w.heap.size, 5, none⟩), .agg #[.int .i64 kd, .slice B1 t.x.length d1, .slice B2 t.ray.length d2, .slice B3 t.cases.length d3], undef, undef, undef, undef, undef, undef, undef, undef, undef, undef, undef, undef, undef, undef, undef, undef, undef, undef, undef, undef, undef, undef, undef, undef, undef, undef, undef, undef, undef, undef, undef, undef, undef, undef, undef, undef, undef, undef, undef, undef, undef, undef, undef, undef, undef, undef, undef, undef, undef, undef, undef, undef, undef, undef, undef, undef, undef, undef, undef, undef, undef, undef, undef, undef, undef, undef, undef, undef, undef, undef, undef, undef, undef, undef, undef, undef, undef, undef, undef, undef], defers := [] } ∧ HS w [(k7, 56, #[.int .i64 kd, .slice B1 t.x.length d1, .slice B2 t.ray.length d2, .slice B3 t.cases.length d3]), (k6, 26, #[.int .i64 vars, .slice A1 p.free.length c1, .slice A2 p.goal.length c2, .slice A3 p.rows.length c3])] W) ?_ ?_
 rotate_left
 ·refine wp_fork (l := [_, _, _, _, _, _, _, _, _, _, _]) (S := fun W => Blk W w.heap.size 58 #[.int .i64 vars, .slice A1 p.free.length c1, .slice A2 p.goal.length c2, .slice A3 p.rows.length c3, .slice X1 xs.length xc, .int .i64 kd, .slice B1 t.x.length d1, .slice B2 t.ray.length d2, .slice B3 t.cases.length d3]) 10 (.two [0, 1, 2, 3, 4, 5] 6 (.one [] 7 (.one [] 8 (.fin [9]))) 7 (.one [] 6 (.one [] 8 (.fin [9])))) (by kernel_rfl) (by kernel_rfl) (by kernel_rfl) rfl (HK0.out.below Bd HK0.out.lt) ?_
  have D0 := Hd (below_next HB0.out (Below.drew (Below.refl W0.heap.size W0)))
  have HKd := Hd (HK0.out.below Bd HK0.out.lt)
  refine ⟨?_, _, _, ?_, rfl, rfl, ?_, ?_⟩
  rotate_left
  ·(iterate 6 ((refine ⟨_, ?_, rfl, Or.inl ⟨by rfl, ?_⟩, ?_⟩; rotate_left; focus (intro W hW; have q0 := Blk.cell hW (j := 0) rfl; have q1 := Blk.cell hW (j := 1) rfl; have q2 := Blk.cell hW (j := 2) rfl; have q3 := Blk.cell hW (j := 3) rfl; have q4 := Blk.cell hW (j := 4) rfl; have q5 := Blk.cell hW (j := 5) rfl; have q6 := Blk.cell hW (j := 6) rfl; have q7 := Blk.cell hW (j := 7) rfl; have q8 := Blk.cell hW (j := 8) rfl; clear hW; go_simp; try with_reducible rfl)); (try simp only [SQ])))
   exact rfl
  ·generalize W0.drew = Wa at *
   go_wp2_with fail
   have hn := below_new Wa (.cells #[.int .i64 0, .slice none 0 0, .slice none 0 0, .slice none 0 0] 26)
   have D1 := Hd (below_next D0.out hn)
   have HK1 := Hd (HKd.out.below hn HKd.out.lt)
   have HA := Hd (Blk.new Wa 26 #[.int .i64 0, .slice none 0 0, .slice none 0 0, .slice none 0 0])
   obtain ⟨k6, hk⟩ : ∃ g, g = Wa.heap.size := ⟨_, rfl⟩
   have ha : w.heap.size ≤ k6 := by rw [hk]; exact D0.out.size
   rw [← hk] at HA ⊢
   generalize Wa.alloc (.cells #[.int .i64 0, .slice none 0 0, .slice none 0 0, .slice none 0 0] 26) = Wb at *
   clear hk hn
   refine And.intro HK1.out ⟨_, _, rfl, rfl, ?_⟩
   (try simp only [SQ])
   go_wp2_with fail
   have hn := below_new Wb (.cells #[.int .i64 0, .slice none 0 0, .slice none 0 0, .slice none 0 0] 56)
   have D2 := Hd (below_next D1.out hn)
   have HK2 := Hd (HK1.out.below hn HK1.out.lt)
   have HA2 := Hd (HA.out.below hn HA.out.lt)
   have HB2 := Hd (Blk.new Wb 56 #[.int .i64 0, .slice none 0 0, .slice none 0 0, .slice none 0 0])
   obtain ⟨k7, hk⟩ : ∃ g, g = Wb.heap.size := ⟨_, rfl⟩
   have hb : w.heap.size ≤ k7 := by rw [hk]; exact D1.out.size
   rw [← hk] at HB2 ⊢
   generalize Wb.alloc (.cells #[.int .i64 0, .slice none 0 0, .slice none 0 0, .slice none 0 0] 56) = Wc at *
   clear hk hn
   refine And.intro HK2.out ⟨_, _, rfl, rfl, ?_⟩
   (try simp only [SQ])
   have hw6 : w.heap.size ≤ k6 := ha
   have hw7 : w.heap.size ≤ k7 := hb
   have H6 := Hd HA2.out
   have H7 := Hd HB2.out
   exact sq18 _
  ·generalize W0.drew = Wa at *
   go_wp2_with fail
   have hn := below_new Wa (.cells #[.int .i64 0, .slice none 0 0, .slice none 0 0, .slice none 0 0] 56)
   have D1 := Hd (below_next D0.out hn)
   have HK1 := Hd (HKd.out.below hn HKd.out.lt)
   have HA := Hd (Blk.new Wa 56 #[.int .i64 0, .slice none 0 0, .slice none 0 0, .slice none 0 0])
   obtain ⟨k7, hk⟩ : ∃ g, g = Wa.heap.size := ⟨_, rfl⟩
   have ha : w.heap.size ≤ k7 := by rw [hk]; exact D0.out.size
   rw [← hk] at HA ⊢
   generalize Wa.alloc (.cells #[.int .i64 0, .slice none 0 0, .slice none 0 0, .slice none 0 0] 56) = Wb at *
   clear hk hn
   refine And.intro HK1.out ⟨_, _, rfl, rfl, ?_⟩
   (try simp only [SQ])
   go_wp2_with fail
   have hn := below_new Wb (.cells #[.int .i64 0, .slice none 0 0, .slice none 0 0, .slice none 0 0] 26)
   have D2 := Hd (below_next D1.out hn)
   have HK2 := Hd (HK1.out.below hn HK1.out.lt)
   have HA2 := Hd (HA.out.below hn HA.out.lt)
   have HB2 := Hd (Blk.new Wb 26 #[.int .i64 0, .slice none 0 0, .slice none 0 0, .slice none 0 0])
   obtain ⟨k6, hk⟩ : ∃ g, g = Wb.heap.size := ⟨_, rfl⟩
   have hb : w.heap.size ≤ k6 := by rw [hk]; exact D1.out.size
   rw [← hk] at HB2 ⊢
   generalize Wb.alloc (.cells #[.int .i64 0, .slice none 0 0, .slice none 0 0, .slice none 0 0] 26) = Wc at *
   clear hk hn
   refine And.intro HK2.out ⟨_, _, rfl, rfl, ?_⟩
   (try simp only [SQ])
   have hw6 : w.heap.size ≤ k6 := hb
   have hw7 : w.heap.size ≤ k7 := ha
   have H6 := Hd HB2.out
   have H7 := Hd HA2.out
   exact sq18 _
 ·rintro e a W0 ⟨rfl, k6, k7, rfl, hk0⟩
  have K0 := Hd hk0
  clear hk0 HB0 HK0
  obtain ⟨x0, x1, x2, x3⟩ := (K0.out.blk 1 rfl).c4
  obtain ⟨y0, y1, y2, y3⟩ := (K0.out.blk 0 rfl).c4
  go_wp2_with fail
  refine (within_calls W0 _ p 8 12 (HP.out.of_below K0.out.2) (by decide) (by decide)).mono ?_
  rintro e w1 ⟨rfl, hb⟩
  have K1 := Hd (K0.out.step hb)
  clear hb
  obtain ⟨x0, x1, x2, x3⟩ := (K1.out.blk 1 rfl).c4
  obtain ⟨y0, y1, y2, y3⟩ := (K1.out.blk 0 rfl).c4
  cases hw : withinB p 8 12 with
  | false =>
   clear hw
   exact sq20 _
  | true =>
   have HW := Hd hw
   have HPF := Hd (HP.out.full hw)
   clear hw
   by_cases a1 : xs.length > 6
   ·have t1 : decide ((xs.length : Int) > 6) = true := dct
    clear a1
    exact sq20 _
   have t1 : decide ((xs.length : Int) > 6) = false := dcf
   have HA1 : Hid (xs.length ≤ 6) := by unfold Hid; omega
   clear a1
   go_wp2_with fail
   refine (treein_calls w1 _ t (HT.out.of_below K1.out.2)).mono ?_
   rintro e w2 ⟨rfl, hb⟩
   have K2 := Hd (K1.out.step hb)
   clear hb
   obtain ⟨x0, x1, x2, x3⟩ := (K2.out.blk 1 rfl).c4
   obtain ⟨y0, y1, y2, y3⟩ := (K2.out.blk 0 rfl).c4
   cases htr : treeIn t with
   | false =>
    clear htr
    exact sq20 _
   | true =>
    have HTI := Hd htr
    have HTF := Hd (HT.out.full htr)
    clear htr
    by_cases a2 : (x.length : Int) = vars
    case neg =>
     have t2 : ((x.length : Int) != vars) = true := bneI a2
     clear a2
     exact sq20 _
    have t2 : ((x.length : Int) != vars) = false := beqI a2
    have HA2 := Hd a2
    clear a2
    go_wp2_with fail
    refine (words_calls w2 _ x 6 (HX0.out.below EF0.stays K2.out.2) HXL.out (by decide)).mono ?_
    rintro e w3 ⟨rfl, hb⟩
    have K3 := Hd (K2.out.step hb)
    clear hb
    obtain ⟨x0, x1, x2, x3⟩ := (K3.out.blk 1 rfl).c4
    obtain ⟨y0, y1, y2, y3⟩ := (K3.out.blk 0 rfl).c4
    cases hxw : wordsB x 6 with
    | false =>
     clear hxw
     exact sq20 _
    | true =>
     have HXW := Hd hxw
     have HXF := Hd (HX0.out.full (by decide) hxw)
     have hrl : p.rows.length ≤ 10000 := by have := (withinB_ok HW.out).2.1; omega
     have hti := treeIn_ok HTI.out
     have hcl : t.cases.length ≤ 1000000 := by omega
     have htx := (certB_ok hti.2.1).1
     have htx1 : t.x.length ≤ 100000 := by have := htx.1; simp only at this; omega
     have htx2 : t.ray.length ≤ 100000 := by have := htx.2.2; simp only at this; omega
     have hlc : ∀ c ∈ t.cases, c.cert.x.length ≤ 100000 ∧ c.cert.y.length ≤ 100000 ∧ c.cert.ray.length ≤ 100000 := fun c hc => by have := (certB_ok (hti.2.2 c hc)).1; omega
     have HTW : Hid (wordsB t.x 12 = true) := (certB_ok hti.2.1).2.1
     have HCS : Hid (∀ c ∈ t.cases, certB c.cert 41 = true) := hti.2.2
     have HLC := Hd hlc
     have HIL2 := Hd (SL.below EI.stays HIL.out K3.out.2)
     clear hxw hti htx hlc
     go_wp2_with fail
     refine (tree_calls w3 _ _ _ p xs t (HPF.out.of_below K3.out.2) HIL2.out (HTF.out.of_below K3.out.2) (by have := HA1.out; omega) HXI.out hrl hcl htx1 htx2 HLC.out).mono ?_
     rintro e w4 ⟨rfl, hb⟩
     have K4 := Hd (K3.out.step hb)
     clear hb
     obtain ⟨x0, x1, x2, x3⟩ := (K4.out.blk 1 rfl).c4
     obtain ⟨y0, y1, y2, y3⟩ := (K4.out.blk 0 rfl).c4
     cases htb : treeB p xs t with
     | false =>
      clear htb
      exact sq20 _
     | true =>
      have HTB := Hd htb
      have hwz : wholesP p xs = 0 := Classical.byContradiction fun e => by
       unfold treeB at htb
       rw [if_pos e] at htb
       cases htb
      have HWO := Hd (wholes_ok hwz).2
      clear htb hwz
      go_wp2_with fail
      refine (pfits_calls w4 _ _ p x (HPF.out.of_below K4.out.2) (HXF.out.below EF.stays K4.out.2)).mono ?_
      rintro e w5 ⟨rfl, hb⟩
      have K5 := Hd (K4.out.step hb)
      clear hb
      obtain ⟨x0, x1, x2, x3⟩ := (K5.out.blk 1 rfl).c4
      obtain ⟨y0, y1, y2, y3⟩ := (K5.out.blk 0 rfl).c4
      cases hf : fitsP p x with
      | false =>
       clear hf
       exact sq20 _
      | true =>
       have HF := Hd hf
       have HIL5 := Hd (SL.below EI.stays HIL.out K5.out.2)
       clear hf HIL2 hrl hcl htx1 htx2
       go_wp2_with fail
       clear x0 x1 x2 x3 y0 y1 y2 y3
       go_loopw [58] (fun vi wr => ∃ i : Nat, i ≤ xs.length ∧ vi = .int .i64 (i : Int) ∧ (∀ (j : Nat) (v : Int), j < i → xs[j]? = some v → vecA x v.toNat = 0 ∨ vecA x v.toNat = 1) ∧ HS w [(k7, 56, #[.int .i64 kd, .slice B1 t.x.length d1, .slice B2 t.ray.length d2, .slice B3 t.cases.length d3]), (k6, 26, #[.int .i64 vars, .slice A1 p.free.length c1, .slice A2 p.goal.length c2, .slice A3 p.rows.length c3])] wr) (fun vi _ => xs.length - (intOf vi).toNat)
       case atStart => exact ⟨0, Nat.zero_le _, rfl, fun j _ h => absurd h (Nat.not_lt_zero _), K5.out⟩
       case round =>
        obtain ⟨i, hi, rfl, hall, hs⟩ := hrel
        have HA := Hd hall
        have KK := Hd hs
        clear hall hs
        by_cases hlt : i < xs.length
        ·obtain ⟨u, hu⟩ : ∃ u, xs[i]? = some u := ⟨xs[i], geq hlt⟩
         obtain ⟨gx, ox, rfl, hgx, q0⟩ := IL.at1 (SL.below EI.stays HIL.out KK.out.2) hu
         have hur := HWO.out u (mog hu)
         have hul : u.toNat < x.length := by have := HA2.out; have := HV.out; omega
         obtain ⟨f, hf⟩ : ∃ f, x[u.toNat]? = some f := ⟨x[u.toNat], geq hul⟩
         obtain ⟨gy, oy, E1, n1, f1, E2, n2, f2, rfl, hgy, r0, r1, r2, HE⟩ := FL.at3 (HXF.out.below EF.stays KK.out.2) hf
         have hvq : vecA x u.toNat = fixQ f := by unfold vecA; rw [gdd, List.getElem?_map, hf]; rfl
         have HVQ := Hd hvq
         have HUU := Hd hu
         have hbl : xs.length ≤ 6 := HA1.out
         have m1 : (i : Int) < (xs.length : Int) := by omega
         have m3 : (i : Int).toNat = i := by omega
         have m4 : (0 : Int) ≤ (i : Int) := by omega
         have m5 : 0 ≤ u := hur.1
         have m6 : u < (x.length : Int) := by omega
         obtain ⟨uu, huu⟩ : ∃ k, k = u.toNat := ⟨_, rfl⟩
         have m7 : u.toNat = uu := huu.symm
         rw [← huu] at r0 r1 r2
         have HNX : Hid ((fixQ f = 0 ∨ fixQ f = 1) → ∀ (j : Nat) (v : Int), j < i + 1 → xs[j]? = some v → vecA x v.toNat = 0 ∨ vecA x v.toNat = 1) := fun h j v hj hv => by
          by_cases e : j = i
          ·subst e
           rw [HUU.out] at hv
           cases hv
           rw [HVQ.out]; exact h
          ·exact HA.out j v (by omega) hv
         clear hu hur hul hf hvq huu
         go_wp2_with fail
         refine (sgn_calls _ _ f HE.out).mono ?_
         rintro e w6 ⟨rfl, hb⟩
         have K6 := Hd (KK.out.step hb)
         have HE6 := Hd (HE.out.of_below hb)
         obtain ⟨ba, bb⟩ := bcell hb
         have s0 := (ba gy _ hgy).trans r0
         have s1 := (ba gy _ hgy).trans r1
         have s2 := (ba gy _ hgy).trans r2
         clear hb ba bb r0 r1 r2 q0 hgx hgy
         by_cases hz : signQ (fixQ f) = 0
         ·have t5 : (signQ (fixQ f) != 0) = false := beqI hz
          have HQZ : Hid (fixQ f = 0) := by unfold Hid; rw [signQ_ord] at hz; exact ord_zero.1 hz
          clear hz
          go_wp2_with fail
          go_roundw
          case rel => exact ⟨i + 1, by omega, by go_num, HNX.out (Or.inl HQZ.out), K6.out⟩
          case measure => simp [intOf]; omega
         ·have t5 : (signQ (fixQ f) != 0) = true := bneI hz
          clear hz
          go_wp2_with fail
          refine (fprint_calls _ _ f HE6.out).mono ?_
          rintro e w7 ⟨rfl, hb⟩
          have K7 := Hd (K6.out.step hb)
          clear hb s0 s1 s2
          by_cases hpr : printB (fixQ f) = [49]
          ·have HQO := Hd (print_one hpr)
           rw [hpr, show strB [49] = (⟨#[49]⟩ : ByteArray) from rfl]
           clear hpr
           go_wp2_with fail
           go_roundw
           case rel => exact ⟨i + 1, by omega, by go_num, HNX.out (Or.inr HQO.out), K7.out⟩
           case measure => simp [intOf]; omega
          ·obtain ⟨st, hst⟩ : ∃ s, s = strB (printB (fixQ f)) := ⟨_, rfl⟩
           have hne : st.toList ≠ [49] := fun e => hpr (by
            rw [hst, ba_toList] at e
            exact e)
           rw [← hst]
           have t6 : (st.toList == [49]) = false := by simpa using hne
           have t7 : (st.toList != [49]) = true := by simpa using hne
           clear hst hpr
           go_wp2_with fail
           go_ret
           exact ⟨rfl, K7.out.2⟩
        ·obtain rfl : i = xs.length := by omega
         have hX : ∀ v ∈ xs, vecA x v.toNat = 0 ∨ vecA x v.toNat = 1 := fun v hv => by
          obtain ⟨j, hj, rfl⟩ := List.getElem_of_mem hv
          exact HA.out j _ hj (geq hj)
         have hs := trees_plain HW.out HA1.out HTW.out HCS.out HXW.out HTB.out HF.out hX
         rw [← HKD.out] at hs
         clear hX hlt hi
         obtain ⟨x0, x1, x2, x3⟩ := (KK.out.blk 1 rfl).c4
         obtain ⟨y0, y1, y2, y3⟩ := (KK.out.blk 0 rfl).c4
         have l0 := (KK.out.blk 1 rfl).lt
         have l1 := (KK.out.blk 0 rfl).lt
         by_cases k3 : kd = 3
         ·have t3 : (kd == 3) = true := beqI' k3
          clear k3 hs
          go_wp2_with fail
          refine wp_chainS (S := Below wr.heap.size wr) [([0, 1, 2, 3, 4, 5, 6, 7, 8, 9, 11, 12, 13], 10), ([], 14), ([], 15)] [16, 17, 18, 19] (by kernel_rfl) (by kernel_rfl) (by kernel_rfl) rfl Bd ?_
          refine ⟨?_, _, ?_, rfl, ?_⟩
          rotate_left
          ·(iterate 4 ((refine pu ?_); (try simp only [SQ])))
           (iterate 9 ((refine pn ?_); (try simp only [SQ])))
           exact rfl
          have D0 : Hid (Below wr.heap.size wr wr.drew) := Bd
          refine chain_skip (by kernel_rfl) (And.intro D0.out ?_)
          (try simp only [SQ])
          refine ⟨_, _, rfl, rfl, ?_⟩
          refine chain_skip (by kernel_rfl) (And.intro D0.out ?_)
          (try simp only [SQ])
          refine ⟨_, _, rfl, rfl, ?_⟩
          refine chain_skip (by kernel_rfl) (And.intro D0.out ?_)
          (try simp only [SQ])
          refine ⟨?_, ?_, ?_⟩
          rotate_left
          ·(iterate 2 ((refine pn ?_); (try simp only [SQ])))
           (iterate 2 ((refine pu ?_); (try simp only [SQ])))
           exact rfl
          refine NoPanic.normal ?_
          go_wp2_with fail
          go_ret
          exact ⟨rfl, (HS.step KK.out D0.out).2⟩
         ·obtain ⟨rfl, hv⟩ := hs.resolve_left k3
          have HTXF := Hd (HTX.out.full (by decide) HTW.out)
          have t4 : decide (ordQ (valueP p x) (valueP p t.x) ≤ 0) = true := decide_eq_true hv
          clear k3 hv
          have t3 : ((1 : Int) == 3) = false := rfl
          have t5 : ((1 : Int) == 1) = true := rfl
          have HCELLS : Hid (∀ W, HS w [(k7, 56, #[.int .i64 1, .slice B1 t.x.length d1, .slice B2 t.ray.length d2, .slice B3 t.cases.length d3]), (k6, 26, #[.int .i64 vars, .slice A1 p.free.length c1, .slice A2 p.goal.length c2, .slice A3 p.rows.length c3])] W → (W.cell? ⟨k6, 0, none⟩ = some (.int .i64 vars) ∧ W.cell? ⟨k6, 1, none⟩ = some (.slice A1 p.free.length c1) ∧ W.cell? ⟨k6, 2, none⟩ = some (.slice A2 p.goal.length c2) ∧ W.cell? ⟨k6, 3, none⟩ = some (.slice A3 p.rows.length c3) ∧ W.cell? ⟨k7, 0, none⟩ = some (.int .i64 1) ∧ W.cell? ⟨k7, 1, none⟩ = some (.slice B1 t.x.length d1))) := fun W h => by
           obtain ⟨a, b, c, d⟩ := (h.blk 1 rfl).c4
           obtain ⟨e, f, g, i⟩ := (h.blk 0 rfl).c4
           exact ⟨a, b, c, d, e, f⟩
          go_wp2_with fail
          go_region_held3 (fun W => (W.cell? ⟨k6, 0, none⟩ = some (.int .i64 vars) ∧ W.cell? ⟨k6, 1, none⟩ = some (.slice A1 p.free.length c1) ∧ W.cell? ⟨k6, 2, none⟩ = some (.slice A2 p.goal.length c2) ∧ W.cell? ⟨k6, 3, none⟩ = some (.slice A3 p.rows.length c3) ∧ W.cell? ⟨k7, 0, none⟩ = some (.int .i64 1) ∧ W.cell? ⟨k7, 1, none⟩ = some (.slice B1 t.x.length d1)) ∧ HS w [(k7, 56, #[.int .i64 1, .slice B1 t.x.length d1, .slice B2 t.ray.length d2, .slice B3 t.cases.length d3]), (k6, 26, #[.int .i64 vars, .slice A1 p.free.length c1, .slice A2 p.goal.length c2, .slice A3 p.rows.length c3])] W)
           (first
            | exact ⟨HCELLS.out _ KK.out.drew, KK.out.drew⟩
            | (have hk9 := HS.step (And.right ‹_ ∧ HS _ _ _›) ‹_›; exact ⟨HCELLS.out _ hk9, hk9⟩))
           (first
            | (go_at_call_of 23 (Value.slice A4 x.length c4); refine (value_calls _ _ _ p x (HPF.out.of_below (And.right ‹_ ∧ HS _ _ _›).2) (HXF.out.below EF.stays (And.right ‹_ ∧ HS _ _ _›).2)).mono ?_; rintro e w' ⟨v, rfl, hv, hb⟩; obtain ⟨A5, n5, c5, A6, n6, c6, rfl, HV1⟩ := hv.opened; clear hv)
            | (go_at_call_of 23 (Value.slice B1 t.x.length d1); refine (value_calls _ _ _ p t.x (HPF.out.of_below (And.right ‹_ ∧ HS _ _ _›).2) (HTXF.out.below EF.stays (And.right ‹_ ∧ HS _ _ _›).2)).mono ?_; rintro e w' ⟨v, rfl, hv2, hb2⟩; obtain ⟨A7, n7, c7, A8, n8, c8, rfl, HV2⟩ := hv2.opened; have HV1' := Hd (HV1.out.of_below hb2); clear hv2)
            | (go_at_call 31; refine (fcmp_calls _ _ _ _ _ (FR.of_fq HV1'.out (value_sz p x)) (FR.of_fq HV2.out (value_sz p t.x))).mono ?_; rintro e w' ⟨rfl, hb⟩; have hb7 := (HS.step (And.right ‹_ ∧ HS _ _ _›) hb).2; rw [fixQ_raw _ (value_sz p x), fixQ_raw _ (value_sz p t.x)]))
          go_wp2_with fail
          go_ret
          exact ⟨rfl, hb7⟩
end Go.Proofs.Ytfhambfgjigneaa
