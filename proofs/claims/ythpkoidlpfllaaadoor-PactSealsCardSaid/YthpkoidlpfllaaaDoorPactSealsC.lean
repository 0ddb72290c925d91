/- Whatever keys, word and own report come in: PactSeals answers true, the input reads as it did (the tied card): no condition beyond the row's own; the tables are tied to the program's text. -/
import Derived.Test.YthpkoidlpfllaaaDoorCards
import Derived.Test.YthpkoidlpfllaaaDoorTie
import Derived.Test.YthpkoidlpfllaaaDoorKS6
import Derived.Deep.Strs
import Derived.Carry
import Derived.WalkKit
import Derived.ProofKit
import Derived.OpenShut
import Derived.Deep.DeepHandedRow
import Derived.Lib.LaidTab
import Derived.LaidSub
import Derived.Below
import Derived.ChangeSame
import Derived.ChangeMaps5
set_option linter.unusedVariables false
namespace Go.Proofs.YthpkoidlpfllaaaDoor.pactSeals
open Go.ChangeShapes Go.WideShapes Go.ChangeAt Go.RowKit Go.ChangeMaps

theorem own : ownKnob Tryd.prog.godebug = none := by kernel_rfl
theorem gTab : Tryd.prog.globalNamed "unbent/pact.rounds" = some 0 := by kernel_rfl
theorem gTabType : (Tryd.prog.globals[0]?).map (·.type) = some 51 := by kernel_rfl
theorem cells51 : Tryd.prog.cellsOf 51 = 64 := by kernel_rfl
theorem cells44 : Tryd.prog.cellsOf 44 = 1 := by kernel_rfl
theorem gPowType : (Tryd.prog.globals[1]?).map (·.type) = some 89 := by kernel_rfl
theorem cells89 : Tryd.prog.cellsOf 89 = 20 := by kernel_rfl
theorem cells62 : Tryd.prog.cellsOf 62 = 1 := by kernel_rfl
theorem laidOut : laidOutB Tryd.prog = true := by kernel_rfl

theorem only {W : World} {n : String} {l : List (String × DataW Unit)} (h : laidMetH Tryd.prog Rows.pactSealsRow.laid W) (e : Rows.pactSealsRow.laid.filter (fun x => x.1 == n) = l) : laidMetH Tryd.prog l W := by
  subst e
  exact laidMetH.filter (fun x => x.1 == n) h
theorem table {W : World} (h : laidMetH Tryd.prog Rows.pactSealsRow.laid W) : Lib.TabIs Tryd.prog W "unbent/pact.rounds" .u32 consts := by
  have h1 := only (n := "unbent/pact.rounds") (l := [("unbent/pact.rounds", Lib.tabData .u32 consts)]) h (by kernel_rfl)
  exact Lib.tabIs_of_head (rest := []) gTab gTabType Tryd.underlying51 Tryd.underlying44 cells44 cells51 h1
theorem tablePow {W : World} (h : laidMetH Tryd.prog Rows.pactSealsRow.laid W) : Lib.TabIs Tryd.prog W "internal/strconv.uint64pow10" .u64 Lib.pow10Tab := by
  have h1 := only (n := "internal/strconv.uint64pow10") (l := [("internal/strconv.uint64pow10", Lib.tabData .u64 Lib.pow10Tab)]) h (by kernel_rfl)
  exact Lib.tabIs_of_head (rest := []) gPow gPowType Tryd.underlying89 Tryd.underlying62 cells62 cells89 h1

theorem heap2 {W : World} (h : laidMetH Tryd.prog Rows.pactSealsRow.laid W) : 2 ≤ W.heap.size := by
  have := World.block_lt_of_cell? W _ ((tablePow h).cell gPow 0 (by decide))
  exact this
theorem post_of_below {H : Type} {enc : TypeId × Value → H} {P : Program} {f : Func} {s : ChangeSpec} {apart fresh handsOn again : Bool} {W W' : World} {args : Array Value} {v : Value} {ds gs : List (DataW H)} {before pa pv : List MemPlace}
    (hW : DataW.Whole enc P f.params.toList s.vars apart W args.toList ds gs before)
    (hres : ∀ (b : Nat) (sp : Nat → Bool) (hd : Bool), DataW.TrodAll enc P W' b sp hd f.resultTypes.toList (v.resultList f.resultTypes.size) (s.fn H (ds ++ gs)).results [])
    (hargs : ∀ sp : Nat → Bool, (∀ p ∈ before, sp p.block = true) → DataW.TrodAll enc P W' 0 sp true f.params.toList args.toList (s.fn H (ds ++ gs)).args pa)
    (hvars : ∀ sp : Nat → Bool, (∀ p ∈ before, sp p.block = true) → DataW.TrodVars enc P W' sp s.vars (s.fn H (ds ++ gs)).vars pv)
    (hps : before = pa ++ pv) (hb : Below W.heap.size W W')
    (hok : ∀ (j : Nat) (t : TypeId) (r : Value), f.resultTypes[j]? = some t → (v.resultList f.resultTypes.size)[j]? = some r → Value.okWide P W' .any 0 t r) :
    s.post enc P f apart fresh handsOn again W args v W' := by
  have hlt : ∀ p ∈ before, p.block < W.heap.size := fun p hp => hW.lt p hp
  have hold : ∀ p ∈ before, (fun b => decide (b < W.heap.size)) p.block = true := fun p hp => by simpa using hlt p hp
  refine ⟨ds, gs, before, [], pa, pv, hW, hres _ _ _, hargs _ hold, hvars _ hold, World.keptBut_mono (fun p hp => ⟨hp, ?_⟩) (hb.frame (· ∈ before)), fun _ => ?_⟩
  · rw [hps, List.mem_append] at hp
    exact Or.inr hp
  · obtain ⟨_, _, _, _, _, hz, hn⟩ := hW
    refine ⟨hok, _, _, ([] ++ pa) ++ pv, ⟨[] ++ pa, pv, trodAll_append (hargs _ (fun _ _ => rfl)) (hres _ _ _), hvars _ (fun _ _ => rfl), rfl, ?_, ?_⟩, ?_⟩
    · intro b off hp
      have hin : MemPlace.cell b off ∈ before := by rw [hps]; simpa using hp
      rw [hb.frozen (hlt _ hin)]
      exact hz b off hin
    · intro ha
      have := hn ha
      rw [hps] at this
      simpa using this
    · intro p hp _
      rw [hps]
      simpa using hp

theorem stays {H : Type} {enc : TypeId × Value → H} {W W' : World} {t : TypeId} {v : Value} {d : DataW H} {p : List MemPlace} (h : DataW.Trod enc Tryd.prog W 0 (fun _ => true) true t v d p) (ht : Tryd.prog.readableRec t = true) (hr : t < Tryd.prog.types.size)
    (hlt : ∀ x ∈ p, x.block < W.heap.size) (hg : Below W.heap.size W W') (sp : Nat → Bool) (hs : ∀ x ∈ p, sp x.block = true) : DataW.Trod enc Tryd.prog W' 0 sp true t v d p :=
  WideElems.Trod_stays laidOut ht hr h (fun x hx => hg.same (hlt x hx)) (fun x hx => hs x hx)
set_option maxRecDepth 100000 in
theorem contract (H : Type) (enc : TypeId × Value → H) (W : World) (base : Nat) (args : Array Value) (ds gs : List (DataW H)) (before : List MemPlace)
    (hsz : 2 ≤ W.heap.size)
    (hval : ∀ (j : Nat) t v, Tryd.f3.params[j]? = some t → args[j]? = some v → Value.okWide Tryd.prog W .any base t v)
    (hW : DataW.Whole enc Tryd.prog Tryd.f3.params.toList Rows.pactSealsSpec.vars false W args.toList ds gs before) (hL : laidMetH Tryd.prog Rows.pactSealsRow.laid W) :
    Calls Tryd.prog 3 args W fun e W' => ∃ v, e = .returned v ∧ Rows.pactSealsSpec.post enc Tryd.prog Tryd.f3 false true false false W args v W' := by
  have hW' := hW
  obtain ⟨p, q, hA0, hV, rfl, hfz, hnd⟩ := hW
  have hA : DataW.TrodAll enc Tryd.prog W 0 (fun _ => true) true Tryd.f3.params.toList args.toList ds p := hA0
  rw [Tryd.params3] at hA hval
  obtain ⟨v0, v1, v2, d0, d1, d2, p0, p1, p2, rfl, rfl, rfl, h0, h1, h2⟩ := trodAll_three hA
  obtain ⟨rfl, rfl⟩ := trodVars_none hV
  clear hA0
  simp only [List.append_nil] at hW'
  have hR : HoldsRounds W := fun j hj => (table hL).cell gTab j hj
  have hT : Tabs W := ⟨tablePow hL, hR, hsz⟩
  obtain ⟨ls, hl, hm, hz⟩ := arg22 (hval 0 22 v0 rfl rfl) h0
  obtain ⟨k, r, f, b, s, e1, hi, hb, hs⟩ := arg24 (hval 1 24 v1 rfl rfl) h1
  obtain ⟨o, kk, salt, fr, A1, A2, c1, c2, e2, hk, hsa, hf⟩ := arg29 (hval 2 29 v2 rfl rfl) h2
  have hb0 : ∀ x ∈ p0, x.block < W.heap.size := fun x hx => by simpa using hW'.lt x (by simp [hx])
  have hb1 : ∀ x ∈ p1, x.block < W.heap.size := fun x hx => by simpa using hW'.lt x (by simp [hx])
  have hb2 : ∀ x ∈ p2, x.block < W.heap.size := fun x hx => by simpa using hW'.lt x (by simp [hx])
  have hcall : Calls Tryd.prog 3 #[v0, v1, v2] W fun e W' => LawPost W e W' := by
    rw [e1, e2]
    exact pactSeals_calls W v0 ls k r f b s o kk salt fr A1 A2 c1 c2 hT hl hm hz hi hb hs hk hsa hf
  refine hcall.mono fun e W' ⟨he, hg⟩ => ?_
  subst he
  exact ⟨_, rfl, post_of_below (pv := []) hW' (fun _ _ _ => trodAll_cons_mk (shut_bool Tryd.underlying4 _) trodAll_mk0) (fun sp hsp => trodAll_mk3 (stays h0 (by kernel_rfl) (of_decide_eq_true (by kernel_rfl)) hb0 hg sp fun x hx => hsp x (by simp [hx])) (stays h1 (by kernel_rfl) (of_decide_eq_true (by kernel_rfl)) hb1 hg sp fun x hx => hsp x (by simp [hx])) (stays h2 (by kernel_rfl) (of_decide_eq_true (by kernel_rfl)) hb2 hg sp fun x hx => hsp x (by simp [hx]))) (fun _ _ => rfl) (by simp)
    hg (ok_one (by kernel_rfl) rfl (okWide_bool_mk Tryd.underlying4 _))⟩

def tab32 : List Int := [0, 1, 28, 2, 29, 14, 24, 3, 30, 22, 20, 15, 25, 17, 4, 8, 31, 27, 13, 23, 21, 19, 16, 7, 26, 12, 18, 6, 11, 5, 10, 9]
def tab64 : List Int := [0, 1, 56, 2, 57, 49, 28, 3, 61, 58, 42, 50, 38, 29, 17, 4, 62, 47, 59, 36, 45, 43, 51, 22, 53, 39, 33, 30, 24, 18, 12, 5, 63, 55, 48, 27, 60, 41, 37, 16, 46, 35, 44, 21, 52, 32, 23, 11, 54, 26, 40, 15, 34, 20, 31, 10, 25, 14, 19, 9, 13, 8, 7, 6]
/-- A world for the witness: the tables (blocks 0 to 3) hold what their initialisers lay. -/
noncomputable def laidWorld (os : Os) : World :=
  let m := World.holding Tryd.prog os ⟨#[], #[], []⟩
  let put (g : Nat) (k : IntKind) (l : List Int) (h : Array Obj) : Array Obj := h.modify g fun
      | .cells _ t frozen => .cells (l.map (Value.int k)).toArray t frozen
      | o => o
  { m with heap := put 0 .u32 consts (put 1 .u64 Lib.pow10Tab (put 2 .u8 tab32 (put 3 .u8 tab64 m.heap))) }
theorem laid_met (os : Os) : laidMet Tryd.prog Rows.pactSealsRow.laid ((laidWorld os).forCall (fun _ _ => 0) ⟨#[], #[.slice none 0 0, .agg #[.int .i64 0, .int .i64 0, .int .i64 0, .string ⟨#[]⟩, .string ⟨#[]⟩], .agg #[.int .i64 0, .int .i64 0, .string ⟨#[]⟩, .bool false, .slice none 0 0, .slice none 0 0]], []⟩).memory :=
  laidMet_of_run' 70 (by kernel_rfl) (by kernel_rfl)
theorem reads (os : Os) {H : Type} (enc : TypeId × Value → H) : ∃ places, DataW.whole enc Tryd.prog ((laidWorld os).forCall (fun _ _ => 0) ⟨#[], #[.slice none 0 0, .agg #[.int .i64 0, .int .i64 0, .int .i64 0, .string ⟨#[]⟩, .string ⟨#[]⟩], .agg #[.int .i64 0, .int .i64 0, .string ⟨#[]⟩, .bool false, .slice none 0 0, .slice none 0 0]], []⟩).memory Tryd.f3.params.toList Rows.pactSealsSpec.vars false #[.slice none 0 0, .agg #[.int .i64 0, .int .i64 0, .int .i64 0, .string ⟨#[]⟩, .string ⟨#[]⟩], .agg #[.int .i64 0, .int .i64 0, .string ⟨#[]⟩, .bool false, .slice none 0 0, .slice none 0 0]].toList 8 = some ([.nil, .agg [.lit (.int .i64 0), .lit (.int .i64 0), .lit (.int .i64 0), .lit (.string []), .lit (.string [])], .agg [.lit (.int .i64 0), .lit (.int .i64 0), .lit (.string []), .agg [.lit (.bool false), .nil, .nil]]], [], places) :=
  ⟨[], by kernel_rfl⟩

set_option maxRecDepth 100000 in
theorem lifted (os : Os) (started : os.Started) (H : Type) (enc : TypeId × Value → H) (F : Stop.Interp) :
    ReturnsInHanded {} Tryd.checked os 3 .any ((OpenSpec.ofChange Rows.pactSealsSpec).preRow enc Tryd.prog Tryd.f3 Rows.pactSealsRow.domain false Rows.pactSealsRow.laid) (((OpenSpec.ofChange Rows.pactSealsSpec).at F).post enc Tryd.prog Tryd.f3 false true false false) := by
  obtain ⟨places, hx⟩ := reads os enc
  refine returnsInHanded_of_row (C := Tryd.checked) (s := OpenSpec.ofChange Rows.pactSealsSpec) own started (by kernel_rfl) Tryd.func3
    (witness_row_at (enc := enc) (C := Tryd.checked) false (laidWorld os) #[.slice none 0 0, .agg #[.int .i64 0, .int .i64 0, .int .i64 0, .string ⟨#[]⟩, .string ⟨#[]⟩], .agg #[.int .i64 0, .int .i64 0, .string ⟨#[]⟩, .bool false, .slice none 0 0, .slice none 0 0]] rfl (by kernel_rfl) (by kernel_rfl) (by kernel_rfl)
      (OpenSpec.preRow_of_cond 8 hx (by kernel_rfl) (fun k hk => by cases hk) (by kernel_rfl) (laid_met os))) ?_
  intro W base args ds gs before hval hW _ _ _ hL _ _
  exact contract H enc W base args ds gs before (heap2 hL) hval hW hL

theorem said : Rows.PactSealsSaid :=
  OpenClaim.holds_of_cond 3 Tryd.f3 rfl rfl rfl rfl rfl rfl rfl ⟨rfl, rfl, rfl, rfl, rfl⟩ rfl rfl rfl rfl rfl (by kernel_rfl) Tryd.func3 (by kernel_rfl)
    (of_decide_eq_true (by kernel_rfl)) (by unfold Func.isWrapper; first | (rw [if_pos (by decide +kernel)]; kernel_rfl) | (rw [if_neg (by decide +kernel)]; exact ⟨rfl, rfl⟩))
    (fun os started H enc _ F => by rw [OpenClaim.pre_eq_preRow]; exact lifted os started H enc F)

theorem plain (f : FuncId) (fn : Func) (hf : Tryd.pinned.checked.prog.funcNamed "unbent/unbentlaw09.PactSeals" = some f) (hfn : Tryd.pinned.checked.prog.funcs[f]? = some fn) :
    false = Tryd.pinned.checked.prog.looks [] ∧ ∀ (j : Nat) t, fn.params[j]? = some t → Tryd.pinned.checked.prog.wantsStandIn t = false := by
  obtain rfl : f = 3 := Option.some.inj ((show Tryd.prog.funcNamed "unbent/unbentlaw09.PactSeals" = some 3 by kernel_rfl).symm.trans hf) |>.symm
  obtain rfl : fn = Tryd.f3 := (Option.some.inj (Tryd.func3.symm.trans hfn)).symm
  refine ⟨by kernel_rfl, fun j t ht => ?_⟩
  rw [Tryd.params3] at ht
  have ht' : t = 22 ∨ t = 24 ∨ t = 29 := by simpa using Array.mem_of_getElem? ht
  rcases ht' with rfl | rfl | rfl
  · exact (show Tryd.prog.wantsStandIn 22 = false by kernel_rfl)
  · exact (show Tryd.prog.wantsStandIn 24 = false by kernel_rfl)
  · exact (show Tryd.prog.wantsStandIn 29 = false by kernel_rfl)

theorem card : Rows.PactSealsCardSaid :=
  Claim7.holds_tied_plain_at .later [] _ _ _ _ said (fun _ h => by cases h) (by kernel_rfl) (fun _ h => by cases h) pactSeals_row_tie rfl ⟨rfl, rfl⟩ (by kernel_rfl) rfl plain (by kernel_rfl)
#print axioms card
end Go.Proofs.YthpkoidlpfllaaaDoor.pactSeals
