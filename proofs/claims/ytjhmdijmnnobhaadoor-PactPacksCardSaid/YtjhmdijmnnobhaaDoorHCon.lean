/- Hand-written contracts of the Go functions that the statement reaches, and the plain laws over them. -/
import Derived.Deep.MidRow
import Derived.Deep.RegionHeld3
import Derived.Test.YtjhmdijmnnobhaaDoorHMix
set_option linter.unusedVariables false
set_option linter.unusedSimpArgs false
namespace Go.Proofs.YtjhmdijmnnobhaaDoor
open Go.RowKit
section
variable {P : Program} {ops : Array Oper} {rest : List Oper} {o : Oper} {a : Act} {W : World} {Q : Exit → Act → World → Prop}
/-- A cheap look at the operation ahead. -/
theorem gate_op (op : Op) (_h : o.op = op) (h : wpList P ops Q (o :: rest) a W) : wpList P ops Q (o :: rest) a W := h
theorem step_append {K : Act → World → Prop} {E : Prop} (hgd : o.guard = none) (s x : Operand) (t tx : TypeId) (ho : o.op = .call { callee := .builtin .append, args := #[s, x], argTypes := #[t, tx] }) (e : TypeId) (bytes : Nat)
    (ht : P.underlying t = some (.slice e)) {k : IntKind} (hinfo : (P.info? e).map (fun i => (i.zero, i.size, i.bytes)) = some (some (.int k 0), 1, bytes)) {base : Nat} (v : Value) (xs : List Int) (hs : a.eval s = v) (hown : OwnC k base W v xs)
    (xv : Value) (hx : a.eval x = xv) (ys : List Int) (hsrc : Src P 1 tx xv ys.length (nums k ys) W) (hbytes : (xs.length + ys.length) * bytes ≤ 140737488355328) (hmax : xs.length + ys.length ≤ 140737488355328) (hbase : base ≤ W.heap.size)
    (h : ∀ v' w', OwnC k base w' v' (xs ++ ys) → W.grownBy w' v.ownBlock → (∀ g, v'.ownBlock = some g → v.ownBlock = some g ∨ W.heap.size ≤ g) → K (a.put o.dst v') w') :
    if Region.wanted o (yielded ops a.tmps) = true then Oper.wp P o a W K Q else E := by
  have hw : Region.wanted o (yielded ops a.tmps) = true := by simp [Region.wanted, hgd]
  rw [if_pos hw]
  obtain ⟨v', w', hr, h2, h3, h4⟩ := hown.append (P := P) t tx o.type e bytes ht hinfo xv ys hsrc hbytes hmax hbase
  unfold Oper.wp execOp
  simp only [ho, resolve, invoke, builtin, Sem.run_bind, Sem.run_pure, Result.andThen_ok, List.map_toArray, List.map_cons, List.map_nil, hs, hx, hr]
  exact h v' w' h2 h3 h4
end
def ConPost (w : World) (e : Ending) (w' : World) : Prop := e = .returned (.agg (nums .u32 consts).toArray) ∧ Below w.heap.size w w'
theorem info39 : (Tryd.prog.info? 39).map (·.size) = some (nums .u32 consts).toArray.size := by kernel_rfl
theorem zero39 : ∀ w, (zeroValue 39).run Tryd.prog w = .ok (.agg (nums .u32 (List.replicate 64 0)).toArray) w := fun _ => by kernel_rfl
theorem one_nums (k : IntKind) (l : List Int) : (nums k l).toArray.all (·.oneCell') = true := Array.all_eq_true_iff_forall_mem.2 (fun v hv => by
  rw [List.mem_toArray] at hv
  obtain ⟨_, _, rfl⟩ := List.mem_map.1 hv
  rfl)
set_option maxHeartbeats 8000000 in
set_option maxRecDepth 100000 in
theorem constants_calls (w : World) : Calls Tryd.prog 16 #[] w fun e w' => ConPost w e w' := by
  go_enter Tryd.func16, Tryd.ntmps16
  go_wp2_with (((with_reducible refine gate_op (.store 39 (.tmp 0) (.tmp 1)) rfl ?_); refine wpList_store_row rfl 39 (.tmp 0) (.tmp 1) rfl w.heap.size (nums .u32 consts).toArray rfl rfl 39 (nums .u32 (List.replicate 64 0)).toArray (heap_alloc_new _ _) info39 (by simp [nums, consts]) (one_nums _ _) ?_))
  refine bodyPost_ret (v := .agg (nums .u32 consts).toArray) (results_cell_row Tryd.results16 _ _ w.heap.size 39 (nums .u32 consts).toArray (0, 0) _ rfl (setRow_heap _ _ _ _ _ _ (heap_alloc_new _ _)) Tryd.underlying39 rfl info39) rfl ⟨rfl, ?_⟩
  have h := gb_alloc (gb_refl w none) (.cells (nums .u32 (List.replicate 64 0)).toArray 39)
  exact gb_to_below ⟨h.os, h.tape, h.output, by simp, fun k hk hr => (setRow_other _ _ _ _ (by omega)).trans (h.block k hk hr)⟩
end Go.Proofs.YtjhmdijmnnobhaaDoor
