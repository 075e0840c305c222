/- A set of integers, map[int]struct{}: put, deleted, cleared, at the operation. -/
import Derived.Test.YtkgddgckilledaaFky
import Derived.Test.YtkgddgckilledaaLift
namespace Go.Proofs.Ytkgddgckilledaa
open Go.RowKit
open Go.ChangeMaps Go.MapKept
set_option linter.unusedVariables false
set_option linter.unusedSimpArgs false
open Gn
theorem wf_i64 {x : Int} (h : I64 x) : (Lit.int .i64 x).wf = true := by
  obtain ⟨h1, h2⟩ := h
  simp [Lit.wf, IntKind.min, IntKind.max, IntKind.signed, IntKind.bits]
  omega
section
variable {w w' : World} {b nn : Nat} {g : Int → Bool}
theorem Gm.made (w : World) : Gm (w.alloc (.map #[] 0)) w.heap.size 0 (fun _ => false) := ⟨.map [], World.ownsMap_made _ _ _ _, fun x => rfl⟩
theorem Gm.lt (h : Gm w b nn g) : b < w.heap.size := by obtain ⟨D, h, _⟩ := h; exact h.lt
theorem Gm.below (h : Gm w b nn g) (hb : Below w.heap.size w w') : Gm w' b nn g := by
  have hl := h.lt
  obtain ⟨D0, ⟨es, clock, hh, Ft, hs, hDD⟩, hD⟩ := h
  exact ⟨D0, ⟨es, clock, (hb.block b hl).trans hh, Ft, hs, hDD⟩, hD⟩
theorem Gm.mono (h : Gm w b nn g) {n' : Nat} (hn : nn ≤ n') : Gm w b n' g := by obtain ⟨D, h, hD⟩ := h; exact ⟨D, h.mono hn, hD⟩
theorem Gm.congr (h : Gm w b nn g) {g' : Int → Bool} (hg : ∀ x, g x = g' x) : Gm w b nn g' := by obtain ⟨D, h, hD⟩ := h; exact ⟨D, h, fun x => (hD x).trans (hg x)⟩
theorem Gm.setCell (h : Gm w b nn g) {a : Addr} (ha : b ≠ a.block) (u : Value) : Gm (w.setCell a u) b nn g := by obtain ⟨D, h, hD⟩ := h; exact ⟨D, h.setCell ha u, hD⟩
/-- What a map has turned to, when a key is put. -/
theorem Gm.put {D : DataW Unit} {k : Int} (hown : w.ownsMap Try.prog 3 unitElem b nn D) (hD : ∀ x, Go.Maps.has D (.int .i64 x) = g x) (h' : w'.ownsMap Try.prog 3 unitElem b (nn + 1) (D.put (.int .i64 k) (.agg []))) : Gm w' b (nn + 1) (fun y => decide (y = k) || g y) := by
  refine ⟨_, h', fun x => ?_⟩
  by_cases hx : x = k
  · subst hx
    rw [Go.Maps.has_put_same hown.isMap (show WideAt.IsKeyLit (.int .i64 x) from by simp [WideAt.IsKeyLit])]; simp
  · rw [Go.Maps.has_put_other (by intro e; injection e with _ e; exact hx e), hD]; simp [hx]
end
section
variable {H : Type} (w : World) {ops : Array Oper} {rest : List Oper} {o : Oper} {a : Act} {Q : Exit → Act → World → Prop}
theorem wpList_insert_gm (hg : o.guard = none) (m x v : Operand) (hop : o.op = Op.insert 91 m x v) (b nn : Nat) (g : Int → Bool) (hm : a.eval m = .map (some b)) (hG : Gm w b nn g) (hn : nn < maxLen) (k : Int) (hk : I64 k)
    (hx : a.eval x = .int .i64 k) (hv : a.eval v = .agg #[])
    (hK : ∀ w', Gm w' b (nn + 1) (fun y => decide (y = k) || g y) → w.grownBy w' (some b) → wpList Try.prog ops Q rest (a.put o.dst undef) w') : wpList Try.prog ops Q (o :: rest) a w := by
  obtain ⟨D, hown, hD⟩ := hG
  refine wpList_plain hg fun K' hK' => ?_
  obtain ⟨w', hrun, r1, r2⟩ := hown.store (Go.Maps.int_keyed ulKey) ulMap hn (Go.Maps.keyOf_int_mk ulKey (wf_i64 hk)) (unitElem_mk (H := Unit))
  unfold Oper.wp
  simp [execOp, hop, hm, hx, hv, hrun, Result.andThen]
  exact hK' _ _ (hK w' (Gm.put hown hD r1) r2.grown)
theorem wpList_update_gm (hg : o.guard = none) (m x v : Operand) (hop : o.op = Op.mapUpdate 91 m x v) (b nn : Nat) (g : Int → Bool) (hm : a.eval m = .map (some b)) (hG : Gm w b nn g) (hn : nn < maxLen) (k : Int) (hk : I64 k)
    (hx : a.eval x = .int .i64 k) (hv : a.eval v = .agg #[])
    (hK : ∀ w', Gm w' b (nn + 1) (fun y => decide (y = k) || g y) → w.grownBy w' (some b) → wpList Try.prog ops Q rest (a.put o.dst undef) w') : wpList Try.prog ops Q (o :: rest) a w := by
  obtain ⟨D, hown, hD⟩ := hG
  refine wpList_plain hg fun K' hK' => ?_
  obtain ⟨w', hrun, r1, r2⟩ := hown.store (Go.Maps.int_keyed ulKey) ulMap hn (Go.Maps.keyOf_int_mk ulKey (wf_i64 hk)) (unitElem_mk (H := Unit))
  unfold Oper.wp
  simp [execOp, hop, hm, hx, hv, hrun, Result.andThen]
  exact hK' _ _ (hK w' (Gm.put hown hD r1) r2.grown)
theorem wpList_delete_gm (hg : o.guard = none) (m x : Operand) (hop : o.op = Op.call { callee := Callee.builtin Builtin.delete, args := #[m, x], argTypes := #[91, 3] }) (b nn : Nat) (g : Int → Bool) (hm : a.eval m = .map (some b)) (hG : Gm w b nn g) (k : Int) (hk : I64 k)
    (hx : a.eval x = .int .i64 k)
    (hK : ∀ w', Gm w' b nn (fun y => !decide (y = k) && g y) → w.grownBy w' (some b) → wpList Try.prog ops Q rest (a.put o.dst (.tuple #[])) w') : wpList Try.prog ops Q (o :: rest) a w := by
  obtain ⟨D, hown, hD⟩ := hG
  refine wpList_plain hg fun K' hK' => ?_
  obtain ⟨w', hrun, r1, r2⟩ := hown.drop (Go.Maps.int_keyed ulKey) ulMap (Go.Maps.keyOf_int_mk ulKey (wf_i64 hk)) o.type
  unfold Oper.wp
  simp [execOp, hop, resolve, invoke, builtin, hm, hx, hrun, Result.andThen]
  refine hK' _ _ (hK w' ⟨_, r1, fun y => ?_⟩ r2.grown)
  by_cases hy : y = k
  · subst hy
    rw [Go.Maps.has_del_same]; simp
  · rw [Go.Maps.has_del_other (by intro e; injection e with _ e; exact hy e), hD]; simp [hy]
theorem wpList_clear_gm (hg : o.guard = none) (m : Operand) (hop : o.op = Op.call { callee := Callee.builtin Builtin.clear, args := #[m], argTypes := #[91] }) (b nn : Nat) (g : Int → Bool) (hm : a.eval m = .map (some b)) (hG : Gm w b nn g)
    (hK : ∀ w', w.grownBy w' (some b) → wpList Try.prog ops Q rest (a.put o.dst (.tuple #[])) w') : wpList Try.prog ops Q (o :: rest) a w := by
  obtain ⟨D, ⟨es, clock, hb, _⟩, hD⟩ := hG
  refine wpList_plain hg fun K' hK' => ?_
  have hrun : (Builtin.clear_ #[91] o.type #[.map (some b)]).run Try.prog w = .ok (.tuple #[]) (setBlock w b (.map #[] clock)) := by
    simp [Builtin.clear_, run_underlying ulMap, MapKept.run_getObj_map hb, MapKept.run_setObj_map _ hb, Result.andThen, setBlock]
  unfold Oper.wp
  simp [execOp, hop, resolve, invoke, builtin, hm, hrun, Result.andThen]
  exact hK' _ _ (hK _ (World.mapTurned.grown ⟨es, clock, #[], clock, hb, rfl⟩))
end
end Go.Proofs.Ytkgddgckilledaa
