/- maps.Keys of a map of struct{}: what its iterator gives a loop's body, which is told that what comes is a key. -/
import Derived.RangeFuncNested
import Derived.RangeFuncBound
import Derived.RangeFuncCalls
import Derived.RangeFuncLeaves
import Derived.Shelf.Abstract
import Derived.Shelf.RegionOpen
import Derived.WalkKit
import Derived.OwnWalkIn
import Derived.TacticsInMore
import Derived.LoopNIn
import Derived.LoopIn
import Derived.Maps.OwnIn
import Derived.Lib.SlKeysI
import Derived.Sort.MapsRangeIn
import Derived.Test.YtkgddgckilledaaProg
import Derived.Test.YtkgddgckilledaaLift
namespace Go.Proofs.Ytkgddgckilledaa
open Go.RowKit Go.Maps Go.Shelf
attribute [local go_sem] Oper.semAt_some
set_option linter.unusedVariables false
set_option linter.unusedSimpArgs false
theorem ulKey : Try.prog.underlying 3 = some (.int .i64) := by kernel_rfl
theorem ulMap : Try.prog.underlying 91 = some (.map 3 90) := by kernel_rfl
/-- Block b is a map whose keys are those of which g holds; it has no more than nn. -/
def Gm (W : World) (b nn : Nat) (g : Int → Bool) : Prop := ∃ D : DataW Unit, W.ownsMap Try.prog 3 unitElem b nn D ∧ ∀ x, has D (.int .i64 x) = g x
set_option maxRecDepth 100000 in
set_option maxHeartbeats 4000000 in
theorem keys1_in (F : Fence) (n : Nat) (h10 : F.fn 82) (hro : F.round = none) (hn : 1 ≤ n) (l Bm b nn : Nat) (g : Int → Bool) (J Jx : List {x : Int // g x = true} → World → Prop)
    (hY : ∀ pre x W, J pre W → pre.length < nn → YieldAt F (n - 1) Try.prog l #[.int .i64 x.1] W fun e W' =>
      (e = .returned (.bool true) ∧ J (pre ++ [x]) W' ∧ KeepsWalks W W') ∨ (e = .returned (.bool false) ∧ Jx (pre ++ [x]) W'))
    (W : World) (hJ : AbidesFrom W.heap.size J) (hm : W.cell? ⟨Bm, 0, none⟩ = some (.map (some b))) (hg : Gm W b nn g) (h0 : J [] W) :
    CallsIn F n Try.prog 82 #[.func (.yield l) #[] #[], .pointer (some ⟨Bm, 0, none⟩)] W fun e W' => (∃ v, e = .returned v) ∧
      ((∃ ss : List {x : Int // g x = true}, (∀ x, x ∈ ss) ∧ J ss W') ∨ (∃ pre : List {x : Int // g x = true}, True ∧ Jx pre W')) := by
  obtain ⟨D0, hown, hD⟩ := hg
  have hsz := hown.size_le
  refine callsIn_of_wp Try.func82 rfl h10 ?_ hro
  simp only [Try.ntmps82, List.size_toArray, List.length_cons, List.length_nil, Nat.reduceAdd, Nat.reduceSub, Array.replicate_succ, Array.replicate_zero, List.push_toArray, List.append_toArray, List.nil_append, List.cons_append]
  gi_wp2_with (first
    | (gi_at_range; refine wpListIn_range_own _ rfl _ 91 rfl 3 90 (int_keyed ulKey) ulMap _ b nn _ rfl hown ?_; intro w0 hrg0 hg0 hs0)
    | gi_in)
  go_frame
  gi_loopw [3] (fun _ wr => ∃ (left : Lit → Bool) (cnt : Nat) (ss : List {x : Int // g x = true}), wr.ranges Try.prog 3 unitElem b W.heap.size nn D0 left cnt ∧ ss.length + cnt ≤ Maps.size D0 ∧ CollectedI D0 left (ss.map Subtype.val) ∧ J ss wr)
    (fun _ wr => wr.rangeLeft b W.heap.size)
  case atStart =>
    exact ⟨_, _, [], hrg0, by simp, CollectedI.start D0, hJ [] W w0 none h0 hg0 (fun r e => by cases e)⟩
  case round =>
    obtain ⟨left, cnt, ss, hrg, hcs, hC, hJs⟩ := hrel
    gi_wp2_with (first
      | (gi_at_next; refine wpListIn_next_ranges _ rfl _ rfl 3 (int_keyed ulKey) unitElem encZ id (fun key kl hk => by obtain ⟨x, hx, _⟩ := Maps.keyOf_i64 ulKey hk; exact ⟨x, hx⟩) (fun v _ _ => ⟨v, rfl⟩) b W.heap.size nn _ _ _ rfl hrg ?_ ?_)
      | gi_in)
    · intro hc0 hl0
      gi_wp2
      go_end0
      refine ⟨⟨_, rfl⟩, .inl ⟨ss, fun x => ?_, hJs⟩⟩
      have := (hC.2 x.1).2 ⟨by rw [hD]; exact x.2, hl0 _⟩
      obtain ⟨y, hy, e⟩ := List.mem_map.1 this
      rw [← Subtype.ext e]; exact hy
    · intro x c kl yd yp w2 cnt2 hkey hlk hv hat hrg2 hlt hg2 hs2 hen
      obtain ⟨x', ex, rfl, _⟩ := Maps.keyOf_i64 ulKey hkey
      obtain rfl : x = x' := encZ_inj ex
      have hC2 := hC.step hlk hat
      have hx : g x = true := by
        rw [← hD]
        exact ((hC2.2 x).1 (by simp)).1
      have hJ2 : J ss w2 := hJ ss wr w2 (some W.heap.size) hJs hg2 (fun r e => by cases e; exact ⟨Nat.le_refl _, hrg.iter_walk⟩)
      obtain ⟨fn, tmps, assign, body, hy, hR⟩ := hY ss ⟨x, hx⟩ w2 hJ2 (by omega)
      clear hs2
      gi_wp2
      refine hR.mono ?_
      rintro e W3 (⟨rfl, hJ3, hk3⟩ | ⟨rfl, hJx3⟩)
      · gi_wp2
        have hrg3 := hrg2.of_walks hk3
        go_roundw
        case rel => exact ⟨_, cnt2, ss ++ [⟨x, hx⟩], hrg3, by simp; omega, by simpa using hC2, hJ3⟩
        case measure => rw [hrg3.left_eq, hrg.left_eq]; exact hlt
      · gi_wp2
        refine bodyPost_ret (results_none rfl _ _ _) rfl ?_
        exact ⟨⟨_, rfl⟩, .inr ⟨ss ++ [⟨x, hx⟩], trivial, hJx3⟩⟩
theorem keys_stops (F : Fence) (n : Nat) (h10 : F.fn 82) (hro : F.round = none) (hn : 1 ≤ n) (Bm b nn : Nat) (g : Int → Bool) (w : World) (hBm : Bm < w.heap.size)
    (hm : w.cell? ⟨Bm, 0, none⟩ = some (.map (some b))) (hg : Gm w b nn g) :
    SeqStopsK F n Try.prog 82 #[.pointer (some ⟨Bm, 0, none⟩)] (fun x : {x : Int // g x = true} => #[.int .i64 x.1]) KeepsWalks (fun ss => ∀ x, x ∈ ss) (fun _ => True) nn w := fun l J Jx W hW hJ _ hY h0 => by
  have hg' : Gm W b nn g := by
    obtain ⟨D0, hown, hD⟩ := hg
    have hbl := hown.lt
    obtain ⟨es, clock, hb, Ft, hs, hDD⟩ := hown
    exact ⟨D0, ⟨es, clock, (hW.block b hbl).trans hb, Ft, hs, hDD⟩, hD⟩
  exact keys1_in F n h10 hro hn l Bm b nn g J Jx hY W hJ ((hW.cell (p := ⟨Bm, 0, none⟩) hBm).trans hm) hg' h0
set_option maxRecDepth 100000 in
set_option maxHeartbeats 4000000 in
theorem keys_in (F : Fence) (n : Nat) (h7 : F.fn 73) (hro : F.round = none) (mb : Option Nat) (w : World) :
    CallsIn F n Try.prog 73 #[.map mb] w fun e w' => e = .returned (.func (.func 82) #[] #[.pointer (some ⟨w.heap.size, 0, none⟩)]) ∧ w' = w.alloc (.cells #[.map mb] 91) := by
  refine callsIn_of_wp Try.func73 rfl h7 ?_ hro
  simp only [Try.ntmps73, List.size_toArray, List.length_cons, List.length_nil, Nat.reduceAdd, Nat.reduceSub, Array.replicate_succ, Array.replicate_zero, List.push_toArray, List.append_toArray, List.nil_append, List.cons_append]
  gi_wp2
  go_ret
  exact ⟨rfl, rfl⟩
end Go.Proofs.Ytkgddgckilledaa
namespace Go.Proofs.Ytkgddgckilledaa
open Go.RowKit
open Go.ChangeMaps Go.MapKept
set_option linter.unusedVariables false
set_option linter.unusedSimpArgs false
open Gn
theorem wf_i64 {x : Int} (h : I64 x) : (Lit.int .i64 x).wf = true := by
  obtain ⟨h1, h2⟩ := h
  simp [Lit.wf, IntKind.min, IntKind.max, IntKind.signed, IntKind.bits]
  omega
section
variable {w w' : World} {b nn : Nat} {g : Int → Bool}
theorem Gm.made (w : World) : Gm (w.alloc (.map #[] 0)) w.heap.size 0 (fun _ => false) := ⟨.map [], World.ownsMap_made _ _ _ _, fun x => rfl⟩
theorem Gm.lt (h : Gm w b nn g) : b < w.heap.size := by obtain ⟨D, h, _⟩ := h; exact h.lt
theorem Gm.below (h : Gm w b nn g) (hb : Below w.heap.size w w') : Gm w' b nn g := by
  have hl := h.lt
  obtain ⟨D0, ⟨es, clock, hh, Ft, hs, hDD⟩, hD⟩ := h
  exact ⟨D0, ⟨es, clock, (hb.block b hl).trans hh, Ft, hs, hDD⟩, hD⟩
theorem Gm.mono (h : Gm w b nn g) {n' : Nat} (hn : nn ≤ n') : Gm w b n' g := by obtain ⟨D, h, hD⟩ := h; exact ⟨D, h.mono hn, hD⟩
theorem Gm.congr (h : Gm w b nn g) {g' : Int → Bool} (hg : ∀ x, g x = g' x) : Gm w b nn g' := by obtain ⟨D, h, hD⟩ := h; exact ⟨D, h, fun x => (hD x).trans (hg x)⟩
theorem Gm.setCell (h : Gm w b nn g) {a : Addr} (ha : b ≠ a.block) (u : Value) : Gm (w.setCell a u) b nn g := by obtain ⟨D, h, hD⟩ := h; exact ⟨D, h.setCell ha u, hD⟩
/-- What a map has turned to, when a key is put. -/
theorem Gm.put {D : DataW Unit} {k : Int} (hown : w.ownsMap Try.prog 3 unitElem b nn D) (hD : ∀ x, Go.Maps.has D (.int .i64 x) = g x) (h' : w'.ownsMap Try.prog 3 unitElem b (nn + 1) (D.put (.int .i64 k) (.agg []))) : Gm w' b (nn + 1) (fun y => decide (y = k) || g y) := by
  refine ⟨_, h', fun x => ?_⟩
  by_cases hx : x = k
  · subst hx
    rw [Go.Maps.has_put_same hown.isMap (show WideAt.IsKeyLit (.int .i64 x) from by simp [WideAt.IsKeyLit])]; simp
  · rw [Go.Maps.has_put_other (by intro e; injection e with _ e; exact hx e), hD]; simp [hx]
end
section
variable {H : Type} (w : World) {ops : Array Oper} {rest : List Oper} {o : Oper} {a : Act} {Q : Exit → Act → World → Prop}
theorem wpList_insert_gm (hg : o.guard = none) (m x v : Operand) (hop : o.op = Op.insert 91 m x v) (b nn : Nat) (g : Int → Bool) (hm : a.eval m = .map (some b)) (hG : Gm w b nn g) (hn : nn < maxLen) (k : Int) (hk : I64 k)
    (hx : a.eval x = .int .i64 k) (hv : a.eval v = .agg #[])
    (hK : ∀ w', Gm w' b (nn + 1) (fun y => decide (y = k) || g y) → w.grownBy w' (some b) → wpList Try.prog ops Q rest (a.put o.dst undef) w') : wpList Try.prog ops Q (o :: rest) a w := by
  obtain ⟨D, hown, hD⟩ := hG
  refine wpList_plain hg fun K' hK' => ?_
  obtain ⟨w', hrun, r1, r2⟩ := hown.store (Go.Maps.int_keyed ulKey) ulMap hn (Go.Maps.keyOf_int_mk ulKey (wf_i64 hk)) (unitElem_mk (H := Unit))
  unfold Oper.wp
  simp [execOp, hop, hm, hx, hv, hrun, Result.andThen]
  exact hK' _ _ (hK w' (Gm.put hown hD r1) r2.grown)
theorem wpList_update_gm (hg : o.guard = none) (m x v : Operand) (hop : o.op = Op.mapUpdate 91 m x v) (b nn : Nat) (g : Int → Bool) (hm : a.eval m = .map (some b)) (hG : Gm w b nn g) (hn : nn < maxLen) (k : Int) (hk : I64 k)
    (hx : a.eval x = .int .i64 k) (hv : a.eval v = .agg #[])
    (hK : ∀ w', Gm w' b (nn + 1) (fun y => decide (y = k) || g y) → w.grownBy w' (some b) → wpList Try.prog ops Q rest (a.put o.dst undef) w') : wpList Try.prog ops Q (o :: rest) a w := by
  obtain ⟨D, hown, hD⟩ := hG
  refine wpList_plain hg fun K' hK' => ?_
  obtain ⟨w', hrun, r1, r2⟩ := hown.store (Go.Maps.int_keyed ulKey) ulMap hn (Go.Maps.keyOf_int_mk ulKey (wf_i64 hk)) (unitElem_mk (H := Unit))
  unfold Oper.wp
  simp [execOp, hop, hm, hx, hv, hrun, Result.andThen]
  exact hK' _ _ (hK w' (Gm.put hown hD r1) r2.grown)
theorem wpList_delete_gm (hg : o.guard = none) (m x : Operand) (hop : o.op = Op.call { callee := Callee.builtin Builtin.delete, args := #[m, x], argTypes := #[91, 3] }) (b nn : Nat) (g : Int → Bool) (hm : a.eval m = .map (some b)) (hG : Gm w b nn g) (k : Int) (hk : I64 k)
    (hx : a.eval x = .int .i64 k)
    (hK : ∀ w', Gm w' b nn (fun y => !decide (y = k) && g y) → w.grownBy w' (some b) → wpList Try.prog ops Q rest (a.put o.dst (.tuple #[])) w') : wpList Try.prog ops Q (o :: rest) a w := by
  obtain ⟨D, hown, hD⟩ := hG
  refine wpList_plain hg fun K' hK' => ?_
  obtain ⟨w', hrun, r1, r2⟩ := hown.drop (Go.Maps.int_keyed ulKey) ulMap (Go.Maps.keyOf_int_mk ulKey (wf_i64 hk)) o.type
  unfold Oper.wp
  simp [execOp, hop, resolve, invoke, builtin, hm, hx, hrun, Result.andThen]
  refine hK' _ _ (hK w' ⟨_, r1, fun y => ?_⟩ r2.grown)
  by_cases hy : y = k
  · subst hy
    rw [Go.Maps.has_del_same]; simp
  · rw [Go.Maps.has_del_other (by intro e; injection e with _ e; exact hy e), hD]; simp [hy]
theorem wpList_clear_gm (hg : o.guard = none) (m : Operand) (hop : o.op = Op.call { callee := Callee.builtin Builtin.clear, args := #[m], argTypes := #[91] }) (b nn : Nat) (g : Int → Bool) (hm : a.eval m = .map (some b)) (hG : Gm w b nn g)
    (hK : ∀ w', w.grownBy w' (some b) → wpList Try.prog ops Q rest (a.put o.dst (.tuple #[])) w') : wpList Try.prog ops Q (o :: rest) a w := by
  obtain ⟨D, ⟨es, clock, hb, _⟩, hD⟩ := hG
  refine wpList_plain hg fun K' hK' => ?_
  have hrun : (Builtin.clear_ #[91] o.type #[.map (some b)]).run Try.prog w = .ok (.tuple #[]) (setBlock w b (.map #[] clock)) := by
    simp [Builtin.clear_, run_underlying ulMap, MapKept.run_getObj_map hb, MapKept.run_setObj_map _ hb, Result.andThen, setBlock]
  unfold Oper.wp
  simp [execOp, hop, resolve, invoke, builtin, hm, hrun, Result.andThen]
  exact hK' _ _ (hK _ (World.mapTurned.grown ⟨es, clock, #[], clock, hb, rfl⟩))
end
end Go.Proofs.Ytkgddgckilledaa
