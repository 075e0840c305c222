/- Words for memory: a store into a row that the call owns. No program in sight. -/
import Derived.Test.YtkogplnleiapfaaMem
namespace Go.Proofs.Ytkogplnleiapfaa
open Go.RowKit
section
variable {w w' : World} {c g : Nat} {k : IntKind} {base : Nat} {e : TypeId} {xs : List Int}
theorem Ow.cellAt (h : Ow w base e k (some ⟨g, 0, none⟩) c xs) {i : Nat} (hi : i < xs.length) : w.cell? ⟨g, i, none⟩ = some (.int k (nth xs i)) := by
  rcases h.form with ⟨h, _⟩ | ⟨g', hg, _, _, _, _, hc⟩
  · cases h
  · injection hg with hg; injection hg with hg; subst hg; exact hc i hi
theorem Ow.frozenAt (h : Ow w base e k (some ⟨g, 0, none⟩) c xs) (i : Nat) : w.frozen? ⟨g, i, none⟩ = false := World.ownsRow.frozenAt h i
theorem Ow.blockGe (h : Ow w base e k (some ⟨g, 0, none⟩) c xs) : base ≤ g ∧ g < w.heap.size := by
  rcases h.form with ⟨h, _⟩ | ⟨g', hg, h1, h2, _, _, hc⟩
  · cases h
  · injection hg with hg; injection hg with hg; subst hg; exact ⟨h1, h2⟩
theorem Ow.set (h : Ow w base e k (some ⟨g, 0, none⟩) c xs) (i : Nat) (u : Int) : Ow (w.setCell ⟨g, i, none⟩ (.int k u)) base e k (some ⟨g, 0, none⟩) c (xs.set i u) := by
  have := (World.ownsRow.stored h i (.int k u)).1
  unfold Ow
  rw [List.length_set, List.map_set]
  exact this
/-- A row that can be read keeps its numbers where a row at another base is written. -/
theorem Ow.keepLow {A : Option Addr} (h : Ow w base e k A c xs) {b : Nat} (hb : w.heap.size ≤ b) (hB : Below b w w') : Ow w' base e k A c xs := h.below (hB.mono hb)
end
section
variable {P : Program} {t e : TypeId} {z : Value} {bytes : Nat}
/-- append(s, u) onto an owned row (or nil), the new element's cell lying anywhere: for a region that draws its order. -/
theorem wp_app1' (E : ElTy P t e z bytes) {o : Oper} {a : Act} {K : Act → World → Prop} {Q : Exit → Act → World → Prop} (W : World) (s x : Operand)
    (ho : o.op = .call { callee := .builtin .append, args := #[s, x], argTypes := #[t, t] })
    (base : Nat) (k : IntKind) (A : Option Addr) (c : Nat) (xs : List Int) (hs : a.eval s = .slice A xs.length c) (hown : Ow W base e k A c xs)
    (u : Int) (g : Nat) (hx : a.eval x = .slice (some ⟨g, 0, none⟩) 1 1) (hcell : W.cell? ⟨g, 0, none⟩ = some (.int k u))
    (hn : (xs.length + 1) * bytes ≤ 140737488355328) (hbase : base ≤ W.heap.size)
    (h : ∀ A' c' w', Ow w' base e k A' c' (xs ++ [u]) → Below base W w' → K (a.put o.dst (.slice A' (xs.length + 1) c')) w') :
    o.wp P a W K Q := by
  have hr : Rd W (g + 1) k (some ⟨g, 0, none⟩) [u].length (nth [u]) := fun _ => ⟨g, 0, rfl, by omega, fun i hi => by
    obtain rfl : i = 0 := by simp at hi; omega
    exact hcell⟩
  refine wp_appN E W s x ho base k A c xs hs hown (g + 1) (some ⟨g, 0, none⟩) 1 [u] hx hr ?_ hbase h
  simpa using hn
theorem step_app1' (E : ElTy P t e z bytes) {ops : Array Oper} {o : Oper} {a : Act} {K : Act → World → Prop} {Q : Exit → Act → World → Prop} {N : Prop} (W : World) (hgd : o.guard = none) (s x : Operand)
    (ho : o.op = .call { callee := .builtin .append, args := #[s, x], argTypes := #[t, t] })
    (base : Nat) (k : IntKind) (A : Option Addr) (c : Nat) (xs : List Int) (hs : a.eval s = .slice A xs.length c) (hown : Ow W base e k A c xs)
    (u : Int) (g : Nat) (hx : a.eval x = .slice (some ⟨g, 0, none⟩) 1 1) (hcell : W.cell? ⟨g, 0, none⟩ = some (.int k u))
    (hn : (xs.length + 1) * bytes ≤ 140737488355328) (hbase : base ≤ W.heap.size)
    (h : ∀ A' c' w', Ow w' base e k A' c' (xs ++ [u]) → Below base W w' → K (a.put o.dst (.slice A' (xs.length + 1) c')) w') :
    if Region.wanted o (yielded ops a.tmps) = true then Oper.wp P o a W K Q else N := by
  have hw : Region.wanted o (yielded ops a.tmps) = true := by simp [Region.wanted, hgd]
  rw [if_pos hw]
  exact wp_app1' E W s x ho base k A c xs hs hown u g hx hcell hn hbase h
end
theorem Rd.cut {w : World} {B n m c g off : Nat} {k : IntKind} {f : Nat → Int} (h : Rd w B k (some ⟨g, off, none⟩) n f) (hm : m ≤ n) (hc : n ≤ c) :
    Rd w B k (if c = m then some ⟨g, off, none⟩ else some ⟨g, off + m, none⟩) (n - m) (fun i => f (m + i)) := fun hn => by
  obtain ⟨b, o, e, hb, hcell⟩ := h (by omega)
  injection e with e
  injection e with e1 e2
  subst e1 e2
  rw [if_neg (by omega)]
  exact ⟨g, off + m, rfl, hb, fun i hi => by rw [Nat.add_assoc]; exact hcell (m + i) (by omega)⟩
theorem Rd.cutList {w : World} {B m c g off : Nat} {k : IntKind} {xs : List Int} (h : Rd w B k (some ⟨g, off, none⟩) xs.length (nth xs)) (hm : m ≤ xs.length) (hc : xs.length ≤ c) :
    Rd w B k (if c = m then some ⟨g, off, none⟩ else some ⟨g, off + m, none⟩) (xs.drop m).length (nth (xs.drop m)) := by
  rw [List.length_drop]
  exact (h.cut hm hc).congr fun i _ => nth_drop.symm
theorem nth_set_same {xs : List Int} {i : Nat} {u : Int} (h : i < xs.length) : nth (xs.set i u) i = u := by simp [nth, h]
theorem nth_set_ne {xs : List Int} {i j : Nat} {u : Int} (h : i ≠ j) : nth (xs.set i u) j = nth xs j := by simp [nth, h]
end Go.Proofs.Ytkogplnleiapfaa
