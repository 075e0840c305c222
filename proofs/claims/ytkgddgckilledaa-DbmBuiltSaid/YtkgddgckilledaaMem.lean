/- Words for memory: a slice of integers that is read; a row of integers that the call owns; append of one element, and of a slice, onto such a row. No program in sight. -/
import Derived.WalkKit
import Derived.Laws.OwnMore
import Derived.Maps.AppendAt
import Derived.Deep.AppendLies
import Derived.Deep.Draws
import Derived.Laws.BytesArg
namespace Go.Proofs.Ytkgddgckilledaa
open Go.RowKit
/-- An element of a list of numbers; 0 behind its end. -/
def nth (xs : List Int) (i : Nat) : Int := xs.getD i 0
theorem nth_map {xs : List Int} {i : Nat} {k : IntKind} (h : i < xs.length) : (xs.map (Value.int k))[i]? = some (.int k (nth xs i)) := by
  simp [nth, h]
theorem nth_append_left {xs ys : List Int} {i : Nat} (h : i < xs.length) : nth (xs ++ ys) i = nth xs i := by simp [nth, List.getElem?_append_left h]
theorem nth_append_last {xs : List Int} {y : Int} : nth (xs ++ [y]) xs.length = y := by simp [nth]
theorem nth_cons_succ {x : Int} {xs : List Int} {i : Nat} : nth (x :: xs) (i + 1) = nth xs i := by simp [nth]
theorem nth_cons_zero {x : Int} {xs : List Int} : nth (x :: xs) 0 = x := by simp [nth]
theorem nth_drop {xs : List Int} {i j : Nat} : nth (xs.drop i) j = nth xs (i + j) := by simp [nth]
theorem nth_take {xs : List Int} {i j : Nat} (h : j < i) : nth (xs.take i) j = nth xs j := by simp [nth, h]
theorem list_eq_nth {xs ys : List Int} (hl : xs.length = ys.length) (h : ∀ i, i < xs.length → nth xs i = nth ys i) : xs = ys := by
  apply List.ext_getElem hl
  intro i h1 h2
  have := h i h1
  simp [nth, h1, h2] at this
  exact this
theorem mem_nth {xs : List Int} {x : Int} (h : x ∈ xs) : ∃ i, i < xs.length ∧ nth xs i = x := by
  obtain ⟨i, hi, he⟩ := List.getElem_of_mem h
  exact ⟨i, hi, by simp [nth, hi, he]⟩
theorem nth_mem {xs : List Int} {i : Nat} (h : i < xs.length) : nth xs i ∈ xs := by
  simp [nth, h]
theorem drop_nth {xs : List Int} {i : Nat} (h : i < xs.length) : xs.drop i = nth xs i :: xs.drop (i + 1) := by
  rw [List.drop_eq_getElem_cons h]; simp [nth, h]
theorem take_nth {xs : List Int} {i : Nat} (h : i < xs.length) : xs.take (i + 1) = xs.take i ++ [nth xs i] := by
  rw [List.take_succ_eq_append_getElem h]; simp [nth, h]

/-- A slice of n integers of kind k that can be read below block B: the i-th is f i. -/
def Rd (w : World) (B : Nat) (k : IntKind) (A : Option Addr) (n : Nat) (f : Nat → Int) : Prop :=
  0 < n → ∃ b off, A = some ⟨b, off, none⟩ ∧ b < B ∧ ∀ i, i < n → w.cell? ⟨b, off + i, none⟩ = some (.int k (f i))
/-- A row of integers that the call owns: nil, or at the head of a block from base on that nothing else leads to. -/
def Ow (w : World) (base : Nat) (e : TypeId) (k : IntKind) (A : Option Addr) (c : Nat) (xs : List Int) : Prop :=
  w.ownsRow base e 1 (.slice A xs.length c) xs.length (xs.map (Value.int k))
section
variable {w w' : World} {B B' n c : Nat} {k : IntKind} {A : Option Addr} {f : Nat → Int} {base : Nat} {e : TypeId} {xs : List Int}
theorem Rd.zero : Rd w B k A 0 f := fun h => absurd h (by omega)
theorem Rd.keep (h : Rd w B k A n f) (hk : ∀ p : Addr, p.block < B → w'.cell? p = w.cell? p) : Rd w' B k A n f := fun hn => by
  obtain ⟨b, off, e, hb, hc⟩ := h hn
  exact ⟨b, off, e, hb, fun i hi => (hk _ hb).trans (hc i hi)⟩
theorem Rd.more (h : Rd w B k A n f) (hB : B ≤ B') : Rd w B' k A n f := fun hn => by
  obtain ⟨b, off, e, hb, hc⟩ := h hn
  exact ⟨b, off, e, by omega, hc⟩
theorem Rd.below (h : Rd w B k A n f) (hb : Below B w w') : Rd w' B k A n f := h.keep fun _ hp => hb.cell hp
theorem Rd.drew (h : Rd w B k A n f) : Rd w.drew B k A n f := h
theorem Rd.drewN (h : Rd w B k A n f) (m : Nat) : Rd (w.drewN m) B k A n f := h
theorem Rd.alloc (h : Rd w B k A n f) (hB : B ≤ w.heap.size) (o : Obj) : Rd (w.alloc o) B k A n f := h.keep fun p hp => World.cell?_alloc_lt w o p (by omega)
theorem Rd.setCell (h : Rd w B k A n f) {p : Addr} (hB : B ≤ p.block) (u : Value) : Rd (w.setCell p u) B k A n f :=
  h.keep fun q hq => World.cell?_setCell_other w p q u (fun e => by subst e; omega)
theorem Rd.fewer (h : Rd w B k A n f) {m : Nat} (hm : m ≤ n) : Rd w B k A m f := fun hn => by
  obtain ⟨b, off, e, hb, hc⟩ := h (by omega)
  exact ⟨b, off, e, hb, fun i hi => hc i (by omega)⟩
theorem Rd.congr (h : Rd w B k A n f) {g : Nat → Int} (hg : ∀ i, i < n → f i = g i) : Rd w B k A n g := fun hn => by
  obtain ⟨b, off, e, hb, hc⟩ := h hn
  exact ⟨b, off, e, hb, fun i hi => by rw [hc i hi, hg i hi]⟩
theorem Ow.nil (w : World) (base : Nat) (e : TypeId) (k : IntKind) : Ow w base e k none 0 [] := World.ownsRow_nil _ _ _ _
theorem Ow.form (h : Ow w base e k A c xs) : (A = none ∧ c = 0 ∧ xs = []) ∨ ∃ g, A = some ⟨g, 0, none⟩ ∧ base ≤ g ∧ g < w.heap.size ∧ xs.length ≤ c ∧ c ≤ maxLen ∧ ∀ i, i < xs.length → w.cell? ⟨g, i, none⟩ = some (.int k (nth xs i)) := by
  rcases h.2 with ⟨hv, h0⟩ | ⟨g, cap, cur, hv, hb, hh, hnc, hcm, hcs, hx⟩
  · injection hv with h1 h2 h3
    exact .inl ⟨h1, h3, List.eq_nil_of_length_eq_zero h0⟩
  · injection hv with h1 h2 h3
    subst h1 h3
    refine .inr ⟨g, rfl, hb, ?_, hnc, hcm, fun i hi => ?_⟩
    · rcases Nat.lt_or_ge g w.heap.size with hlt | hge
      · exact hlt
      · rw [Array.getElem?_eq_none hge] at hh; cases hh
    · have := h.cells (g := g) rfl i _ (nth_map hi)
      rwa [show (⟨g, 0, none⟩ : Addr).add i = ⟨g, i, none⟩ by unfold Addr.add; split <;> simp_all] at this
theorem Ow.rd (h : Ow w base e k A c xs) : Rd w w.heap.size k A xs.length (nth xs) := fun hn => by
  rcases h.form with ⟨_, _, rfl⟩ | ⟨g, rfl, _, hg, _, _, hc⟩
  · simp at hn
  · exact ⟨g, 0, rfl, hg, fun i hi => by rw [Nat.zero_add]; exact hc i hi⟩
theorem Ow.cap (h : Ow w base e k A c xs) : xs.length ≤ c := by
  rcases h.form with ⟨_, _, rfl⟩ | ⟨g, rfl, _, hg, h, _, hc⟩
  · simp
  · exact h
theorem Ow.capMax (h : Ow w base e k A c xs) : c ≤ maxLen := by
  rcases h.form with ⟨_, rfl, rfl⟩ | ⟨g, rfl, _, hg, _, h, hc⟩
  · simp
  · exact h
theorem Ow.alloc (h : Ow w base e k A c xs) (o : Obj) : Ow (w.alloc o) base e k A c xs := World.ownsRow.alloc h o
theorem Ow.drew (h : Ow w base e k A c xs) : Ow w.drew base e k A c xs := h
theorem Ow.drewN (h : Ow w base e k A c xs) (m : Nat) : Ow (w.drewN m) base e k A c xs := h
theorem Ow.lower (h : Ow w base e k A c xs) {b' : Nat} (hb : b' ≤ base) : Ow w b' e k A c xs := by
  refine ⟨h.1, ?_⟩
  rcases h.2 with h0 | ⟨g, cap, cur, hv, hb0, hr⟩
  · exact .inl h0
  · exact .inr ⟨g, cap, cur, hv, by omega, hr⟩
/-- Blocks below w's heap's size were left alone: a row that was there is there. -/
theorem Ow.below (h : Ow w base e k A c xs) (hb : Below w.heap.size w w') : Ow w' base e k A c xs :=
  World.ownsRow.kept (row := none) h ⟨hb.os, hb.tape, hb.output, hb.size, fun i hi _ => hb.block i hi⟩ (by
    cases A <;> simp [Value.ownBlock])
end

/-- What append asks of an element's type of one cell. -/
structure ElTy (P : Program) (t e : TypeId) (z : Value) (bytes : Nat) : Prop where
  ht : P.underlying t = some (.slice e)
  info : (P.info? e).map (fun i => (i.zero, i.size, i.bytes)) = some (some z, 1, bytes)
  hz : z.cells.size = 1
  hb : 0 < bytes
section
variable {P : Program} {t e : TypeId} {z : Value} {bytes : Nat}
/-- An owned row's value, as a slice. -/
theorem ow_of_row {w : World} {base n : Nat} {v : Value} {k : IntKind} {xs : List Int} (h : w.ownsRow base e 1 v n (xs.map (Value.int k))) (hn : n = xs.length) : ∃ A c, v = .slice A n c ∧ Ow w base e k A c xs := by
  subst hn
  rcases h.2 with ⟨hv, h0⟩ | ⟨g, cap, cur, hv, hr⟩
  · refine ⟨none, 0, by rw [hv, h0], ?_⟩
    unfold Ow; rw [h0]; rw [← hv]; rw [h0] at h; exact h
  · exact ⟨some ⟨g, 0, none⟩, cap, hv, by unfold Ow; rw [← hv]; exact h⟩
/-- append(s, u) onto an owned row (or nil). -/
theorem wp_app1 (E : ElTy P t e z bytes) {o : Oper} {a : Act} {K : Act → World → Prop} {Q : Exit → Act → World → Prop} (w : World) (s x : Operand)
    (ho : o.op = .call { callee := .builtin .append, args := #[s, x], argTypes := #[t, t] })
    (base : Nat) (k : IntKind) (A : Option Addr) (c : Nat) (xs : List Int) (hs : a.eval s = .slice A xs.length c) (hown : Ow w base e k A c xs)
    (u : Int) (hx : a.eval x = .slice (some ⟨w.heap.size, 0, none⟩) 1 1)
    (hn : (xs.length + 1) * bytes ≤ 140737488355328) (hbase : base ≤ w.heap.size)
    (h : ∀ A' c' w', Ow w' base e k A' c' (xs ++ [u]) → Below base w w' → K (a.put o.dst (.slice A' (xs.length + 1) c')) w') :
    o.wp P a (w.alloc (.cells #[.int k u] e)) K Q := by
  obtain ⟨i0, hi, hz0, hz1, hz2⟩ := info_parts E.info
  have hb := E.hb
  have hle : xs.length + 1 ≤ (xs.length + 1) * bytes := Nat.le_mul_of_pos_right _ hb
  refine wp_append_own _ s x t ho base e i0 z 1 bytes E.ht hi hz0 hz1 hz2 E.hz (by decide) _ _ _ hs (hown.alloc _) ⟨w.heap.size, 0, none⟩ 1 1 [.int k u] hx rfl (cell_one_new _ _ _) (by simp [Value.oneCell']) (by unfold maxLen; omega) hn (by simp; omega) ?_
  intro v' w1 hown' hgrow _
  have hB : Below base w w1 := ((Below.refl _ _).alloc hbase _).grown hgrow (by simp; omega) (fun j hj => by
    rcases hown.form with ⟨rfl, rfl, rfl⟩ | ⟨g, rfl, hg, _⟩
    · simp [Value.ownBlock] at hj
    · simp [Value.ownBlock] at hj; omega)
  rw [show xs.map (Value.int k) ++ [Value.int k u] = (xs ++ [u]).map (Value.int k) by simp] at hown'
  obtain ⟨A', c', rfl, ho'⟩ := ow_of_row hown' (by simp)
  exact h _ _ _ ho' hB
/-- append(s, ys...) onto an owned row (or nil); ys is any slice that can be read, nil or empty too. -/
theorem wp_appN (E : ElTy P t e z bytes) {o : Oper} {a : Act} {K : Act → World → Prop} {Q : Exit → Act → World → Prop} (w : World) (s x : Operand)
    (ho : o.op = .call { callee := .builtin .append, args := #[s, x], argTypes := #[t, t] })
    (base : Nat) (k : IntKind) (A : Option Addr) (c : Nat) (xs : List Int) (hs : a.eval s = .slice A xs.length c) (hown : Ow w base e k A c xs)
    (B : Nat) (A2 : Option Addr) (c2 : Nat) (ys : List Int) (hx : a.eval x = .slice A2 ys.length c2) (hr : Rd w B k A2 ys.length (nth ys))
    (hn : (xs.length + ys.length) * bytes ≤ 140737488355328) (hbase : base ≤ w.heap.size)
    (h : ∀ A' c' w', Ow w' base e k A' c' (xs ++ ys) → Below base w w' → K (a.put o.dst (.slice A' (xs.length + ys.length) c')) w') :
    o.wp P a w K Q := by
  obtain ⟨i0, hi, hz0, hz1, hz2⟩ := info_parts E.info
  have hb := E.hb
  have hle : xs.length + ys.length ≤ (xs.length + ys.length) * bytes := Nat.le_mul_of_pos_right _ hb
  rcases A2 with _ | ad
  · have hy : ys = [] := by
      rcases Nat.eq_zero_or_pos ys.length with h0 | h0
      · exact List.eq_nil_of_length_eq_zero h0
      · obtain ⟨b, off, h, _⟩ := hr h0; cases h
    subst hy
    have hrun : ∀ ty, (Builtin.append_ #[t, t] ty #[.slice A xs.length c, .slice none 0 c2]).run P w = .ok (.slice A xs.length c) w := by
      intro ty
      rcases hown.2 with ⟨hv, h0⟩ | ⟨g, cap, cur, hv, _, _, hnc, _⟩
      · rw [hv]; simp [Builtin.append_, run_underlying E.ht, sizeOf, typeInfo, hi, Builtin.lenOf, Builtin.firstCells]
      · rw [hv]; simp [Builtin.append_, run_underlying E.ht, sizeOf, typeInfo, hi, Builtin.lenOf, Builtin.firstCells, hnc, storeCells]
    unfold Oper.wp execOp
    simp only [List.length_nil] at hx
    simp only [ho, resolve, invoke, builtin, Sem.run_bind, Sem.run_pure, Result.andThen_ok, List.map_toArray, List.map_cons, List.map_nil, hs, hx, hrun]
    have := h A c w (by rw [List.append_nil]; exact hown) (Below.refl _ _)
    rw [List.length_nil, Nat.add_zero] at this
    exact this
  · have hcells : ∀ j u, (ys.map (Value.int k))[j]? = some u → w.cell? (ad.add j) = some u := by
      intro j u hu
      have hj : j < ys.length := by
        rcases Nat.lt_or_ge j ys.length with h | h
        · exact h
        · rw [List.getElem?_eq_none (by simpa using h)] at hu; cases hu
      obtain ⟨b, off, he, _, hc⟩ := hr (by omega)
      injection he with he
      subst he
      rw [nth_map hj] at hu
      rw [show (⟨b, off, none⟩ : Addr).add j = ⟨b, off + j, none⟩ by unfold Addr.add; split <;> simp_all, hc j hj]
      exact hu
    refine wp_append_own _ s x t ho base e i0 z 1 bytes E.ht hi hz0 hz1 hz2 E.hz (by decide) _ _ _ hs hown ad ys.length c2 (ys.map (Value.int k)) hx (by simp) hcells (by intro u hu; simp at hu; obtain ⟨_, _, rfl⟩ := hu; rfl) (by unfold maxLen; omega) hn hbase ?_
    intro v' w1 hown' hgrow _
    have hB : Below base w w1 := (Below.refl _ _).grown hgrow hbase (fun j hj => by
      rcases hown.form with ⟨rfl, rfl, rfl⟩ | ⟨g, rfl, hg, _⟩
      · simp [Value.ownBlock] at hj
      · simp [Value.ownBlock] at hj; omega)
    rw [← List.map_append] at hown'
    obtain ⟨A', c', rfl, ho'⟩ := ow_of_row hown' (by simp)
    exact h _ _ _ ho' hB
theorem wpList_app1 (E : ElTy P t e z bytes) {ops : Array Oper} {rest : List Oper} {o : Oper} {a : Act} {Q : Exit → Act → World → Prop} (w : World) (hgd : o.guard = none) (s x : Operand)
    (ho : o.op = .call { callee := .builtin .append, args := #[s, x], argTypes := #[t, t] })
    (base : Nat) (k : IntKind) (A : Option Addr) (c : Nat) (xs : List Int) (hs : a.eval s = .slice A xs.length c) (hown : Ow w base e k A c xs)
    (u : Int) (hx : a.eval x = .slice (some ⟨w.heap.size, 0, none⟩) 1 1)
    (hn : (xs.length + 1) * bytes ≤ 140737488355328) (hbase : base ≤ w.heap.size)
    (h : ∀ A' c' w', Ow w' base e k A' c' (xs ++ [u]) → Below base w w' → wpList P ops Q rest (a.put o.dst (.slice A' (xs.length + 1) c')) w') :
    wpList P ops Q (o :: rest) a (w.alloc (.cells #[.int k u] e)) :=
  wpList_plain hgd fun _ hK => wp_app1 E w s x ho base k A c xs hs hown u hx hn hbase fun A' c' w' h1 h2 => hK _ _ (h A' c' w' h1 h2)
theorem wpList_appN (E : ElTy P t e z bytes) {ops : Array Oper} {rest : List Oper} {o : Oper} {a : Act} {Q : Exit → Act → World → Prop} (w : World) (hgd : o.guard = none) (s x : Operand)
    (ho : o.op = .call { callee := .builtin .append, args := #[s, x], argTypes := #[t, t] })
    (base : Nat) (k : IntKind) (A : Option Addr) (c : Nat) (xs : List Int) (hs : a.eval s = .slice A xs.length c) (hown : Ow w base e k A c xs)
    (B : Nat) (A2 : Option Addr) (c2 : Nat) (ys : List Int) (hx : a.eval x = .slice A2 ys.length c2) (hr : Rd w B k A2 ys.length (nth ys))
    (hn : (xs.length + ys.length) * bytes ≤ 140737488355328) (hbase : base ≤ w.heap.size)
    (h : ∀ A' c' w', Ow w' base e k A' c' (xs ++ ys) → Below base w w' → wpList P ops Q rest (a.put o.dst (.slice A' (xs.length + ys.length) c')) w') :
    wpList P ops Q (o :: rest) a w :=
  wpList_plain hgd fun _ hK => wp_appN E w s x ho base k A c xs hs hown B A2 c2 ys hx hr hn hbase fun A' c' w' h1 h2 => hK _ _ (h A' c' w' h1 h2)
/-- The same for 'go_region_law': an operation of a region that draws its order. -/
theorem step_app1 (E : ElTy P t e z bytes) {ops : Array Oper} {o : Oper} {a : Act} {K : Act → World → Prop} {Q : Exit → Act → World → Prop} {N : Prop} (w : World) (hgd : o.guard = none) (s x : Operand)
    (ho : o.op = .call { callee := .builtin .append, args := #[s, x], argTypes := #[t, t] })
    (base : Nat) (k : IntKind) (A : Option Addr) (c : Nat) (xs : List Int) (hs : a.eval s = .slice A xs.length c) (hown : Ow w base e k A c xs)
    (u : Int) (hx : a.eval x = .slice (some ⟨w.heap.size, 0, none⟩) 1 1)
    (hn : (xs.length + 1) * bytes ≤ 140737488355328) (hbase : base ≤ w.heap.size)
    (h : ∀ A' c' w', Ow w' base e k A' c' (xs ++ [u]) → Below base w w' → K (a.put o.dst (.slice A' (xs.length + 1) c')) w') :
    if Region.wanted o (yielded ops a.tmps) = true then Oper.wp P o a (w.alloc (.cells #[.int k u] e)) K Q else N := by
  have hw : Region.wanted o (yielded ops a.tmps) = true := by simp [Region.wanted, hgd]
  rw [if_pos hw]
  exact wp_app1 E w s x ho base k A c xs hs hown u hx hn hbase h
theorem step_appN (E : ElTy P t e z bytes) {ops : Array Oper} {o : Oper} {a : Act} {K : Act → World → Prop} {Q : Exit → Act → World → Prop} {N : Prop} (w : World) (hgd : o.guard = none) (s x : Operand)
    (ho : o.op = .call { callee := .builtin .append, args := #[s, x], argTypes := #[t, t] })
    (base : Nat) (k : IntKind) (A : Option Addr) (c : Nat) (xs : List Int) (hs : a.eval s = .slice A xs.length c) (hown : Ow w base e k A c xs)
    (B : Nat) (A2 : Option Addr) (c2 : Nat) (ys : List Int) (hx : a.eval x = .slice A2 ys.length c2) (hr : Rd w B k A2 ys.length (nth ys))
    (hn : (xs.length + ys.length) * bytes ≤ 140737488355328) (hbase : base ≤ w.heap.size)
    (h : ∀ A' c' w', Ow w' base e k A' c' (xs ++ ys) → Below base w w' → K (a.put o.dst (.slice A' (xs.length + ys.length) c')) w') :
    if Region.wanted o (yielded ops a.tmps) = true then Oper.wp P o a w K Q else N := by
  have hw : Region.wanted o (yielded ops a.tmps) = true := by simp [Region.wanted, hgd]
  rw [if_pos hw]
  exact wp_appN E w s x ho base k A c xs hs hown B A2 c2 ys hx hr hn hbase h
end
end Go.Proofs.Ytkgddgckilledaa
namespace Go.Proofs.Ytkgddgckilledaa
open Go.RowKit
section
variable {w w' : World} {c g : Nat} {k : IntKind} {base : Nat} {e : TypeId} {xs : List Int}
theorem Ow.cellAt (h : Ow w base e k (some ⟨g, 0, none⟩) c xs) {i : Nat} (hi : i < xs.length) : w.cell? ⟨g, i, none⟩ = some (.int k (nth xs i)) := by
  rcases h.form with ⟨h, _⟩ | ⟨g', hg, _, _, _, _, hc⟩
  · cases h
  · injection hg with hg; injection hg with hg; subst hg; exact hc i hi
theorem Ow.frozenAt (h : Ow w base e k (some ⟨g, 0, none⟩) c xs) (i : Nat) : w.frozen? ⟨g, i, none⟩ = false := World.ownsRow.frozenAt h i
theorem Ow.blockGe (h : Ow w base e k (some ⟨g, 0, none⟩) c xs) : base ≤ g ∧ g < w.heap.size := by
  rcases h.form with ⟨h, _⟩ | ⟨g', hg, h1, h2, _, _, hc⟩
  · cases h
  · injection hg with hg; injection hg with hg; subst hg; exact ⟨h1, h2⟩
theorem Ow.set (h : Ow w base e k (some ⟨g, 0, none⟩) c xs) (i : Nat) (u : Int) : Ow (w.setCell ⟨g, i, none⟩ (.int k u)) base e k (some ⟨g, 0, none⟩) c (xs.set i u) := by
  have := (World.ownsRow.stored h i (.int k u)).1
  unfold Ow
  rw [List.length_set, List.map_set]
  exact this
/-- A row that can be read keeps its numbers where a row at another base is written. -/
theorem Ow.keepLow {A : Option Addr} (h : Ow w base e k A c xs) {b : Nat} (hb : w.heap.size ≤ b) (hB : Below b w w') : Ow w' base e k A c xs := h.below (hB.mono hb)
end
section
variable {P : Program} {t e : TypeId} {z : Value} {bytes : Nat}
/-- append(s, u) onto an owned row (or nil), the new element's cell lying anywhere: for a region that draws its order. -/
theorem wp_app1' (E : ElTy P t e z bytes) {o : Oper} {a : Act} {K : Act → World → Prop} {Q : Exit → Act → World → Prop} (W : World) (s x : Operand)
    (ho : o.op = .call { callee := .builtin .append, args := #[s, x], argTypes := #[t, t] })
    (base : Nat) (k : IntKind) (A : Option Addr) (c : Nat) (xs : List Int) (hs : a.eval s = .slice A xs.length c) (hown : Ow W base e k A c xs)
    (u : Int) (g : Nat) (hx : a.eval x = .slice (some ⟨g, 0, none⟩) 1 1) (hcell : W.cell? ⟨g, 0, none⟩ = some (.int k u))
    (hn : (xs.length + 1) * bytes ≤ 140737488355328) (hbase : base ≤ W.heap.size)
    (h : ∀ A' c' w', Ow w' base e k A' c' (xs ++ [u]) → Below base W w' → K (a.put o.dst (.slice A' (xs.length + 1) c')) w') :
    o.wp P a W K Q := by
  have hr : Rd W (g + 1) k (some ⟨g, 0, none⟩) [u].length (nth [u]) := fun _ => ⟨g, 0, rfl, by omega, fun i hi => by
    obtain rfl : i = 0 := by simp at hi; omega
    exact hcell⟩
  refine wp_appN E W s x ho base k A c xs hs hown (g + 1) (some ⟨g, 0, none⟩) 1 [u] hx hr ?_ hbase h
  simpa using hn
theorem step_app1' (E : ElTy P t e z bytes) {ops : Array Oper} {o : Oper} {a : Act} {K : Act → World → Prop} {Q : Exit → Act → World → Prop} {N : Prop} (W : World) (hgd : o.guard = none) (s x : Operand)
    (ho : o.op = .call { callee := .builtin .append, args := #[s, x], argTypes := #[t, t] })
    (base : Nat) (k : IntKind) (A : Option Addr) (c : Nat) (xs : List Int) (hs : a.eval s = .slice A xs.length c) (hown : Ow W base e k A c xs)
    (u : Int) (g : Nat) (hx : a.eval x = .slice (some ⟨g, 0, none⟩) 1 1) (hcell : W.cell? ⟨g, 0, none⟩ = some (.int k u))
    (hn : (xs.length + 1) * bytes ≤ 140737488355328) (hbase : base ≤ W.heap.size)
    (h : ∀ A' c' w', Ow w' base e k A' c' (xs ++ [u]) → Below base W w' → K (a.put o.dst (.slice A' (xs.length + 1) c')) w') :
    if Region.wanted o (yielded ops a.tmps) = true then Oper.wp P o a W K Q else N := by
  have hw : Region.wanted o (yielded ops a.tmps) = true := by simp [Region.wanted, hgd]
  rw [if_pos hw]
  exact wp_app1' E W s x ho base k A c xs hs hown u g hx hcell hn hbase h
end
theorem Rd.cut {w : World} {B n m c g off : Nat} {k : IntKind} {f : Nat → Int} (h : Rd w B k (some ⟨g, off, none⟩) n f) (hm : m ≤ n) (hc : n ≤ c) :
    Rd w B k (if c = m then some ⟨g, off, none⟩ else some ⟨g, off + m, none⟩) (n - m) (fun i => f (m + i)) := fun hn => by
  obtain ⟨b, o, e, hb, hcell⟩ := h (by omega)
  injection e with e
  injection e with e1 e2
  subst e1 e2
  rw [if_neg (by omega)]
  exact ⟨g, off + m, rfl, hb, fun i hi => by rw [Nat.add_assoc]; exact hcell (m + i) (by omega)⟩
theorem Rd.cutList {w : World} {B m c g off : Nat} {k : IntKind} {xs : List Int} (h : Rd w B k (some ⟨g, off, none⟩) xs.length (nth xs)) (hm : m ≤ xs.length) (hc : xs.length ≤ c) :
    Rd w B k (if c = m then some ⟨g, off, none⟩ else some ⟨g, off + m, none⟩) (xs.drop m).length (nth (xs.drop m)) := by
  rw [List.length_drop]
  exact (h.cut hm hc).congr fun i _ => nth_drop.symm
theorem nth_set_same {xs : List Int} {i : Nat} {u : Int} (h : i < xs.length) : nth (xs.set i u) i = u := by simp [nth, h]
theorem nth_set_ne {xs : List Int} {i j : Nat} {u : Int} (h : i ≠ j) : nth (xs.set i u) j = nth xs j := by simp [nth, h]
end Go.Proofs.Ytkgddgckilledaa
namespace Go.Proofs.Ytkgddgckilledaa
open Go.RowKit
section
variable {a w w' w'' : World} {g : Nat} {row : Option Nat}
theorem only_drewN (h : a.grownBy w row) (n : Nat) : a.grownBy (w.drewN n) row := ⟨h.os, h.tape, h.output, h.size, h.block⟩
theorem only_drew (h : a.grownBy w row) : a.grownBy w.drew row := ⟨h.os, h.tape, h.output, h.size, h.block⟩
theorem only_alloc (h : a.grownBy w row) (o : Obj) : a.grownBy (w.alloc o) row :=
  ⟨h.os, h.tape, h.output, Nat.le_trans h.size (by simp), fun i hi hne => (Below.heap_alloc w o i (Nat.lt_of_lt_of_le hi h.size)).trans (h.block i hi hne)⟩
theorem only_setCell (h : a.grownBy w (some g)) {p : Addr} (hp : p.block = g ∨ a.heap.size ≤ p.block) (u : Value) : a.grownBy (w.setCell p u) (some g) :=
  ⟨h.os, h.tape, h.output, by simpa [World.setCell] using h.size, fun i hi hne => (Below.heap_setCell w p u i (by
    rintro rfl
    rcases hp with hp | hp
    · exact hne (by rw [hp])
    · omega)).trans (h.block i hi hne)⟩
theorem only_below (h : a.grownBy w row) (hb : Below w.heap.size w w') : a.grownBy w' row :=
  ⟨hb.os.trans h.os, hb.tape.trans h.tape, hb.output.trans h.output, Nat.le_trans h.size hb.size, fun i hi hne => (hb.block i (Nat.lt_of_lt_of_le hi h.size)).trans (h.block i hi hne)⟩
theorem only_of_below (h : Below a.heap.size a w) (row : Option Nat) : a.grownBy w row := ⟨h.os, h.tape, h.output, h.size, fun i hi _ => h.block i hi⟩
theorem only_cell (h : a.grownBy w (some g)) {p : Addr} {v : Value} (hc : a.cell? p = some v) (hne : p.block ≠ g) : w.cell? p = some v :=
  h.cell hc (fun e => hne (by injection e))
theorem only_frozen (h : a.grownBy w (some g)) {p : Addr} {b : Bool} (hc : a.frozen? p = b) (hl : p.block < a.heap.size) (hne : p.block ≠ g) : w.frozen? p = b :=
  (World.frozen?_of_block (w := a) (h.block _ hl (fun e => hne (by injection e)))).trans hc
/-- Only a block from B on has turned. -/
theorem only_back {B : Nat} (h : a.grownBy w (some g)) (hB : B ≤ a.heap.size) (hg : B ≤ g) : Below B a w :=
  ⟨h.os, h.tape, h.output, h.size, fun k hk => h.block k (by omega) (fun e => by injection e; omega)⟩
end
section
variable {w w' : World} {B n c g : Nat} {k : IntKind} {base : Nat} {e : TypeId} {xs : List Int} {A : Option Addr} {f : Nat → Int}
/-- What make lays. -/
theorem Ow.made (w : World) (base n : Nat) (e : TypeId) (k : IntKind) (hb : base ≤ w.heap.size) (hn : n ≤ maxLen) :
    Ow (w.alloc (.cells (madeCells #[.int k 0] n) e)) base e k (some ⟨w.heap.size, 0, none⟩) n (List.replicate n 0) := by
  have := World.ownsRow_lit (base := base) (e := e) (size := 1) w (madeCells #[.int k 0] n) n hb hn (by simp [size_madeCells])
  rw [toList_madeCells_one] at this
  unfold Ow
  rw [List.length_replicate, List.map_replicate]
  exact this
/-- What a literal lays. -/
theorem Ow.lit (w : World) (base : Nat) (e : TypeId) (k : IntKind) (xs : List Int) (hb : base ≤ w.heap.size) (hn : xs.length ≤ maxLen) :
    Ow (w.alloc (.cells (xs.map (Value.int k)).toArray e)) base e k (some ⟨w.heap.size, 0, none⟩) xs.length xs := by
  have := World.ownsRow_lit (base := base) (e := e) (size := 1) w (xs.map (Value.int k)).toArray xs.length hb hn (by simp)
  rw [List.toList_toArray] at this
  exact this
/-- A row of the call's own where another block has turned. -/
theorem Ow.other (h : Ow w base e k (some ⟨g, 0, none⟩) c xs) {row : Option Nat} (hg : w.grownBy w' row) (hne : row ≠ some g) : Ow w' base e k (some ⟨g, 0, none⟩) c xs :=
  World.ownsRow.kept (row := row) h hg (by
    right; simp only [Value.ownBlock]; exact fun e => hne e.symm)
theorem Ow.other' {g' : Nat} (h : Ow w base e k (some ⟨g, 0, none⟩) c xs) (hg : w.grownBy w' (some g')) (hne : g' ≠ g) : Ow w' base e k (some ⟨g, 0, none⟩) c xs :=
  h.other hg (fun e => hne (by injection e))
theorem Rd.of_block {b off : Nat} (h : ∀ i, i < n → w.cell? ⟨b, off + i, none⟩ = some (.int k (f i))) (hb : b < B) : Rd w B k (some ⟨b, off, none⟩) n f := fun _ => ⟨b, off, rfl, hb, h⟩
theorem Ow.cellAt' {n' i : Nat} (h : Ow w base e k (some ⟨g, 0, none⟩) c xs) (hn : xs.length = n') (hi : i < n') : w.cell? ⟨g, i, none⟩ = some (.int k (nth xs i)) := h.cellAt (by omega)
theorem Ow.frozenAt' (h : Ow w base e k (some ⟨g, 0, none⟩) c xs) (i : Nat) : w.frozen? ⟨g, i, none⟩ = false := h.frozenAt i
theorem Ow.set' (h : Ow w base e k (some ⟨g, 0, none⟩) c xs) (i : Nat) (u : Int) : Ow (w.setCell ⟨g, i, none⟩ (.int k u)) base e k (some ⟨g, 0, none⟩) c (xs.set i u) := h.set i u
end
theorem retS {A : Option Addr} {m n c : Nat} (h : m = n) : Ending.returned (.slice A m c) = .returned (.slice A n c) := by rw [h]
theorem valS {A : Option Addr} {m n c : Nat} (h : m = n) : Value.slice A m c = .slice A n c := by rw [h]
/-- A struct of an octagon in memory. -/
structure OctAt (w : World) (b : Nat) (N : Int) (E : Bool) (v : Value) : Prop where
  c0 : w.cell? ⟨b, 0, none⟩ = some (.int .i64 N)
  c1 : w.cell? ⟨b, 1, none⟩ = some (.bool E)
  c2 : w.cell? ⟨b, 2, none⟩ = some v
section
variable {w w' : World} {b : Nat} {N : Int} {E : Bool} {v : Value}
theorem OctAt.lt (h : OctAt w b N E v) : b < w.heap.size := World.block_lt_of_cell? w ⟨b, 0, none⟩ h.c0
theorem OctAt.below (h : OctAt w b N E v) (hb : Below w.heap.size w w') : OctAt w' b N E v := ⟨(hb.cell (p := ⟨b, 0, none⟩) h.lt).trans h.c0, (hb.cell (p := ⟨b, 1, none⟩) h.lt).trans h.c1, (hb.cell (p := ⟨b, 2, none⟩) h.lt).trans h.c2⟩
theorem OctAt.only {g : Nat} (h : OctAt w b N E v) (hg : w.grownBy w' (some g)) (hne : b ≠ g) : OctAt w' b N E v := ⟨only_cell hg h.c0 hne, only_cell hg h.c1 hne, only_cell hg h.c2 hne⟩
theorem OctAt.box (w : World) (t : TypeId) (N : Int) (E : Bool) (v : Value) : OctAt (w.alloc (.cells #[.int .i64 N, .bool E, v] t)) w.heap.size N E v :=
  ⟨by simp [World.cell?_alloc_new], by simp [World.cell?_alloc_new], by simp [World.cell?_alloc_new]⟩
theorem OctAt.alloc (h : OctAt w b N E v) (o : Obj) : OctAt (w.alloc o) b N E v := h.below ((Below.refl _ _).alloc (Nat.le_refl _) _)
end
end Go.Proofs.Ytkgddgckilledaa
