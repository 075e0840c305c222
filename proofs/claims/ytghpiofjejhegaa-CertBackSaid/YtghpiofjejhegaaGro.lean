/- Rows of octagons that a call makes: append, what they read as. -/
import Derived.Test.YtghpiofjejhegaaCeg
import Derived.Test.YtghpiofjejhegaaApp
import Derived.Test.YtghpiofjejhegaaCec
import Derived.Test.YtghpiofjejhegaaOctK
namespace Go.Proofs.Ytghpiofjejhegaa
open Go.RowKit
set_option linter.unusedVariables false
set_option linter.unusedSimpArgs false
open Gn
section
variable {P : Program} {t e : TypeId} {z : Value} {size bytes : Nat}
/-- append(s, u), u a struct, the new element lying anywhere. -/
theorem wp_appSg (E : ElTyS P t e z size bytes) {o : Oper} {a : Act} {K : Act → World → Prop} {Q : Exit → Act → World → Prop} (W : World) (s x : Operand)
    (ho : o.op = .call { callee := .builtin .append, args := #[s, x], argTypes := #[t, t] })
    (base : Nat) (A : Option Addr) (c n : Nat) (vs : List Value) (hs : a.eval s = .slice A n c) (hown : W.ownsRow base e size (.slice A n c) n vs)
    (news : List Value) (g : Nat) (hx : a.eval x = .slice (some ⟨g, 0, none⟩) 1 1) (hl : news.length = size) (hnews : ∀ j u, news[j]? = some u → W.cell? ((⟨g, 0, none⟩ : Addr).add j) = some u) (h1 : ∀ u ∈ news, u.oneCell' = true)
    (hn : (n + 1) * bytes ≤ 140737488355328) (hbase : base ≤ W.heap.size)
    (h : ∀ A' c' w', w'.ownsRow base e size (.slice A' (n + 1) c') (n + 1) (vs ++ news) → Below base W w' → W.grownBy w' (Value.slice A n c).ownBlock → K (a.put o.dst (.slice A' (n + 1) c')) w') :
    o.wp P a W K Q := by
  obtain ⟨i0, hi, hz0, hz1, hz2⟩ := info_partsS E.info
  have hle : n + 1 ≤ (n + 1) * bytes := Nat.le_mul_of_pos_right _ E.hb
  refine wp_append_own W s x t ho base e i0 z size bytes E.ht hi hz0 hz1 hz2 E.hz E.hs _ _ _ hs hown ⟨g, 0, none⟩ 1 1 news hx (by rw [hl, Nat.one_mul]) hnews h1 (by unfold maxLen; omega) hn hbase ?_
  intro v' w1 hown' hgrow _
  have hB : Below base W w1 := (Below.refl _ _).grown hgrow hbase (fun j hj => (hown.lt j hj).1)
  rcases hown'.2 with ⟨rfl, h0⟩ | ⟨g', cap, cur, rfl, _⟩
  · omega
  · exact h _ _ _ hown' hB hgrow
theorem wpList_appSg (E : ElTyS P t e z size bytes) {ops : Array Oper} {rest : List Oper} {o : Oper} {a : Act} {Q : Exit → Act → World → Prop} (W : World) (hgd : o.guard = none) (s x : Operand)
    (ho : o.op = .call { callee := .builtin .append, args := #[s, x], argTypes := #[t, t] })
    (base : Nat) (A : Option Addr) (c n : Nat) (vs : List Value) (hs : a.eval s = .slice A n c) (hown : W.ownsRow base e size (.slice A n c) n vs)
    (news : List Value) (g : Nat) (hx : a.eval x = .slice (some ⟨g, 0, none⟩) 1 1) (hl : news.length = size) (hnews : ∀ j u, news[j]? = some u → W.cell? ((⟨g, 0, none⟩ : Addr).add j) = some u) (h1 : ∀ u ∈ news, u.oneCell' = true)
    (hn : (n + 1) * bytes ≤ 140737488355328) (hbase : base ≤ W.heap.size)
    (h : ∀ A' c' w', w'.ownsRow base e size (.slice A' (n + 1) c') (n + 1) (vs ++ news) → Below base W w' → W.grownBy w' (Value.slice A n c).ownBlock → wpList P ops Q rest (a.put o.dst (.slice A' (n + 1) c')) w') :
    wpList P ops Q (o :: rest) a W :=
  wpList_plain hgd fun _ hK => wp_appSg E W s x ho base A c n vs hs hown news g hx hl hnews h1 hn hbase fun A' c' w' h1 h2 h3 => hK _ _ (h A' c' w' h1 h2 h3)
theorem step_appSg (E : ElTyS P t e z size bytes) {ops : Array Oper} {o : Oper} {a : Act} {K : Act → World → Prop} {Q : Exit → Act → World → Prop} {N : Prop} (W : World) (hgd : o.guard = none) (s x : Operand)
    (ho : o.op = .call { callee := .builtin .append, args := #[s, x], argTypes := #[t, t] })
    (base : Nat) (A : Option Addr) (c n : Nat) (vs : List Value) (hs : a.eval s = .slice A n c) (hown : W.ownsRow base e size (.slice A n c) n vs)
    (news : List Value) (g : Nat) (hx : a.eval x = .slice (some ⟨g, 0, none⟩) 1 1) (hl : news.length = size) (hnews : ∀ j u, news[j]? = some u → W.cell? ((⟨g, 0, none⟩ : Addr).add j) = some u) (h1 : ∀ u ∈ news, u.oneCell' = true)
    (hn : (n + 1) * bytes ≤ 140737488355328) (hbase : base ≤ W.heap.size)
    (h : ∀ A' c' w', w'.ownsRow base e size (.slice A' (n + 1) c') (n + 1) (vs ++ news) → Below base W w' → W.grownBy w' (Value.slice A n c).ownBlock → K (a.put o.dst (.slice A' (n + 1) c')) w') :
    if Region.wanted o (yielded ops a.tmps) = true then Oper.wp P o a W K Q else N := by
  have hw : Region.wanted o (yielded ops a.tmps) = true := by simp [Region.wanted, hgd]
  rw [if_pos hw]
  exact wp_appSg E W s x ho base A c n vs hs hown news g hx hl hnews h1 hn hbase h
end
/-- An octagon that a call has made. -/
structure OR where
  n : Int
  e : Bool
  a : Option Addr
  c : Nat
  m : List Int
def OR.oc (r : OR) : OC := ⟨r.n, r.e, r.m⟩
def OR.cells (r : OR) : List Value := [.int .i64 r.n, .bool r.e, .slice r.a r.m.length r.c]
def ov (rs : List OR) : List Value := rs.flatMap OR.cells
theorem ov_snoc (rs : List OR) (r : OR) : ov (rs ++ [r]) = ov rs ++ r.cells := by unfold ov; rw [List.flatMap_append]; simp
def orAt (rs : List OR) (i : Nat) : OR := rs.getD i ⟨0, false, none, 0, []⟩
theorem ov_get : ∀ (rs : List OR) (i : Nat), i < rs.length → (ov rs)[i * 3]? = some (.int .i64 (orAt rs i).n) ∧ (ov rs)[i * 3 + 1]? = some (.bool (orAt rs i).e) ∧ (ov rs)[i * 3 + 2]? = some (.slice (orAt rs i).a (orAt rs i).m.length (orAt rs i).c)
  | r :: rs, 0, _ => ⟨rfl, rfl, rfl⟩
  | r :: rs, i + 1, h => by
    have := ov_get rs i (by simpa using h)
    rw [show (i + 1) * 3 = i * 3 + 3 by omega, show i * 3 + 3 + 1 = i * 3 + 1 + 3 by omega, show i * 3 + 3 + 2 = i * 3 + 2 + 3 by omega]
    exact this
theorem orAt_mem {rs : List OR} {i : Nat} (h : i < rs.length) : orAt rs i ∈ rs := by
  unfold orAt; rw [List.getD_eq_getElem?_getD, List.getElem?_eq_getElem h]; exact List.getElem_mem h
theorem ocAt_map {rs : List OR} {i : Nat} (h : i < rs.length) : ocAt (rs.map OR.oc) i = (orAt rs i).oc := by
  unfold ocAt orAt
  rw [List.getD_eq_getElem?_getD, List.getD_eq_getElem?_getD, List.getElem?_map, List.getElem?_eq_getElem h]; rfl
/-- A row of octagons that a call has made. -/
structure GOcts (w : World) (base : Nat) (A : Option Addr) (c : Nat) (rs : List OR) : Prop where
  row : w.ownsRow base 55 3 (.slice A rs.length c) rs.length (ov rs)
  each : ∀ r ∈ rs, I64 r.n ∧ (∀ x ∈ r.m, I64 x) ∧ Ow w base 2 .i64 r.a r.c r.m
theorem GOcts.nil (w : World) (base : Nat) : GOcts w base none 0 [] := ⟨World.ownsRow_nil _ _ _ _, fun r hr => by cases hr⟩
theorem GOcts.go {w w' : World} {base : Nat} {A : Option Addr} {c : Nat} {rs : List OR} (h : GOcts w base A c rs) (hb : Below w.heap.size w w') : GOcts w' base A c rs :=
  ⟨own_below h.row hb, fun r hr => ⟨(h.each r hr).1, (h.each r hr).2.1, (h.each r hr).2.2.below hb⟩⟩
theorem GOcts.lower {w : World} {base base' : Nat} {A : Option Addr} {c : Nat} {rs : List OR} (h : GOcts w base A c rs) (hb : base' ≤ base) : GOcts w base' A c rs :=
  ⟨own_lower h.row hb, fun r hr => ⟨(h.each r hr).1, (h.each r hr).2.1, (h.each r hr).2.2.lower hb⟩⟩
theorem ow_is_row {w : World} {base c : Nat} {e : TypeId} {k : IntKind} {A : Option Addr} {xs : List Int} (h : Ow w base e k A c xs) : w.ownsRow base e 1 (.slice A xs.length c) xs.length (xs.map (Value.int k)) := h
theorem Ow.beside {w w' : World} {base base' size n c : Nat} {e e' : TypeId} {k : IntKind} {A : Option Addr} {v' : Value} {vs' : List Value} {xs : List Int} (h : Ow w base e k A c xs) (h' : w.ownsRow base' e' size v' n vs') (hne : e ≠ e') (hg : w.grownBy w' v'.ownBlock) : Ow w' base e k A c xs :=
  own_beside (ow_is_row h) h' hne hg
/-- One more octagon. -/
theorem GOcts.snoc {w w' : World} {base : Nat} {A A' : Option Addr} {c c' : Nat} {rs : List OR} {r : OR} (h : GOcts w base A c rs) (hr : I64 r.n ∧ (∀ x ∈ r.m, I64 x) ∧ Ow w base 2 .i64 r.a r.c r.m)
    (hrow : w'.ownsRow base 55 3 (.slice A' (rs.length + 1) c') (rs.length + 1) (ov rs ++ r.cells)) (hg : w.grownBy w' (Value.slice A rs.length c).ownBlock) : GOcts w' base A' c' (rs ++ [r]) := by
  refine ⟨by rw [ov_snoc, List.length_append]; exact hrow, fun x hx => ?_⟩
  have key : ∀ y : OR, I64 y.n ∧ (∀ x ∈ y.m, I64 x) ∧ Ow w base 2 .i64 y.a y.c y.m → I64 y.n ∧ (∀ x ∈ y.m, I64 x) ∧ Ow w' base 2 .i64 y.a y.c y.m :=
    fun y ⟨a, b, c⟩ => ⟨a, b, c.beside h.row (by decide) hg⟩
  simp only [List.mem_append, List.mem_cons, List.not_mem_nil, or_false] at hx
  rcases hx with hx | rfl
  · exact key x (h.each x hx)
  · exact key x hr
theorem GOcts.octs {w : World} {base : Nat} {A : Option Addr} {c : Nat} {rs : List OR} (h : GOcts w base A c rs) : OctsIn w A (rs.map OR.oc) := fun hn => by
  rw [List.length_map] at hn
  rcases h.row.2 with ⟨hv, h0⟩ | ⟨g, cap, cur, hv, hb, hh, _⟩
  · omega
  · injection hv with h1 h2 h3
    subst h1
    have hlt := (h.row.lt g rfl).2
    have key : ∀ j u, (ov rs)[j]? = some u → w.cell? ⟨g, j, none⟩ = some u := fun j u hu => by
      have := h.row.cells (g := g) rfl j u hu
      rwa [show (⟨g, 0, none⟩ : Addr).add j = ⟨g, j, none⟩ by unfold Addr.add; split <;> simp_all] at this
    refine ⟨g, 0, rfl, hlt, fun i hi => ?_⟩
    rw [List.length_map] at hi
    obtain ⟨p0, p1, p2⟩ := ov_get rs i hi
    obtain ⟨e0, e1, e2⟩ := h.each _ (orAt_mem hi)
    rw [ocAt_map hi, Nat.zero_add]
    exact ⟨_, _, key _ _ p0, key _ _ p1, key _ _ p2, ⟨e0, e2.rd, e1, e2.cap, e2.capMax⟩⟩
theorem Try.elOct : ElTyS Try.prog 38 55 (.agg #[.int .i64 0, .bool false, .slice none 0 0]) 3 40 := ⟨Try.underlying38, by kernel_rfl, rfl, by decide, by decide⟩
/-- What a new octagon's variable holds, as append reads it. -/
theorem oct_news (w : World) (t : TypeId) (r : OR) : ∀ j u, r.cells[j]? = some u → (w.alloc (.cells #[.int .i64 r.n, .bool r.e, .slice r.a r.m.length r.c] t)).cell? ((⟨w.heap.size, 0, none⟩ : Addr).add j) = some u :=
  World.news_of_block (heap_alloc_new w _)
/-- A certificate's variable that can be written. -/
structure CertBox (w : World) (b : Nat) (D N : Int) (v : Value) : Prop where
  at' : CertAt w b D N v
  fz : ∀ i, w.frozen? ⟨b, i, none⟩ = false
theorem CertBox.go {w w' : World} {b : Nat} {D N : Int} {v : Value} (h : CertBox w b D N v) (hb : Below w.heap.size w w') : CertBox w' b D N v := ⟨h.at'.go hb, fun i => (hb.frozen (p := ⟨b, i, none⟩) h.at'.lt).trans (h.fz i)⟩
theorem CertBox.low {w w' : World} {b base : Nat} {D N : Int} {v : Value} (h : CertBox w b D N v) (hb : Below base w w') (hl : b < base) : CertBox w' b D N v :=
  ⟨⟨(hb.cell (p := ⟨b, 0, none⟩) hl).trans h.at'.c0, (hb.cell (p := ⟨b, 1, none⟩) hl).trans h.at'.c1, (hb.cell (p := ⟨b, 2, none⟩) hl).trans h.at'.c2⟩, fun i => (hb.frozen (p := ⟨b, i, none⟩) hl).trans (h.fz i)⟩
theorem CertBox.new (w : World) (t : TypeId) (D N : Int) (v : Value) : CertBox (w.alloc (.cells #[.int .u64 D, .int .i64 N, v] t)) w.heap.size D N v :=
  ⟨⟨by simp [World.cell?_alloc_new], by simp [World.cell?_alloc_new], by simp [World.cell?_alloc_new]⟩, fun i => by simp [go_sem]⟩
theorem CertBox.set {w : World} {b : Nat} {D N : Int} {v : Value} (h : CertBox w b D N v) (v' : Value) : CertBox (w.setCell ⟨b, 2, none⟩ v') b D N v' := by
  obtain ⟨⟨c0, c1, c2⟩, fz⟩ := h
  exact ⟨⟨by simp [go_sem, c0], by simp [go_sem, c1], by simp [go_sem, c2]⟩, fun i => by simp [go_sem, fz]⟩
theorem own_low {w : World} {base size n : Nat} {e : TypeId} {v : Value} {vs : List Value} (h : w.ownsRow base e size v n vs) {p : Addr} (hp : p.block < base) (u : Value) : (w.setCell p u).ownsRow base e size v n vs :=
  ownsRow_setCell_other h (fun e0 => by have := (h.lt _ e0).1; omega) u
theorem GOcts.low {w : World} {base : Nat} {A : Option Addr} {c : Nat} {rs : List OR} (h : GOcts w base A c rs) {p : Addr} (hp : p.block < base) (u : Value) : GOcts (w.setCell p u) base A c rs :=
  ⟨own_low h.row hp u, fun r hr => ⟨(h.each r hr).1, (h.each r hr).2.1, (h.each r hr).2.2.low hp u⟩⟩
end Go.Proofs.Ytghpiofjejhegaa
