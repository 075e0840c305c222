/- Rows of structs that grow; the walks of cert.places and gnomonref19.places. -/
import Derived.Test.YtkgddgckilledaaCeb
namespace Go.Proofs.Ytkgddgckilledaa
open Go.RowKit
set_option linter.unusedVariables false
set_option linter.unusedSimpArgs false
open Gn
/-- What append asks of an element's type of several cells. -/
structure ElTyS (P : Program) (t e : TypeId) (z : Value) (size bytes : Nat) : Prop where
  ht : P.underlying t = some (.slice e)
  info : (P.info? e).map (fun i => (i.zero, i.size, i.bytes)) = some (some z, size, bytes)
  hz : z.cells.size = size
  hb : 0 < bytes
  hs : 0 < size
theorem info_partsS {P : Program} {e : TypeId} {z : Value} {size bytes : Nat} (h : (P.info? e).map (fun i => (i.zero, i.size, i.bytes)) = some (some z, size, bytes)) : ∃ i, P.info? e = some i ∧ i.zero = some z ∧ i.size = size ∧ i.bytes = bytes := by
  cases hi : P.info? e with
  | none => rw [hi] at h; cases h
  | some i =>
    rw [hi] at h
    simp only [Option.map_some, Option.some.injEq, Prod.mk.injEq] at h
    exact ⟨i, rfl, h.1, h.2.1, h.2.2⟩
/-- append(s, u), u a struct. -/
theorem wpList_appS {P : Program} {t e : TypeId} {z : Value} {size bytes : Nat} (E : ElTyS P t e z size bytes) {ops : Array Oper} {rest : List Oper} {o : Oper} {a : Act} {Q : Exit → Act → World → Prop} (W : World) (hgd : o.guard = none) (s x : Operand)
    (ho : o.op = .call { callee := .builtin .append, args := #[s, x], argTypes := #[t, t] })
    (base : Nat) (A : Option Addr) (c n : Nat) (vs : List Value) (hs : a.eval s = .slice A n c) (hown : W.ownsRow base e size (.slice A n c) n vs)
    (news : List Value) (g : Nat) (hx : a.eval x = .slice (some ⟨g, 0, none⟩) 1 1) (hl : news.length = size) (hnews : ∀ j u, news[j]? = some u → W.cell? ((⟨g, 0, none⟩ : Addr).add j) = some u) (h1 : ∀ u ∈ news, u.oneCell' = true)
    (hn : (n + 1) * bytes ≤ 140737488355328) (hbase : base ≤ W.heap.size)
    (h : ∀ A' c' w', w'.ownsRow base e size (.slice A' (n + 1) c') (n + 1) (vs ++ news) → Below base W w' → wpList P ops Q rest (a.put o.dst (.slice A' (n + 1) c')) w') :
    wpList P ops Q (o :: rest) a W := by
  obtain ⟨i0, hi, hz0, hz1, hz2⟩ := info_partsS E.info
  have hle : n + 1 ≤ (n + 1) * bytes := Nat.le_mul_of_pos_right _ E.hb
  refine wpList_append_own W hgd s x t ho base e i0 z size bytes E.ht hi hz0 hz1 hz2 E.hz E.hs _ _ _ hs hown ⟨g, 0, none⟩ 1 1 news hx (by rw [hl, Nat.one_mul]) hnews h1 (by unfold maxLen; omega) hn hbase ?_
  intro v' w1 hown' hgrow _
  have hB : Below base W w1 := (Below.refl _ _).grown hgrow hbase (fun j hj => (hown.lt j hj).1)
  rcases hown'.2 with ⟨rfl, h0⟩ | ⟨g', cap, cur, rfl, _⟩
  · omega
  · exact h _ _ _ hown' hB
theorem own_below {w w' : World} {base : Nat} {e : TypeId} {size n c : Nat} {A : Option Addr} {vs : List Value} (h : w.ownsRow base e size (.slice A n c) n vs) (hb : Below w.heap.size w w') : w'.ownsRow base e size (.slice A n c) n vs :=
  World.ownsRow.kept (row := none) h ⟨hb.os, hb.tape, hb.output, hb.size, fun i hi _ => hb.block i hi⟩ (by
    cases A <;> simp [Value.ownBlock])
theorem own_lower {w : World} {base b' : Nat} {e : TypeId} {size n : Nat} {v : Value} {vs : List Value} (h : w.ownsRow base e size v n vs) (hb : b' ≤ base) : w.ownsRow b' e size v n vs := by
  refine ⟨h.1, ?_⟩
  rcases h.2 with h0 | ⟨g, cap, cur, hv, hb0, hr⟩
  · exact .inl h0
  · exact .inr ⟨g, cap, cur, hv, by omega, hr⟩
/-- Pairs of numbers as cells. -/
def pv (ps : List (Nat × Nat)) : List Value := ps.flatMap fun p => [.int .i64 (p.1 : Int), .int .i64 (p.2 : Int)]
theorem pv_snoc (ps : List (Nat × Nat)) (p : Nat × Nat) : pv (ps ++ [p]) = pv ps ++ [.int .i64 (p.1 : Int), .int .i64 (p.2 : Int)] := by unfold pv; rw [List.flatMap_append]; simp
theorem pv_get : ∀ (ps : List (Nat × Nat)) (i : Nat), i < ps.length → (pv ps)[i * 2]? = some (.int .i64 (pfst ps i : Int)) ∧ (pv ps)[i * 2 + 1]? = some (.int .i64 (psnd ps i : Int))
  | p :: ps, 0, _ => by constructor <;> rfl
  | p :: ps, i + 1, h => by
    have := pv_get ps i (by simpa using h)
    rw [show (i + 1) * 2 = i * 2 + 2 by omega, show i * 2 + 2 + 1 = i * 2 + 1 + 2 by omega]
    exact this
/-- A slice of pairs that can be read below block B. -/
def RdP (w : World) (B : Nat) (A : Option Addr) (ps : List (Nat × Nat)) : Prop :=
  0 < ps.length → ∃ b off, A = some ⟨b, off, none⟩ ∧ b < B ∧ ∀ i, i < ps.length → w.cell? ⟨b, off + i * 2, none⟩ = some (.int .i64 (pfst ps i : Int)) ∧ w.cell? ⟨b, off + i * 2 + 1, none⟩ = some (.int .i64 (psnd ps i : Int))
theorem RdP.go {w w' : World} {A : Option Addr} {ps : List (Nat × Nat)} (h : RdP w w.heap.size A ps) (hb : Below w.heap.size w w') : RdP w' w'.heap.size A ps := fun hn => by
  obtain ⟨b, off, e, hlt, hc⟩ := h hn
  exact ⟨b, off, e, Nat.lt_of_lt_of_le hlt hb.size, fun i hi => ⟨below_cell hb (hc i hi).1, below_cell hb (hc i hi).2⟩⟩
theorem rdp_own {w : World} {base : Nat} {e : TypeId} {c : Nat} {A : Option Addr} {ps : List (Nat × Nat)} (h : w.ownsRow base e 2 (.slice A ps.length c) ps.length (pv ps)) : RdP w w.heap.size A ps := fun hn => by
  rcases h.2 with ⟨hv, h0⟩ | ⟨g, cap, cur, hv, hb, hh, hnc, hcm, hcs, hx⟩
  · omega
  · injection hv with h1 h2 h3
    subst h1
    have hlt := (h.lt g rfl).2
    have key : ∀ j u, (pv ps)[j]? = some u → w.cell? ⟨g, j, none⟩ = some u := fun j u hu => by
      have := h.cells (g := g) rfl j u hu
      rwa [show (⟨g, 0, none⟩ : Addr).add j = ⟨g, j, none⟩ by unfold Addr.add; split <;> simp_all] at this
    exact ⟨g, 0, rfl, hlt, fun i hi => by
      obtain ⟨p1, p2⟩ := pv_get ps i hi
      rw [Nat.zero_add]
      exact ⟨key _ _ p1, key _ _ p2⟩⟩
theorem val_slice' {A : Option Addr} {m n c : Nat} (h : m = n) : Value.slice A m c = .slice A n c := by rw [h]
theorem ret_slice' {A : Option Addr} {m n c : Nat} (h : m = n) : Ending.returned (.slice A m c) = .returned (.slice A n c) := by rw [h]
end Go.Proofs.Ytkgddgckilledaa
