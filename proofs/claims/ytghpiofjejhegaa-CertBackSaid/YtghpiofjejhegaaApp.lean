/- append to an owned row, told besides which block alone may have turned; two rows of unlike types lie apart. No program in sight. -/
import Derived.Test.YtghpiofjejhegaaMem
namespace Go.Proofs.Ytghpiofjejhegaa
open Go.RowKit
section
variable {P : Program} {t e : TypeId} {z : Value} {bytes : Nat}
/-- append(s, ys...) onto an owned row (or nil); ys is any slice that can be read, nil or empty too. -/
theorem wp_appNg (E : ElTy P t e z bytes) {o : Oper} {a : Act} {K : Act → World → Prop} {Q : Exit → Act → World → Prop} (w : World) (s x : Operand)
    (ho : o.op = .call { callee := .builtin .append, args := #[s, x], argTypes := #[t, t] })
    (base : Nat) (k : IntKind) (A : Option Addr) (c : Nat) (xs : List Int) (hs : a.eval s = .slice A xs.length c) (hown : Ow w base e k A c xs)
    (B : Nat) (A2 : Option Addr) (c2 : Nat) (ys : List Int) (hx : a.eval x = .slice A2 ys.length c2) (hr : Rd w B k A2 ys.length (nth ys))
    (hn : (xs.length + ys.length) * bytes ≤ 140737488355328) (hbase : base ≤ w.heap.size)
    (h : ∀ A' c' w', Ow w' base e k A' c' (xs ++ ys) → Below base w w' → w.grownBy w' (Value.slice A xs.length c).ownBlock → K (a.put o.dst (.slice A' (xs.length + ys.length) c')) w') :
    o.wp P a w K Q := by
  obtain ⟨i0, hi, hz0, hz1, hz2⟩ := info_parts E.info
  have hb := E.hb
  have hle : xs.length + ys.length ≤ (xs.length + ys.length) * bytes := Nat.le_mul_of_pos_right _ hb
  rcases A2 with _ | ad
  · have hy : ys = [] := by
      rcases Nat.eq_zero_or_pos ys.length with h0 | h0
      · exact List.eq_nil_of_length_eq_zero h0
      · obtain ⟨b, off, h, _⟩ := hr h0; cases h
    subst hy
    have hrun : ∀ ty, (Builtin.append_ #[t, t] ty #[.slice A xs.length c, .slice none 0 c2]).run P w = .ok (.slice A xs.length c) w := by
      intro ty
      rcases hown.2 with ⟨hv, h0⟩ | ⟨g, cap, cur, hv, _, _, hnc, _⟩
      · rw [hv]; simp [Builtin.append_, run_underlying E.ht, sizeOf, typeInfo, hi, Builtin.lenOf, Builtin.firstCells]
      · rw [hv]; simp [Builtin.append_, run_underlying E.ht, sizeOf, typeInfo, hi, Builtin.lenOf, Builtin.firstCells, hnc, storeCells]
    unfold Oper.wp execOp
    simp only [List.length_nil] at hx
    simp only [ho, resolve, invoke, builtin, Sem.run_bind, Sem.run_pure, Result.andThen_ok, List.map_toArray, List.map_cons, List.map_nil, hs, hx, hrun]
    have := h A c w (by rw [List.append_nil]; exact hown) (Below.refl _ _) (World.grownBy.refl _ _)
    rw [List.length_nil, Nat.add_zero] at this
    exact this
  · have hcells : ∀ j u, (ys.map (Value.int k))[j]? = some u → w.cell? (ad.add j) = some u := by
      intro j u hu
      have hj : j < ys.length := by
        rcases Nat.lt_or_ge j ys.length with h | h
        · exact h
        · rw [List.getElem?_eq_none (by simpa using h)] at hu; cases hu
      obtain ⟨b, off, he, _, hc⟩ := hr (by omega)
      injection he with he
      subst he
      rw [nth_map hj] at hu
      rw [show (⟨b, off, none⟩ : Addr).add j = ⟨b, off + j, none⟩ by unfold Addr.add; split <;> simp_all, hc j hj]
      exact hu
    refine wp_append_own _ s x t ho base e i0 z 1 bytes E.ht hi hz0 hz1 hz2 E.hz (by decide) _ _ _ hs hown ad ys.length c2 (ys.map (Value.int k)) hx (by simp) hcells (by intro u hu; simp at hu; obtain ⟨_, _, rfl⟩ := hu; rfl) (by unfold maxLen; omega) hn hbase ?_
    intro v' w1 hown' hgrow _
    have hB : Below base w w1 := (Below.refl _ _).grown hgrow hbase (fun j hj => by
      rcases hown.form with ⟨rfl, rfl, rfl⟩ | ⟨g, rfl, hg, _⟩
      · simp [Value.ownBlock] at hj
      · simp [Value.ownBlock] at hj; omega)
    rw [← List.map_append] at hown'
    obtain ⟨A', c', rfl, ho'⟩ := ow_of_row hown' (by simp)
    exact h _ _ _ ho' hB hgrow
theorem wpList_appNg (E : ElTy P t e z bytes) {ops : Array Oper} {rest : List Oper} {o : Oper} {a : Act} {Q : Exit → Act → World → Prop} (w : World) (hgd : o.guard = none) (s x : Operand)
    (ho : o.op = .call { callee := .builtin .append, args := #[s, x], argTypes := #[t, t] })
    (base : Nat) (k : IntKind) (A : Option Addr) (c : Nat) (xs : List Int) (hs : a.eval s = .slice A xs.length c) (hown : Ow w base e k A c xs)
    (B : Nat) (A2 : Option Addr) (c2 : Nat) (ys : List Int) (hx : a.eval x = .slice A2 ys.length c2) (hr : Rd w B k A2 ys.length (nth ys))
    (hn : (xs.length + ys.length) * bytes ≤ 140737488355328) (hbase : base ≤ w.heap.size)
    (h : ∀ A' c' w', Ow w' base e k A' c' (xs ++ ys) → Below base w w' → w.grownBy w' (Value.slice A xs.length c).ownBlock → wpList P ops Q rest (a.put o.dst (.slice A' (xs.length + ys.length) c')) w') :
    wpList P ops Q (o :: rest) a w :=
  wpList_plain hgd fun _ hK => wp_appNg E w s x ho base k A c xs hs hown B A2 c2 ys hx hr hn hbase fun A' c' w' h1 h2 h3 => hK _ _ (h A' c' w' h1 h2 h3)
end
theorem own_apart {w : World} {base base' size size' n n' : Nat} {e e' : TypeId} {v v' : Value} {vs vs' : List Value} (h : w.ownsRow base e size v n vs) (h' : w.ownsRow base' e' size' v' n' vs') (hne : e ≠ e') :
    v.ownBlock = none ∨ v.ownBlock ≠ v'.ownBlock := by
  rcases h.2 with ⟨rfl, _⟩ | ⟨g, cap, cur, rfl, hb, hh, _⟩
  · exact .inl rfl
  · rcases h'.2 with ⟨rfl, _⟩ | ⟨g', cap', cur', rfl, hb', hh', _⟩
    · exact .inr (by simp [Value.ownBlock])
    · refine .inr fun e0 => ?_
      simp only [Value.ownBlock, Option.some.injEq] at e0
      subst e0
      rw [hh] at hh'
      simp only [Option.some.injEq, Obj.cells.injEq] at hh'
      exact hne hh'.2.1
/-- A row of another type abides the growth of this one. -/
theorem own_beside {w w' : World} {base base' size size' n n' : Nat} {e e' : TypeId} {v v' : Value} {vs vs' : List Value} (h : w.ownsRow base e size v n vs) (h' : w.ownsRow base' e' size' v' n' vs') (hne : e ≠ e') (hg : w.grownBy w' v'.ownBlock) :
    w'.ownsRow base e size v n vs := h.kept hg (own_apart h h' hne)
end Go.Proofs.Ytghpiofjejhegaa
