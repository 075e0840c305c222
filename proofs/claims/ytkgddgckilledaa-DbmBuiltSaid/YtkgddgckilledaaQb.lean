/- A region that draws its order, whose operations only read and whose callees only read or make memory: walked once, in the order of the text. No program in sight. -/
import Derived.Below
import Derived.BigQuiet
import Derived.Deep.Draws
import Derived.StillTail
namespace Go.Proofs.Ytkgddgckilledaa
open Go.RowKit
/-- A world in which all that was there in W is as it was. -/
structure After (W : World) where
  w : World
  below : Below W.heap.size W w
instance (W : World) : Nonempty (After W) := ⟨⟨W, Below.refl _ _⟩⟩
theorem After.cell {W : World} {p : Addr} {v : Value} (h : W.cell? p = some v) (x : After W) : x.w.cell? p = some v :=
  (x.below.cell (World.block_lt_of_cell? W p h)).trans h
theorem After.frozen {W : World} {p : Addr} {b : Bool} (h : W.frozen? p = b) (hp : p.block < W.heap.size) (x : After W) : x.w.frozen? p = b :=
  (x.below.frozen hp).trans h
theorem wp_region_after {P : Program} {id : Nat} {Q : Exit → Act → World → Prop} {a : Act} {W : World} {l : List Oper} (hm : P.follows .mixedOrders = true) (hB : Region.lexB .any l.toArray = true)
    (h : wpQuiet P l.toArray (fun w' => ∃ x : After W, w' = x.w) (fun a' => ∀ w', Below W.heap.size W w' → Q .normal a' w') l a) : (Code.region id l.toArray true).wp P Q a W := by
  refine wp_region_quiet (C := fun w' => ∃ x : After W, w' = x.w) hm hB ⟨⟨W.drew, (Below.refl _ _).drew⟩, rfl⟩ ?_
  have e : (fun a' => ∀ w', (∃ x : After W, w' = x.w) → Q .normal a' w') = (fun a' => ∀ w', Below W.heap.size W w' → Q .normal a' w') := by
    funext a'
    exact propext ⟨fun h w' hb => h w' ⟨⟨w', hb⟩, rfl⟩, fun h w' ⟨x, e⟩ => e ▸ h _ x.below⟩
  rw [e]
  simpa using h
/-- A callee that makes memory, met in a world behind W. -/
theorem after_of {P : Program} {f : FuncId} {args : Array Value} {W : World} {x : After W} {v : Value}
    (h : Calls P f args x.w fun e w' => e = .returned v ∧ Below x.w.heap.size x.w w') : Calls P f args x.w fun e w'' => e = .returned v ∧ ∃ y : After W, w'' = y.w :=
  h.mono fun _ w' ⟨he, hb⟩ => ⟨he, ⟨w', x.below.trans (hb.mono x.below.size)⟩, rfl⟩
/-- A callee that leaves the world alone. -/
theorem after_same {P : Program} {f : FuncId} {args : Array Value} {W : World} {x : After W} {v : Value}
    (h : Calls P f args x.w fun e w' => e = .returned v ∧ x.w = w') : Calls P f args x.w fun e w'' => e = .returned v ∧ ∃ y : After W, w'' = y.w :=
  h.mono fun _ _ ⟨he, hw⟩ => ⟨he, x, hw.symm⟩
/-- A callee that draws. -/
theorem after_drawn {P : Program} {f : FuncId} {args : Array Value} {W : World} {x : After W} {v : Value}
    (h : Calls P f args x.w fun e w' => e = .returned v ∧ ∃ n, w' = x.w.drewN n) : Calls P f args x.w fun e w'' => e = .returned v ∧ ∃ y : After W, w'' = y.w :=
  h.mono fun _ w' ⟨he, _, hw⟩ => ⟨he, ⟨w', hw ▸ x.below.trans ⟨rfl, rfl, rfl, Nat.le_refl _, fun _ _ => rfl⟩⟩, rfl⟩
theorem below_cell {W w : World} (hb : Below W.heap.size W w) {p : Addr} {v : Value} (h : W.cell? p = some v) : w.cell? p = some v :=
  (hb.cell (World.block_lt_of_cell? W p h)).trans h
end Go.Proofs.Ytkgddgckilledaa
namespace Go.Proofs.Ytkgddgckilledaa
open Go.RowKit
section
variable {P : Program} {ops : Array Oper} {md : Region.Mode} {Q : Exit → Act → World → Prop} {R : Act → World → Prop}
def mixQ (Q : Exit → Act → World → Prop) (R : Act → World → Prop) : Exit → Act → World → Prop
  | .normal, a, w => R a w
  | e, a, w => Q e a w
theorem mixQ_normal {a : Act} {w : World} (h : R a w) : mixQ Q R .normal a w := h
theorem wp_mix {o : Oper} {a : Act} {w : World} {K : Act → World → Prop} (h : o.wp P a w K (mixQ Q R)) : o.wp P a w K Q := by
  unfold Oper.wp at *
  generalize (execOp a.eval o).run P w = r at *
  cases r with
  | ok n w' =>
    cases n <;> simp only [Oper.upon] at h ⊢
    case enter f args => exact Calls.mono h (fun e w'' he => by cases e <;> exact he)
    all_goals exact h
  | halt x w' => cases x <;> simp only [Oper.upon] at h ⊢ <;> exact h
def mark : Nat → Nat → Array Bool → Array Bool
  | 0, _, l => l
  | f + 1, k, l => mark f (k + 1) (l.setIfInBounds k true)
def forcedB (md : Region.Mode) (ops : Array Oper) : Nat → Nat → Array Bool → Bool
  | 0, _, _ => true
  | g + 1, k, listed => decide (Region.ready md ops listed = [k]) && forcedB md ops g (k + 1) (listed.setIfInBounds k true)
theorem wpAny_of_forced {F : Nat} : ∀ (l : List Oper) (k : Nat) (listed : Array Bool) (a : Act) (w : World), (∀ j, j < l.length → l[j]? = ops[k + j]?) →
    forcedB md ops l.length k listed = true → wpList P ops (mixQ Q (fun a w => wpAny P md ops Q F (mark l.length k listed) a w)) l a w → wpAny P md ops Q (l.length + F) listed a w
  | [], k, listed, a, w, _, _, h => by
    rw [List.length_nil, Nat.zero_add]; exact h
  | o :: l, k, listed, a, w, hl, hB, h => by
    have h0 : ops[k]? = some o := by simpa using (hl 0 (by simp)).symm
    simp only [List.length_cons, forcedB, Bool.and_eq_true, decide_eq_true_eq] at hB
    rw [List.length_cons, show l.length + 1 + F = (l.length + F) + 1 by omega]
    refine ⟨fun h1 => (by rw [hB.1] at h1; cases h1), fun i hi => ?_⟩
    rw [hB.1] at hi
    have hik : i = k := by simpa using hi
    subst hik
    have ih : ∀ a' w', wpList P ops (mixQ Q (fun a w => wpAny P md ops Q F (mark l.length (i + 1) (listed.setIfInBounds i true)) a w)) l a' w' → wpAny P md ops Q (l.length + F) (listed.setIfInBounds i true) a' w' := fun a' w' h' =>
      wpAny_of_forced l (i + 1) _ a' w' (fun j hj => by have := hl (j + 1) (by simp; omega); simpa [Nat.add_assoc, Nat.add_comm 1 j] using this) hB.2 h'
    unfold wpOp
    simp only [h0]
    simp only [wpList] at h
    split
    · rename_i hw
      rw [if_pos hw] at h
      rcases h with h | h
      · exact .inl (Oper.wp_mono ih (wp_mix h))
      · exact .inr h
    · rename_i hw
      rw [if_neg hw] at h
      exact ih _ _ h
/-! ### A quiet stretch ahead of operation n -/
def sinkFrom (md : Region.Mode) (ops : Array Oper) (k n : Nat) : Bool :=
  (List.range n).all fun i => decide (i < k) || (List.range (n + 1)).any fun j => decide (i < j) && Region.waitsFor md ops j i
def chainFrom (md : Region.Mode) (ops : Array Oper) (n : Nat) : Bool :=
  (List.range ops.size).all fun t => decide (t ≤ n) || (List.range t).any fun j => decide (n ≤ j) && Region.waitsFor md ops t j
def closedB (md : Region.Mode) (ops : Array Oper) (listed : Array Bool) : Bool :=
  (List.range ops.size).all fun j => match ops[j]? with
    | some oj => !listed.getD j false || oj.after.all fun e => !Region.binds md e || listed.getD e.on false
    | none => true
def tailB (ops : Array Oper) (n : Nat) (listed : Array Bool) : Bool := (List.range ops.size).all fun t => decide (t < n) || !listed.getD t true
def invB (md : Region.Mode) (ops : Array Oper) (n : Nat) (listed : Array Bool) : Bool := decide (listed.size = ops.size) && closedB md ops listed && tailB ops n listed
theorem headInv_of {n : Nat} {listed : Array Bool} (h : invB md ops n listed = true) : HeadInv md ops n listed := by
  simp only [invB, Bool.and_eq_true, decide_eq_true_eq] at h
  obtain ⟨⟨h1, h2⟩, h3⟩ := h
  refine ⟨h1, fun j oj hj hl e he hb => ?_, fun t ht hts => ?_⟩
  · have hjs : j < ops.size := (Array.getElem?_eq_some_iff.1 hj).1
    have := List.all_eq_true.1 h2 j (List.mem_range.2 hjs)
    simp only [hj, hl, Bool.not_true, Bool.false_or] at this
    have h4 := Array.all_eq_true_iff_forall_mem.1 this e he
    simpa [hb] using h4
  · have := List.all_eq_true.1 h3 t (List.mem_range.2 hts)
    simp only [Bool.or_eq_true, decide_eq_true_eq] at this
    rcases this with h | h
    · omega
    · simpa using h
theorem tail_waits_from {k n : Nat} {listed : Array Bool} (hs : sinkFrom md ops k n = true) (hc : chainFrom md ops n = true) (inv : HeadInv md ops n listed) :
    ∀ (d i : Nat), n - i = d → k ≤ i → i < n → listed.getD i true = false → ∀ t, n ≤ t → t ∉ Region.ready md ops listed := by
  intro d
  induction d using Nat.strongRecOn with
  | _ d ih =>
    intro i hd hk hi hun t ht hr
    obtain ⟨_, ot, hot, hall⟩ := mem_ready.1 hr
    have htlt : t < ops.size := (Array.getElem?_eq_some_iff.1 hot).1
    by_cases htn : t = n
    · subst htn
      have h1 := List.all_eq_true.1 hs i (List.mem_range.2 hi)
      simp only [Bool.or_eq_true, decide_eq_true_eq] at h1
      rcases h1 with h1 | h1
      · omega
      obtain ⟨j, hj, hj2⟩ := List.any_eq_true.1 h1
      simp only [Bool.and_eq_true, decide_eq_true_eq] at hj2
      obtain ⟨oj, hoj, e, he, hb, hon⟩ := Region.waitsFor_spec hj2.2
      have hjle : j ≤ t := by have := List.mem_range.1 hj; omega
      by_cases hjt : j = t
      · subst hjt
        have : oj = ot := Option.some.inj (hoj.symm.trans hot)
        subst this
        have h2 := hall e he hb
        rw [hon, getD_both hun] at h2
        cases h2
      · cases hl : listed.getD j false with
        | true =>
          have h2 := inv.closed j oj hoj hl e he hb
          rw [hon, getD_both hun] at h2
          cases h2
        | false =>
          have hjs : j < listed.size := by rw [inv.size]; omega
          exact ih (t - j) (by omega) j rfl (by omega) (by omega) (getD_in hjs hl) t (Nat.le_refl _) hr
    · have h1 := List.all_eq_true.1 hc t (List.mem_range.2 htlt)
      simp only [Bool.or_eq_true, decide_eq_true_eq] at h1
      rcases h1 with h1 | h1
      · omega
      · obtain ⟨j, hj, hj2⟩ := List.any_eq_true.1 h1
        simp only [Bool.and_eq_true, decide_eq_true_eq] at hj2
        obtain ⟨o', ho', e, he, hb, hon⟩ := Region.waitsFor_spec hj2.2
        have : o' = ot := Option.some.inj (ho'.symm.trans hot)
        subst this
        have h2 := hall e he hb
        have := List.mem_range.1 hj
        rw [hon, getD_both (inv.tail j (by omega) (by omega))] at h2
        cases h2
def wpAnyLQ (P : Program) (md : Region.Mode) (ops : Array Oper) (C : World → Prop) (n : Nat) (L : Array Bool → Act → Prop) : Nat → Array Bool → Act → Prop
  | 0, listed, a => L listed a
  | f + 1, listed, a =>
    Region.ready md ops listed ≠ [] ∧ ∀ i ∈ Region.ready md ops listed, i < n ∧ qOp P ops C i (wpAnyLQ P md ops C n L f (listed.setIfInBounds i true)) a
theorem wpAny_of_headQ {C : World → Prop} {n g : Nat} {L : Array Bool → Act → Prop} (hL : ∀ listed a w, C w → L listed a → wpAny P md ops Q g listed a w) :
    ∀ (f : Nat) (listed : Array Bool) (a : Act) (w : World), C w → wpAnyLQ P md ops C n L f listed a → wpAny P md ops Q (f + g) listed a w
  | 0, listed, a, w, hw, h => by rw [Nat.zero_add]; exact hL _ _ _ hw h
  | f + 1, listed, a, w, hw, h => by
    rw [show f + 1 + g = (f + g) + 1 by omega]
    exact ⟨fun h0 => absurd h0 h.1, fun i hi => wpOp_of_qOp hw (fun a' w' hw' h' => wpAny_of_headQ hL f _ a' w' hw' h') (h.2 i hi).2⟩
theorem wpAnyLQ_first {C : World → Prop} {k n i : Nat} {oi : Oper} {v : Value} {L : Array Bool → Act → Prop} (hi : ops[i]? = some oi) (hsel : ∀ (j : Nat) (o : Oper) cs b, ops[j]? = some o → o.op ≠ .select cs b)
    (hs : sinkFrom md ops k n = true) (hc : chainFrom md ops n = true) (hki : k ≤ i) (hin : i < n)
    (hdone : ∀ listed a, L listed a → ∀ j ∈ Region.ready md ops listed, n ≤ j) :
    ∀ (f : Nat) (listed : Array Bool) (a : Act), HeadInv md ops n listed →
      (∀ j oj, ops[j]? = some oj → j ≠ i → listed.getD j true = false → (∀ e ∈ oj.after, Region.binds md e = true → e.on ≠ i) → oi.apart ops oj = true) →
      i ∈ Region.ready md ops listed → YieldsIn P ops C oi v a →
      wpAnyLQ P md ops C n L f (listed.setIfInBounds i true) (a.put oi.dst v) → wpAnyLQ P md ops C n L (f + 1) listed a := by
  intro f
  induction f with
  | zero =>
    intro listed a inv _ hr hy H
    have hun := (mem_ready.1 hr).1
    refine ⟨fun h => (by rw [h] at hr; cases hr), fun j hj => ?_⟩
    have hjn : j < n := by
      rcases Nat.lt_or_ge j n with h | h
      · exact h
      · exact absurd hj (tail_waits_from hs hc inv _ i rfl hki hin hun j h)
    refine ⟨hjn, ?_⟩
    by_cases hji : j = i
    · subst hji; exact hy.qOp hi H
    · have := hdone _ _ H j (ready_mono hj hji)
      omega
  | succ f ih =>
    intro listed a inv hfree hr hy H
    have hun := (mem_ready.1 hr).1
    refine ⟨fun h => (by rw [h] at hr; cases hr), fun j hj => ?_⟩
    have hjn : j < n := by
      rcases Nat.lt_or_ge j n with h | h
      · exact h
      · exact absurd hj (tail_waits_from hs hc inv _ i rfl hki hin hun j h)
    refine ⟨hjn, ?_⟩
    by_cases hji : j = i
    · subst hji; exact hy.qOp hi H
    · have h1 := (H.2 j (ready_mono hj hji)).2
      obtain ⟨hjun, oj, hoj, hall⟩ := mem_ready.1 hj
      have hnot : ∀ e ∈ oj.after, Region.binds md e = true → e.on ≠ i := fun e he hb heq => by
        have h1 := hall e he hb
        rw [heq, getD_both hun] at h1
        cases h1
      have h2 := qOp_put hoj (hfree j oj hoj hji hjun hnot) (fun cs b => hsel i oi cs b hi) (fun cs b => hsel j oj cs b hoj) hy h1
      have hfree' : ∀ k ok, ops[k]? = some ok → k ≠ i → (listed.setIfInBounds j true).getD k true = false →
          (∀ e ∈ ok.after, Region.binds md e = true → e.on ≠ i) → oi.apart ops ok = true := fun k ok hk hki hun hno => by
        refine hfree k ok hk hki ?_ hno
        by_cases hjk : j = k
        · subst hjk; exact hjun
        · rw [getD_set_ne true hjk] at hun; exact hun
      refine qOp_mono (fun a' h3 => ih (listed.setIfInBounds j true) a' (inv.set hj hjn) hfree' (ready_mono hr (Ne.symm hji)) h3.1 ?_) h2
      rw [Array.setIfInBounds_comm _ _ hji]
      exact h3.2
def headB (md : Region.Mode) (ops : Array Oper) : Nat → Nat → Array Bool → Bool
  | 0, _, _ => true
  | f + 1, k, listed => (Region.ready md ops listed).contains k && Region.free md ops listed k && headB md ops f (k + 1) (listed.setIfInBounds k true)
theorem sinkFrom_more {k k' n : Nat} (h : sinkFrom md ops k n = true) (hk : k ≤ k') : sinkFrom md ops k' n = true := by
  unfold sinkFrom at *
  rw [List.all_eq_true] at *
  intro i hi
  have := h i hi
  simp only [Bool.or_eq_true, decide_eq_true_eq] at this ⊢
  rcases this with h | h
  · left; omega
  · right; exact h
theorem wpAnyLQ_lex {C : World → Prop} {n : Nat} {Lq : Act → Prop} {done : Array Bool} (hsel : Region.noSelect ops = true) (hc : chainFrom md ops n = true)
    (hdone : ∀ j ∈ Region.ready md ops done, n ≤ j) :
    ∀ (l : List Oper) (k : Nat) (listed : Array Bool) (a : Act), (∀ j, j < l.length → l[j]? = ops[k + j]?) → k + l.length = n → sinkFrom md ops k n = true → HeadInv md ops n listed →
    mark l.length k listed = done → headB md ops l.length k listed = true → wpQuiet P ops C Lq l a →
    wpAnyLQ P md ops C n (fun listed' a' => listed' = done ∧ Lq a') l.length listed a
  | [], k, listed, a, _, hk, _, _, hm, hB, h => ⟨hm, h⟩
  | o :: l, k, listed, a, hl, hk, hs, inv, hm, hB, h => by
    have h0 : ops[k]? = some o := by simpa using (hl 0 (by simp)).symm
    simp only [List.length_cons, headB, Bool.and_eq_true] at hB
    obtain ⟨⟨hr, hf⟩, hB'⟩ := hB
    have hkn : k < n := by simp only [List.length_cons] at hk; omega
    have hr' : k ∈ Region.ready md ops listed := by simpa using hr
    have hst : qOp P ops C k (wpQuiet P ops C Lq l) a := by unfold qOp; simp only [h0]; exact h
    obtain ⟨v, hy, hK⟩ := yieldsIn_of_qOp h0 hst
    exact wpAnyLQ_first (L := fun listed' a' => listed' = done ∧ Lq a') h0 (Region.noSelect_spec hsel) hs hc (Nat.le_refl k) hkn (fun listed' a' hL => by rw [hL.1]; exact hdone) l.length listed a inv (Region.free_spec h0 hf) hr' hy
      (wpAnyLQ_lex hsel hc hdone l (k + 1) _ _ (fun j hj => by have := hl (j + 1) (by simp; omega); simpa [Nat.add_assoc, Nat.add_comm 1 j] using this) (by simp only [List.length_cons] at hk; omega)
        (sinkFrom_more hs (by omega)) (inv.set hr' hkn) hm hB' hK)
/-! ### Stretches and forced operations in turn -/
def After.cls (w : World) : World → Prop := fun w' => ∃ x : After w, w' = x.w
/-- (f, g): f operations that are quiet, then g that are forced. -/
def wpMix (P : Program) (ops : Array Oper) (Q : Exit → Act → World → Prop) : List (Nat × Nat) → List Oper → Act → World → Prop
  | [], l, a, w => wpQuiet P ops (fun w' => ∃ x : After w, w' = x.w) (fun a' => ∀ w', Below w.heap.size w w' → Q .normal a' w') l a
  | (f, g) :: rest, l, a, w => wpQuiet P ops (fun w' => ∃ x : After w, w' = x.w)
      (fun a' => ∀ w', Below w.heap.size w w' → wpList P ops (mixQ Q (wpMix P ops Q rest (l.drop (f + g)))) ((l.drop f).take g) a' w') (l.take f) a
def mixB (md : Region.Mode) (ops : Array Oper) : List (Nat × Nat) → Nat → Array Bool → Bool
  | [], k, listed => Region.lexFrom md ops (ops.size - k) k listed
  | (f, g) :: rest, k, listed => decide (0 < g) && decide (k + f + g ≤ ops.size) && invB md ops (k + f) listed && sinkFrom md ops k (k + f) && chainFrom md ops (k + f) && headB md ops f k listed &&
      forcedB md ops g (k + f) (mark f k listed) && mixB md ops rest (k + f + g) (mark g (k + f) (mark f k listed))
theorem mix_sound (hsel : Region.noSelect ops = true) : ∀ (segs : List (Nat × Nat)) (l : List Oper) (k : Nat) (listed : Array Bool) (a : Act) (w w0 : World), (∀ j, l[j]? = ops[k + j]?) → k ≤ ops.size →
    Below w.heap.size w w0 → mixB md ops segs k listed = true → wpMix P ops Q segs l a w → wpAny P md ops Q l.length listed a w0
  | [], l, k, listed, a, w, w0, hl, hk, hb, hB, h => by
    have hlen : l.length = ops.size - k := by
      rcases Nat.lt_trichotomy l.length (ops.size - k) with h1 | h1 | h1
      · have := hl l.length
        rw [List.getElem?_eq_none (Nat.le_refl _)] at this
        have h2 : k + l.length < ops.size := by omega
        rw [Array.getElem?_eq_getElem h2] at this
        cases this
      · exact h1
      · have := hl (ops.size - k)
        rw [Array.getElem?_eq_none (by omega), List.getElem?_eq_getElem h1] at this
        cases this
    have hB' : Region.lexFrom md ops l.length k listed = true := by rw [hlen]; exact hB
    exact wpAny_of_quiet (C := fun w' => ∃ x : After w, w' = x.w) (Q := fun a' => ∀ w', Below w.heap.size w w' → Q .normal a' w') (fun a' w' ⟨x, e⟩ hq => hq w' (e ▸ x.below)) _ _ _ _ ⟨⟨w0, hb⟩, rfl⟩ (wpAnyQ_lex hsel l k listed a hl hB' h)
  | (f, g) :: rest, l, k, listed, a, w, w0, hl, hk, hb, hB, h => by
    simp only [mixB, Bool.and_eq_true, decide_eq_true_eq] at hB
    obtain ⟨⟨⟨⟨⟨⟨⟨hg, hsz⟩, hinv⟩, hs⟩, hc⟩, hhead⟩, hforced⟩, hrest⟩ := hB
    have hlen : l.length = ops.size - k := by
      rcases Nat.lt_trichotomy l.length (ops.size - k) with h1 | h1 | h1
      · have := hl l.length
        rw [List.getElem?_eq_none (Nat.le_refl _)] at this
        have h2 : k + l.length < ops.size := by omega
        rw [Array.getElem?_eq_getElem h2] at this
        cases this
      · exact h1
      · have := hl (ops.size - k)
        rw [Array.getElem?_eq_none (by omega), List.getElem?_eq_getElem h1] at this
        cases this
    have hf : (l.take f).length = f := by rw [List.length_take]; omega
    have hgl : ((l.drop f).take g).length = g := by rw [List.length_take, List.length_drop]; omega
    have hdl : (l.drop (f + g)).length = l.length - (f + g) := by rw [List.length_drop]
    have hdone : ∀ j ∈ Region.ready md ops (mark f k listed), k + f ≤ j := by
      obtain ⟨g', rfl⟩ : ∃ g', g = g' + 1 := ⟨g - 1, by omega⟩
      simp only [forcedB, Bool.and_eq_true, decide_eq_true_eq] at hforced
      intro j hj
      rw [hforced.1] at hj
      have : j = k + f := by simpa using hj
      omega
    have hq := wpAnyLQ_lex (P := P) (C := fun w' => ∃ x : After w, w' = x.w) (n := k + f) hsel hc hdone (l.take f) k listed a
      (fun j hj => by rw [hf] at hj; rw [List.getElem?_take_of_lt hj]; exact hl j) (by rw [hf]) hs (headInv_of hinv) (by rw [hf]) (by rw [hf]; exact hhead) h
    rw [hf] at hq
    have hfin := wpAny_of_headQ (P := P) (Q := Q) (g := g + (l.length - (f + g))) (fun listed' a' w' (hw' : ∃ x : After w, w' = x.w) hL => by
      obtain ⟨rfl, hL⟩ := hL
      obtain ⟨x, rfl⟩ := hw'
      have hL := hL x.w x.below
      have := wpAny_of_forced (P := P) (Q := Q) (md := md) (ops := ops) (F := l.length - (f + g)) ((l.drop f).take g) (k + f) (mark f k listed) a' x.w (fun j hj => by
        rw [hgl] at hj
        rw [List.getElem?_take_of_lt hj, List.getElem?_drop, Nat.add_assoc]
        exact hl (f + j)) (by rw [hgl]; exact hforced) ?_
      · rw [hgl] at this; exact this
      · rw [hgl]
        refine wpList_mixmono (fun a'' w'' hm => ?_) _ _ _ hL
        rw [← hdl]
        exact mix_sound hsel rest (l.drop (f + g)) (k + f + g) _ a'' w'' w'' (fun j => by rw [List.getElem?_drop]; have := hl (f + g + j); rw [this]; congr 1; omega) hsz (Below.refl _ _) hrest hm) f listed a w0 ⟨⟨w0, hb⟩, rfl⟩ hq
    rw [show l.length = f + (g + (l.length - (f + g))) by omega]
    exact hfin
where
  wpList_mixmono {P : Program} {ops : Array Oper} {Q : Exit → Act → World → Prop} {R R' : Act → World → Prop} (h : ∀ a w, R a w → R' a w) : ∀ (l : List Oper) (a : Act) (w : World), wpList P ops (mixQ Q R) l a w → wpList P ops (mixQ Q R') l a w
    | [], a, w, hh => h _ _ hh
    | o :: l, a, w, hh => by
      simp only [wpList] at hh ⊢
      split
      · rename_i hw
        rw [if_pos hw] at hh
        rcases hh with hh | hh
        · left
          have h1 := Oper.wp_mono (wpList_mixmono h l) hh
          unfold Oper.wp at *
          generalize (execOp a.eval o).run P w = r at *
          cases r with
          | ok n w' =>
            cases n <;> simp only [Oper.upon] at h1 ⊢
            case enter f args => exact Calls.mono h1 (fun e w'' he => by cases e <;> exact he)
            all_goals exact h1
          | halt x w' => cases x <;> simp only [Oper.upon] at h1 ⊢ <;> exact h1
        · exact .inr hh
      · rename_i hw
        rw [if_neg hw] at hh
        exact wpList_mixmono h l _ _ hh
theorem wp_region_mix {id : Nat} {a : Act} {W : World} {l : List Oper} (segs : List (Nat × Nat)) (hm : P.follows .mixedOrders = true)
    (hB : (Region.noSelect l.toArray && mixB .any l.toArray segs 0 (Array.replicate l.toArray.size false)) = true)
    (h : wpMix P l.toArray Q segs l a W) : (Code.region id l.toArray true).wp P Q a W := by
  simp only [Bool.and_eq_true] at hB
  refine wp_region_any hm ?_
  have := mix_sound (P := P) (Q := Q) (md := .any) hB.1 segs l 0 (Array.replicate l.toArray.size false) a W W.drew (fun j => by simp) (by simp) (Below.refl _ _).drew hB.2 h
  simpa using this
end
end Go.Proofs.Ytkgddgckilledaa
namespace Go.Proofs.Ytkgddgckilledaa
open Go.RowKit
set_option linter.unusedSimpArgs false
section
variable {P : Program} {ops : Array Oper} {md : Region.Mode} {Q : Exit → Act → World → Prop} {T : Bool → World → Prop} {t : Nat}
theorem value_no_enter {α : Type} (s : Sem α) (g : α → Next) (f : FuncId) (args : Array Value) (hg : ∀ a, g a ≠ .enter f args) (w' : World) :
    ∀ w, (s.bind fun v => Sem.pure (g v)).run P w ≠ .ok (.enter f args) w' := by
  induction s with
  | pure a => intro w h; simp [Sem.bind, Sem.run] at h; exact hg _ h.1
  | halt x => intro w h; simp [Sem.bind] at h
  | load m a k ih =>
    intro w h
    simp only [Sem.bind, Sem.run] at h
    split at h
    · exact ih _ _ h
    · split at h
      · exact ih _ _ h
      · cases h
  | store m a v k ih =>
    intro w h
    simp only [Sem.bind] at h
    cases v <;> simp only [Sem.run] at h <;> first | (cases h; done) | skip
    all_goals
      split at h
      · split at h
        · cases h
        · exact ih _ h
      · split at h
        · exact ih _ h
        · cases h
  | getObj r k ih =>
    intro w h
    simp only [Sem.bind, Sem.run] at h
    split at h
    · cases h
    · exact ih _ _ h
    · cases h
  | setObj r o k ih =>
    intro w h
    simp only [Sem.bind, Sem.run] at h
    split at h
    · cases h
    · exact ih _ h
    · cases h
  | choose q k ih =>
    intro w h
    simp only [Sem.bind, Sem.run] at h
    split at h
    · exact ih _ _ h
    · exact ih _ _ h
  | _ => 
    intro w h
    simp only [Sem.bind, Sem.run] at h
    rename_i ih
    first | exact ih _ h | exact ih _ _ h
/-- Operations that never enter a function. -/
def plainB : Op → Bool
  | .move _ | .assign _ | .pick _ _ _ | .load _ _ | .fieldAddr _ _ _ | .indexAddr _ _ _ | .binOp _ _ _ _ _ => true
  | _ => false
theorem no_enter {o : Oper} (h : plainB o.op = true) (ρ : Operand → Value) (w : World) (f : FuncId) (args : Array Value) (w' : World) : (execOp ρ o).run P w ≠ .ok (.enter f args) w' := by
  unfold execOp
  split <;> (rename_i ho; rw [ho] at h) <;> first | (simp [plainB] at h; done) | exact value_no_enter _ (fun v => Next.value v) _ _ (fun _ h => by cases h) _ _ | (intro h; simp [pure, Sem.run] at h; done) | skip
  · exact value_no_enter _ (fun v => Next.value (if v = true then _ else _)) _ _ (fun _ h => by cases h) _ _
theorem check_no_enter {o : Oper} {x : Operand} {p : Addr} (h : o.op = .nilCheck x) {ρ : Operand → Value} (hx : ρ x = .pointer (some p)) (w : World) (f : FuncId) (args : Array Value) (w' : World) :
    (execOp ρ o).run P w ≠ .ok (.enter f args) w' := by
  unfold execOp
  rw [h]
  simp only [hx]
  intro h
  simp [pure, Sem.run] at h
/-- What is asked of operation i, in either class; t is the one that turns. -/
def TAt (P : Program) (T : Bool → World → Prop) (t i : Nat) (o : Oper) (a : Act) (v : Value) : Prop :=
  ∀ b w, (i = t → b = false) → T b w → o.quietAt P a (T (b || decide (i = t))) w v ∧ (i = t → ∃ f args w', (execOp a.eval o).run P w = .ok (.enter f args) w')
def YT (P : Program) (ops : Array Oper) (T : Bool → World → Prop) (t i : Nat) (o : Oper) (v : Value) (a : Act) : Prop :=
  (Region.wanted o (yielded ops a.tmps) = true ∧ TAt P T t i o a v) ∨ (Region.wanted o (yielded ops a.tmps) = false ∧ v = undef ∧ i ≠ t)
def tOp (P : Program) (ops : Array Oper) (T : Bool → World → Prop) (t i : Nat) (K : Act → Prop) (a : Act) : Prop := ∃ o v, ops[i]? = some o ∧ YT P ops T t i o v a ∧ K (a.put o.dst v)
theorem tOp_mono {i : Nat} {a : Act} {K K' : Act → Prop} (h : ∀ a, K a → K' a) (hh : tOp P ops T t i K a) : tOp P ops T t i K' a :=
  let ⟨o, v, h1, h2, h3⟩ := hh
  ⟨o, v, h1, h2, h _ h3⟩
theorem YT.of_same {i : Nat} {o : Oper} {v : Value} {a a' : Act} (hy : YT P ops T t i o v a) (he : execOp a'.eval o = execOp a.eval o)
    (hw : Region.wanted o (yielded ops a'.tmps) = Region.wanted o (yielded ops a.tmps)) : YT P ops T t i o v a' := by
  unfold YT TAt Oper.quietAt at *
  rw [he, hw]
  exact hy
theorem tOp_put {i j : Nat} {oi oj : Oper} {v : Value} (hj : ops[j]? = some oj) (hap : oi.apart ops oj = true)
    (hsi : ∀ cs b, oi.op ≠ .select cs b) (hsj : ∀ cs b, oj.op ≠ .select cs b) {K : Act → Prop} {a : Act} (hy : YT P ops T t i oi v a) (h : tOp P ops T t j K (a.put oi.dst v)) :
    tOp P ops T t j (fun a' => YT P ops T t i oi v a' ∧ K (a'.put oi.dst v)) a := by
  obtain ⟨h1, h2, h3⟩ := Oper.apart_spec hap
  obtain ⟨o, u, ho, hu, hK⟩ := h
  have : o = oj := Option.some.inj (ho.symm.trans hj)
  subst this
  refine ⟨o, u, hj, hu.of_same (execOp_put o hsj a oi.dst v h1).symm (wanted_put o a oi.dst v h1).symm, hy.of_same (execOp_put oi hsi a o.dst u h3) (wanted_put oi a o.dst u h3), ?_⟩
  rw [← Act.put_comm a v u h2]
  exact hK
theorem wpOp_of_tOp {i : Nat} {a : Act} {K : Act → Prop} {K' : Act → World → Prop} {w : World} {b : Bool} (hT : T b w) (hi : i = t → b = false)
    (h : ∀ a w', T (b || decide (i = t)) w' → K a → K' a w') (hh : tOp P ops T t i K a) : wpOp P ops Q i K' a w := by
  obtain ⟨o, v, ho, hy, hK⟩ := hh
  unfold wpOp
  simp only [ho]
  rcases hy with ⟨hw, hy⟩ | ⟨hw, rfl, hne⟩
  · rw [if_pos hw]
    left
    by_cases hit : i = t
    · obtain ⟨h1, h2⟩ := hy b w hi hT
      obtain ⟨f, args, w', hr⟩ := h2 hit
      unfold Oper.quietAt at h1
      unfold Oper.wp
      rw [hr] at h1 ⊢
      simp only [Oper.quietUpon] at h1
      simp only [Oper.upon]
      obtain ⟨e1, hc⟩ := h1
      rw [e1]
      exact hc.mono fun e w'' ⟨he, hw''⟩ => by subst he; exact h _ _ hw'' hK
    · have hb : (b || decide (i = t)) = b := by rw [decide_eq_false hit, Bool.or_false]
      rw [hb] at h
      refine Oper.wp_of_quiet (C := T b) hT (K := fun a' => K a') h ⟨v, fun w hw => ?_, hK⟩
      have := (hy b w (fun e => absurd e hit) hw).1
      rwa [hb] at this
  · rw [if_neg (by rw [hw]; exact Bool.false_ne_true)]
    have hb : (b || decide (i = t)) = b := by rw [decide_eq_false hne, Bool.or_false]
    rw [hb] at h
    exact h _ _ hT hK
def wpAnyT (P : Program) (md : Region.Mode) (ops : Array Oper) (T : Bool → World → Prop) (t n : Nat) (L : Array Bool → Act → Prop) : Nat → Array Bool → Act → Prop
  | 0, listed, a => L listed a
  | f + 1, listed, a => Region.ready md ops listed ≠ [] ∧ ∀ i ∈ Region.ready md ops listed, i < n ∧ tOp P ops T t i (wpAnyT P md ops T t n L f (listed.setIfInBounds i true)) a
theorem wpAny_of_headT {n g : Nat} {L : Array Bool → Act → Prop} (hL : ∀ listed a w, T (listed.getD t false) w → L listed a → wpAny P md ops Q g listed a w) :
    ∀ (f : Nat) (listed : Array Bool) (a : Act) (w : World), T (listed.getD t false) w → wpAnyT P md ops T t n L f listed a → wpAny P md ops Q (f + g) listed a w
  | 0, listed, a, w, hw, h => by rw [Nat.zero_add]; exact hL _ _ _ hw h
  | f + 1, listed, a, w, hw, h => by
    rw [show f + 1 + g = (f + g) + 1 by omega]
    refine ⟨fun h0 => absurd h0 h.1, fun i hi => ?_⟩
    have hun := (mem_ready.1 hi).1
    have hlt : i < listed.size := by
      rcases Nat.lt_or_ge i listed.size with h' | h'
      · exact h'
      · simp [Array.getElem?_eq_none h'] at hun
    refine wpOp_of_tOp hw (fun e => by subst e; exact getD_both hun) (fun a' w' hw' h' => wpAny_of_headT hL f _ a' w' ?_ h') (h.2 i hi).2
    have : (listed.setIfInBounds i true).getD t false = (listed.getD t false || decide (i = t)) := by
      by_cases hit : i = t
      · subst hit
        rw [decide_eq_true rfl, Bool.or_true]
        simp [hlt]
      · rw [decide_eq_false hit, Bool.or_false]
        exact getD_set_ne false hit
    rw [this]
    exact hw'
theorem wpAnyT_first {k n i : Nat} {oi : Oper} {v : Value} {L : Array Bool → Act → Prop} (hi : ops[i]? = some oi) (hsel : ∀ (j : Nat) (o : Oper) cs b, ops[j]? = some o → o.op ≠ .select cs b)
    (hs : sinkFrom md ops k n = true) (hc : chainFrom md ops n = true) (hki : k ≤ i) (hin : i < n)
    (hdone : ∀ listed a, L listed a → ∀ j ∈ Region.ready md ops listed, n ≤ j) :
    ∀ (f : Nat) (listed : Array Bool) (a : Act), HeadInv md ops n listed →
      (∀ j oj, ops[j]? = some oj → j ≠ i → listed.getD j true = false → (∀ e ∈ oj.after, Region.binds md e = true → e.on ≠ i) → oi.apart ops oj = true) →
      i ∈ Region.ready md ops listed → YT P ops T t i oi v a →
      wpAnyT P md ops T t n L f (listed.setIfInBounds i true) (a.put oi.dst v) → wpAnyT P md ops T t n L (f + 1) listed a := by
  intro f
  induction f with
  | zero =>
    intro listed a inv _ hr hy H
    have hun := (mem_ready.1 hr).1
    refine ⟨fun h => (by rw [h] at hr; cases hr), fun j hj => ?_⟩
    have hjn : j < n := by
      rcases Nat.lt_or_ge j n with h | h
      · exact h
      · exact absurd hj (tail_waits_from hs hc inv _ i rfl hki hin hun j h)
    refine ⟨hjn, ?_⟩
    by_cases hji : j = i
    · subst hji; exact ⟨oi, v, hi, hy, H⟩
    · have := hdone _ _ H j (ready_mono hj hji)
      omega
  | succ f ih =>
    intro listed a inv hfree hr hy H
    have hun := (mem_ready.1 hr).1
    refine ⟨fun h => (by rw [h] at hr; cases hr), fun j hj => ?_⟩
    have hjn : j < n := by
      rcases Nat.lt_or_ge j n with h | h
      · exact h
      · exact absurd hj (tail_waits_from hs hc inv _ i rfl hki hin hun j h)
    refine ⟨hjn, ?_⟩
    by_cases hji : j = i
    · subst hji; exact ⟨oi, v, hi, hy, H⟩
    · have h1 := (H.2 j (ready_mono hj hji)).2
      obtain ⟨hjun, oj, hoj, hall⟩ := mem_ready.1 hj
      have hnot : ∀ e ∈ oj.after, Region.binds md e = true → e.on ≠ i := fun e he hb heq => by
        have h1 := hall e he hb
        rw [heq, getD_both hun] at h1
        cases h1
      have h2 := tOp_put hoj (hfree j oj hoj hji hjun hnot) (fun cs b => hsel i oi cs b hi) (fun cs b => hsel j oj cs b hoj) hy h1
      have hfree' : ∀ k ok, ops[k]? = some ok → k ≠ i → (listed.setIfInBounds j true).getD k true = false →
          (∀ e ∈ ok.after, Region.binds md e = true → e.on ≠ i) → oi.apart ops ok = true := fun k ok hk hki hun hno => by
        refine hfree k ok hk hki ?_ hno
        by_cases hjk : j = k
        · subst hjk; exact hjun
        · rw [getD_set_ne true hjk] at hun; exact hun
      refine tOp_mono (fun a' h3 => ih (listed.setIfInBounds j true) a' (inv.set hj hjn) hfree' (ready_mono hr (Ne.symm hji)) h3.1 ?_) h2
      rw [Array.setIfInBounds_comm _ _ hji]
      exact h3.2
/-- The walk in the text's order. -/
def wpT (P : Program) (ops : Array Oper) (T : Bool → World → Prop) (t : Nat) (Lq : Act → Prop) : Nat → List Oper → Act → Prop
  | _, [], a => Lq a
  | i, o :: rest, a => ∃ v, YT P ops T t i o v a ∧ wpT P ops T t Lq (i + 1) rest (a.put o.dst v)
theorem wpAnyT_lex {n : Nat} {Lq : Act → Prop} {done : Array Bool} (hsel : Region.noSelect ops = true) (hc : chainFrom md ops n = true)
    (hdone : ∀ j ∈ Region.ready md ops done, n ≤ j) :
    ∀ (l : List Oper) (k : Nat) (listed : Array Bool) (a : Act), (∀ j, j < l.length → l[j]? = ops[k + j]?) → k + l.length = n → sinkFrom md ops k n = true → HeadInv md ops n listed →
    mark l.length k listed = done → headB md ops l.length k listed = true → wpT P ops T t Lq k l a →
    wpAnyT P md ops T t n (fun listed' a' => listed' = done ∧ Lq a') l.length listed a
  | [], k, listed, a, _, hk, _, _, hm, hB, h => ⟨hm, h⟩
  | o :: l, k, listed, a, hl, hk, hs, inv, hm, hB, h => by
    have h0 : ops[k]? = some o := by simpa using (hl 0 (by simp)).symm
    simp only [List.length_cons, headB, Bool.and_eq_true] at hB
    obtain ⟨⟨hr, hf⟩, hB'⟩ := hB
    have hkn : k < n := by simp only [List.length_cons] at hk; omega
    have hr' : k ∈ Region.ready md ops listed := by simpa using hr
    obtain ⟨v, hy, hK⟩ := h
    exact wpAnyT_first (L := fun listed' a' => listed' = done ∧ Lq a') h0 (Region.noSelect_spec hsel) hs hc (Nat.le_refl k) hkn (fun listed' a' hL => by rw [hL.1]; exact hdone) l.length listed a inv (Region.free_spec h0 hf) hr' hy
      (wpAnyT_lex hsel hc hdone l (k + 1) _ _ (fun j hj => by have := hl (j + 1) (by simp; omega); simpa [Nat.add_assoc, Nat.add_comm 1 j] using this) (by simp only [List.length_cons] at hk; omega)
        (sinkFrom_more hs (by omega)) (inv.set hr' hkn) hm hB' hK)
def turnB (ops : Array Oper) (t n : Nat) : Bool :=
  let l0 := Array.replicate ops.size false
  let l1 := mark n 0 l0
  Region.noSelect ops && decide (n < ops.size) && invB .any ops n l0 && sinkFrom .any ops 0 n && chainFrom .any ops n && headB .any ops n 0 l0 && forcedB .any ops (ops.size - n) n l1 &&
    l1.getD t false && decide (Region.ready .any ops (mark (ops.size - n) n l1) = [])
theorem wp_region_turn {id : Nat} {a : Act} {W : World} {l : List Oper} (T : Bool → World → Prop) (t n : Nat) (hm : P.follows .mixedOrders = true) (hB : turnB l.toArray t n = true) (h0 : T false W.drew)
    (h : wpT P l.toArray T t (fun a' => ∀ w', T true w' → wpList P l.toArray (mixQ Q (fun a w => Q .normal a w)) (l.drop n) a' w') 0 (l.take n) a) : (Code.region id l.toArray true).wp P Q a W := by
  simp only [turnB, Bool.and_eq_true, decide_eq_true_eq] at hB
  obtain ⟨⟨⟨⟨⟨⟨⟨⟨hsel, hn⟩, hinv⟩, hs⟩, hc⟩, hhead⟩, hforced⟩, ht⟩, hend⟩ := hB
  refine wp_region_any hm ?_
  have hn' : n < l.length := by simpa using hn
  have hf : (l.take n).length = n := by rw [List.length_take]; omega
  have hgl : (l.drop n).length = l.toArray.size - n := by simp
  have hdone : ∀ j ∈ Region.ready .any l.toArray (mark n 0 (Array.replicate l.toArray.size false)), n ≤ j := by
    obtain ⟨g', hg'⟩ : ∃ g', l.toArray.size - n = g' + 1 := ⟨l.toArray.size - n - 1, by omega⟩
    rw [hg'] at hforced
    simp only [forcedB, Bool.and_eq_true, decide_eq_true_eq] at hforced
    intro j hj
    rw [hforced.1] at hj
    have : j = n := by simpa using hj
    omega
  have hq := wpAnyT_lex (P := P) (T := T) (t := t) (n := n) hsel hc hdone (l.take n) 0 (Array.replicate l.toArray.size false) a
    (fun j hj => by rw [hf] at hj; rw [List.getElem?_take_of_lt hj]; simp) (by rw [hf]; omega) hs (headInv_of hinv) (by rw [hf]) (by rw [hf]; exact hhead) h
  rw [hf] at hq
  have hfin := wpAny_of_headT (P := P) (Q := Q) (g := l.toArray.size - n) (fun listed' a' w' hw' hL => by
    obtain ⟨rfl, hL⟩ := hL
    rw [ht] at hw'
    have hL := hL w' hw'
    have := wpAny_of_forced (P := P) (Q := Q) (md := .any) (ops := l.toArray) (F := 0) (l.drop n) n _ a' w' (fun j hj => by rw [List.getElem?_drop]; simp) (by rw [hgl]; exact hforced)
      (mix_sound.wpList_mixmono (fun a'' w'' hm => by
        rw [hgl]
        exact ⟨hend, hm⟩) _ _ _ hL)
    rw [hgl] at this
    exact this) n _ _ _ (by
      have : (Array.replicate l.toArray.size false).getD t false = false := by
        rw [Array.getD_eq_getD_getElem?]
        by_cases h : t < l.length <;> simp [Array.getElem?_replicate, h]
      rw [this]; exact h0) hq
  rw [show n + (l.toArray.size - n) = l.toArray.size by omega] at hfin
  exact hfin
/-! ### Steps -/
structure TW (T : Bool → World → Prop) where
  b : Bool
  w : World
  h : T b w
theorem wpT_plain' {i : Nat} {o : Oper} {rest : List Oper} {a : Act} {Lq : Act → Prop} (hne : i ≠ t) (hw : Region.wanted o (yielded ops a.tmps) = true)
    (hp : ∀ w f args w', (execOp a.eval o).run P w ≠ .ok (.enter f args) w')
    (h : ∀ K : Act → Prop, (∀ a, wpT P ops T t Lq (i + 1) rest a → K a) → o.quiet P a (fun w' => ∃ x : TW T, w' = x.w) K) : wpT P ops T t Lq i (o :: rest) a := by
  obtain ⟨v, h1, h2⟩ := h _ (fun _ h => h)
  refine ⟨v, .inl ⟨hw, fun b w _ hT => ⟨?_, fun e => absurd e hne⟩⟩, h2⟩
  have h3 := h1 w ⟨⟨b, w, hT⟩, rfl⟩
  unfold Oper.quietAt at h3 ⊢
  cases hr : (execOp a.eval o).run P w with
  | halt x w' => rw [hr] at h3; exact h3
  | ok n w' =>
    rw [hr] at h3
    cases n
    case enter f args => exact absurd hr (hp w f args w')
    all_goals exact h3
theorem wpT_plain {i : Nat} {o : Oper} {rest : List Oper} {a : Act} {Lq : Act → Prop} (hne : i ≠ t) (hw : Region.wanted o (yielded ops a.tmps) = true) (hp : plainB o.op = true)
    (h : ∀ K : Act → Prop, (∀ a, wpT P ops T t Lq (i + 1) rest a → K a) → o.quiet P a (fun w' => ∃ x : TW T, w' = x.w) K) : wpT P ops T t Lq i (o :: rest) a :=
  wpT_plain' hne hw (fun w f args w' => no_enter hp _ w f args w') h
theorem wpT_check {i : Nat} {o : Oper} {rest : List Oper} {a : Act} {Lq : Act → Prop} {x : Operand} {p : Addr} (hne : i ≠ t) (hw : Region.wanted o (yielded ops a.tmps) = true) (hp : o.op = .nilCheck x) (hx : a.eval x = .pointer (some p))
    (h : ∀ K : Act → Prop, (∀ a, wpT P ops T t Lq (i + 1) rest a → K a) → o.quiet P a (fun w' => ∃ x : TW T, w' = x.w) K) : wpT P ops T t Lq i (o :: rest) a :=
  wpT_plain' hne hw (fun w f args w' => check_no_enter hp hx w f args w') h
theorem assign_put {a : Act} {C : World → Prop} {K : Act → Prop} {d : Option Nat} {v : Value} {ty : TypeId} {pos : String} {af : Array Edge} {gd : Option (Nat × Bool)} (hC : ∃ w, C w)
    (h : (Oper.mk d (.assign (.const v)) ty pos af gd).quiet P a C K) : K (a.put d v) := by
  obtain ⟨w, hw⟩ := hC
  obtain ⟨v', h1, h2⟩ := h
  have h3 := h1 w hw
  unfold Oper.quietAt at h3
  rw [BigFrame.run_assign (.const v) rfl] at h3
  have h4 : v = v' := (BigFrame.eval_const a v).symm.trans h3.2
  subst h4
  exact h2
theorem put_on {i : Nat} {d : Option Nat} {ty : TypeId} {pos : String} {af : Array Edge} {gd : Option (Nat × Bool)} {rest : List Oper} {a : Act} {Lq : Act → Prop} {v : Value} [hne : Nonempty (TW T)]
    (h : ∀ K : Act → Prop, (∀ a, wpT P ops T t Lq (i + 1) rest a → K a) → (Oper.mk d (.assign (.const v)) ty pos af gd).quiet P a (fun w' => ∃ x : TW T, w' = x.w) K) : wpT P ops T t Lq (i + 1) rest (a.put d v) :=
  assign_put (let ⟨x⟩ := hne; ⟨x.w, x, rfl⟩) (h _ fun _ h => h)
theorem wpT_value {i : Nat} {d : Option Nat} {op : Op} {ty : TypeId} {pos : String} {af : Array Edge} {gd : Option (Nat × Bool)} {rest : List Oper} {a : Act} {Lq : Act → Prop} [Nonempty (TW T)] (v : Value) (hne : i ≠ t) (hw : Region.wanted (Oper.mk d op ty pos af gd) (yielded ops a.tmps) = true) (hr : ∀ w, (execOp a.eval (Oper.mk d op ty pos af gd)).run P w = .ok (.value v) w)
    (h : ∀ K : Act → Prop, (∀ a, wpT P ops T t Lq (i + 1) rest a → K a) → (Oper.mk d (.assign (.const v)) ty pos af gd).quiet P a (fun w' => ∃ x : TW T, w' = x.w) K) : wpT P ops T t Lq i (Oper.mk d op ty pos af gd :: rest) a :=
  ⟨v, .inl ⟨hw, fun b w _ hT => ⟨by unfold Oper.quietAt; rw [hr w]; exact ⟨rfl, rfl⟩, fun e => absurd e hne⟩⟩, put_on h⟩
theorem wpT_skip {i : Nat} {d : Option Nat} {op : Op} {ty : TypeId} {pos : String} {af : Array Edge} {gd : Option (Nat × Bool)} {rest : List Oper} {a : Act} {Lq : Act → Prop} [Nonempty (TW T)] (hne : i ≠ t) (hw : Region.wanted (Oper.mk d op ty pos af gd) (yielded ops a.tmps) = false)
    (h : ∀ K : Act → Prop, (∀ a, wpT P ops T t Lq (i + 1) rest a → K a) → (Oper.mk d (.assign (.const undef)) ty pos af gd).quiet P a (fun w' => ∃ x : TW T, w' = x.w) K) : wpT P ops T t Lq i (Oper.mk d op ty pos af gd :: rest) a :=
  ⟨undef, .inr ⟨hw, rfl, hne⟩, put_on h⟩
theorem wpT_call {i : Nat} {d : Option Nat} {op : Op} {ty : TypeId} {pos : String} {af : Array Edge} {gd : Option (Nat × Bool)} {rest : List Oper} {a : Act} {Lq : Act → Prop} [Nonempty (TW T)] (f : FuncId) (args : Array Value) (v : Value) (hw : Region.wanted (Oper.mk d op ty pos af gd) (yielded ops a.tmps) = true) (hr : ∀ w, (execOp a.eval (Oper.mk d op ty pos af gd)).run P w = .ok (.enter f args) w)
    (hc : ∀ b w, T b w → Calls P f args w fun e w' => e = .returned v ∧ T (b || decide (i = t)) w')
    (h : ∀ K : Act → Prop, (∀ a, wpT P ops T t Lq (i + 1) rest a → K a) → (Oper.mk d (.assign (.const v)) ty pos af gd).quiet P a (fun w' => ∃ x : TW T, w' = x.w) K) : wpT P ops T t Lq i (Oper.mk d op ty pos af gd :: rest) a :=
  ⟨v, .inl ⟨hw, fun b w _ hT => ⟨by unfold Oper.quietAt; rw [hr w]; exact ⟨rfl, hc b w hT⟩, fun _ => ⟨f, args, w, hr w⟩⟩⟩, put_on h⟩
theorem wpT_nil {i : Nat} {a : Act} {Lq : Act → Prop} (h : Lq a) : wpT P ops T t Lq i [] a := h
end
end Go.Proofs.Ytkgddgckilledaa
namespace Go.Proofs.Ytkgddgckilledaa
open Go.RowKit
set_option linter.unusedVariables false
set_option linter.unusedSimpArgs false
section
variable {P : Program} {ops : Array Oper} {md : Region.Mode} {Q : Exit → Act → World → Prop}
theorem countP_less {p q : Nat → Bool} {i : Nat} (hp : p i = true) (hq : q i = false) (hpq : ∀ j, j ≠ i → q j = p j) : ∀ n, i < n → (List.range n).countP q + 1 = (List.range n).countP p
  | 0, h => absurd h (by omega)
  | n + 1, h => by
    rw [List.range_succ, List.countP_append, List.countP_append]
    by_cases e : i = n
    · subst e
      have hs : (List.range i).countP q = (List.range i).countP p := List.countP_congr fun j hj => by
        rw [hpq j (by have := List.mem_range.1 hj; omega)]
      rw [hs]
      simp [hp, hq]
    · have := countP_less hp hq hpq n (by omega)
      have hn := hpq n (by omega)
      simp only [List.countP_singleton, hn]
      omega
/-- The state on the way. -/
structure Dj (W : World) (a0 : Act) (n : Nat) (dst : Nat → Tmp) (R : Nat → Value → World → Prop) (S : Nat → Value → Nat → Value → Prop) (listed : Array Bool) (a : Act) (w : World) : Prop where
  below : Below W.heap.size W w
  size : a.tmps.size = a0.tmps.size
  defers : a.defers = a0.defers
  rest : ∀ t, (∀ i, i < n → t ≠ dst i) → a.tmps[t]? = a0.tmps[t]?
  vals : ∀ i, i < n → listed.getD i false = true → ∃ v, a.tmps[dst i]? = some v ∧ R i v w
  rel : ∀ i j, i < n → j < n → i ≠ j → listed.getD i false = true → listed.getD j false = true → ∀ u v, a.tmps[dst i]? = some u → a.tmps[dst j]? = some v → S i u j v
theorem Dj.set {W w w' : World} {a0 a : Act} {n i : Nat} {dst : Nat → Tmp} {R : Nat → Value → World → Prop} {S : Nat → Value → Nat → Value → Prop} {listed : Array Bool} {v : Value} (h : Dj W a0 n dst R S listed a w) (hR : ∀ i v w w', R i v w → Below w.heap.size w w' → R i v w')
    (hi : i < n) (hd : dst i < a0.tmps.size) (hne : ∀ j, j < n → j ≠ i → dst j ≠ dst i) (hb : Below w.heap.size w w') (hv : R i v w') (hrel : ∀ j u, j < n → j ≠ i → R j u w → S i v j u ∧ S j u i v) : Dj W a0 n dst R S (listed.setIfInBounds i true) (a.put (some (dst i)) v) w' := by
  have hat : ∀ j, j < n → j ≠ i → (a.tmps.setIfInBounds (dst i) v)[dst j]? = a.tmps[dst j]? := fun j hj e => Array.getElem?_setIfInBounds_ne (fun e' => hne j hj e e'.symm)
  have hself : (a.tmps.setIfInBounds (dst i) v)[dst i]? = some v := Array.getElem?_setIfInBounds_self_of_lt (by rw [h.size]; exact hd)
  refine ⟨h.below.trans (hb.mono h.below.size), by simp [Act.put, h.size], h.defers, fun t ht => ?_, fun j hj hl => ?_, fun j k hj hk hjk lj lk u x hu hx => ?_⟩
  · have h1 := h.rest t ht
    show (a.tmps.setIfInBounds (dst i) v)[t]? = _
    rw [Array.getElem?_setIfInBounds_ne (fun e => ht i hi e.symm)]
    exact h1
  · by_cases e : j = i
    · subst e
      refine ⟨v, ?_, hv⟩
      show (a.tmps.setIfInBounds (dst j) v)[dst j]? = _
      rw [Array.getElem?_setIfInBounds_self_of_lt (by rw [h.size]; exact hd)]
    · rw [getD_set_ne false (Ne.symm e)] at hl
      obtain ⟨u, h1, h2⟩ := h.vals j hj hl
      refine ⟨u, ?_, hR _ _ _ _ h2 hb⟩
      show (a.tmps.setIfInBounds (dst i) v)[dst j]? = _
      rw [Array.getElem?_setIfInBounds_ne (fun e' => hne j hj e e'.symm)]
      exact h1
  · have hu2 : (a.tmps.setIfInBounds (dst i) v)[dst j]? = some u := hu
    clear hu
    have hx2 : (a.tmps.setIfInBounds (dst i) v)[dst k]? = some x := hx
    clear hx
    by_cases ej : j = i
    · subst ej
      rw [hself] at hu2
      have hku := hat k hk (Ne.symm hjk)
      rw [hku] at hx2
      rw [getD_set_ne false hjk] at lk
      obtain ⟨x', h1, h2⟩ := h.vals k hk lk
      rw [h1] at hx2
      injection hu2 with hu2
      injection hx2 with hx2
      subst hu2 hx2
      exact (hrel k _ hk (Ne.symm hjk) h2).1
    · rw [hat j hj ej] at hu2
      rw [getD_set_ne false (Ne.symm ej)] at lj
      by_cases ek : k = i
      · subst ek
        rw [hself] at hx2
        obtain ⟨u', h1, h2⟩ := h.vals j hj lj
        rw [h1] at hu2
        injection hu2 with hu2
        injection hx2 with hx2
        subst hu2 hx2
        exact (hrel j _ hj ej h2).2
      · rw [hat k hk ek] at hx2
        rw [getD_set_ne false (Ne.symm ek)] at lk
        exact h.rel j k hj hk hjk lj lk u x hu2 hx2
theorem first_unlisted {listed : Array Bool} : ∀ n i, i < n → listed.getD i false = false → ∃ k, k ≤ i ∧ listed.getD k false = false ∧ ∀ j, j < k → listed.getD j false = true := by
  intro n i
  induction i using Nat.strongRecOn with
  | _ i ih =>
    intro hi hun
    by_cases h : ∃ j, j < i ∧ listed.getD j false = false
    · obtain ⟨j, hj, hu⟩ := h
      obtain ⟨k, h1, h2, h3⟩ := ih j hj (by omega) hu
      exact ⟨k, by omega, h2, h3⟩
    · exact ⟨i, Nat.le_refl _, hun, fun j hj => by
        cases e : listed.getD j false
        · exact absurd ⟨j, hj, e⟩ h
        · rfl⟩
theorem wpAny_loose {W : World} {a0 : Act} {n g : Nat} {dst : Nat → Tmp} {R : Nat → Value → World → Prop} {S : Nat → Value → Nat → Value → Prop} (hR : ∀ i v w w', R i v w → Below w.heap.size w w' → R i v w')
    (hs : sinkFrom md ops 0 n = true) (hc : chainFrom md ops n = true) (hn : n ≤ ops.size)
    (hback : ∀ i o, i < n → ops[i]? = some o → ∀ e ∈ o.after, Region.binds md e = true → e.on < i)
    (hdst : ∀ i, i < n → dst i < a0.tmps.size) (hinj : ∀ i j, i < n → j < n → i ≠ j → dst i ≠ dst j)
    (hop : ∀ i o, i < n → ops[i]? = some o → (∀ y, Region.wanted o y = true) ∧ ∀ a w, Below W.heap.size W w → a.tmps.size = a0.tmps.size → a.defers = a0.defers → (∀ t, (∀ j, j < n → t ≠ dst j) → a.tmps[t]? = a0.tmps[t]?) →
      (∀ e ∈ o.after, Region.binds md e = true → ∃ v, a.tmps[dst e.on]? = some v ∧ R e.on v w) → o.wp P a w (fun a' w' => ∃ v, a' = a.put (some (dst i)) v ∧ Below w.heap.size w w' ∧ R i v w' ∧ ∀ j u, j < n → j ≠ i → R j u w → S i v j u ∧ S j u i v) Q)
    (hend : ∀ listed a w, HeadInv md ops n listed → (∀ i, i < n → listed.getD i false = true) → Dj W a0 n dst R S listed a w → wpAny P md ops Q g listed a w) :
    ∀ f listed a w, HeadInv md ops n listed → (List.range n).countP (fun i => !listed.getD i false) = f → Dj W a0 n dst R S listed a w → wpAny P md ops Q (f + g) listed a w
  | 0, listed, a, w, inv, hcnt, hJ => by
    rw [Nat.zero_add]
    refine hend listed a w inv (fun i hi => ?_) hJ
    have := List.countP_eq_zero.1 hcnt i (List.mem_range.2 hi)
    simpa using this
  | f + 1, listed, a, w, inv, hcnt, hJ => by
    rw [show f + 1 + g = (f + g) + 1 by omega]
    obtain ⟨i0, hi0, hu0⟩ : ∃ i, i < n ∧ listed.getD i false = false := by
      have h1 : 0 < (List.range n).countP (fun i => !listed.getD i false) := by omega
      obtain ⟨i, hi, h2⟩ := List.countP_pos_iff.1 h1
      exact ⟨i, List.mem_range.1 hi, by simpa using h2⟩
    obtain ⟨i, hile, hun, hmin⟩ := first_unlisted n i0 hi0 hu0
    have hi : i < n := by omega
    have hlt : i < ops.size := by omega
    have hun' := getD_in (by rw [inv.size]; exact hlt) hun
    have hready : i ∈ Region.ready md ops listed := by
      refine mem_ready.2 ⟨hun', ops[i], Array.getElem?_eq_getElem hlt, fun e he hb => hmin _ (hback i ops[i] hi (Array.getElem?_eq_getElem hlt) e he hb)⟩
    refine ⟨fun h0 => (by rw [h0] at hready; cases hready), fun j hj => ?_⟩
    have hjn : j < n := by
      rcases Nat.lt_or_ge j n with h | h
      · exact h
      · exact absurd hj (tail_waits_from hs hc inv _ i rfl (Nat.zero_le _) hi hun' j h)
    obtain ⟨hjun, o, ho, hall⟩ := mem_ready.1 hj
    obtain ⟨hw, hwp⟩ := hop j o hjn ho
    unfold wpOp
    simp only [ho]
    rw [if_pos (hw _)]
    left
    refine Oper.wp_mono ?_ (hwp a w hJ.below hJ.size hJ.defers hJ.rest (fun e he hb => hJ.vals e.on (by have := hback j o hjn ho e he hb; omega) (hall e he hb)))
    rintro a' w' ⟨v, rfl, hb, hv, hrel⟩
    refine wpAny_loose hR hs hc hn hback hdst hinj hop hend f _ _ w' (inv.set hj hjn) ?_ (hJ.set hR hjn (hdst j hjn) (fun k hk hne => hinj k j hk hjn hne) hb hv hrel)
    have := countP_less (p := fun i => !listed.getD i false) (q := fun i => !(listed.setIfInBounds j true).getD i false) (i := j) (by simp [getD_both hjun]) (by simp [inv.size, show j < ops.size by omega]) (fun k hk => by rw [getD_set_ne false (Ne.symm hk)]) n hjn
    omega
theorem listed_done {n : Nat} {listed D : Array Bool} (inv : HeadInv md ops n listed) (hall : ∀ i, i < n → listed.getD i false = true) (hD : D.size = ops.size) (hDv : ∀ j, j < ops.size → D.getD j false = decide (j < n)) : listed = D := by
  refine Array.ext (by rw [inv.size, hD]) fun j h1 h2 => ?_
  have e1 : listed.getD j false = listed[j] := by simp [h1]
  have e2 : D.getD j false = D[j] := by simp [h2]
  rw [← e1, ← e2, hDv j (by rw [← inv.size]; exact h1)]
  rcases Nat.lt_or_ge j n with h | h
  · rw [hall j h, decide_eq_true h]
  · rw [getD_both (inv.tail j h (by rw [← inv.size]; exact h1)), decide_eq_false (by omega)]
/-- The head's values laid into the slots. -/
def puts (dst : Nat → Tmp) (vs : Nat → Value) (a0 : Act) : Nat → Act
  | 0 => a0
  | n + 1 => (puts dst vs a0 n).put (some (dst n)) (vs n)
theorem puts_size (dst : Nat → Tmp) (vs : Nat → Value) (a0 : Act) : ∀ n, (puts dst vs a0 n).tmps.size = a0.tmps.size ∧ (puts dst vs a0 n).defers = a0.defers
  | 0 => ⟨rfl, rfl⟩
  | n + 1 => by
    obtain ⟨h1, h2⟩ := puts_size dst vs a0 n
    exact ⟨by simp [puts, Act.put, h1], h2⟩
theorem puts_get {dst : Nat → Tmp} {vs : Nat → Value} {a0 : Act} : ∀ n, (∀ i, i < n → dst i < a0.tmps.size) → (∀ i j, i < n → j < n → i ≠ j → dst i ≠ dst j) →
    (∀ i, i < n → (puts dst vs a0 n).tmps[dst i]? = some (vs i)) ∧ (∀ t, (∀ i, i < n → t ≠ dst i) → (puts dst vs a0 n).tmps[t]? = a0.tmps[t]?)
  | 0, _, _ => ⟨fun i hi => absurd hi (by omega), fun t _ => rfl⟩
  | n + 1, hd, hi => by
    obtain ⟨h1, h2⟩ := puts_get (vs := vs) n (fun i h => hd i (by omega)) (fun i j h k => hi i j (by omega) (by omega))
    refine ⟨fun i h => ?_, fun t ht => ?_⟩
    · show ((puts dst vs a0 n).tmps.setIfInBounds (dst n) (vs n))[dst i]? = _
      by_cases e : i = n
      · subst e
        rw [Array.getElem?_setIfInBounds_self_of_lt (by rw [(puts_size _ _ _ _).1]; exact hd i (by omega))]
      · rw [Array.getElem?_setIfInBounds_ne (hi n i (by omega) h (fun e' => e e'.symm))]
        exact h1 i (by omega)
    · show ((puts dst vs a0 n).tmps.setIfInBounds (dst n) (vs n))[t]? = _
      rw [Array.getElem?_setIfInBounds_ne (fun e => ht n (by omega) e.symm)]
      exact h2 t (fun i h => ht i (by omega))
theorem Dj.act {W w : World} {a0 a : Act} {n : Nat} {dst : Nat → Tmp} {R : Nat → Value → World → Prop} {S : Nat → Value → Nat → Value → Prop} {listed : Array Bool} (h : Dj W a0 n dst R S listed a w) (hall : ∀ i, i < n → listed.getD i false = true)
    (hd : ∀ i, i < n → dst i < a0.tmps.size) (hi : ∀ i j, i < n → j < n → i ≠ j → dst i ≠ dst j) : ∃ vs : Nat → Value, (∀ i, i < n → R i (vs i) w) ∧ (∀ i j, i < n → j < n → i ≠ j → S i (vs i) j (vs j)) ∧ a = puts dst vs a0 n := by
  have hv : ∀ i, ∃ v, i < n → a.tmps[dst i]? = some v ∧ R i v w := fun i => by
    by_cases h' : i < n
    · obtain ⟨v, hv⟩ := h.vals i h' (hall i h')
      exact ⟨v, fun _ => hv⟩
    · exact ⟨undef, fun k => absurd k h'⟩
  obtain ⟨vs, hvs⟩ : ∃ vs : Nat → Value, ∀ i, i < n → a.tmps[dst i]? = some (vs i) ∧ R i (vs i) w := ⟨fun i => (hv i).choose, fun i hi => (hv i).choose_spec hi⟩
  refine ⟨vs, fun i h' => (hvs i h').2, fun i j h' k' e => h.rel i j h' k' e (hall i h') (hall j k') _ _ (hvs i h').1 (hvs j k').1, ?_⟩
  obtain ⟨g1, g2⟩ := puts_get (vs := vs) n hd hi
  obtain ⟨s1, s2⟩ := puts_size dst vs a0 n
  have ht : a.tmps = (puts dst vs a0 n).tmps := by
    refine Array.ext_getElem? fun t => ?_
    by_cases e : ∃ i, i < n ∧ t = dst i
    · obtain ⟨i, h1, rfl⟩ := e
      rw [(hvs i h1).1, g1 i h1]
    · have e' : ∀ i, i < n → t ≠ dst i := fun i h1 h2 => e ⟨i, h1, h2⟩
      rw [h.rest t e', g2 t e']
  have hdf : a.defers = (puts dst vs a0 n).defers := by rw [h.defers, s2]
  cases a
  cases hp : puts dst vs a0 n
  rw [hp] at ht hdf
  simp only at ht hdf
  rw [ht, hdf]
def looseB (ops : Array Oper) (n : Nat) (D : Array Bool) : Bool :=
  sinkFrom .any ops 0 n && chainFrom .any ops n && decide (n ≤ ops.size) &&
  ((List.range n).all fun i => match ops[i]? with | some o => o.after.all fun e => !Region.binds .any e || decide (e.on < i) | none => false) &&
  decide (D.size = ops.size) && ((List.range ops.size).all fun j => D.getD j false == decide (j < n)) && forcedB .any ops (ops.size - n) n D && (Region.ready .any ops (mark (ops.size - n) n D)).isEmpty
theorem wp_region_loose {id : Nat} {a : Act} {W : World} {l : List Oper} (n : Nat) (dst : Nat → Tmp) (R : Nat → Value → World → Prop) (S : Nat → Value → Nat → Value → Prop) (D : Array Bool) (hm : P.follows .mixedOrders = true)
    (hB : looseB l.toArray n D = true) (hR : ∀ i v w w', R i v w → Below w.heap.size w w' → R i v w')
    (hdst : ∀ i, i < n → dst i < a.tmps.size) (hinj : ∀ i j, i < n → j < n → i ≠ j → dst i ≠ dst j)
    (hop : ∀ i o, i < n → l[i]? = some o → (∀ y, Region.wanted o y = true) ∧ ∀ a' w, Below W.heap.size W w → a'.tmps.size = a.tmps.size → a'.defers = a.defers → (∀ t, (∀ j, j < n → t ≠ dst j) → a'.tmps[t]? = a.tmps[t]?) →
      (∀ e ∈ o.after, Region.binds .any e = true → ∃ v, a'.tmps[dst e.on]? = some v ∧ R e.on v w) → o.wp P a' w (fun a'' w' => ∃ v, a'' = a'.put (some (dst i)) v ∧ Below w.heap.size w w' ∧ R i v w' ∧ ∀ j u, j < n → j ≠ i → R j u w → S i v j u ∧ S j u i v) Q)
    (hend : ∀ vs w, Below W.heap.size W w → (∀ i, i < n → R i (vs i) w) → (∀ i j, i < n → j < n → i ≠ j → S i (vs i) j (vs j)) → wpList P l.toArray (mixQ Q (fun a w => Q .normal a w)) (l.drop n) (puts dst vs a n) w) :
    (Code.region id l.toArray true).wp P Q a W := by
  simp only [looseB, Bool.and_eq_true, decide_eq_true_eq] at hB
  obtain ⟨⟨⟨⟨⟨⟨⟨b1, b2⟩, b3⟩, b4⟩, b5⟩, b6⟩, b7⟩, b8⟩ := hB
  have b3' : n ≤ l.length := by simpa using b3
  refine wp_region_any hm ?_
  have key := wpAny_loose (P := P) (ops := l.toArray) (md := .any) (Q := Q) (W := W) (a0 := a) (n := n) (g := l.length - n) (dst := dst) (R := R) (S := S) hR b1 b2 b3
    (fun i o hi ho e he hb => by
      have := List.all_eq_true.1 b4 i (List.mem_range.2 hi)
      simp only [ho] at this
      have h2 := Array.all_eq_true_iff_forall_mem.1 this e he
      simpa [hb] using h2) hdst hinj (fun i o hi ho => hop i o hi (by simpa using ho))
    (fun listed a' w' inv hall hJ => by
      have hD := listed_done (D := D) inv hall b5 (fun j hj => by
        have := List.all_eq_true.1 b6 j (List.mem_range.2 hj)
        simpa using this)
      subst hD
      obtain ⟨vs, hvs, hss, rfl⟩ := hJ.act hall hdst hinj
      have h1 := hend vs w' hJ.below hvs hss
      have h2 := wpAny_of_forced (P := P) (ops := l.toArray) (md := .any) (Q := Q) (F := 0) (l.drop n) n listed (puts dst vs a n) w' (fun j hj => by simp) (by simpa using b7) (by
        refine mix_sound.wpList_mixmono (fun a2 w2 h3 => ?_) _ _ _ h1
        refine ⟨?_, h3⟩
        have := b8
        simpa using this)
      simpa using h2) n (Array.replicate l.toArray.size false) a W.drew
    ⟨by simp, fun j oj hj hl => (by rw [getD_replicate_false] at hl; cases hl), fun t ht hts => getD_in (by simpa using hts) (getD_replicate_false _ _)⟩
    (by rw [List.countP_eq_length.2 (fun i hi => by show (!(Array.replicate _ false).getD i false) = true; rw [getD_replicate_false]; rfl)]; simp)
    ⟨(Below.refl _ _).drew, rfl, rfl, fun t _ => rfl, fun i hi hl => (by rw [getD_replicate_false] at hl; cases hl), fun i j _ _ _ hl => (by rw [getD_replicate_false] at hl; cases hl)⟩
  have e : n + (l.length - n) = l.toArray.size := by simp; omega
  rw [e] at key
  exact key
end
end Go.Proofs.Ytkgddgckilledaa
