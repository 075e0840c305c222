/- A region that draws its order, walked in the order of the text: stretches that only read or call what makes memory, and between them operations that are forced (nothing else can come up). No program in sight. -/
import Derived.Test.YtkogplnleiapfaaQb
import Derived.StillTail
namespace Go.Proofs.Ytkogplnleiapfaa
open Go.RowKit
section
variable {P : Program} {ops : Array Oper} {md : Region.Mode} {Q : Exit → Act → World → Prop} {R : Act → World → Prop}
def mixQ (Q : Exit → Act → World → Prop) (R : Act → World → Prop) : Exit → Act → World → Prop
  | .normal, a, w => R a w
  | e, a, w => Q e a w
theorem mixQ_normal {a : Act} {w : World} (h : R a w) : mixQ Q R .normal a w := h
theorem wp_mix {o : Oper} {a : Act} {w : World} {K : Act → World → Prop} (h : o.wp P a w K (mixQ Q R)) : o.wp P a w K Q := by
  unfold Oper.wp at *
  generalize (execOp a.eval o).run P w = r at *
  cases r with
  | ok n w' =>
    cases n <;> simp only [Oper.upon] at h ⊢
    case enter f args => exact Calls.mono h (fun e w'' he => by cases e <;> exact he)
    all_goals exact h
  | halt x w' => cases x <;> simp only [Oper.upon] at h ⊢ <;> exact h
def mark : Nat → Nat → Array Bool → Array Bool
  | 0, _, l => l
  | f + 1, k, l => mark f (k + 1) (l.setIfInBounds k true)
def forcedB (md : Region.Mode) (ops : Array Oper) : Nat → Nat → Array Bool → Bool
  | 0, _, _ => true
  | g + 1, k, listed => decide (Region.ready md ops listed = [k]) && forcedB md ops g (k + 1) (listed.setIfInBounds k true)
theorem wpAny_of_forced {F : Nat} : ∀ (l : List Oper) (k : Nat) (listed : Array Bool) (a : Act) (w : World), (∀ j, j < l.length → l[j]? = ops[k + j]?) →
    forcedB md ops l.length k listed = true → wpList P ops (mixQ Q (fun a w => wpAny P md ops Q F (mark l.length k listed) a w)) l a w → wpAny P md ops Q (l.length + F) listed a w
  | [], k, listed, a, w, _, _, h => by
    rw [List.length_nil, Nat.zero_add]; exact h
  | o :: l, k, listed, a, w, hl, hB, h => by
    have h0 : ops[k]? = some o := by simpa using (hl 0 (by simp)).symm
    simp only [List.length_cons, forcedB, Bool.and_eq_true, decide_eq_true_eq] at hB
    rw [List.length_cons, show l.length + 1 + F = (l.length + F) + 1 by omega]
    refine ⟨fun h1 => (by rw [hB.1] at h1; cases h1), fun i hi => ?_⟩
    rw [hB.1] at hi
    have hik : i = k := by simpa using hi
    subst hik
    have ih : ∀ a' w', wpList P ops (mixQ Q (fun a w => wpAny P md ops Q F (mark l.length (i + 1) (listed.setIfInBounds i true)) a w)) l a' w' → wpAny P md ops Q (l.length + F) (listed.setIfInBounds i true) a' w' := fun a' w' h' =>
      wpAny_of_forced l (i + 1) _ a' w' (fun j hj => by have := hl (j + 1) (by simp; omega); simpa [Nat.add_assoc, Nat.add_comm 1 j] using this) hB.2 h'
    unfold wpOp
    simp only [h0]
    simp only [wpList] at h
    split
    · rename_i hw
      rw [if_pos hw] at h
      rcases h with h | h
      · exact .inl (Oper.wp_mono ih (wp_mix h))
      · exact .inr h
    · rename_i hw
      rw [if_neg hw] at h
      exact ih _ _ h
/-! ### A quiet stretch ahead of operation n -/
def sinkFrom (md : Region.Mode) (ops : Array Oper) (k n : Nat) : Bool :=
  (List.range n).all fun i => decide (i < k) || (List.range (n + 1)).any fun j => decide (i < j) && Region.waitsFor md ops j i
def chainFrom (md : Region.Mode) (ops : Array Oper) (n : Nat) : Bool :=
  (List.range ops.size).all fun t => decide (t ≤ n) || (List.range t).any fun j => decide (n ≤ j) && Region.waitsFor md ops t j
def closedB (md : Region.Mode) (ops : Array Oper) (listed : Array Bool) : Bool :=
  (List.range ops.size).all fun j => match ops[j]? with
    | some oj => !listed.getD j false || oj.after.all fun e => !Region.binds md e || listed.getD e.on false
    | none => true
def tailB (ops : Array Oper) (n : Nat) (listed : Array Bool) : Bool := (List.range ops.size).all fun t => decide (t < n) || !listed.getD t true
def invB (md : Region.Mode) (ops : Array Oper) (n : Nat) (listed : Array Bool) : Bool := decide (listed.size = ops.size) && closedB md ops listed && tailB ops n listed
theorem headInv_of {n : Nat} {listed : Array Bool} (h : invB md ops n listed = true) : HeadInv md ops n listed := by
  simp only [invB, Bool.and_eq_true, decide_eq_true_eq] at h
  obtain ⟨⟨h1, h2⟩, h3⟩ := h
  refine ⟨h1, fun j oj hj hl e he hb => ?_, fun t ht hts => ?_⟩
  · have hjs : j < ops.size := (Array.getElem?_eq_some_iff.1 hj).1
    have := List.all_eq_true.1 h2 j (List.mem_range.2 hjs)
    simp only [hj, hl, Bool.not_true, Bool.false_or] at this
    have h4 := Array.all_eq_true_iff_forall_mem.1 this e he
    simpa [hb] using h4
  · have := List.all_eq_true.1 h3 t (List.mem_range.2 hts)
    simp only [Bool.or_eq_true, decide_eq_true_eq] at this
    rcases this with h | h
    · omega
    · simpa using h
theorem tail_waits_from {k n : Nat} {listed : Array Bool} (hs : sinkFrom md ops k n = true) (hc : chainFrom md ops n = true) (inv : HeadInv md ops n listed) :
    ∀ (d i : Nat), n - i = d → k ≤ i → i < n → listed.getD i true = false → ∀ t, n ≤ t → t ∉ Region.ready md ops listed := by
  intro d
  induction d using Nat.strongRecOn with
  | _ d ih =>
    intro i hd hk hi hun t ht hr
    obtain ⟨_, ot, hot, hall⟩ := mem_ready.1 hr
    have htlt : t < ops.size := (Array.getElem?_eq_some_iff.1 hot).1
    by_cases htn : t = n
    · subst htn
      have h1 := List.all_eq_true.1 hs i (List.mem_range.2 hi)
      simp only [Bool.or_eq_true, decide_eq_true_eq] at h1
      rcases h1 with h1 | h1
      · omega
      obtain ⟨j, hj, hj2⟩ := List.any_eq_true.1 h1
      simp only [Bool.and_eq_true, decide_eq_true_eq] at hj2
      obtain ⟨oj, hoj, e, he, hb, hon⟩ := Region.waitsFor_spec hj2.2
      have hjle : j ≤ t := by have := List.mem_range.1 hj; omega
      by_cases hjt : j = t
      · subst hjt
        have : oj = ot := Option.some.inj (hoj.symm.trans hot)
        subst this
        have h2 := hall e he hb
        rw [hon, getD_both hun] at h2
        cases h2
      · cases hl : listed.getD j false with
        | true =>
          have h2 := inv.closed j oj hoj hl e he hb
          rw [hon, getD_both hun] at h2
          cases h2
        | false =>
          have hjs : j < listed.size := by rw [inv.size]; omega
          exact ih (t - j) (by omega) j rfl (by omega) (by omega) (getD_in hjs hl) t (Nat.le_refl _) hr
    · have h1 := List.all_eq_true.1 hc t (List.mem_range.2 htlt)
      simp only [Bool.or_eq_true, decide_eq_true_eq] at h1
      rcases h1 with h1 | h1
      · omega
      · obtain ⟨j, hj, hj2⟩ := List.any_eq_true.1 h1
        simp only [Bool.and_eq_true, decide_eq_true_eq] at hj2
        obtain ⟨o', ho', e, he, hb, hon⟩ := Region.waitsFor_spec hj2.2
        have : o' = ot := Option.some.inj (ho'.symm.trans hot)
        subst this
        have h2 := hall e he hb
        have := List.mem_range.1 hj
        rw [hon, getD_both (inv.tail j (by omega) (by omega))] at h2
        cases h2
def wpAnyLQ (P : Program) (md : Region.Mode) (ops : Array Oper) (C : World → Prop) (n : Nat) (L : Array Bool → Act → Prop) : Nat → Array Bool → Act → Prop
  | 0, listed, a => L listed a
  | f + 1, listed, a =>
    Region.ready md ops listed ≠ [] ∧ ∀ i ∈ Region.ready md ops listed, i < n ∧ qOp P ops C i (wpAnyLQ P md ops C n L f (listed.setIfInBounds i true)) a
theorem wpAny_of_headQ {C : World → Prop} {n g : Nat} {L : Array Bool → Act → Prop} (hL : ∀ listed a w, C w → L listed a → wpAny P md ops Q g listed a w) :
    ∀ (f : Nat) (listed : Array Bool) (a : Act) (w : World), C w → wpAnyLQ P md ops C n L f listed a → wpAny P md ops Q (f + g) listed a w
  | 0, listed, a, w, hw, h => by rw [Nat.zero_add]; exact hL _ _ _ hw h
  | f + 1, listed, a, w, hw, h => by
    rw [show f + 1 + g = (f + g) + 1 by omega]
    exact ⟨fun h0 => absurd h0 h.1, fun i hi => wpOp_of_qOp hw (fun a' w' hw' h' => wpAny_of_headQ hL f _ a' w' hw' h') (h.2 i hi).2⟩
theorem wpAnyLQ_first {C : World → Prop} {k n i : Nat} {oi : Oper} {v : Value} {L : Array Bool → Act → Prop} (hi : ops[i]? = some oi) (hsel : ∀ (j : Nat) (o : Oper) cs b, ops[j]? = some o → o.op ≠ .select cs b)
    (hs : sinkFrom md ops k n = true) (hc : chainFrom md ops n = true) (hki : k ≤ i) (hin : i < n)
    (hdone : ∀ listed a, L listed a → ∀ j ∈ Region.ready md ops listed, n ≤ j) :
    ∀ (f : Nat) (listed : Array Bool) (a : Act), HeadInv md ops n listed →
      (∀ j oj, ops[j]? = some oj → j ≠ i → listed.getD j true = false → (∀ e ∈ oj.after, Region.binds md e = true → e.on ≠ i) → oi.apart ops oj = true) →
      i ∈ Region.ready md ops listed → YieldsIn P ops C oi v a →
      wpAnyLQ P md ops C n L f (listed.setIfInBounds i true) (a.put oi.dst v) → wpAnyLQ P md ops C n L (f + 1) listed a := by
  intro f
  induction f with
  | zero =>
    intro listed a inv _ hr hy H
    have hun := (mem_ready.1 hr).1
    refine ⟨fun h => (by rw [h] at hr; cases hr), fun j hj => ?_⟩
    have hjn : j < n := by
      rcases Nat.lt_or_ge j n with h | h
      · exact h
      · exact absurd hj (tail_waits_from hs hc inv _ i rfl hki hin hun j h)
    refine ⟨hjn, ?_⟩
    by_cases hji : j = i
    · subst hji; exact hy.qOp hi H
    · have := hdone _ _ H j (ready_mono hj hji)
      omega
  | succ f ih =>
    intro listed a inv hfree hr hy H
    have hun := (mem_ready.1 hr).1
    refine ⟨fun h => (by rw [h] at hr; cases hr), fun j hj => ?_⟩
    have hjn : j < n := by
      rcases Nat.lt_or_ge j n with h | h
      · exact h
      · exact absurd hj (tail_waits_from hs hc inv _ i rfl hki hin hun j h)
    refine ⟨hjn, ?_⟩
    by_cases hji : j = i
    · subst hji; exact hy.qOp hi H
    · have h1 := (H.2 j (ready_mono hj hji)).2
      obtain ⟨hjun, oj, hoj, hall⟩ := mem_ready.1 hj
      have hnot : ∀ e ∈ oj.after, Region.binds md e = true → e.on ≠ i := fun e he hb heq => by
        have h1 := hall e he hb
        rw [heq, getD_both hun] at h1
        cases h1
      have h2 := qOp_put hoj (hfree j oj hoj hji hjun hnot) (fun cs b => hsel i oi cs b hi) (fun cs b => hsel j oj cs b hoj) hy h1
      have hfree' : ∀ k ok, ops[k]? = some ok → k ≠ i → (listed.setIfInBounds j true).getD k true = false →
          (∀ e ∈ ok.after, Region.binds md e = true → e.on ≠ i) → oi.apart ops ok = true := fun k ok hk hki hun hno => by
        refine hfree k ok hk hki ?_ hno
        by_cases hjk : j = k
        · subst hjk; exact hjun
        · rw [getD_set_ne true hjk] at hun; exact hun
      refine qOp_mono (fun a' h3 => ih (listed.setIfInBounds j true) a' (inv.set hj hjn) hfree' (ready_mono hr (Ne.symm hji)) h3.1 ?_) h2
      rw [Array.setIfInBounds_comm _ _ hji]
      exact h3.2
def headB (md : Region.Mode) (ops : Array Oper) : Nat → Nat → Array Bool → Bool
  | 0, _, _ => true
  | f + 1, k, listed => (Region.ready md ops listed).contains k && Region.free md ops listed k && headB md ops f (k + 1) (listed.setIfInBounds k true)
theorem sinkFrom_more {k k' n : Nat} (h : sinkFrom md ops k n = true) (hk : k ≤ k') : sinkFrom md ops k' n = true := by
  unfold sinkFrom at *
  rw [List.all_eq_true] at *
  intro i hi
  have := h i hi
  simp only [Bool.or_eq_true, decide_eq_true_eq] at this ⊢
  rcases this with h | h
  · left; omega
  · right; exact h
theorem wpAnyLQ_lex {C : World → Prop} {n : Nat} {Lq : Act → Prop} {done : Array Bool} (hsel : Region.noSelect ops = true) (hc : chainFrom md ops n = true)
    (hdone : ∀ j ∈ Region.ready md ops done, n ≤ j) :
    ∀ (l : List Oper) (k : Nat) (listed : Array Bool) (a : Act), (∀ j, j < l.length → l[j]? = ops[k + j]?) → k + l.length = n → sinkFrom md ops k n = true → HeadInv md ops n listed →
    mark l.length k listed = done → headB md ops l.length k listed = true → wpQuiet P ops C Lq l a →
    wpAnyLQ P md ops C n (fun listed' a' => listed' = done ∧ Lq a') l.length listed a
  | [], k, listed, a, _, hk, _, _, hm, hB, h => ⟨hm, h⟩
  | o :: l, k, listed, a, hl, hk, hs, inv, hm, hB, h => by
    have h0 : ops[k]? = some o := by simpa using (hl 0 (by simp)).symm
    simp only [List.length_cons, headB, Bool.and_eq_true] at hB
    obtain ⟨⟨hr, hf⟩, hB'⟩ := hB
    have hkn : k < n := by simp only [List.length_cons] at hk; omega
    have hr' : k ∈ Region.ready md ops listed := by simpa using hr
    have hst : qOp P ops C k (wpQuiet P ops C Lq l) a := by unfold qOp; simp only [h0]; exact h
    obtain ⟨v, hy, hK⟩ := yieldsIn_of_qOp h0 hst
    exact wpAnyLQ_first (L := fun listed' a' => listed' = done ∧ Lq a') h0 (Region.noSelect_spec hsel) hs hc (Nat.le_refl k) hkn (fun listed' a' hL => by rw [hL.1]; exact hdone) l.length listed a inv (Region.free_spec h0 hf) hr' hy
      (wpAnyLQ_lex hsel hc hdone l (k + 1) _ _ (fun j hj => by have := hl (j + 1) (by simp; omega); simpa [Nat.add_assoc, Nat.add_comm 1 j] using this) (by simp only [List.length_cons] at hk; omega)
        (sinkFrom_more hs (by omega)) (inv.set hr' hkn) hm hB' hK)
/-! ### Stretches and forced operations in turn -/
def After.cls (w : World) : World → Prop := fun w' => ∃ x : After w, w' = x.w
/-- (f, g): f operations that are quiet, then g that are forced. -/
def wpMix (P : Program) (ops : Array Oper) (Q : Exit → Act → World → Prop) : List (Nat × Nat) → List Oper → Act → World → Prop
  | [], l, a, w => wpQuiet P ops (fun w' => ∃ x : After w, w' = x.w) (fun a' => ∀ w', Below w.heap.size w w' → Q .normal a' w') l a
  | (f, g) :: rest, l, a, w => wpQuiet P ops (fun w' => ∃ x : After w, w' = x.w)
      (fun a' => ∀ w', Below w.heap.size w w' → wpList P ops (mixQ Q (wpMix P ops Q rest (l.drop (f + g)))) ((l.drop f).take g) a' w') (l.take f) a
def mixB (md : Region.Mode) (ops : Array Oper) : List (Nat × Nat) → Nat → Array Bool → Bool
  | [], k, listed => Region.lexFrom md ops (ops.size - k) k listed
  | (f, g) :: rest, k, listed => decide (0 < g) && decide (k + f + g ≤ ops.size) && invB md ops (k + f) listed && sinkFrom md ops k (k + f) && chainFrom md ops (k + f) && headB md ops f k listed &&
      forcedB md ops g (k + f) (mark f k listed) && mixB md ops rest (k + f + g) (mark g (k + f) (mark f k listed))
theorem mix_sound (hsel : Region.noSelect ops = true) : ∀ (segs : List (Nat × Nat)) (l : List Oper) (k : Nat) (listed : Array Bool) (a : Act) (w w0 : World), (∀ j, l[j]? = ops[k + j]?) → k ≤ ops.size →
    Below w.heap.size w w0 → mixB md ops segs k listed = true → wpMix P ops Q segs l a w → wpAny P md ops Q l.length listed a w0
  | [], l, k, listed, a, w, w0, hl, hk, hb, hB, h => by
    have hlen : l.length = ops.size - k := by
      rcases Nat.lt_trichotomy l.length (ops.size - k) with h1 | h1 | h1
      · have := hl l.length
        rw [List.getElem?_eq_none (Nat.le_refl _)] at this
        have h2 : k + l.length < ops.size := by omega
        rw [Array.getElem?_eq_getElem h2] at this
        cases this
      · exact h1
      · have := hl (ops.size - k)
        rw [Array.getElem?_eq_none (by omega), List.getElem?_eq_getElem h1] at this
        cases this
    have hB' : Region.lexFrom md ops l.length k listed = true := by rw [hlen]; exact hB
    exact wpAny_of_quiet (C := fun w' => ∃ x : After w, w' = x.w) (Q := fun a' => ∀ w', Below w.heap.size w w' → Q .normal a' w') (fun a' w' ⟨x, e⟩ hq => hq w' (e ▸ x.below)) _ _ _ _ ⟨⟨w0, hb⟩, rfl⟩ (wpAnyQ_lex hsel l k listed a hl hB' h)
  | (f, g) :: rest, l, k, listed, a, w, w0, hl, hk, hb, hB, h => by
    simp only [mixB, Bool.and_eq_true, decide_eq_true_eq] at hB
    obtain ⟨⟨⟨⟨⟨⟨⟨hg, hsz⟩, hinv⟩, hs⟩, hc⟩, hhead⟩, hforced⟩, hrest⟩ := hB
    have hlen : l.length = ops.size - k := by
      rcases Nat.lt_trichotomy l.length (ops.size - k) with h1 | h1 | h1
      · have := hl l.length
        rw [List.getElem?_eq_none (Nat.le_refl _)] at this
        have h2 : k + l.length < ops.size := by omega
        rw [Array.getElem?_eq_getElem h2] at this
        cases this
      · exact h1
      · have := hl (ops.size - k)
        rw [Array.getElem?_eq_none (by omega), List.getElem?_eq_getElem h1] at this
        cases this
    have hf : (l.take f).length = f := by rw [List.length_take]; omega
    have hgl : ((l.drop f).take g).length = g := by rw [List.length_take, List.length_drop]; omega
    have hdl : (l.drop (f + g)).length = l.length - (f + g) := by rw [List.length_drop]
    have hdone : ∀ j ∈ Region.ready md ops (mark f k listed), k + f ≤ j := by
      obtain ⟨g', rfl⟩ : ∃ g', g = g' + 1 := ⟨g - 1, by omega⟩
      simp only [forcedB, Bool.and_eq_true, decide_eq_true_eq] at hforced
      intro j hj
      rw [hforced.1] at hj
      have : j = k + f := by simpa using hj
      omega
    have hq := wpAnyLQ_lex (P := P) (C := fun w' => ∃ x : After w, w' = x.w) (n := k + f) hsel hc hdone (l.take f) k listed a
      (fun j hj => by rw [hf] at hj; rw [List.getElem?_take_of_lt hj]; exact hl j) (by rw [hf]) hs (headInv_of hinv) (by rw [hf]) (by rw [hf]; exact hhead) h
    rw [hf] at hq
    have hfin := wpAny_of_headQ (P := P) (Q := Q) (g := g + (l.length - (f + g))) (fun listed' a' w' (hw' : ∃ x : After w, w' = x.w) hL => by
      obtain ⟨rfl, hL⟩ := hL
      obtain ⟨x, rfl⟩ := hw'
      have hL := hL x.w x.below
      have := wpAny_of_forced (P := P) (Q := Q) (md := md) (ops := ops) (F := l.length - (f + g)) ((l.drop f).take g) (k + f) (mark f k listed) a' x.w (fun j hj => by
        rw [hgl] at hj
        rw [List.getElem?_take_of_lt hj, List.getElem?_drop, Nat.add_assoc]
        exact hl (f + j)) (by rw [hgl]; exact hforced) ?_
      · rw [hgl] at this; exact this
      · rw [hgl]
        refine wpList_mixmono (fun a'' w'' hm => ?_) _ _ _ hL
        rw [← hdl]
        exact mix_sound hsel rest (l.drop (f + g)) (k + f + g) _ a'' w'' w'' (fun j => by rw [List.getElem?_drop]; have := hl (f + g + j); rw [this]; congr 1; omega) hsz (Below.refl _ _) hrest hm) f listed a w0 ⟨⟨w0, hb⟩, rfl⟩ hq
    rw [show l.length = f + (g + (l.length - (f + g))) by omega]
    exact hfin
where
  wpList_mixmono {P : Program} {ops : Array Oper} {Q : Exit → Act → World → Prop} {R R' : Act → World → Prop} (h : ∀ a w, R a w → R' a w) : ∀ (l : List Oper) (a : Act) (w : World), wpList P ops (mixQ Q R) l a w → wpList P ops (mixQ Q R') l a w
    | [], a, w, hh => h _ _ hh
    | o :: l, a, w, hh => by
      simp only [wpList] at hh ⊢
      split
      · rename_i hw
        rw [if_pos hw] at hh
        rcases hh with hh | hh
        · left
          have h1 := Oper.wp_mono (wpList_mixmono h l) hh
          unfold Oper.wp at *
          generalize (execOp a.eval o).run P w = r at *
          cases r with
          | ok n w' =>
            cases n <;> simp only [Oper.upon] at h1 ⊢
            case enter f args => exact Calls.mono h1 (fun e w'' he => by cases e <;> exact he)
            all_goals exact h1
          | halt x w' => cases x <;> simp only [Oper.upon] at h1 ⊢ <;> exact h1
        · exact .inr hh
      · rename_i hw
        rw [if_neg hw] at hh
        exact wpList_mixmono h l _ _ hh
theorem wp_region_mix {id : Nat} {a : Act} {W : World} {l : List Oper} (segs : List (Nat × Nat)) (hm : P.follows .mixedOrders = true)
    (hB : (Region.noSelect l.toArray && mixB .any l.toArray segs 0 (Array.replicate l.toArray.size false)) = true)
    (h : wpMix P l.toArray Q segs l a W) : (Code.region id l.toArray true).wp P Q a W := by
  simp only [Bool.and_eq_true] at hB
  refine wp_region_any hm ?_
  have := mix_sound (P := P) (Q := Q) (md := .any) hB.1 segs l 0 (Array.replicate l.toArray.size false) a W W.drew (fun j => by simp) (by simp) (Below.refl _ _).drew hB.2 h
  simpa using this
end
end Go.Proofs.Ytkogplnleiapfaa
