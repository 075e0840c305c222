/- A drawn region inside a wide fence: operations that only read, and callees that make memory, ahead of operations whose order is forced and which may yield to a loop's body. No program in sight. -/
import Derived.Test.YtkgddgckilledaaQi
import Derived.RangeFuncCalls
import Derived.RangeFuncNested
namespace Go.Proofs.Ytkgddgckilledaa
open Go.RowKit
set_option linter.unusedVariables false
set_option linter.unusedSimpArgs false
section
variable {P : Program} {ops : Array Oper} {md : Region.Mode} {Q : Exit → Act → World → Prop} {nF : Nat} {F : Fence}
theorem rowsIn_wide {n : Nat} {row : String} {args : Array Value} {w : World} {R : Value → World → Prop} (h : Rows P row args w R) : RowsIn Fence.wide n P row args w R := fun c cs _ =>
  let ⟨v, w', r, s⟩ := h c cs
  ⟨v, w', r, stepsIn_wide.2 s⟩
theorem wpIn_of_wpF {o : Oper} {a : Act} {w : World} {K : Act → World → Prop} (h : o.wp P a w K (fun _ _ _ => False)) : o.wpIn Fence.wide nF P a w K Q := by
  unfold Oper.wpIn
  refine ⟨fun f _ => trivial, ?_⟩
  rw [show Fence.wide.round = none from rfl, Oper.semAt_none]
  unfold Oper.wp at h
  generalize (execOp a.eval o).run P w = r at h ⊢
  cases r with
  | ok x w' =>
    cases x <;> simp only [Oper.upon] at h <;> simp only [Oper.uponIn] <;> first
      | exact h
      | (refine ⟨fun k => (by cases k), callsIn_wide.2 (Calls.mono h ?_)⟩
         intro e w'' he
         cases e
         · exact he
         · exact he.elim
         · obtain ⟨_, _, he⟩ := he; exact he.elim)
      | exact ⟨fun k => (by cases k), rowsIn_wide h⟩
  | halt x w' => cases x <;> simp only [Oper.upon] at h
theorem wpOpIn_of_qOp {C : World → Prop} {i : Nat} {a : Act} {K : Act → Prop} {K' : Act → World → Prop} {w : World} (hC : C w) (h : ∀ a w', C w' → K a → K' a w') (hh : qOp P ops C i K a) : wpOpIn Fence.wide nF P ops Q i K' a w := by
  unfold qOp at hh
  unfold wpOpIn
  split
  · rename_i ho; simp only [ho] at hh; exact h _ _ hC hh
  · rename_i o ho
    simp only [ho] at hh
    split
    · rename_i hw; simp only [hw, if_true] at hh; exact wpIn_of_wpF (Oper.wp_of_quiet hC h hh)
    · rename_i hw; simp only [hw] at hh; exact ⟨fun f _ => trivial, h _ _ hC hh⟩
theorem wpAnyIn_of_headQ {C : World → Prop} {n g : Nat} {L : Array Bool → Act → Prop} (hL : ∀ listed a w, C w → L listed a → wpAnyIn Fence.wide nF P md ops Q g listed a w) :
    ∀ (f : Nat) (listed : Array Bool) (a : Act) (w : World), C w → wpAnyLQ P md ops C n L f listed a → wpAnyIn Fence.wide nF P md ops Q (f + g) listed a w
  | 0, listed, a, w, hw, h => by rw [Nat.zero_add]; exact hL _ _ _ hw h
  | f + 1, listed, a, w, hw, h => by
    rw [show f + 1 + g = (f + g) + 1 by omega]
    exact ⟨fun h0 => absurd h0 h.1, fun i hi => wpOpIn_of_qOp hw (fun a' w' hw' h' => wpAnyIn_of_headQ hL f _ a' w' hw' h') (h.2 i hi).2⟩
theorem wpIn_mixQ {o : Oper} {R : Act → World → Prop} {a : Act} {w : World} {K : Act → World → Prop} (h : o.wpIn F nF P a w K (mixQ Q R)) : o.wpIn F nF P a w K Q := by
  unfold Oper.wpIn at *
  refine ⟨h.1, ?_⟩
  have h := h.2
  generalize (o.semAt F.round a.eval).run P w = r at *
  cases r with
  | ok n w' =>
    cases n <;> simp only [Oper.uponIn] at h ⊢ <;> first
      | exact h
      | exact ⟨h.1, CallsIn.mono h.2 (fun e w'' he => by cases e <;> exact he)⟩
      | exact ⟨h.1, RoundIn.mono h.2 (fun e w'' he => by cases e <;> exact he)⟩
  | halt x w' => cases x <;> simp only [Oper.uponIn] at h ⊢ <;> exact h
theorem wpAnyIn_of_forced {f0 : Nat} : ∀ (l : List Oper) (k : Nat) (listed : Array Bool) (a : Act) (w : World), (∀ j, j < l.length → l[j]? = ops[k + j]?) →
    forcedB md ops l.length k listed = true → wpListIn F nF P ops (mixQ Q (fun a w => wpAnyIn F nF P md ops Q f0 (mark l.length k listed) a w)) l a w → wpAnyIn F nF P md ops Q (l.length + f0) listed a w
  | [], k, listed, a, w, _, _, h => by
    rw [List.length_nil, Nat.zero_add]; exact h
  | o :: l, k, listed, a, w, hl, hB, h => by
    have h0 : ops[k]? = some o := by simpa using (hl 0 (by simp)).symm
    simp only [List.length_cons, forcedB, Bool.and_eq_true, decide_eq_true_eq] at hB
    rw [List.length_cons, show l.length + 1 + f0 = (l.length + f0) + 1 by omega]
    refine ⟨fun h1 => (by rw [hB.1] at h1; cases h1), fun i hi => ?_⟩
    rw [hB.1] at hi
    have hik : i = k := by simpa using hi
    subst hik
    have ih : ∀ a' w', wpListIn F nF P ops (mixQ Q (fun a w => wpAnyIn F nF P md ops Q f0 (mark l.length (i + 1) (listed.setIfInBounds i true)) a w)) l a' w' → wpAnyIn F nF P md ops Q (l.length + f0) (listed.setIfInBounds i true) a' w' := fun a' w' h' =>
      wpAnyIn_of_forced l (i + 1) _ a' w' (fun j hj => by have := hl (j + 1) (by simp; omega); simpa [Nat.add_assoc, Nat.add_comm 1 j] using this) hB.2 h'
    unfold wpOpIn
    simp only [h0]
    simp only [wpListIn] at h
    split
    · rename_i hw
      rw [if_pos hw] at h
      exact Oper.wpIn_mono ih (wpIn_mixQ h)
    · rename_i hw
      rw [if_neg hw] at h
      exact ⟨h.1, ih _ _ h.2⟩
theorem mixQ_self : mixQ Q (fun a w => Q .normal a w) = Q := by funext e; cases e <;> rfl
def yieldB (ops : Array Oper) (n : Nat) : Bool :=
  let l0 := Array.replicate ops.size false
  let l1 := mark n 0 l0
  Region.noSelect ops && decide (n < ops.size) && invB .any ops n l0 && sinkFrom .any ops 0 n && chainFrom .any ops n && headB .any ops n 0 l0 && forcedB .any ops (ops.size - n) n l1 &&
    decide (Region.ready .any ops (mark (ops.size - n) n l1) = [])
theorem wpIn_region_yield {id : Nat} {a : Act} {W : World} {l : List Oper} (n : Nat) (hm : P.follows .mixedOrders = true) (hB : yieldB l.toArray n = true)
    (h : wpQuiet P l.toArray (fun w' => ∃ x : After W, w' = x.w) (fun a' => ∀ w', Below W.heap.size W w' → wpListIn Fence.wide nF P l.toArray Q (l.drop n) a' w') (l.take n) a) : (Code.region id l.toArray true).wpIn Fence.wide nF P Q a W := by
  simp only [yieldB, Bool.and_eq_true, decide_eq_true_eq] at hB
  obtain ⟨⟨⟨⟨⟨⟨⟨hsel, hn⟩, hinv⟩, hs⟩, hc⟩, hhead⟩, hforced⟩, hend⟩ := hB
  refine wpIn_region_any hm ?_
  have hn' : n < l.length := by simpa using hn
  have hf : (l.take n).length = n := by rw [List.length_take]; omega
  have hgl : (l.drop n).length = l.toArray.size - n := by simp
  have hdone : ∀ j ∈ Region.ready .any l.toArray (mark n 0 (Array.replicate l.toArray.size false)), n ≤ j := by
    obtain ⟨g', hg'⟩ : ∃ g', l.toArray.size - n = g' + 1 := ⟨l.toArray.size - n - 1, by omega⟩
    rw [hg'] at hforced
    simp only [forcedB, Bool.and_eq_true, decide_eq_true_eq] at hforced
    intro j hj
    rw [hforced.1] at hj
    have : j = n := by simpa using hj
    omega
  have hq := wpAnyLQ_lex (P := P) (C := fun w' => ∃ x : After W, w' = x.w) (n := n) hsel hc hdone (l.take n) 0 (Array.replicate l.toArray.size false) a
    (fun j hj => by rw [hf] at hj; rw [List.getElem?_take_of_lt hj]; simp) (by rw [hf]; omega) hs (headInv_of hinv) (by rw [hf]) (by rw [hf]; exact hhead) h
  rw [hf] at hq
  have hfin := wpAnyIn_of_headQ (nF := nF) (P := P) (Q := Q) (g := l.toArray.size - n) (fun listed' a' w' hw' hL => by
    obtain ⟨rfl, hL⟩ := hL
    obtain ⟨x, rfl⟩ := hw'
    have hL := hL x.w x.below
    have := wpAnyIn_of_forced (F := Fence.wide) (nF := nF) (P := P) (Q := Q) (md := .any) (ops := l.toArray) (f0 := 0) (l.drop n) n _ a' x.w (fun j hj => by rw [List.getElem?_drop]; simp) (by rw [hgl]; exact hforced)
      (by
        have e : (fun a w => wpAnyIn Fence.wide nF P .any l.toArray Q 0 (mark (l.drop n).length n (mark n 0 (Array.replicate l.toArray.size false))) a w) = (fun a w => Q .normal a w) := by
          funext a w
          rw [hgl]
          exact propext ⟨fun k => k.2, fun k => ⟨hend, k⟩⟩
        rw [e, mixQ_self]
        exact hL)
    rw [hgl] at this
    exact this) n _ _ W.drew ⟨⟨W.drew, (Below.refl _ _).drew⟩, rfl⟩ hq
  rw [show n + (l.toArray.size - n) = l.toArray.size by omega] at hfin
  exact hfin
/-! ### In a round of a wide fence: a drawn region of operations that only read, callees and the builtin len among them -/
def ndB : Op → Bool
  | .defer _ => false
  | _ => true
theorem nd_spec {o : Op} (h : ndB o = true) : ∀ c, o ≠ .defer c := fun c e => by rw [e] at h; cases h
theorem wpIn_of_wpR {l0 : Nat} {o : Oper} (hd : ndB o.op = true) {a : Act} {w : World} {K : Act → World → Prop} {R : Act → World → Prop} (h : o.wp P a w K (fun e a w => e = .normal ∧ R a w)) : o.wpIn (Fence.wide.inRound l0) nF P a w K Q := by
  unfold Oper.wpIn
  refine ⟨fun f _ => trivial, ?_⟩
  rw [Oper.semAt_eq _ _ _ (nd_spec hd)]
  unfold Oper.wp at h
  generalize (execOp a.eval o).run P w = r at h ⊢
  cases r with
  | ok x w' =>
    cases x <;> simp only [Oper.upon] at h <;> simp only [Oper.uponIn]
    case enter f args =>
      refine ⟨fun k => Bool.noConfusion (show false = true from k), CallsIn.inRound l0 (callsIn_wide.2 (Calls.mono h ?_))⟩
      intro e w'' he
      cases e
      · exact he
      · obtain ⟨he, _⟩ := he; cases he
      · obtain ⟨_, _, he, _⟩ := he; cases he
    case row row args => exact ⟨fun k => Bool.noConfusion (show false = true from k), fun c cs hr => rowsIn_wide (n := nF - 1) h c cs hr⟩
    all_goals exact h
  | halt x w' => cases x <;> simp only [Oper.upon] at h <;> first | exact h.elim | (cases h.1)
theorem any_inR {l0 : Nat} {R : Act → World → Prop} (hR : ∀ a w, R a w → Q .normal a w) (hp : ∀ (i : Nat) (o : Oper), ops[i]? = some o → ndB o.op = true) :
    ∀ f listed a w, wpAny P md ops (fun e a w => e = .normal ∧ R a w) f listed a w → wpAnyIn (Fence.wide.inRound l0) nF P md ops Q f listed a w
  | 0, listed, a, w, h => ⟨h.1, hR _ _ h.2.2⟩
  | f + 1, listed, a, w, h => by
    refine ⟨fun k => hR _ _ (h.1 k).2, fun i hi => ?_⟩
    have h2 := h.2 i hi
    unfold wpOp at h2
    unfold wpOpIn
    cases ho : ops[i]? with
    | none => rw [ho] at h2; exact any_inR hR hp f _ _ _ h2
    | some o =>
      rw [ho] at h2
      dsimp only at h2 ⊢
      split
      · rename_i hw
        rw [if_pos hw] at h2
        rcases h2 with h2 | ⟨_, h2⟩
        · exact wpIn_of_wpR (hp i o ho) (Oper.wp_mono (fun a w k => any_inR hR hp f _ a w k) h2)
        · obtain ⟨_, _, he, _⟩ := h2; cases he
      · rename_i hw
        rw [if_neg hw] at h2
        exact ⟨fun g hg => trivial, any_inR hR hp f _ _ _ h2⟩
theorem wpIn_region_afterR {l0 : Nat} {id : Nat} {a : Act} {W : World} {l : List Oper} (hm : P.follows .mixedOrders = true)
    (hB : (Region.noSelect l.toArray && mixB .any l.toArray [] 0 (Array.replicate l.toArray.size false)) = true) (hp : (l.all fun o => ndB o.op) = true)
    (h : wpQuiet P l.toArray (fun w' => ∃ x : After W, w' = x.w) (fun a' => ∀ w', Below W.heap.size W w' → Exit.normal = Exit.normal ∧ Q .normal a' w') l a) : (Code.region id l.toArray true).wpIn (Fence.wide.inRound l0) nF P Q a W := by
  simp only [Bool.and_eq_true] at hB
  refine wpIn_region_any hm ?_
  have := mix_sound (P := P) (Q := fun e a w => e = .normal ∧ Q .normal a w) (md := .any) hB.1 [] l 0 (Array.replicate l.toArray.size false) a W W.drew (fun j => by simp) (by simp) (Below.refl _ _).drew hB.2 h
  refine any_inR (R := fun a w => Q .normal a w) (fun _ _ k => k) (fun i o ho => ?_) _ _ _ _ (by simpa using this)
  exact List.all_eq_true.1 hp o (List.mem_of_getElem? (by simpa using ho))
/-- What follows a range over a function, met once: the mark that the range has laid is all that the frame has gained. -/
theorem wpIn_cutD {s : Code} {K : Act → World → Prop} {Q' : Exit → Act → World → Prop} {a : Act} {w : World} (R : Nat → World → Prop)
    (first : ∀ K' : Act → World → Prop, (∀ D w', R D w' → K' { a with defers := { target := .collected D, args := #[] } :: a.defers } w') → s.wpIn F nF P (Exit.then K' Q') a w)
    (rest : ∀ D w', R D w' → K { a with defers := { target := .collected D, args := #[] } :: a.defers } w') : s.wpIn F nF P (Exit.then K Q') a w := first K rest
/-- A range over a function whose loop variable lies in a box of its own, made anew in each round. -/
theorem wpIn_rangeFunc_ownB {n : Nat} {α : Type} {g : Operand} {ps : Array Tmp} {assign body : Code} {a : Act} {w : World}
    (hro : F.round = none) (h1 : 1 ≤ n) {gf : Nat} {lb : Array Value} (hg : a.eval g = .func (.func gf) #[] lb) (hFg : F.fn gf) (eg : ∀ args w, (callFunc gf args).run P w = .ok (.enter gf args) w)
    {encs : α → Array Value} {Kp : World → World → Prop} {S Sp : List α → Prop} {N : Nat} {w0 : World} (hseq : SeqStopsK F (n - 1) P gf lb encs Kp S Sp N w0)
    (hKt : ∀ {A B C : World}, Kp A B → Kp B C → Kp A C) (hKb : ∀ (W : World) (l : Nat) (o o' : Obj), w.heap.size ≤ l → W.heap[l]? = some o → o.isCells = false → o.isWalk = false → Kp W (W.putObj l o')) (hb0 : Below w0.heap.size w0 w) (hps : ∀ x, (encs x).size = ps.size)
    (I : List α → World → Prop) (Ix : Code → List α → World → Prop) (hI : OwnFrom w.heap.size I) (hIx : ∀ c, OwnFrom w.heap.size (Ix c)) (h0 : I [] w)
    (C : α → Nat → World → Prop) (hC : ∀ x b, OwnFrom w.heap.size (fun (_ : Unit) W => C x b W)) (a₁ : α → Nat → Act)
    (hassign : ∀ (l : Nat) (pre : List α) (x : α) (W : World) (K : Act → World → Prop), I pre W → (∀ b W', KeepsFrom w.heap.size W W' → Kp W W' → I pre W' → C x b W' → K (a₁ x b) W') →
      assign.wpIn (F.inRound l) (n - 1 - 1) P (Exit.then K (fun _ _ _ => False)) { tmps := (ps.zip (encs x)).foldl (fun t (p, v) => t.setIfInBounds p v) a.tmps, defers := [] } W)
    (hbody : ∀ (l : Nat) (pre : List α) (x : α) (b : Nat) (W : World), I pre W → C x b W → pre.length < N → body.wpIn (F.inRound l) (n - 1 - 1) P (ownPostG w.heap.size Kp I Ix (pre ++ [x]) W) (a₁ x b) W)
    (hdone : ∀ (D : Nat) (xs : List α) (W : World), w.heap.size ≤ D → S xs → I xs W → W.heap[D]? = some (.deferred (some [])) → Q .normal { a with defers := { target := .collected D, args := #[] } :: a.defers } W)
    (hstop : ∀ (D : Nat) (c : Code) (pre : List α) (W : World), w.heap.size ≤ D → Sp pre → Ix c pre W → W.heap[D]? = some (.deferred (some [])) → c.wpIn F n P Q { a with defers := { target := .collected D, args := #[] } :: a.defers } W) :
    (Code.rangeFunc g ps assign body).wpIn F n P Q a w :=
  wpIn_rangeFunc_ownH hro h1 hg hFg eg hseq (fun h k => hKt h k) hKb hb0 hps I Ix hI hIx h0 (fun x a' W => ∃ b, a' = a₁ x b ∧ C x b W)
    (fun x a' u X Y row h hg hr => by obtain ⟨b, e, h⟩ := h; exact ⟨b, e, hC x b u X Y row h hg hr⟩)
    (fun l pre x W K hi hK => hassign l pre x W K hi fun b W' q1 q2 q3 q4 => hK _ _ q1 q2 q3 ⟨b, rfl, q4⟩)
    (fun l pre x a' W _ _ hi ⟨b, e, hc⟩ hl => by subst e; exact hbody l pre x b W hi hc hl) hdone hstop
end
end Go.Proofs.Ytkgddgckilledaa
