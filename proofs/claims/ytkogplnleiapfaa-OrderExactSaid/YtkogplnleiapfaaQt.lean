/- A region that draws its order, one of whose calls turns the world from one class to another: whatever comes up before or behind it is quiet in both. Walked once, in the order of the text. No program in sight. -/
import Derived.Test.YtkogplnleiapfaaQm
namespace Go.Proofs.Ytkogplnleiapfaa
open Go.RowKit
set_option linter.unusedSimpArgs false
section
variable {P : Program} {ops : Array Oper} {md : Region.Mode} {Q : Exit → Act → World → Prop} {T : Bool → World → Prop} {t : Nat}
theorem value_no_enter {α : Type} (s : Sem α) (g : α → Next) (f : FuncId) (args : Array Value) (hg : ∀ a, g a ≠ .enter f args) (w' : World) :
    ∀ w, (s.bind fun v => Sem.pure (g v)).run P w ≠ .ok (.enter f args) w' := by
  induction s with
  | pure a => intro w h; simp [Sem.bind, Sem.run] at h; exact hg _ h.1
  | halt x => intro w h; simp [Sem.bind] at h
  | load m a k ih =>
    intro w h
    simp only [Sem.bind, Sem.run] at h
    split at h
    · exact ih _ _ h
    · split at h
      · exact ih _ _ h
      · cases h
  | store m a v k ih =>
    intro w h
    simp only [Sem.bind] at h
    cases v <;> simp only [Sem.run] at h <;> first | (cases h; done) | skip
    all_goals
      split at h
      · split at h
        · cases h
        · exact ih _ h
      · split at h
        · exact ih _ h
        · cases h
  | getObj r k ih =>
    intro w h
    simp only [Sem.bind, Sem.run] at h
    split at h
    · cases h
    · exact ih _ _ h
    · cases h
  | setObj r o k ih =>
    intro w h
    simp only [Sem.bind, Sem.run] at h
    split at h
    · cases h
    · exact ih _ h
    · cases h
  | choose q k ih =>
    intro w h
    simp only [Sem.bind, Sem.run] at h
    split at h
    · exact ih _ _ h
    · exact ih _ _ h
  | _ => 
    intro w h
    simp only [Sem.bind, Sem.run] at h
    rename_i ih
    first | exact ih _ h | exact ih _ _ h
/-- Operations that never enter a function. -/
def plainB : Op → Bool
  | .move _ | .assign _ | .pick _ _ _ | .load _ _ | .fieldAddr _ _ _ | .indexAddr _ _ _ | .binOp _ _ _ _ _ => true
  | _ => false
theorem no_enter {o : Oper} (h : plainB o.op = true) (ρ : Operand → Value) (w : World) (f : FuncId) (args : Array Value) (w' : World) : (execOp ρ o).run P w ≠ .ok (.enter f args) w' := by
  unfold execOp
  split <;> (rename_i ho; rw [ho] at h) <;> first | (simp [plainB] at h; done) | exact value_no_enter _ (fun v => Next.value v) _ _ (fun _ h => by cases h) _ _ | (intro h; simp [pure, Sem.run] at h; done) | skip
  · exact value_no_enter _ (fun v => Next.value (if v = true then _ else _)) _ _ (fun _ h => by cases h) _ _
theorem check_no_enter {o : Oper} {x : Operand} {p : Addr} (h : o.op = .nilCheck x) {ρ : Operand → Value} (hx : ρ x = .pointer (some p)) (w : World) (f : FuncId) (args : Array Value) (w' : World) :
    (execOp ρ o).run P w ≠ .ok (.enter f args) w' := by
  unfold execOp
  rw [h]
  simp only [hx]
  intro h
  simp [pure, Sem.run] at h
/-- What is asked of operation i, in either class; t is the one that turns. -/
def TAt (P : Program) (T : Bool → World → Prop) (t i : Nat) (o : Oper) (a : Act) (v : Value) : Prop :=
  ∀ b w, (i = t → b = false) → T b w → o.quietAt P a (T (b || decide (i = t))) w v ∧ (i = t → ∃ f args w', (execOp a.eval o).run P w = .ok (.enter f args) w')
def YT (P : Program) (ops : Array Oper) (T : Bool → World → Prop) (t i : Nat) (o : Oper) (v : Value) (a : Act) : Prop :=
  (Region.wanted o (yielded ops a.tmps) = true ∧ TAt P T t i o a v) ∨ (Region.wanted o (yielded ops a.tmps) = false ∧ v = undef ∧ i ≠ t)
def tOp (P : Program) (ops : Array Oper) (T : Bool → World → Prop) (t i : Nat) (K : Act → Prop) (a : Act) : Prop := ∃ o v, ops[i]? = some o ∧ YT P ops T t i o v a ∧ K (a.put o.dst v)
theorem tOp_mono {i : Nat} {a : Act} {K K' : Act → Prop} (h : ∀ a, K a → K' a) (hh : tOp P ops T t i K a) : tOp P ops T t i K' a :=
  let ⟨o, v, h1, h2, h3⟩ := hh
  ⟨o, v, h1, h2, h _ h3⟩
theorem YT.of_same {i : Nat} {o : Oper} {v : Value} {a a' : Act} (hy : YT P ops T t i o v a) (he : execOp a'.eval o = execOp a.eval o)
    (hw : Region.wanted o (yielded ops a'.tmps) = Region.wanted o (yielded ops a.tmps)) : YT P ops T t i o v a' := by
  unfold YT TAt Oper.quietAt at *
  rw [he, hw]
  exact hy
theorem tOp_put {i j : Nat} {oi oj : Oper} {v : Value} (hj : ops[j]? = some oj) (hap : oi.apart ops oj = true)
    (hsi : ∀ cs b, oi.op ≠ .select cs b) (hsj : ∀ cs b, oj.op ≠ .select cs b) {K : Act → Prop} {a : Act} (hy : YT P ops T t i oi v a) (h : tOp P ops T t j K (a.put oi.dst v)) :
    tOp P ops T t j (fun a' => YT P ops T t i oi v a' ∧ K (a'.put oi.dst v)) a := by
  obtain ⟨h1, h2, h3⟩ := Oper.apart_spec hap
  obtain ⟨o, u, ho, hu, hK⟩ := h
  have : o = oj := Option.some.inj (ho.symm.trans hj)
  subst this
  refine ⟨o, u, hj, hu.of_same (execOp_put o hsj a oi.dst v h1).symm (wanted_put o a oi.dst v h1).symm, hy.of_same (execOp_put oi hsi a o.dst u h3) (wanted_put oi a o.dst u h3), ?_⟩
  rw [← Act.put_comm a v u h2]
  exact hK
theorem wpOp_of_tOp {i : Nat} {a : Act} {K : Act → Prop} {K' : Act → World → Prop} {w : World} {b : Bool} (hT : T b w) (hi : i = t → b = false)
    (h : ∀ a w', T (b || decide (i = t)) w' → K a → K' a w') (hh : tOp P ops T t i K a) : wpOp P ops Q i K' a w := by
  obtain ⟨o, v, ho, hy, hK⟩ := hh
  unfold wpOp
  simp only [ho]
  rcases hy with ⟨hw, hy⟩ | ⟨hw, rfl, hne⟩
  · rw [if_pos hw]
    left
    by_cases hit : i = t
    · obtain ⟨h1, h2⟩ := hy b w hi hT
      obtain ⟨f, args, w', hr⟩ := h2 hit
      unfold Oper.quietAt at h1
      unfold Oper.wp
      rw [hr] at h1 ⊢
      simp only [Oper.quietUpon] at h1
      simp only [Oper.upon]
      obtain ⟨e1, hc⟩ := h1
      rw [e1]
      exact hc.mono fun e w'' ⟨he, hw''⟩ => by subst he; exact h _ _ hw'' hK
    · have hb : (b || decide (i = t)) = b := by rw [decide_eq_false hit, Bool.or_false]
      rw [hb] at h
      refine Oper.wp_of_quiet (C := T b) hT (K := fun a' => K a') h ⟨v, fun w hw => ?_, hK⟩
      have := (hy b w (fun e => absurd e hit) hw).1
      rwa [hb] at this
  · rw [if_neg (by rw [hw]; exact Bool.false_ne_true)]
    have hb : (b || decide (i = t)) = b := by rw [decide_eq_false hne, Bool.or_false]
    rw [hb] at h
    exact h _ _ hT hK
def wpAnyT (P : Program) (md : Region.Mode) (ops : Array Oper) (T : Bool → World → Prop) (t n : Nat) (L : Array Bool → Act → Prop) : Nat → Array Bool → Act → Prop
  | 0, listed, a => L listed a
  | f + 1, listed, a => Region.ready md ops listed ≠ [] ∧ ∀ i ∈ Region.ready md ops listed, i < n ∧ tOp P ops T t i (wpAnyT P md ops T t n L f (listed.setIfInBounds i true)) a
theorem wpAny_of_headT {n g : Nat} {L : Array Bool → Act → Prop} (hL : ∀ listed a w, T (listed.getD t false) w → L listed a → wpAny P md ops Q g listed a w) :
    ∀ (f : Nat) (listed : Array Bool) (a : Act) (w : World), T (listed.getD t false) w → wpAnyT P md ops T t n L f listed a → wpAny P md ops Q (f + g) listed a w
  | 0, listed, a, w, hw, h => by rw [Nat.zero_add]; exact hL _ _ _ hw h
  | f + 1, listed, a, w, hw, h => by
    rw [show f + 1 + g = (f + g) + 1 by omega]
    refine ⟨fun h0 => absurd h0 h.1, fun i hi => ?_⟩
    have hun := (mem_ready.1 hi).1
    have hlt : i < listed.size := by
      rcases Nat.lt_or_ge i listed.size with h' | h'
      · exact h'
      · simp [Array.getElem?_eq_none h'] at hun
    refine wpOp_of_tOp hw (fun e => by subst e; exact getD_both hun) (fun a' w' hw' h' => wpAny_of_headT hL f _ a' w' ?_ h') (h.2 i hi).2
    have : (listed.setIfInBounds i true).getD t false = (listed.getD t false || decide (i = t)) := by
      by_cases hit : i = t
      · subst hit
        rw [decide_eq_true rfl, Bool.or_true]
        simp [hlt]
      · rw [decide_eq_false hit, Bool.or_false]
        exact getD_set_ne false hit
    rw [this]
    exact hw'
theorem wpAnyT_first {k n i : Nat} {oi : Oper} {v : Value} {L : Array Bool → Act → Prop} (hi : ops[i]? = some oi) (hsel : ∀ (j : Nat) (o : Oper) cs b, ops[j]? = some o → o.op ≠ .select cs b)
    (hs : sinkFrom md ops k n = true) (hc : chainFrom md ops n = true) (hki : k ≤ i) (hin : i < n)
    (hdone : ∀ listed a, L listed a → ∀ j ∈ Region.ready md ops listed, n ≤ j) :
    ∀ (f : Nat) (listed : Array Bool) (a : Act), HeadInv md ops n listed →
      (∀ j oj, ops[j]? = some oj → j ≠ i → listed.getD j true = false → (∀ e ∈ oj.after, Region.binds md e = true → e.on ≠ i) → oi.apart ops oj = true) →
      i ∈ Region.ready md ops listed → YT P ops T t i oi v a →
      wpAnyT P md ops T t n L f (listed.setIfInBounds i true) (a.put oi.dst v) → wpAnyT P md ops T t n L (f + 1) listed a := by
  intro f
  induction f with
  | zero =>
    intro listed a inv _ hr hy H
    have hun := (mem_ready.1 hr).1
    refine ⟨fun h => (by rw [h] at hr; cases hr), fun j hj => ?_⟩
    have hjn : j < n := by
      rcases Nat.lt_or_ge j n with h | h
      · exact h
      · exact absurd hj (tail_waits_from hs hc inv _ i rfl hki hin hun j h)
    refine ⟨hjn, ?_⟩
    by_cases hji : j = i
    · subst hji; exact ⟨oi, v, hi, hy, H⟩
    · have := hdone _ _ H j (ready_mono hj hji)
      omega
  | succ f ih =>
    intro listed a inv hfree hr hy H
    have hun := (mem_ready.1 hr).1
    refine ⟨fun h => (by rw [h] at hr; cases hr), fun j hj => ?_⟩
    have hjn : j < n := by
      rcases Nat.lt_or_ge j n with h | h
      · exact h
      · exact absurd hj (tail_waits_from hs hc inv _ i rfl hki hin hun j h)
    refine ⟨hjn, ?_⟩
    by_cases hji : j = i
    · subst hji; exact ⟨oi, v, hi, hy, H⟩
    · have h1 := (H.2 j (ready_mono hj hji)).2
      obtain ⟨hjun, oj, hoj, hall⟩ := mem_ready.1 hj
      have hnot : ∀ e ∈ oj.after, Region.binds md e = true → e.on ≠ i := fun e he hb heq => by
        have h1 := hall e he hb
        rw [heq, getD_both hun] at h1
        cases h1
      have h2 := tOp_put hoj (hfree j oj hoj hji hjun hnot) (fun cs b => hsel i oi cs b hi) (fun cs b => hsel j oj cs b hoj) hy h1
      have hfree' : ∀ k ok, ops[k]? = some ok → k ≠ i → (listed.setIfInBounds j true).getD k true = false →
          (∀ e ∈ ok.after, Region.binds md e = true → e.on ≠ i) → oi.apart ops ok = true := fun k ok hk hki hun hno => by
        refine hfree k ok hk hki ?_ hno
        by_cases hjk : j = k
        · subst hjk; exact hjun
        · rw [getD_set_ne true hjk] at hun; exact hun
      refine tOp_mono (fun a' h3 => ih (listed.setIfInBounds j true) a' (inv.set hj hjn) hfree' (ready_mono hr (Ne.symm hji)) h3.1 ?_) h2
      rw [Array.setIfInBounds_comm _ _ hji]
      exact h3.2
/-- The walk in the text's order. -/
def wpT (P : Program) (ops : Array Oper) (T : Bool → World → Prop) (t : Nat) (Lq : Act → Prop) : Nat → List Oper → Act → Prop
  | _, [], a => Lq a
  | i, o :: rest, a => ∃ v, YT P ops T t i o v a ∧ wpT P ops T t Lq (i + 1) rest (a.put o.dst v)
theorem wpAnyT_lex {n : Nat} {Lq : Act → Prop} {done : Array Bool} (hsel : Region.noSelect ops = true) (hc : chainFrom md ops n = true)
    (hdone : ∀ j ∈ Region.ready md ops done, n ≤ j) :
    ∀ (l : List Oper) (k : Nat) (listed : Array Bool) (a : Act), (∀ j, j < l.length → l[j]? = ops[k + j]?) → k + l.length = n → sinkFrom md ops k n = true → HeadInv md ops n listed →
    mark l.length k listed = done → headB md ops l.length k listed = true → wpT P ops T t Lq k l a →
    wpAnyT P md ops T t n (fun listed' a' => listed' = done ∧ Lq a') l.length listed a
  | [], k, listed, a, _, hk, _, _, hm, hB, h => ⟨hm, h⟩
  | o :: l, k, listed, a, hl, hk, hs, inv, hm, hB, h => by
    have h0 : ops[k]? = some o := by simpa using (hl 0 (by simp)).symm
    simp only [List.length_cons, headB, Bool.and_eq_true] at hB
    obtain ⟨⟨hr, hf⟩, hB'⟩ := hB
    have hkn : k < n := by simp only [List.length_cons] at hk; omega
    have hr' : k ∈ Region.ready md ops listed := by simpa using hr
    obtain ⟨v, hy, hK⟩ := h
    exact wpAnyT_first (L := fun listed' a' => listed' = done ∧ Lq a') h0 (Region.noSelect_spec hsel) hs hc (Nat.le_refl k) hkn (fun listed' a' hL => by rw [hL.1]; exact hdone) l.length listed a inv (Region.free_spec h0 hf) hr' hy
      (wpAnyT_lex hsel hc hdone l (k + 1) _ _ (fun j hj => by have := hl (j + 1) (by simp; omega); simpa [Nat.add_assoc, Nat.add_comm 1 j] using this) (by simp only [List.length_cons] at hk; omega)
        (sinkFrom_more hs (by omega)) (inv.set hr' hkn) hm hB' hK)
def turnB (ops : Array Oper) (t n : Nat) : Bool :=
  let l0 := Array.replicate ops.size false
  let l1 := mark n 0 l0
  Region.noSelect ops && decide (n < ops.size) && invB .any ops n l0 && sinkFrom .any ops 0 n && chainFrom .any ops n && headB .any ops n 0 l0 && forcedB .any ops (ops.size - n) n l1 &&
    l1.getD t false && decide (Region.ready .any ops (mark (ops.size - n) n l1) = [])
theorem wp_region_turn {id : Nat} {a : Act} {W : World} {l : List Oper} (T : Bool → World → Prop) (t n : Nat) (hm : P.follows .mixedOrders = true) (hB : turnB l.toArray t n = true) (h0 : T false W.drew)
    (h : wpT P l.toArray T t (fun a' => ∀ w', T true w' → wpList P l.toArray (mixQ Q (fun a w => Q .normal a w)) (l.drop n) a' w') 0 (l.take n) a) : (Code.region id l.toArray true).wp P Q a W := by
  simp only [turnB, Bool.and_eq_true, decide_eq_true_eq] at hB
  obtain ⟨⟨⟨⟨⟨⟨⟨⟨hsel, hn⟩, hinv⟩, hs⟩, hc⟩, hhead⟩, hforced⟩, ht⟩, hend⟩ := hB
  refine wp_region_any hm ?_
  have hn' : n < l.length := by simpa using hn
  have hf : (l.take n).length = n := by rw [List.length_take]; omega
  have hgl : (l.drop n).length = l.toArray.size - n := by simp
  have hdone : ∀ j ∈ Region.ready .any l.toArray (mark n 0 (Array.replicate l.toArray.size false)), n ≤ j := by
    obtain ⟨g', hg'⟩ : ∃ g', l.toArray.size - n = g' + 1 := ⟨l.toArray.size - n - 1, by omega⟩
    rw [hg'] at hforced
    simp only [forcedB, Bool.and_eq_true, decide_eq_true_eq] at hforced
    intro j hj
    rw [hforced.1] at hj
    have : j = n := by simpa using hj
    omega
  have hq := wpAnyT_lex (P := P) (T := T) (t := t) (n := n) hsel hc hdone (l.take n) 0 (Array.replicate l.toArray.size false) a
    (fun j hj => by rw [hf] at hj; rw [List.getElem?_take_of_lt hj]; simp) (by rw [hf]; omega) hs (headInv_of hinv) (by rw [hf]) (by rw [hf]; exact hhead) h
  rw [hf] at hq
  have hfin := wpAny_of_headT (P := P) (Q := Q) (g := l.toArray.size - n) (fun listed' a' w' hw' hL => by
    obtain ⟨rfl, hL⟩ := hL
    rw [ht] at hw'
    have hL := hL w' hw'
    have := wpAny_of_forced (P := P) (Q := Q) (md := .any) (ops := l.toArray) (F := 0) (l.drop n) n _ a' w' (fun j hj => by rw [List.getElem?_drop]; simp) (by rw [hgl]; exact hforced)
      (mix_sound.wpList_mixmono (fun a'' w'' hm => by
        rw [hgl]
        exact ⟨hend, hm⟩) _ _ _ hL)
    rw [hgl] at this
    exact this) n _ _ _ (by
      have : (Array.replicate l.toArray.size false).getD t false = false := by
        rw [Array.getD_eq_getD_getElem?]
        by_cases h : t < l.length <;> simp [Array.getElem?_replicate, h]
      rw [this]; exact h0) hq
  rw [show n + (l.toArray.size - n) = l.toArray.size by omega] at hfin
  exact hfin
/-! ### Steps -/
structure TW (T : Bool → World → Prop) where
  b : Bool
  w : World
  h : T b w
theorem wpT_plain' {i : Nat} {o : Oper} {rest : List Oper} {a : Act} {Lq : Act → Prop} (hne : i ≠ t) (hw : Region.wanted o (yielded ops a.tmps) = true)
    (hp : ∀ w f args w', (execOp a.eval o).run P w ≠ .ok (.enter f args) w')
    (h : ∀ K : Act → Prop, (∀ a, wpT P ops T t Lq (i + 1) rest a → K a) → o.quiet P a (fun w' => ∃ x : TW T, w' = x.w) K) : wpT P ops T t Lq i (o :: rest) a := by
  obtain ⟨v, h1, h2⟩ := h _ (fun _ h => h)
  refine ⟨v, .inl ⟨hw, fun b w _ hT => ⟨?_, fun e => absurd e hne⟩⟩, h2⟩
  have h3 := h1 w ⟨⟨b, w, hT⟩, rfl⟩
  unfold Oper.quietAt at h3 ⊢
  cases hr : (execOp a.eval o).run P w with
  | halt x w' => rw [hr] at h3; exact h3
  | ok n w' =>
    rw [hr] at h3
    cases n
    case enter f args => exact absurd hr (hp w f args w')
    all_goals exact h3
theorem wpT_plain {i : Nat} {o : Oper} {rest : List Oper} {a : Act} {Lq : Act → Prop} (hne : i ≠ t) (hw : Region.wanted o (yielded ops a.tmps) = true) (hp : plainB o.op = true)
    (h : ∀ K : Act → Prop, (∀ a, wpT P ops T t Lq (i + 1) rest a → K a) → o.quiet P a (fun w' => ∃ x : TW T, w' = x.w) K) : wpT P ops T t Lq i (o :: rest) a :=
  wpT_plain' hne hw (fun w f args w' => no_enter hp _ w f args w') h
theorem wpT_check {i : Nat} {o : Oper} {rest : List Oper} {a : Act} {Lq : Act → Prop} {x : Operand} {p : Addr} (hne : i ≠ t) (hw : Region.wanted o (yielded ops a.tmps) = true) (hp : o.op = .nilCheck x) (hx : a.eval x = .pointer (some p))
    (h : ∀ K : Act → Prop, (∀ a, wpT P ops T t Lq (i + 1) rest a → K a) → o.quiet P a (fun w' => ∃ x : TW T, w' = x.w) K) : wpT P ops T t Lq i (o :: rest) a :=
  wpT_plain' hne hw (fun w f args w' => check_no_enter hp hx w f args w') h
theorem assign_put {a : Act} {C : World → Prop} {K : Act → Prop} {d : Option Nat} {v : Value} {ty : TypeId} {pos : String} {af : Array Edge} {gd : Option (Nat × Bool)} (hC : ∃ w, C w)
    (h : (Oper.mk d (.assign (.const v)) ty pos af gd).quiet P a C K) : K (a.put d v) := by
  obtain ⟨w, hw⟩ := hC
  obtain ⟨v', h1, h2⟩ := h
  have h3 := h1 w hw
  unfold Oper.quietAt at h3
  rw [BigFrame.run_assign (.const v) rfl] at h3
  have h4 : v = v' := (BigFrame.eval_const a v).symm.trans h3.2
  subst h4
  exact h2
theorem put_on {i : Nat} {d : Option Nat} {ty : TypeId} {pos : String} {af : Array Edge} {gd : Option (Nat × Bool)} {rest : List Oper} {a : Act} {Lq : Act → Prop} {v : Value} [hne : Nonempty (TW T)]
    (h : ∀ K : Act → Prop, (∀ a, wpT P ops T t Lq (i + 1) rest a → K a) → (Oper.mk d (.assign (.const v)) ty pos af gd).quiet P a (fun w' => ∃ x : TW T, w' = x.w) K) : wpT P ops T t Lq (i + 1) rest (a.put d v) :=
  assign_put (let ⟨x⟩ := hne; ⟨x.w, x, rfl⟩) (h _ fun _ h => h)
theorem wpT_value {i : Nat} {d : Option Nat} {op : Op} {ty : TypeId} {pos : String} {af : Array Edge} {gd : Option (Nat × Bool)} {rest : List Oper} {a : Act} {Lq : Act → Prop} [Nonempty (TW T)] (v : Value) (hne : i ≠ t) (hw : Region.wanted (Oper.mk d op ty pos af gd) (yielded ops a.tmps) = true) (hr : ∀ w, (execOp a.eval (Oper.mk d op ty pos af gd)).run P w = .ok (.value v) w)
    (h : ∀ K : Act → Prop, (∀ a, wpT P ops T t Lq (i + 1) rest a → K a) → (Oper.mk d (.assign (.const v)) ty pos af gd).quiet P a (fun w' => ∃ x : TW T, w' = x.w) K) : wpT P ops T t Lq i (Oper.mk d op ty pos af gd :: rest) a :=
  ⟨v, .inl ⟨hw, fun b w _ hT => ⟨by unfold Oper.quietAt; rw [hr w]; exact ⟨rfl, rfl⟩, fun e => absurd e hne⟩⟩, put_on h⟩
theorem wpT_skip {i : Nat} {d : Option Nat} {op : Op} {ty : TypeId} {pos : String} {af : Array Edge} {gd : Option (Nat × Bool)} {rest : List Oper} {a : Act} {Lq : Act → Prop} [Nonempty (TW T)] (hne : i ≠ t) (hw : Region.wanted (Oper.mk d op ty pos af gd) (yielded ops a.tmps) = false)
    (h : ∀ K : Act → Prop, (∀ a, wpT P ops T t Lq (i + 1) rest a → K a) → (Oper.mk d (.assign (.const undef)) ty pos af gd).quiet P a (fun w' => ∃ x : TW T, w' = x.w) K) : wpT P ops T t Lq i (Oper.mk d op ty pos af gd :: rest) a :=
  ⟨undef, .inr ⟨hw, rfl, hne⟩, put_on h⟩
theorem wpT_call {i : Nat} {d : Option Nat} {op : Op} {ty : TypeId} {pos : String} {af : Array Edge} {gd : Option (Nat × Bool)} {rest : List Oper} {a : Act} {Lq : Act → Prop} [Nonempty (TW T)] (f : FuncId) (args : Array Value) (v : Value) (hw : Region.wanted (Oper.mk d op ty pos af gd) (yielded ops a.tmps) = true) (hr : ∀ w, (execOp a.eval (Oper.mk d op ty pos af gd)).run P w = .ok (.enter f args) w)
    (hc : ∀ b w, T b w → Calls P f args w fun e w' => e = .returned v ∧ T (b || decide (i = t)) w')
    (h : ∀ K : Act → Prop, (∀ a, wpT P ops T t Lq (i + 1) rest a → K a) → (Oper.mk d (.assign (.const v)) ty pos af gd).quiet P a (fun w' => ∃ x : TW T, w' = x.w) K) : wpT P ops T t Lq i (Oper.mk d op ty pos af gd :: rest) a :=
  ⟨v, .inl ⟨hw, fun b w _ hT => ⟨by unfold Oper.quietAt; rw [hr w]; exact ⟨rfl, hc b w hT⟩, fun _ => ⟨f, args, w, hr w⟩⟩⟩, put_on h⟩
theorem wpT_nil {i : Nat} {a : Act} {Lq : Act → Prop} (h : Lq a) : wpT P ops T t Lq i [] a := h
end
end Go.Proofs.Ytkogplnleiapfaa
