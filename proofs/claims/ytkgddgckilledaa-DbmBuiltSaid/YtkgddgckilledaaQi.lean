/- A drawn region of plain operations, inside a fence or a round: the stretches and forced operations of wp_region_mix serve there too. No program in sight. -/
import Derived.Test.YtkgddgckilledaaQb
import Derived.OrdersIn
import Derived.TacticsIn
namespace Go.Proofs.Ytkgddgckilledaa
open Go.RowKit
set_option linter.unusedVariables false
set_option linter.unusedSimpArgs false
section
variable {P : Program} {ops : Array Oper} {md : Region.Mode} {Q : Exit → Act → World → Prop} {F : Fence} {nF : Nat}
theorem bind_ne {α : Type} (s : Sem α) (g : α → Next) (x : Next) (hg : ∀ a, g a ≠ x) (w' : World) :
    ∀ w, (s.bind fun v => Sem.pure (g v)).run P w ≠ .ok x w' := by
  induction s with
  | pure a => intro w h; simp [Sem.bind, Sem.run] at h; exact hg _ h.1
  | halt x => intro w h; simp [Sem.bind] at h
  | load m a k ih =>
    intro w h
    simp only [Sem.bind, Sem.run] at h
    split at h
    · exact ih _ _ h
    · split at h
      · exact ih _ _ h
      · cases h
  | store m a v k ih =>
    intro w h
    simp only [Sem.bind] at h
    cases v <;> simp only [Sem.run] at h <;> first | (cases h; done) | skip
    all_goals
      split at h
      · split at h
        · cases h
        · exact ih _ h
      · split at h
        · exact ih _ h
        · cases h
  | getObj r k ih =>
    intro w h
    simp only [Sem.bind, Sem.run] at h
    split at h
    · cases h
    · exact ih _ _ h
    · cases h
  | setObj r o k ih =>
    intro w h
    simp only [Sem.bind, Sem.run] at h
    split at h
    · cases h
    · exact ih _ h
    · cases h
  | choose q k ih =>
    intro w h
    simp only [Sem.bind, Sem.run] at h
    split at h
    · exact ih _ _ h
    · exact ih _ _ h
  | _ =>
    intro w h
    simp only [Sem.bind, Sem.run] at h
    rename_i ih
    first | exact ih _ h | exact ih _ _ h
/-- Operations that yield a value, or nothing, or panic. -/
def inB : Op → Bool
  | .move _ | .assign _ | .pick _ _ _ | .load _ _ | .store _ _ _ | .fieldAddr _ _ _ | .indexAddr _ _ _ | .index _ _ _ | .field _ _ _ | .extract _ _ | .build _ _ | .binOp _ _ _ _ _ | .unOp _ _ _ | .convert _ _ _ => true
  | _ => false
/-- What yields a value or nothing. -/
def tame : Next → Prop
  | .value _ => True
  | .skip => True
  | _ => False
theorem in_tame {o : Oper} (h : inB o.op = true) (ρ : Operand → Value) (w : World) (x : Next) (hx : ¬ tame x) (w' : World) : (execOp ρ o).run P w ≠ .ok x w' := by
  have h1 : ∀ v, Next.value v ≠ x := fun v e => hx (by rw [← e]; trivial)
  have h2 : Next.skip ≠ x := fun e => hx (by rw [← e]; trivial)
  unfold execOp
  split <;> (rename_i ho; rw [ho] at h) <;> first
    | (simp [inB] at h; done)
    | exact bind_ne _ (fun v => Next.value v) _ (fun v => h1 v) _ _
    | exact bind_ne _ (fun _ => Next.skip) _ (fun _ => h2) _ _
    | exact bind_ne _ (fun v => Next.value (if v = true then _ else _)) _ (fun v => h1 _) _ _
    | (intro h; simp [pure, Sem.run] at h; exact h1 _ h.1)
theorem in_about {o : Oper} (h : inB o.op = true) (w : World) (ρ : Operand → Value) : o.about P w ρ = none := by
  unfold Oper.about
  cases ho : o.op <;> rw [ho] at h <;> first | rfl | (simp [inB] at h; done)
theorem in_sem {o : Oper} (h : inB o.op = true) (ro : Option Nat) (ρ : Operand → Value) : Oper.semAt ro ρ o = execOp ρ o :=
  Oper.semAt_eq ro ρ o fun c e => by rw [e] at h; cases h
theorem wpIn_of_wp {o : Oper} (hp : inB o.op = true) {a : Act} {w : World} {K : Act → World → Prop} (h : o.wp P a w K Q) : o.wpIn F nF P a w K Q := by
  unfold Oper.wpIn
  refine ⟨fun f hf => (by rw [in_about hp] at hf; cases hf), ?_⟩
  rw [in_sem hp]
  have hne := fun x hx => in_tame (P := P) hp a.eval w x hx
  unfold Oper.wp at h
  generalize (execOp a.eval o).run P w = r at h hne ⊢
  cases r with
  | ok x w' =>
    cases x with
    | value v => exact h
    | skip => exact h
    | _ => exact (hne _ (by simp [tame]) _ rfl).elim
  | halt x w' => cases x <;> exact h
theorem any_in (hQ : ¬ LetsOut Q) (hp : ∀ (i : Nat) (o : Oper), ops[i]? = some o → inB o.op = true) : ∀ f listed a w, wpAny P md ops Q f listed a w → wpAnyIn F nF P md ops Q f listed a w
  | 0, listed, a, w, h => h
  | f + 1, listed, a, w, h => by
    refine ⟨h.1, fun i hi => ?_⟩
    have h2 := h.2 i hi
    unfold wpOp at h2
    unfold wpOpIn
    cases ho : ops[i]? with
    | none => rw [ho] at h2; exact any_in hQ hp f _ _ _ h2
    | some o =>
      rw [ho] at h2
      dsimp only at h2 ⊢
      split
      · rename_i hw
        rw [if_pos hw] at h2
        rcases h2 with h2 | ⟨_, h2⟩
        · exact wpIn_of_wp (hp i o ho) (Oper.wp_mono (fun a w k => any_in hQ hp f _ a w k) h2)
        · exact absurd h2 hQ
      · rename_i hw
        rw [if_neg hw] at h2
        exact ⟨fun g hg => (by rw [in_about (hp i o ho)] at hg; cases hg), any_in hQ hp f _ _ _ h2⟩
theorem wpIn_region_mix {id : Nat} {a : Act} {W : World} {l : List Oper} (segs : List (Nat × Nat)) (hm : P.follows .mixedOrders = true) (hQ : ¬ LetsOut Q)
    (hB : (Region.noSelect l.toArray && mixB .any l.toArray segs 0 (Array.replicate l.toArray.size false)) = true) (hp : (l.all fun o => inB o.op) = true)
    (h : wpMix P l.toArray Q segs l a W) : (Code.region id l.toArray true).wpIn F nF P Q a W := by
  simp only [Bool.and_eq_true] at hB
  refine wpIn_region_any hm ?_
  have := mix_sound (P := P) (Q := Q) (md := .any) hB.1 segs l 0 (Array.replicate l.toArray.size false) a W W.drew (fun j => by simp) (by simp) (Below.refl _ _).drew hB.2 h
  refine any_in hQ (fun i o ho => ?_) _ _ _ _ (by simpa using this)
  exact List.all_eq_true.1 hp o (List.mem_of_getElem? (by simpa using ho))
end
/-! ### One store that turns the world, among operations that only read -/
section
variable {P : Program} {ops : Array Oper} {md : Region.Mode} {Q : Exit → Act → World → Prop} {T : Bool → World → Prop} {t : Nat} {F : Fence} {nF : Nat}
/-- What is asked of operation i, in either class; t is the one that turns. -/
def SAt (P : Program) (T : Bool → World → Prop) (t i : Nat) (o : Oper) (a : Act) (v : Value) : Prop :=
  ∀ b w, (i = t → b = false) → T b w → (i ≠ t → o.quietAt P a (T b) w v) ∧ (i = t → v = undef ∧ ∃ w', (execOp a.eval o).run P w = .ok .skip w' ∧ T true w')
def YS (P : Program) (ops : Array Oper) (T : Bool → World → Prop) (t i : Nat) (o : Oper) (v : Value) (a : Act) : Prop :=
  (Region.wanted o (yielded ops a.tmps) = true ∧ SAt P T t i o a v) ∨ (Region.wanted o (yielded ops a.tmps) = false ∧ v = undef ∧ i ≠ t)
def sOp (P : Program) (ops : Array Oper) (T : Bool → World → Prop) (t i : Nat) (K : Act → Prop) (a : Act) : Prop := ∃ o v, ops[i]? = some o ∧ YS P ops T t i o v a ∧ K (a.put o.dst v)
theorem sOp_mono {i : Nat} {a : Act} {K K' : Act → Prop} (h : ∀ a, K a → K' a) (hh : sOp P ops T t i K a) : sOp P ops T t i K' a :=
  let ⟨o, v, h1, h2, h3⟩ := hh
  ⟨o, v, h1, h2, h _ h3⟩
theorem YS.of_same {i : Nat} {o : Oper} {v : Value} {a a' : Act} (hy : YS P ops T t i o v a) (he : execOp a'.eval o = execOp a.eval o)
    (hw : Region.wanted o (yielded ops a'.tmps) = Region.wanted o (yielded ops a.tmps)) : YS P ops T t i o v a' := by
  unfold YS SAt Oper.quietAt at *
  rw [he, hw]
  exact hy
theorem sOp_put {i j : Nat} {oi oj : Oper} {v : Value} (hj : ops[j]? = some oj) (hap : oi.apart ops oj = true)
    (hsi : ∀ cs b, oi.op ≠ .select cs b) (hsj : ∀ cs b, oj.op ≠ .select cs b) {K : Act → Prop} {a : Act} (hy : YS P ops T t i oi v a) (h : sOp P ops T t j K (a.put oi.dst v)) :
    sOp P ops T t j (fun a' => YS P ops T t i oi v a' ∧ K (a'.put oi.dst v)) a := by
  obtain ⟨h1, h2, h3⟩ := Oper.apart_spec hap
  obtain ⟨o, u, ho, hu, hK⟩ := h
  have : o = oj := Option.some.inj (ho.symm.trans hj)
  subst this
  refine ⟨o, u, hj, hu.of_same (execOp_put o hsj a oi.dst v h1).symm (wanted_put o a oi.dst v h1).symm, hy.of_same (execOp_put oi hsi a o.dst u h3) (wanted_put oi a o.dst u h3), ?_⟩
  rw [← Act.put_comm a v u h2]
  exact hK
theorem wpOp_of_sOp {i : Nat} {a : Act} {K : Act → Prop} {K' : Act → World → Prop} {w : World} {b : Bool} (hT : T b w) (hi : i = t → b = false)
    (h : ∀ a w', T (b || decide (i = t)) w' → K a → K' a w') (hh : sOp P ops T t i K a) : wpOp P ops Q i K' a w := by
  obtain ⟨o, v, ho, hy, hK⟩ := hh
  unfold wpOp
  simp only [ho]
  rcases hy with ⟨hw, hy⟩ | ⟨hw, rfl, hne⟩
  · rw [if_pos hw]
    left
    by_cases hit : i = t
    · obtain ⟨h1, h2⟩ := hy b w hi hT
      obtain ⟨rfl, w', hr, hT'⟩ := h2 hit
      unfold Oper.wp
      rw [hr]
      simp only [Oper.upon]
      exact h _ _ (by rw [decide_eq_true hit, Bool.or_true]; exact hT') hK
    · have hb : (b || decide (i = t)) = b := by rw [decide_eq_false hit, Bool.or_false]
      rw [hb] at h
      refine Oper.wp_of_quiet (C := T b) hT (K := fun a' => K a') h ⟨v, fun w hw => ?_, hK⟩
      exact (hy b w (fun e => absurd e hit) hw).1 hit
  · rw [if_neg (by rw [hw]; exact Bool.false_ne_true)]
    have hb : (b || decide (i = t)) = b := by rw [decide_eq_false hne, Bool.or_false]
    rw [hb] at h
    exact h _ _ hT hK
def wpAnyS (P : Program) (md : Region.Mode) (ops : Array Oper) (T : Bool → World → Prop) (t n : Nat) (L : Array Bool → Act → Prop) : Nat → Array Bool → Act → Prop
  | 0, listed, a => L listed a
  | f + 1, listed, a => Region.ready md ops listed ≠ [] ∧ ∀ i ∈ Region.ready md ops listed, i < n ∧ sOp P ops T t i (wpAnyS P md ops T t n L f (listed.setIfInBounds i true)) a
theorem wpAny_of_headS {n g : Nat} {L : Array Bool → Act → Prop} (hL : ∀ listed a w, T (listed.getD t false) w → L listed a → wpAny P md ops Q g listed a w) :
    ∀ (f : Nat) (listed : Array Bool) (a : Act) (w : World), T (listed.getD t false) w → wpAnyS P md ops T t n L f listed a → wpAny P md ops Q (f + g) listed a w
  | 0, listed, a, w, hw, h => by rw [Nat.zero_add]; exact hL _ _ _ hw h
  | f + 1, listed, a, w, hw, h => by
    rw [show f + 1 + g = (f + g) + 1 by omega]
    refine ⟨fun h0 => absurd h0 h.1, fun i hi => ?_⟩
    have hun := (mem_ready.1 hi).1
    have hlt : i < listed.size := by
      rcases Nat.lt_or_ge i listed.size with h' | h'
      · exact h'
      · simp [Array.getElem?_eq_none h'] at hun
    refine wpOp_of_sOp hw (fun e => by subst e; exact getD_both hun) (fun a' w' hw' h' => wpAny_of_headS hL f _ a' w' ?_ h') (h.2 i hi).2
    have : (listed.setIfInBounds i true).getD t false = (listed.getD t false || decide (i = t)) := by
      by_cases hit : i = t
      · subst hit
        rw [decide_eq_true rfl, Bool.or_true]
        simp [hlt]
      · rw [decide_eq_false hit, Bool.or_false]
        exact getD_set_ne false hit
    rw [this]
    exact hw'
theorem wpAnyS_first {k n i : Nat} {oi : Oper} {v : Value} {L : Array Bool → Act → Prop} (hi : ops[i]? = some oi) (hsel : ∀ (j : Nat) (o : Oper) cs b, ops[j]? = some o → o.op ≠ .select cs b)
    (hs : sinkFrom md ops k n = true) (hc : chainFrom md ops n = true) (hki : k ≤ i) (hin : i < n)
    (hdone : ∀ listed a, L listed a → ∀ j ∈ Region.ready md ops listed, n ≤ j) :
    ∀ (f : Nat) (listed : Array Bool) (a : Act), HeadInv md ops n listed →
      (∀ j oj, ops[j]? = some oj → j ≠ i → listed.getD j true = false → (∀ e ∈ oj.after, Region.binds md e = true → e.on ≠ i) → oi.apart ops oj = true) →
      i ∈ Region.ready md ops listed → YS P ops T t i oi v a →
      wpAnyS P md ops T t n L f (listed.setIfInBounds i true) (a.put oi.dst v) → wpAnyS P md ops T t n L (f + 1) listed a := by
  intro f
  induction f with
  | zero =>
    intro listed a inv _ hr hy H
    have hun := (mem_ready.1 hr).1
    refine ⟨fun h => (by rw [h] at hr; cases hr), fun j hj => ?_⟩
    have hjn : j < n := by
      rcases Nat.lt_or_ge j n with h | h
      · exact h
      · exact absurd hj (tail_waits_from hs hc inv _ i rfl hki hin hun j h)
    refine ⟨hjn, ?_⟩
    by_cases hji : j = i
    · subst hji; exact ⟨oi, v, hi, hy, H⟩
    · have := hdone _ _ H j (ready_mono hj hji)
      omega
  | succ f ih =>
    intro listed a inv hfree hr hy H
    have hun := (mem_ready.1 hr).1
    refine ⟨fun h => (by rw [h] at hr; cases hr), fun j hj => ?_⟩
    have hjn : j < n := by
      rcases Nat.lt_or_ge j n with h | h
      · exact h
      · exact absurd hj (tail_waits_from hs hc inv _ i rfl hki hin hun j h)
    refine ⟨hjn, ?_⟩
    by_cases hji : j = i
    · subst hji; exact ⟨oi, v, hi, hy, H⟩
    · have h1 := (H.2 j (ready_mono hj hji)).2
      obtain ⟨hjun, oj, hoj, hall⟩ := mem_ready.1 hj
      have hnot : ∀ e ∈ oj.after, Region.binds md e = true → e.on ≠ i := fun e he hb heq => by
        have h1 := hall e he hb
        rw [heq, getD_both hun] at h1
        cases h1
      have h2 := sOp_put hoj (hfree j oj hoj hji hjun hnot) (fun cs b => hsel i oi cs b hi) (fun cs b => hsel j oj cs b hoj) hy h1
      have hfree' : ∀ k ok, ops[k]? = some ok → k ≠ i → (listed.setIfInBounds j true).getD k true = false →
          (∀ e ∈ ok.after, Region.binds md e = true → e.on ≠ i) → oi.apart ops ok = true := fun k ok hk hki hun hno => by
        refine hfree k ok hk hki ?_ hno
        by_cases hjk : j = k
        · subst hjk; exact hjun
        · rw [getD_set_ne true hjk] at hun; exact hun
      refine sOp_mono (fun a' h3 => ih (listed.setIfInBounds j true) a' (inv.set hj hjn) hfree' (ready_mono hr (Ne.symm hji)) h3.1 ?_) h2
      rw [Array.setIfInBounds_comm _ _ hji]
      exact h3.2
/-- The walk in the text's order. -/
def wpS (P : Program) (ops : Array Oper) (T : Bool → World → Prop) (t : Nat) (Lq : Act → Prop) : Nat → List Oper → Act → Prop
  | _, [], a => Lq a
  | i, o :: rest, a => ∃ v, YS P ops T t i o v a ∧ wpS P ops T t Lq (i + 1) rest (a.put o.dst v)
theorem wpAnyS_lex {n : Nat} {Lq : Act → Prop} {done : Array Bool} (hsel : Region.noSelect ops = true) (hc : chainFrom md ops n = true)
    (hdone : ∀ j ∈ Region.ready md ops done, n ≤ j) :
    ∀ (l : List Oper) (k : Nat) (listed : Array Bool) (a : Act), (∀ j, j < l.length → l[j]? = ops[k + j]?) → k + l.length = n → sinkFrom md ops k n = true → HeadInv md ops n listed →
    mark l.length k listed = done → headB md ops l.length k listed = true → wpS P ops T t Lq k l a →
    wpAnyS P md ops T t n (fun listed' a' => listed' = done ∧ Lq a') l.length listed a
  | [], k, listed, a, _, hk, _, _, hm, hB, h => ⟨hm, h⟩
  | o :: l, k, listed, a, hl, hk, hs, inv, hm, hB, h => by
    have h0 : ops[k]? = some o := by simpa using (hl 0 (by simp)).symm
    simp only [List.length_cons, headB, Bool.and_eq_true] at hB
    obtain ⟨⟨hr, hf⟩, hB'⟩ := hB
    have hkn : k < n := by simp only [List.length_cons] at hk; omega
    have hr' : k ∈ Region.ready md ops listed := by simpa using hr
    obtain ⟨v, hy, hK⟩ := h
    exact wpAnyS_first (L := fun listed' a' => listed' = done ∧ Lq a') h0 (Region.noSelect_spec hsel) hs hc (Nat.le_refl k) hkn (fun listed' a' hL => by rw [hL.1]; exact hdone) l.length listed a inv (Region.free_spec h0 hf) hr' hy
      (wpAnyS_lex hsel hc hdone l (k + 1) _ _ (fun j hj => by have := hl (j + 1) (by simp; omega); simpa [Nat.add_assoc, Nat.add_comm 1 j] using this) (by simp only [List.length_cons] at hk; omega)
        (sinkFrom_more hs (by omega)) (inv.set hr' hkn) hm hB' hK)
theorem wpIn_region_store {id : Nat} {a : Act} {W : World} {l : List Oper} (T : Bool → World → Prop) (t n : Nat) (hm : P.follows .mixedOrders = true) (hQ : ¬ LetsOut Q) (hB : turnB l.toArray t n = true) (hp : (l.all fun o => inB o.op) = true) (h0 : T false W.drew)
    (h : wpS P l.toArray T t (fun a' => ∀ w', T true w' → wpList P l.toArray (mixQ Q (fun a w => Q .normal a w)) (l.drop n) a' w') 0 (l.take n) a) : (Code.region id l.toArray true).wpIn F nF P Q a W := by
  simp only [turnB, Bool.and_eq_true, decide_eq_true_eq] at hB
  obtain ⟨⟨⟨⟨⟨⟨⟨⟨hsel, hn⟩, hinv⟩, hs⟩, hc⟩, hhead⟩, hforced⟩, ht⟩, hend⟩ := hB
  refine wpIn_region_any hm ?_
  refine any_in hQ (fun i o ho => List.all_eq_true.1 hp o (List.mem_of_getElem? (by simpa using ho))) _ _ _ _ ?_
  have hn' : n < l.length := by simpa using hn
  have hf : (l.take n).length = n := by rw [List.length_take]; omega
  have hgl : (l.drop n).length = l.toArray.size - n := by simp
  have hdone : ∀ j ∈ Region.ready .any l.toArray (mark n 0 (Array.replicate l.toArray.size false)), n ≤ j := by
    obtain ⟨g', hg'⟩ : ∃ g', l.toArray.size - n = g' + 1 := ⟨l.toArray.size - n - 1, by omega⟩
    rw [hg'] at hforced
    simp only [forcedB, Bool.and_eq_true, decide_eq_true_eq] at hforced
    intro j hj
    rw [hforced.1] at hj
    have : j = n := by simpa using hj
    omega
  have hq := wpAnyS_lex (P := P) (T := T) (t := t) (n := n) hsel hc hdone (l.take n) 0 (Array.replicate l.toArray.size false) a
    (fun j hj => by rw [hf] at hj; rw [List.getElem?_take_of_lt hj]; simp) (by rw [hf]; omega) hs (headInv_of hinv) (by rw [hf]) (by rw [hf]; exact hhead) h
  rw [hf] at hq
  have hfin := wpAny_of_headS (P := P) (Q := Q) (g := l.toArray.size - n) (fun listed' a' w' hw' hL => by
    obtain ⟨rfl, hL⟩ := hL
    rw [ht] at hw'
    have hL := hL w' hw'
    have := wpAny_of_forced (P := P) (Q := Q) (md := .any) (ops := l.toArray) (F := 0) (l.drop n) n _ a' w' (fun j hj => by rw [List.getElem?_drop]; simp) (by rw [hgl]; exact hforced)
      (mix_sound.wpList_mixmono (fun a'' w'' hm => by
        rw [hgl]
        exact ⟨hend, hm⟩) _ _ _ hL)
    rw [hgl] at this
    exact this) n _ _ _ (by
      have : (Array.replicate l.toArray.size false).getD t false = false := by
        rw [Array.getD_eq_getD_getElem?]
        by_cases h : t < l.length <;> simp [Array.getElem?_replicate, h]
      rw [this]; exact h0) hq
  rw [show n + (l.toArray.size - n) = l.toArray.size by omega] at hfin
  exact hfin
/-! ### Steps -/
theorem wpS_plain' {i : Nat} {o : Oper} {rest : List Oper} {a : Act} {Lq : Act → Prop} (hne : i ≠ t) (hw : Region.wanted o (yielded ops a.tmps) = true)
    (hp : ∀ w f args w', (execOp a.eval o).run P w ≠ .ok (.enter f args) w')
    (h : ∀ K : Act → Prop, (∀ a, wpS P ops T t Lq (i + 1) rest a → K a) → o.quiet P a (fun w' => ∃ x : TW T, w' = x.w) K) : wpS P ops T t Lq i (o :: rest) a := by
  obtain ⟨v, h1, h2⟩ := h _ (fun _ h => h)
  refine ⟨v, .inl ⟨hw, fun b w _ hT => ⟨fun _ => ?_, fun e => absurd e hne⟩⟩, h2⟩
  have h3 := h1 w ⟨⟨b, w, hT⟩, rfl⟩
  unfold Oper.quietAt at h3 ⊢
  cases hr : (execOp a.eval o).run P w with
  | halt x w' => rw [hr] at h3; exact h3
  | ok n w' =>
    rw [hr] at h3
    cases n
    case enter f args => exact absurd hr (hp w f args w')
    all_goals exact h3
theorem wpS_plain {i : Nat} {o : Oper} {rest : List Oper} {a : Act} {Lq : Act → Prop} (hne : i ≠ t) (hw : Region.wanted o (yielded ops a.tmps) = true) (hp : plainB o.op = true)
    (h : ∀ K : Act → Prop, (∀ a, wpS P ops T t Lq (i + 1) rest a → K a) → o.quiet P a (fun w' => ∃ x : TW T, w' = x.w) K) : wpS P ops T t Lq i (o :: rest) a :=
  wpS_plain' hne hw (fun w f args w' => no_enter hp _ w f args w') h
theorem put_onS {i : Nat} {d : Option Nat} {ty : TypeId} {pos : String} {af : Array Edge} {gd : Option (Nat × Bool)} {rest : List Oper} {a : Act} {Lq : Act → Prop} {v : Value} [hne : Nonempty (TW T)]
    (h : ∀ K : Act → Prop, (∀ a, wpS P ops T t Lq (i + 1) rest a → K a) → (Oper.mk d (.assign (.const v)) ty pos af gd).quiet P a (fun w' => ∃ x : TW T, w' = x.w) K) : wpS P ops T t Lq (i + 1) rest (a.put d v) :=
  assign_put (let ⟨x⟩ := hne; ⟨x.w, x, rfl⟩) (h _ fun _ h => h)
theorem wpS_value {i : Nat} {d : Option Nat} {op : Op} {ty : TypeId} {pos : String} {af : Array Edge} {gd : Option (Nat × Bool)} {rest : List Oper} {a : Act} {Lq : Act → Prop} [Nonempty (TW T)] (v : Value) (hne : i ≠ t) (hw : Region.wanted (Oper.mk d op ty pos af gd) (yielded ops a.tmps) = true) (hr : ∀ w, (execOp a.eval (Oper.mk d op ty pos af gd)).run P w = .ok (.value v) w)
    (h : ∀ K : Act → Prop, (∀ a, wpS P ops T t Lq (i + 1) rest a → K a) → (Oper.mk d (.assign (.const v)) ty pos af gd).quiet P a (fun w' => ∃ x : TW T, w' = x.w) K) : wpS P ops T t Lq i (Oper.mk d op ty pos af gd :: rest) a :=
  ⟨v, .inl ⟨hw, fun b w _ hT => ⟨fun _ => by unfold Oper.quietAt; rw [hr w]; exact ⟨rfl, rfl⟩, fun e => absurd e hne⟩⟩, put_onS h⟩
theorem wpS_skip {i : Nat} {d : Option Nat} {op : Op} {ty : TypeId} {pos : String} {af : Array Edge} {gd : Option (Nat × Bool)} {rest : List Oper} {a : Act} {Lq : Act → Prop} [Nonempty (TW T)] (hne : i ≠ t) (hw : Region.wanted (Oper.mk d op ty pos af gd) (yielded ops a.tmps) = false)
    (h : ∀ K : Act → Prop, (∀ a, wpS P ops T t Lq (i + 1) rest a → K a) → (Oper.mk d (.assign (.const undef)) ty pos af gd).quiet P a (fun w' => ∃ x : TW T, w' = x.w) K) : wpS P ops T t Lq i (Oper.mk d op ty pos af gd :: rest) a :=
  ⟨undef, .inr ⟨hw, rfl, hne⟩, put_onS h⟩
theorem wpS_store {i : Nat} {o : Oper} {rest : List Oper} {a : Act} {Lq : Act → Prop} (hi : i = t) (hw : Region.wanted o (yielded ops a.tmps) = true) (hr : ∀ w, T false w → ∃ w', (execOp a.eval o).run P w = .ok .skip w' ∧ T true w')
    (h : wpS P ops T t Lq (i + 1) rest (a.put o.dst undef)) : wpS P ops T t Lq i (o :: rest) a :=
  ⟨undef, .inl ⟨hw, fun b w hb hT => ⟨fun e => absurd hi e, fun _ => ⟨rfl, by rw [hb hi] at hT; exact hr w hT⟩⟩⟩, h⟩
theorem wpS_nil {i : Nat} {a : Act} {Lq : Act → Prop} (h : Lq a) : wpS P ops T t Lq i [] a := h
end
end Go.Proofs.Ytkgddgckilledaa
