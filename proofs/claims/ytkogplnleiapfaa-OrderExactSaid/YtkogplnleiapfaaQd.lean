/- A region that draws its order, whose head's operations each yield some value that a property tells of, in worlds that only grow; then what is forced. No program in sight. -/
import Derived.Test.YtkogplnleiapfaaQm
namespace Go.Proofs.Ytkogplnleiapfaa
open Go.RowKit
set_option linter.unusedVariables false
set_option linter.unusedSimpArgs false
section
variable {P : Program} {ops : Array Oper} {md : Region.Mode} {Q : Exit → Act → World → Prop}
theorem countP_less {p q : Nat → Bool} {i : Nat} (hp : p i = true) (hq : q i = false) (hpq : ∀ j, j ≠ i → q j = p j) : ∀ n, i < n → (List.range n).countP q + 1 = (List.range n).countP p
  | 0, h => absurd h (by omega)
  | n + 1, h => by
    rw [List.range_succ, List.countP_append, List.countP_append]
    by_cases e : i = n
    · subst e
      have hs : (List.range i).countP q = (List.range i).countP p := List.countP_congr fun j hj => by
        rw [hpq j (by have := List.mem_range.1 hj; omega)]
      rw [hs]
      simp [hp, hq]
    · have := countP_less hp hq hpq n (by omega)
      have hn := hpq n (by omega)
      simp only [List.countP_singleton, hn]
      omega
/-- The state on the way. -/
structure Dj (W : World) (a0 : Act) (n : Nat) (dst : Nat → Tmp) (R : Nat → Value → World → Prop) (S : Nat → Value → Nat → Value → Prop) (listed : Array Bool) (a : Act) (w : World) : Prop where
  below : Below W.heap.size W w
  size : a.tmps.size = a0.tmps.size
  defers : a.defers = a0.defers
  rest : ∀ t, (∀ i, i < n → t ≠ dst i) → a.tmps[t]? = a0.tmps[t]?
  vals : ∀ i, i < n → listed.getD i false = true → ∃ v, a.tmps[dst i]? = some v ∧ R i v w
  rel : ∀ i j, i < n → j < n → i ≠ j → listed.getD i false = true → listed.getD j false = true → ∀ u v, a.tmps[dst i]? = some u → a.tmps[dst j]? = some v → S i u j v
theorem Dj.set {W w w' : World} {a0 a : Act} {n i : Nat} {dst : Nat → Tmp} {R : Nat → Value → World → Prop} {S : Nat → Value → Nat → Value → Prop} {listed : Array Bool} {v : Value} (h : Dj W a0 n dst R S listed a w) (hR : ∀ i v w w', R i v w → Below w.heap.size w w' → R i v w')
    (hi : i < n) (hd : dst i < a0.tmps.size) (hne : ∀ j, j < n → j ≠ i → dst j ≠ dst i) (hb : Below w.heap.size w w') (hv : R i v w') (hrel : ∀ j u, j < n → j ≠ i → R j u w → S i v j u ∧ S j u i v) : Dj W a0 n dst R S (listed.setIfInBounds i true) (a.put (some (dst i)) v) w' := by
  have hat : ∀ j, j < n → j ≠ i → (a.tmps.setIfInBounds (dst i) v)[dst j]? = a.tmps[dst j]? := fun j hj e => Array.getElem?_setIfInBounds_ne (fun e' => hne j hj e e'.symm)
  have hself : (a.tmps.setIfInBounds (dst i) v)[dst i]? = some v := Array.getElem?_setIfInBounds_self_of_lt (by rw [h.size]; exact hd)
  refine ⟨h.below.trans (hb.mono h.below.size), by simp [Act.put, h.size], h.defers, fun t ht => ?_, fun j hj hl => ?_, fun j k hj hk hjk lj lk u x hu hx => ?_⟩
  · have h1 := h.rest t ht
    show (a.tmps.setIfInBounds (dst i) v)[t]? = _
    rw [Array.getElem?_setIfInBounds_ne (fun e => ht i hi e.symm)]
    exact h1
  · by_cases e : j = i
    · subst e
      refine ⟨v, ?_, hv⟩
      show (a.tmps.setIfInBounds (dst j) v)[dst j]? = _
      rw [Array.getElem?_setIfInBounds_self_of_lt (by rw [h.size]; exact hd)]
    · rw [getD_set_ne false (Ne.symm e)] at hl
      obtain ⟨u, h1, h2⟩ := h.vals j hj hl
      refine ⟨u, ?_, hR _ _ _ _ h2 hb⟩
      show (a.tmps.setIfInBounds (dst i) v)[dst j]? = _
      rw [Array.getElem?_setIfInBounds_ne (fun e' => hne j hj e e'.symm)]
      exact h1
  · have hu2 : (a.tmps.setIfInBounds (dst i) v)[dst j]? = some u := hu
    clear hu
    have hx2 : (a.tmps.setIfInBounds (dst i) v)[dst k]? = some x := hx
    clear hx
    by_cases ej : j = i
    · subst ej
      rw [hself] at hu2
      have hku := hat k hk (Ne.symm hjk)
      rw [hku] at hx2
      rw [getD_set_ne false hjk] at lk
      obtain ⟨x', h1, h2⟩ := h.vals k hk lk
      rw [h1] at hx2
      injection hu2 with hu2
      injection hx2 with hx2
      subst hu2 hx2
      exact (hrel k _ hk (Ne.symm hjk) h2).1
    · rw [hat j hj ej] at hu2
      rw [getD_set_ne false (Ne.symm ej)] at lj
      by_cases ek : k = i
      · subst ek
        rw [hself] at hx2
        obtain ⟨u', h1, h2⟩ := h.vals j hj lj
        rw [h1] at hu2
        injection hu2 with hu2
        injection hx2 with hx2
        subst hu2 hx2
        exact (hrel j _ hj ej h2).2
      · rw [hat k hk ek] at hx2
        rw [getD_set_ne false (Ne.symm ek)] at lk
        exact h.rel j k hj hk hjk lj lk u x hu2 hx2
theorem first_unlisted {listed : Array Bool} : ∀ n i, i < n → listed.getD i false = false → ∃ k, k ≤ i ∧ listed.getD k false = false ∧ ∀ j, j < k → listed.getD j false = true := by
  intro n i
  induction i using Nat.strongRecOn with
  | _ i ih =>
    intro hi hun
    by_cases h : ∃ j, j < i ∧ listed.getD j false = false
    · obtain ⟨j, hj, hu⟩ := h
      obtain ⟨k, h1, h2, h3⟩ := ih j hj (by omega) hu
      exact ⟨k, by omega, h2, h3⟩
    · exact ⟨i, Nat.le_refl _, hun, fun j hj => by
        cases e : listed.getD j false
        · exact absurd ⟨j, hj, e⟩ h
        · rfl⟩
theorem wpAny_loose {W : World} {a0 : Act} {n g : Nat} {dst : Nat → Tmp} {R : Nat → Value → World → Prop} {S : Nat → Value → Nat → Value → Prop} (hR : ∀ i v w w', R i v w → Below w.heap.size w w' → R i v w')
    (hs : sinkFrom md ops 0 n = true) (hc : chainFrom md ops n = true) (hn : n ≤ ops.size)
    (hback : ∀ i o, i < n → ops[i]? = some o → ∀ e ∈ o.after, Region.binds md e = true → e.on < i)
    (hdst : ∀ i, i < n → dst i < a0.tmps.size) (hinj : ∀ i j, i < n → j < n → i ≠ j → dst i ≠ dst j)
    (hop : ∀ i o, i < n → ops[i]? = some o → (∀ y, Region.wanted o y = true) ∧ ∀ a w, Below W.heap.size W w → a.tmps.size = a0.tmps.size → a.defers = a0.defers → (∀ t, (∀ j, j < n → t ≠ dst j) → a.tmps[t]? = a0.tmps[t]?) →
      (∀ e ∈ o.after, Region.binds md e = true → ∃ v, a.tmps[dst e.on]? = some v ∧ R e.on v w) → o.wp P a w (fun a' w' => ∃ v, a' = a.put (some (dst i)) v ∧ Below w.heap.size w w' ∧ R i v w' ∧ ∀ j u, j < n → j ≠ i → R j u w → S i v j u ∧ S j u i v) Q)
    (hend : ∀ listed a w, HeadInv md ops n listed → (∀ i, i < n → listed.getD i false = true) → Dj W a0 n dst R S listed a w → wpAny P md ops Q g listed a w) :
    ∀ f listed a w, HeadInv md ops n listed → (List.range n).countP (fun i => !listed.getD i false) = f → Dj W a0 n dst R S listed a w → wpAny P md ops Q (f + g) listed a w
  | 0, listed, a, w, inv, hcnt, hJ => by
    rw [Nat.zero_add]
    refine hend listed a w inv (fun i hi => ?_) hJ
    have := List.countP_eq_zero.1 hcnt i (List.mem_range.2 hi)
    simpa using this
  | f + 1, listed, a, w, inv, hcnt, hJ => by
    rw [show f + 1 + g = (f + g) + 1 by omega]
    obtain ⟨i0, hi0, hu0⟩ : ∃ i, i < n ∧ listed.getD i false = false := by
      have h1 : 0 < (List.range n).countP (fun i => !listed.getD i false) := by omega
      obtain ⟨i, hi, h2⟩ := List.countP_pos_iff.1 h1
      exact ⟨i, List.mem_range.1 hi, by simpa using h2⟩
    obtain ⟨i, hile, hun, hmin⟩ := first_unlisted n i0 hi0 hu0
    have hi : i < n := by omega
    have hlt : i < ops.size := by omega
    have hun' := getD_in (by rw [inv.size]; exact hlt) hun
    have hready : i ∈ Region.ready md ops listed := by
      refine mem_ready.2 ⟨hun', ops[i], Array.getElem?_eq_getElem hlt, fun e he hb => hmin _ (hback i ops[i] hi (Array.getElem?_eq_getElem hlt) e he hb)⟩
    refine ⟨fun h0 => (by rw [h0] at hready; cases hready), fun j hj => ?_⟩
    have hjn : j < n := by
      rcases Nat.lt_or_ge j n with h | h
      · exact h
      · exact absurd hj (tail_waits_from hs hc inv _ i rfl (Nat.zero_le _) hi hun' j h)
    obtain ⟨hjun, o, ho, hall⟩ := mem_ready.1 hj
    obtain ⟨hw, hwp⟩ := hop j o hjn ho
    unfold wpOp
    simp only [ho]
    rw [if_pos (hw _)]
    left
    refine Oper.wp_mono ?_ (hwp a w hJ.below hJ.size hJ.defers hJ.rest (fun e he hb => hJ.vals e.on (by have := hback j o hjn ho e he hb; omega) (hall e he hb)))
    rintro a' w' ⟨v, rfl, hb, hv, hrel⟩
    refine wpAny_loose hR hs hc hn hback hdst hinj hop hend f _ _ w' (inv.set hj hjn) ?_ (hJ.set hR hjn (hdst j hjn) (fun k hk hne => hinj k j hk hjn hne) hb hv hrel)
    have := countP_less (p := fun i => !listed.getD i false) (q := fun i => !(listed.setIfInBounds j true).getD i false) (i := j) (by simp [getD_both hjun]) (by simp [inv.size, show j < ops.size by omega]) (fun k hk => by rw [getD_set_ne false (Ne.symm hk)]) n hjn
    omega
theorem listed_done {n : Nat} {listed D : Array Bool} (inv : HeadInv md ops n listed) (hall : ∀ i, i < n → listed.getD i false = true) (hD : D.size = ops.size) (hDv : ∀ j, j < ops.size → D.getD j false = decide (j < n)) : listed = D := by
  refine Array.ext (by rw [inv.size, hD]) fun j h1 h2 => ?_
  have e1 : listed.getD j false = listed[j] := by simp [h1]
  have e2 : D.getD j false = D[j] := by simp [h2]
  rw [← e1, ← e2, hDv j (by rw [← inv.size]; exact h1)]
  rcases Nat.lt_or_ge j n with h | h
  · rw [hall j h, decide_eq_true h]
  · rw [getD_both (inv.tail j h (by rw [← inv.size]; exact h1)), decide_eq_false (by omega)]
/-- The head's values laid into the slots. -/
def puts (dst : Nat → Tmp) (vs : Nat → Value) (a0 : Act) : Nat → Act
  | 0 => a0
  | n + 1 => (puts dst vs a0 n).put (some (dst n)) (vs n)
theorem puts_size (dst : Nat → Tmp) (vs : Nat → Value) (a0 : Act) : ∀ n, (puts dst vs a0 n).tmps.size = a0.tmps.size ∧ (puts dst vs a0 n).defers = a0.defers
  | 0 => ⟨rfl, rfl⟩
  | n + 1 => by
    obtain ⟨h1, h2⟩ := puts_size dst vs a0 n
    exact ⟨by simp [puts, Act.put, h1], h2⟩
theorem puts_get {dst : Nat → Tmp} {vs : Nat → Value} {a0 : Act} : ∀ n, (∀ i, i < n → dst i < a0.tmps.size) → (∀ i j, i < n → j < n → i ≠ j → dst i ≠ dst j) →
    (∀ i, i < n → (puts dst vs a0 n).tmps[dst i]? = some (vs i)) ∧ (∀ t, (∀ i, i < n → t ≠ dst i) → (puts dst vs a0 n).tmps[t]? = a0.tmps[t]?)
  | 0, _, _ => ⟨fun i hi => absurd hi (by omega), fun t _ => rfl⟩
  | n + 1, hd, hi => by
    obtain ⟨h1, h2⟩ := puts_get (vs := vs) n (fun i h => hd i (by omega)) (fun i j h k => hi i j (by omega) (by omega))
    refine ⟨fun i h => ?_, fun t ht => ?_⟩
    · show ((puts dst vs a0 n).tmps.setIfInBounds (dst n) (vs n))[dst i]? = _
      by_cases e : i = n
      · subst e
        rw [Array.getElem?_setIfInBounds_self_of_lt (by rw [(puts_size _ _ _ _).1]; exact hd i (by omega))]
      · rw [Array.getElem?_setIfInBounds_ne (hi n i (by omega) h (fun e' => e e'.symm))]
        exact h1 i (by omega)
    · show ((puts dst vs a0 n).tmps.setIfInBounds (dst n) (vs n))[t]? = _
      rw [Array.getElem?_setIfInBounds_ne (fun e => ht n (by omega) e.symm)]
      exact h2 t (fun i h => ht i (by omega))
theorem Dj.act {W w : World} {a0 a : Act} {n : Nat} {dst : Nat → Tmp} {R : Nat → Value → World → Prop} {S : Nat → Value → Nat → Value → Prop} {listed : Array Bool} (h : Dj W a0 n dst R S listed a w) (hall : ∀ i, i < n → listed.getD i false = true)
    (hd : ∀ i, i < n → dst i < a0.tmps.size) (hi : ∀ i j, i < n → j < n → i ≠ j → dst i ≠ dst j) : ∃ vs : Nat → Value, (∀ i, i < n → R i (vs i) w) ∧ (∀ i j, i < n → j < n → i ≠ j → S i (vs i) j (vs j)) ∧ a = puts dst vs a0 n := by
  have hv : ∀ i, ∃ v, i < n → a.tmps[dst i]? = some v ∧ R i v w := fun i => by
    by_cases h' : i < n
    · obtain ⟨v, hv⟩ := h.vals i h' (hall i h')
      exact ⟨v, fun _ => hv⟩
    · exact ⟨undef, fun k => absurd k h'⟩
  obtain ⟨vs, hvs⟩ : ∃ vs : Nat → Value, ∀ i, i < n → a.tmps[dst i]? = some (vs i) ∧ R i (vs i) w := ⟨fun i => (hv i).choose, fun i hi => (hv i).choose_spec hi⟩
  refine ⟨vs, fun i h' => (hvs i h').2, fun i j h' k' e => h.rel i j h' k' e (hall i h') (hall j k') _ _ (hvs i h').1 (hvs j k').1, ?_⟩
  obtain ⟨g1, g2⟩ := puts_get (vs := vs) n hd hi
  obtain ⟨s1, s2⟩ := puts_size dst vs a0 n
  have ht : a.tmps = (puts dst vs a0 n).tmps := by
    refine Array.ext_getElem? fun t => ?_
    by_cases e : ∃ i, i < n ∧ t = dst i
    · obtain ⟨i, h1, rfl⟩ := e
      rw [(hvs i h1).1, g1 i h1]
    · have e' : ∀ i, i < n → t ≠ dst i := fun i h1 h2 => e ⟨i, h1, h2⟩
      rw [h.rest t e', g2 t e']
  have hdf : a.defers = (puts dst vs a0 n).defers := by rw [h.defers, s2]
  cases a
  cases hp : puts dst vs a0 n
  rw [hp] at ht hdf
  simp only at ht hdf
  rw [ht, hdf]
def looseB (ops : Array Oper) (n : Nat) (D : Array Bool) : Bool :=
  sinkFrom .any ops 0 n && chainFrom .any ops n && decide (n ≤ ops.size) &&
  ((List.range n).all fun i => match ops[i]? with | some o => o.after.all fun e => !Region.binds .any e || decide (e.on < i) | none => false) &&
  decide (D.size = ops.size) && ((List.range ops.size).all fun j => D.getD j false == decide (j < n)) && forcedB .any ops (ops.size - n) n D && (Region.ready .any ops (mark (ops.size - n) n D)).isEmpty
theorem wp_region_loose {id : Nat} {a : Act} {W : World} {l : List Oper} (n : Nat) (dst : Nat → Tmp) (R : Nat → Value → World → Prop) (S : Nat → Value → Nat → Value → Prop) (D : Array Bool) (hm : P.follows .mixedOrders = true)
    (hB : looseB l.toArray n D = true) (hR : ∀ i v w w', R i v w → Below w.heap.size w w' → R i v w')
    (hdst : ∀ i, i < n → dst i < a.tmps.size) (hinj : ∀ i j, i < n → j < n → i ≠ j → dst i ≠ dst j)
    (hop : ∀ i o, i < n → l[i]? = some o → (∀ y, Region.wanted o y = true) ∧ ∀ a' w, Below W.heap.size W w → a'.tmps.size = a.tmps.size → a'.defers = a.defers → (∀ t, (∀ j, j < n → t ≠ dst j) → a'.tmps[t]? = a.tmps[t]?) →
      (∀ e ∈ o.after, Region.binds .any e = true → ∃ v, a'.tmps[dst e.on]? = some v ∧ R e.on v w) → o.wp P a' w (fun a'' w' => ∃ v, a'' = a'.put (some (dst i)) v ∧ Below w.heap.size w w' ∧ R i v w' ∧ ∀ j u, j < n → j ≠ i → R j u w → S i v j u ∧ S j u i v) Q)
    (hend : ∀ vs w, Below W.heap.size W w → (∀ i, i < n → R i (vs i) w) → (∀ i j, i < n → j < n → i ≠ j → S i (vs i) j (vs j)) → wpList P l.toArray (mixQ Q (fun a w => Q .normal a w)) (l.drop n) (puts dst vs a n) w) :
    (Code.region id l.toArray true).wp P Q a W := by
  simp only [looseB, Bool.and_eq_true, decide_eq_true_eq] at hB
  obtain ⟨⟨⟨⟨⟨⟨⟨b1, b2⟩, b3⟩, b4⟩, b5⟩, b6⟩, b7⟩, b8⟩ := hB
  have b3' : n ≤ l.length := by simpa using b3
  refine wp_region_any hm ?_
  have key := wpAny_loose (P := P) (ops := l.toArray) (md := .any) (Q := Q) (W := W) (a0 := a) (n := n) (g := l.length - n) (dst := dst) (R := R) (S := S) hR b1 b2 b3
    (fun i o hi ho e he hb => by
      have := List.all_eq_true.1 b4 i (List.mem_range.2 hi)
      simp only [ho] at this
      have h2 := Array.all_eq_true_iff_forall_mem.1 this e he
      simpa [hb] using h2) hdst hinj (fun i o hi ho => hop i o hi (by simpa using ho))
    (fun listed a' w' inv hall hJ => by
      have hD := listed_done (D := D) inv hall b5 (fun j hj => by
        have := List.all_eq_true.1 b6 j (List.mem_range.2 hj)
        simpa using this)
      subst hD
      obtain ⟨vs, hvs, hss, rfl⟩ := hJ.act hall hdst hinj
      have h1 := hend vs w' hJ.below hvs hss
      have h2 := wpAny_of_forced (P := P) (ops := l.toArray) (md := .any) (Q := Q) (F := 0) (l.drop n) n listed (puts dst vs a n) w' (fun j hj => by simp) (by simpa using b7) (by
        refine mix_sound.wpList_mixmono (fun a2 w2 h3 => ?_) _ _ _ h1
        refine ⟨?_, h3⟩
        have := b8
        simpa using this)
      simpa using h2) n (Array.replicate l.toArray.size false) a W.drew
    ⟨by simp, fun j oj hj hl => (by rw [getD_replicate_false] at hl; cases hl), fun t ht hts => getD_in (by simpa using hts) (getD_replicate_false _ _)⟩
    (by rw [List.countP_eq_length.2 (fun i hi => by show (!(Array.replicate _ false).getD i false) = true; rw [getD_replicate_false]; rfl)]; simp)
    ⟨(Below.refl _ _).drew, rfl, rfl, fun t _ => rfl, fun i hi hl => (by rw [getD_replicate_false] at hl; cases hl), fun i j _ _ _ hl => (by rw [getD_replicate_false] at hl; cases hl)⟩
  have e : n + (l.length - n) = l.toArray.size := by simp; omega
  rw [e] at key
  exact key
end
end Go.Proofs.Ytkogplnleiapfaa
