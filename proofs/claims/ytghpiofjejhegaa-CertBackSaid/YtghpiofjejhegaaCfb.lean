/- Plain: what a parser takes of what was written, of its beginnings. No program in sight. -/
import Derived.Test.YtghpiofjejhegaaCep
import Derived.Test.YtghpiofjejhegaaCodA
import Derived.Test.YtghpiofjejhegaaCev
import Derived.Test.YtghpiofjejhegaaCei
import Derived.Test.YtghpiofjejhegaaCed
import Derived.Test.YtghpiofjejhegaaCek
import Derived.Test.YtghpiofjejhegaaCex
namespace Go.Proofs.Ytghpiofjejhegaa
open Go.RowKit
set_option linter.unusedVariables false
set_option linter.unusedSimpArgs false
namespace Gn
/-- A parser takes these bytes as this, whatever follows, and finds each strict beginning too short. -/
def Reads {α : Type} (P : List Int → PR α) (w : List Int) (v : α) : Prop := (∀ s, P (w ++ s) = .ok v s) ∧ ∀ q t, w = q ++ t → t ≠ [] → P q = .bad 192
def bindP {α β : Type} (x : PR α) (f : α → List Int → PR β) : PR β :=
  match x with
  | .bad e => .bad e
  | .ok v r => f v r
theorem reads_bind {α β : Type} {P : List Int → PR α} {f : α → List Int → PR β} {w1 w2 : List Int} {v : α} {u : β} (h1 : Reads P w1 v) (h2 : Reads (f v) w2 u) : Reads (fun b => bindP (P b) f) (w1 ++ w2) u := by
  refine ⟨fun s => ?_, fun q t h ht => ?_⟩
  · show bindP (P (w1 ++ w2 ++ s)) f = _
    rw [List.append_assoc, h1.1]
    exact h2.1 s
  · show bindP (P q) f = _
    rcases List.append_eq_append_iff.1 h with ⟨a, e1, e2⟩ | ⟨a, e1, e2⟩
    · rw [e1, h1.1]
      exact h2.2 a t e2 ht
    · by_cases ha : a = []
      · subst ha
        rw [List.append_nil] at e1
        rw [List.nil_append] at e2
        have := h1.1 []
        rw [List.append_nil] at this
        rw [← e1, this]
        exact h2.2 [] t (by rw [List.nil_append, e2]) ht
      · rw [h1.2 q a e1 ha]; rfl
theorem reads_pure {α : Type} (v : α) : Reads (fun b => PR.ok v b) [] v := ⟨fun s => rfl, fun q t h ht => by
  have := List.append_eq_nil_iff.1 h.symm
  exact absurd this.2 ht⟩
theorem reads_congr {α : Type} {P P' : List Int → PR α} {w : List Int} {v : α} (h : Reads P w v) (e : ∀ b, P' b = P b) : Reads P' w v := ⟨fun s => (e _).trans (h.1 s), fun q t hq ht => (e _).trans (h.2 q t hq ht)⟩
theorem tk_pre (n : Nat) : ∀ (i acc : Nat) (q t : List Int), n * 128 ^ i < 128 ^ 9 * 2 → (0 < i → 0 < n) → put n = q ++ t → t ≠ [] → tk i acc q = (0, 0, 180) := by
  induction n using Nat.strongRecOn with
  | ind n ih =>
    intro i acc q t hn hi hq ht
    cases q with
    | nil => rfl
    | cons x q =>
      by_cases hs : n < 128
      · rw [put_small hs] at hq
        injection hq with e1 e2
        exact absurd (List.append_eq_nil_iff.1 e2.symm).2 ht
      · rw [put_big hs] at hq
        injection hq with e1 e2
        have hp := Nat.pow_pos (n := i) (show 0 < 128 by omega)
        have hlt : i < 9 := by
          rcases Nat.lt_or_ge i 9 with h | h
          · exact h
          · have h1 : 128 ^ 9 ≤ 128 ^ i := Nat.pow_le_pow_right (by omega) h
            have h2 : 128 * 128 ^ i ≤ n * 128 ^ i := Nat.mul_le_mul_right _ (by omega)
            omega
        have h3 : n / 128 * 128 ^ (i + 1) ≤ n * 128 ^ i := by
          rw [Nat.pow_succ, Nat.mul_comm (128 ^ i), ← Nat.mul_assoc]
          exact Nat.mul_le_mul_right _ (Nat.div_mul_le_self n 128)
        unfold tk
        rw [if_neg (by omega), if_neg (by omega)]
        exact ih (n / 128) (by omega) (i + 1) _ q t (by omega) (fun _ => by omega) e2 ht
theorem reads_number {v : Nat} (h : (v : Int) ≤ 18446744073709551615) : Reads numberP (put v) v := by
  refine ⟨fun s => ?_, fun q t hq ht => ?_⟩
  · have e := take_put s h
    unfold numberP
    rw [e]
    simp only
    rw [if_neg (by decide), if_neg (by decide), List.drop_left]
  · have e : take q = (0, 0, 180) := tk_pre v 0 0 q t (by omega) (by omega) hq ht
    unfold numberP
    rw [e]; rfl
theorem upToP_bind (lo hi : Int) (b : List Int) : upToP lo hi b = bindP (numberP b) fun n r => if hi < lo ∨ (n : Int) < lo ∨ hi < (n : Int) then .bad 194 else .ok n r := by
  unfold upToP bindP
  cases numberP b <;> rfl
theorem reads_upTo {lo hi : Int} {v : Nat} (h : (v : Int) ≤ 18446744073709551615) (h1 : lo ≤ v) (h2 : (v : Int) ≤ hi) : Reads (upToP lo hi) (put v) v := by
  have := reads_bind (β := Nat) (f := fun (n : Nat) r => if hi < lo ∨ (n : Int) < lo ∨ hi < (n : Int) then .bad 194 else .ok n r) (reads_number h) (w2 := []) (u := v) (reads_congr (P' := fun b => if hi < lo ∨ (v : Int) < lo ∨ hi < (v : Int) then .bad 194 else .ok v b) (reads_pure v) (fun b => if_neg (by omega)))
  rw [List.append_nil] at this
  exact reads_congr this (upToP_bind lo hi)
theorem placeP_bind (n : Nat) (ps : List (Nat × Nat)) (nx : Nat) (M b : List Int) : placeP n ps nx M b = bindP (upToP 0 ((ps.length : Int) - (nx : Int) - 1) b) fun g r => bindP (numberP r) fun v r =>
    if unfold' v = 9223372036854775807 ∨ ¬ isB (unfold' v) then .bad 194 else .ok (nx + g + 1, putM (2 * n) M (pfst ps (nx + g)) (psnd ps (nx + g)) (unfold' v)) r := by
  unfold placeP bindP
  cases upToP 0 ((ps.length : Int) - (nx : Int) - 1) b with
  | bad e => rfl
  | ok g r =>
    simp only
    cases numberP r <;> rfl
theorem reads_place {n : Nat} {ps : List (Nat × Nat)} {nx t : Nat} {M : List Int} {u : Int} (hp : ps.length ≤ 16384) (h1 : nx ≤ t) (h2 : t < ps.length) (hu : I64 u) (hb : isB u = true) (hi : u ≠ 9223372036854775807) :
    Reads (placeP n ps nx M) (put (t - nx) ++ put (fold u).toNat) (t + 1, putM (2 * n) M (pfst ps t) (psnd ps t) u) := by
  obtain ⟨f1, f2⟩ := fold_u64 hu
  have hn := reads_number (v := (fold u).toNat) (by omega)
  have e : unfold' (((fold u).toNat : Nat) : Int) = u := by rw [f1, unfold_fold]
  have e2 : nx + (t - nx) = t := by omega
  have h3 : Reads (fun r => bindP (numberP r) fun v r => if unfold' (v : Int) = 9223372036854775807 ∨ ¬ isB (unfold' (v : Int)) then PR.bad 194 else PR.ok (nx + (t - nx) + 1, putM (2 * n) M (pfst ps (nx + (t - nx))) (psnd ps (nx + (t - nx))) (unfold' (v : Int))) r) (put (fold u).toNat) (t + 1, putM (2 * n) M (pfst ps t) (psnd ps t) u) := by
    have := reads_bind (β := Nat × List Int) (f := fun (v : Nat) r => if unfold' (v : Int) = 9223372036854775807 ∨ ¬ isB (unfold' (v : Int)) then PR.bad 194 else PR.ok (nx + (t - nx) + 1, putM (2 * n) M (pfst ps (nx + (t - nx))) (psnd ps (nx + (t - nx))) (unfold' (v : Int))) r)
      hn (w2 := []) (u := (t + 1, putM (2 * n) M (pfst ps t) (psnd ps t) u))
      (reads_congr (reads_pure _) (fun b => by
        show (if _ then _ else _) = _
        rw [e, e2, if_neg (fun x => x.elim hi (fun y => y hb))]))
    rw [List.append_nil] at this
    exact this
  exact reads_congr (reads_bind (f := fun (g : Nat) r => bindP (numberP r) fun v r => if unfold' (v : Int) = 9223372036854775807 ∨ ¬ isB (unfold' (v : Int)) then PR.bad 194 else PR.ok (nx + g + 1, putM (2 * n) M (pfst ps (nx + g)) (psnd ps (nx + g)) (unfold' (v : Int))) r)
    (reads_upTo (v := t - nx) (by omega) (by omega) (by omega)) h3) (placeP_bind n ps nx M)
/-- A cell's place. -/
def plc (n i j : Nat) : Nat := pidx (pairs n) (plA i j) (plB i j)
theorem plc_spec {n i j : Nat} (hi : i < 2 * n) (hj : j < 2 * n) (hij : i ≠ j) : plc n i j < (pairs n).length ∧ ((pfst (pairs n) (plc n i j) = i ∧ psnd (pairs n) (plc n i j) = j) ∨ (pfst (pairs n) (plc n i j) = ac j ∧ psnd (pairs n) (plc n i j) = ac i)) := by
  have hm := pl_mem hi hj hij
  obtain ⟨e1, e2⟩ := pidx_at hm
  refine ⟨pidx_lt hm, ?_⟩
  unfold plc
  rw [e1, e2]
  unfold plA plB
  by_cases h : fst2 i j = true
  · left; rw [if_pos h, if_pos h]; exact ⟨rfl, rfl⟩
  · right; rw [if_neg h, if_neg h]; exact ⟨rfl, rfl⟩
theorem place_uniq {n p t : Nat} (hp : p < (pairs n).length) (ht : t < (pairs n).length)
    (h : (pfst (pairs n) p = pfst (pairs n) t ∧ psnd (pairs n) p = psnd (pairs n) t) ∨ (pfst (pairs n) p = ac (psnd (pairs n) t) ∧ psnd (pairs n) p = ac (pfst (pairs n) t))) : p = t := by
  have key : pfst (pairs n) p = pfst (pairs n) t ∧ psnd (pairs n) p = psnd (pairs n) t := by
    rcases h with h | ⟨e1, e2⟩
    · exact h
    · obtain ⟨_, _, h3⟩ := pairs_mem.1 (pget_mem ht)
      obtain ⟨_, _, g3⟩ := pairs_mem.1 (pget_mem hp)
      dsimp only at h3 g3
      rw [e1, e2] at g3
      obtain ⟨a1, a2⟩ := isP_across h3 g3
      exact ⟨e1.trans a1, e2.trans a2⟩
  rcases Nat.lt_trichotomy p t with h1 | h1 | h1
  · exact absurd ⟨key.1.symm, key.2.symm⟩ (pairs_ne h1 ht)
  · exact h1
  · exact absurd key (pairs_ne h1 hp)
/-- A matrix's cells at the places ahead of one. -/
def Cur (n : Nat) (M : List Int) (nx : Nat) (X : List Int) : Prop := X.length = (2 * n) * (2 * n) ∧ ∀ i, i < 2 * n → ∀ j, j < 2 * n → cl (2 * n) X i j = if i = j then 0 else if plc n i j < nx then cl (2 * n) M i j else 9223372036854775807
theorem cur_top (n : Nat) (M : List Int) : Cur n M 0 (topM (2 * n)) := ⟨topM_len _, fun i hi j hj => by
  unfold topM
  rw [cl_mat hi hj]
  by_cases h : i = j
  · rw [if_pos h, if_pos h]
  · rw [if_neg h, if_neg h, if_neg (by omega)]⟩
/-- A cell is its place's. -/
theorem cell_place {n : Nat} {M : List Int} (hk : okM (2 * n) M) {i j : Nat} (hi : i < 2 * n) (hj : j < 2 * n) (hij : i ≠ j) : cl (2 * n) M i j = cl (2 * n) M (pfst (pairs n) (plc n i j)) (psnd (pairs n) (plc n i j)) := by
  obtain ⟨_, h | h⟩ := plc_spec hi hj hij
  · rw [h.1, h.2]
  · rw [h.1, h.2]; exact (hk i hi j hj).2.2
theorem cur_step {n nx t : Nat} {M X : List Int} (hk : okM (2 * n) M) (h : Cur n M nx X) (h1 : nx ≤ t) (h2 : t < (pairs n).length) (hinf : ∀ q, nx ≤ q → q < t → cl (2 * n) M (pfst (pairs n) q) (psnd (pairs n) q) = 9223372036854775807) :
    Cur n M (t + 1) (putM (2 * n) X (pfst (pairs n) t) (psnd (pairs n) t) (cl (2 * n) M (pfst (pairs n) t) (psnd (pairs n) t))) := by
  obtain ⟨g1, g2, g3⟩ := pairs_mem.1 (pget_mem h2)
  dsimp only at g1 g2 g3
  have gne : pfst (pairs n) t ≠ psnd (pairs n) t := by unfold isP at g3; simp only [Bool.and_eq_true, decide_eq_true_eq] at g3; exact g3.1
  refine ⟨by rw [putM_len]; exact h.1, fun i hi j hj => ?_⟩
  rw [cl_putM h.1 g1 g2 (ac_lt g1) (ac_lt g2) hj]
  by_cases hij : i = j
  · subst hij
    rw [if_neg ?_, if_pos rfl, h.2 i hi i hi, if_pos rfl]
    rintro (⟨e1, e2⟩ | ⟨e1, e2⟩)
    · exact gne (e1.symm.trans e2)
    · have := e1.symm.trans e2
      have e3 := congrArg ac this
      rw [ac_ac, ac_ac] at e3
      exact gne e3.symm
  · rw [if_neg hij]
    obtain ⟨hpl, hps⟩ := plc_spec hi hj hij
    have hcp := cell_place hk hi hj hij
    by_cases ht : plc n i j = t
    · rw [if_pos ?_, if_pos (by omega), hcp, ht]
      rw [ht] at hps
      rcases hps with ⟨a1, a2⟩ | ⟨a1, a2⟩
      · exact .inl ⟨a1.symm, a2.symm⟩
      · right; rw [a1, a2, ac_ac, ac_ac]; exact ⟨rfl, rfl⟩
    · rw [if_neg ?_, h.2 i hi j hj, if_neg hij]
      · by_cases hlt : plc n i j < nx
        · rw [if_pos hlt, if_pos (by omega)]
        · rw [if_neg hlt]
          by_cases hl2 : plc n i j < t + 1
          · rw [if_pos hl2, hcp, hinf _ (by omega) (by omega)]
          · rw [if_neg hl2]
      · intro hx
        refine ht (place_uniq hpl h2 ?_)
        rcases hps with ⟨a1, a2⟩ | ⟨a1, a2⟩ <;> rcases hx with ⟨b1, b2⟩ | ⟨b1, b2⟩
        · exact .inl ⟨a1.trans b1, a2.trans b2⟩
        · exact .inr ⟨a1.trans b1, a2.trans b2⟩
        · right; rw [a1, a2, b1, b2]; exact ⟨rfl, rfl⟩
        · left; rw [a1, a2, b1, b2, ac_ac, ac_ac]; exact ⟨rfl, rfl⟩
theorem cur_end {n nx : Nat} {M X : List Int} (hk : okM (2 * n) M) (hl : M.length = (2 * n) * (2 * n)) (h : Cur n M nx X) (hinf : ∀ q, nx ≤ q → q < (pairs n).length → cl (2 * n) M (pfst (pairs n) q) (psnd (pairs n) q) = 9223372036854775807) : X = M := by
  refine list_eq_nth (h.1.trans hl.symm) (fun p hp => ?_)
  rw [h.1] at hp
  have hm : 0 < 2 * n := by
    rcases Nat.eq_zero_or_pos (2 * n) with h0 | h0
    · rw [h0] at hp; omega
    · exact h0
  have hi : p / (2 * n) < 2 * n := by rw [Nat.div_lt_iff_lt_mul hm]; exact hp
  have hj := Nat.mod_lt p hm
  have key : cl (2 * n) X (p / (2 * n)) (p % (2 * n)) = cl (2 * n) M (p / (2 * n)) (p % (2 * n)) := by
    rw [h.2 _ hi _ hj]
    by_cases hij : p / (2 * n) = p % (2 * n)
    · rw [if_pos hij]; exact ((hk _ hi _ hj).2.1 hij).symm
    · rw [if_neg hij]
      by_cases hlt : plc n (p / (2 * n)) (p % (2 * n)) < nx
      · rw [if_pos hlt]
      · rw [if_neg hlt, cell_place hk hi hj hij]
        exact (hinf _ (by omega) (plc_spec hi hj hij).1).symm
  unfold cl at key
  rw [show p / (2 * n) * (2 * n) + p % (2 * n) = p by rw [Nat.mul_comm]; exact Nat.div_add_mod p (2 * n)] at key
  exact key
theorem placesP_bind (n : Nat) (ps : List (Nat × Nat)) (k nx : Nat) (M b : List Int) : placesP n ps (k + 1) nx M b = bindP (placeP n ps nx M b) fun s r => placesP n ps k s.1 s.2 r := by
  rw [placesP_succ]
  cases placeP n ps nx M b <;> rfl
theorem cl_fits {m : Nat} {M : List Int} (h : ∀ x ∈ M, I64 x) (hl : M.length = m * m) {i j : Nat} (hi : i < m) (hj : j < m) : I64 (cl m M i j) := by
  unfold cl
  exact h _ (nth_mem (by rw [hl]; exact idx_lt hi hj))
theorem reads_places {n : Nat} {M : List Int} (hn : n ≤ 64) (hk : okM (2 * n) M) (hl : M.length = (2 * n) * (2 * n)) (h64 : ∀ x ∈ M, I64 x) : ∀ (d k nx : Nat) (X : List Int), k + d = (pairs n).length → (encTo (2 * n) M (pairs n) k).nxt = nx → nx ≤ k →
    (∀ q, nx ≤ q → q < k → cl (2 * n) M (pfst (pairs n) q) (psnd (pairs n) q) = 9223372036854775807) → Cur n M nx X →
    ∃ l' c' nx', (encTo (2 * n) M (pairs n) (pairs n).length).l = (encTo (2 * n) M (pairs n) k).l ++ l' ∧ (encTo (2 * n) M (pairs n) (pairs n).length).cnt = (encTo (2 * n) M (pairs n) k).cnt + c' ∧ Reads (placesP n (pairs n) c' nx X) (putAll l') (nx', M)
  | 0, k, nx, X, hd, hnx, hle, hinf, hC => by
    obtain rfl : k = (pairs n).length := by omega
    have e := cur_end hk hl hC hinf
    subst e
    exact ⟨[], 0, nx, by simp, by simp, reads_pure (nx, X)⟩
  | d + 1, k, nx, X, hd, hnx, hle, hinf, hC => by
    have hkl : k < (pairs n).length := by omega
    by_cases hc : cl (2 * n) M (pfst (pairs n) k) (psnd (pairs n) k) = 9223372036854775807
    · have e : encTo (2 * n) M (pairs n) (k + 1) = encTo (2 * n) M (pairs n) k := by rw [encTo_succ]; exact if_pos hc
      obtain ⟨l', c', nx', h1, h2, h3⟩ := reads_places hn hk hl h64 d (k + 1) nx X (by omega) (by rw [e]; exact hnx) (by omega) (fun q h1 h2 => by
        rcases Nat.lt_or_ge q k with h | h
        · exact hinf q h1 h
        · obtain rfl : q = k := by omega
          exact hc) hC
      rw [e] at h1 h2
      exact ⟨l', c', nx', h1, h2, h3⟩
    · obtain ⟨g1, g2, g3⟩ := pairs_mem.1 (pget_mem hkl)
      dsimp only at g1 g2 g3
      have e : encTo (2 * n) M (pairs n) (k + 1) = ⟨(encTo (2 * n) M (pairs n) k).l ++ [k - nx, (fold (cl (2 * n) M (pfst (pairs n) k) (psnd (pairs n) k))).toNat], k + 1, (encTo (2 * n) M (pairs n) k).cnt + 1⟩ := by
        rw [encTo_succ, ← hnx]; exact if_neg hc
      obtain ⟨l', c', nx', h1, h2, h3⟩ := reads_places hn hk hl h64 d (k + 1) (k + 1) _ (by omega) (by rw [e]) (Nat.le_refl _) (fun q h1 h2 => by omega) (cur_step hk hC hle hkl hinf)
      rw [e] at h1 h2
      have hp := reads_place (n := n) (ps := pairs n) (nx := nx) (t := k) (M := X) (pairs_small hn) hle hkl (cl_fits h64 hl g1 g2) (hk _ g1 _ g2).1 hc
      refine ⟨[k - nx, (fold (cl (2 * n) M (pfst (pairs n) k) (psnd (pairs n) k))).toNat] ++ l', c' + 1, nx', by rw [h1, List.append_assoc], by rw [h2]; simp only; omega, ?_⟩
      have hb := reads_bind (f := fun s r => placesP n (pairs n) c' s.1 s.2 r) hp h3
      rw [putAll_append, show putAll [k - nx, (fold (cl (2 * n) M (pfst (pairs n) k) (psnd (pairs n) k))).toNat] = put (k - nx) ++ put (fold (cl (2 * n) M (pfst (pairs n) k) (psnd (pairs n) k))).toNat by simp [putAll]]
      exact reads_congr hb (placesP_bind n (pairs n) c' nx X)
theorem reads_cons {α : Type} {P F : List Int → PR α} {x : Int} {w : List Int} {v : α} (h0 : P [] = .bad 192) (h1 : ∀ r, P (x :: r) = F r) (h : Reads F w v) : Reads P (x :: w) v := by
  refine ⟨fun s => (h1 _).trans (h.1 s), fun q t hq ht => ?_⟩
  cases q with
  | nil => exact h0
  | cons y q =>
    injection hq with e1 e2
    rw [← e1]
    exact (h1 q).trans (h.2 q t e2 ht)
theorem reads_octs_true (n : Nat) (M : List Int) : Reads (octP n (pairs n)) (octB n true M) ⟨n, true, []⟩ :=
  reads_cons (F := fun r => .ok ⟨n, true, []⟩ r) rfl (fun r => octP_empty n (pairs n) r) (reads_pure _)
theorem octP_bind (n : Nat) (r : List Int) : octP n (pairs n) (1 :: r) = bindP (upToP 0 ((pairs n).length : Int) r) fun k r => bindP (placesP n (pairs n) k 0 (topM (2 * n)) r) fun s r => .ok ⟨n, false, s.2⟩ r := by
  cases h : upToP 0 ((pairs n).length : Int) r with
  | bad e => rw [octP_one_bad h]; rfl
  | ok k r' =>
    rw [octP_one_ok h]
    show _ = bindP (placesP n (pairs n) k 0 (topM (2 * n)) r') _
    cases placesP n (pairs n) k 0 (topM (2 * n)) r' <;> rfl
theorem encTo_few {m : Nat} {M : List Int} {ps : List (Nat × Nat)} : ∀ k, (encTo m M ps k).cnt ≤ k
  | 0 => Nat.le_refl _
  | k + 1 => by
    have := encTo_few (m := m) (M := M) (ps := ps) k
    rw [encTo_succ]
    unfold encStep
    split
    · omega
    · simp only; omega
theorem reads_octs_false {n : Nat} {M : List Int} (hn : n ≤ 64) (hk : okM (2 * n) M) (hl : M.length = (2 * n) * (2 * n)) (h64 : ∀ x ∈ M, I64 x) : Reads (octP n (pairs n)) (octB n false M) ⟨n, false, M⟩ := by
  obtain ⟨l', c', nx', h1, h2, h3⟩ := reads_places hn hk hl h64 (pairs n).length 0 0 (topM (2 * n)) (by omega) rfl (Nat.le_refl _) (fun q _ h => by omega) (cur_top n M)
  have hc := encTo_few (m := 2 * n) (M := M) (ps := pairs n) (pairs n).length
  have hps := pairs_small hn
  have e1 : (encTo (2 * n) M (pairs n) (pairs n).length).l = l' := h1
  have e2 : (encTo (2 * n) M (pairs n) (pairs n).length).cnt = c' := by rw [h2]; exact Nat.zero_add c'
  rw [octB_false, e1, e2]
  rw [e2] at hc
  have hb := reads_bind (β := OC) (f := fun s r => .ok ⟨n, false, s.2⟩ r) h3 (reads_pure _)
  rw [List.append_nil] at hb
  have hu := reads_bind (β := OC) (f := fun (k : Nat) r => bindP (placesP n (pairs n) k 0 (topM (2 * n)) r) fun s r => .ok ⟨n, false, s.2⟩ r) (reads_upTo (lo := 0) (hi := ((pairs n).length : Int)) (v := c') (by omega) (by omega) (by omega)) hb
  exact reads_cons rfl (fun r => octP_bind n r) hu
theorem chk_ok {n : Nat} {M : List Int} (h : chk n false M = 0) : n ≤ 64 ∧ M.length = (2 * n) * (2 * n) ∧ okM (2 * n) M := by
  unfold chk at h
  split at h
  · cases h
  · rename_i h1
    simp only [reduceCtorEq, if_false, false_and, false_or, true_and, Bool.false_eq_true] at h h1
    split at h
    · rename_i h2
      rw [Int.toNat_natCast] at h2
      refine ⟨by omega, ?_, h2⟩
      have h3 : (M.length : Int) = 4 * n * n := by omega
      have h4 : (4 * (n : Int) * n) = ((4 * n * n : Nat) : Int) := by push_cast; rfl
      rw [h4] at h3
      rw [sq2]
      exact Int.ofNat.inj h3
    · cases h
theorem chk_empty {n : Nat} {M : List Int} (h : chk n true M = 0) : M = [] := by
  unfold chk at h
  split at h
  · cases h
  · rename_i h1
    by_cases hm : 0 < M.length
    · exact absurd (.inr (.inr (.inl ⟨rfl, hm⟩))) h1
    · exact List.eq_nil_of_length_eq_zero (by omega)
theorem reads_oct {n : Nat} {o : OC} (h : goodO n o) (h64 : ∀ x ∈ o.m, I64 x) : Reads (octP n (pairs n)) (octB n o.e o.m) o := by
  obtain ⟨N, E, M⟩ := o
  obtain ⟨h1, h2⟩ := h
  dsimp only at h1 h2 h64 ⊢
  subst h1
  cases E with
  | true =>
    obtain rfl := chk_empty h2
    exact reads_octs_true n []
  | false =>
    obtain ⟨hn, hl, hk⟩ := chk_ok h2
    exact reads_octs_false hn hk hl h64
theorem octsP_bind (n : Nat) (k : Nat) (acc : List OC) (b : List Int) : octsP n (pairs n) (k + 1) acc b = bindP (octP n (pairs n) b) fun o r => octsP n (pairs n) k (acc ++ [o]) r := by
  cases h : octP n (pairs n) b with
  | bad e => rw [octsP_bad h]; rfl
  | ok o r => rw [octsP_ok h]; rfl
theorem reads_octs {n : Nat} : ∀ (l acc : List OC), (∀ o ∈ l, goodO n o ∧ ∀ x ∈ o.m, I64 x) → Reads (octsP n (pairs n) l.length acc) (l.flatMap fun o => octB n o.e o.m) (acc ++ l)
  | [], acc, _ => by rw [List.append_nil]; exact reads_pure acc
  | o :: l, acc, h => by
    have h1 := reads_oct (h o List.mem_cons_self).1 (h o List.mem_cons_self).2
    have h2 := reads_octs l (acc ++ [o]) (fun o ho => h o (List.mem_cons_of_mem _ ho))
    have hb := reads_bind (f := fun o r => octsP n (pairs n) l.length (acc ++ [o]) r) h1 h2
    rw [List.append_assoc] at hb
    exact reads_congr hb (octsP_bind n l.length acc)
def bodyQ (D : Int) (b : List Int) : PR (Int × Int × List OC) :=
  bindP (upToP 0 64 b) fun n r => bindP (upToP 1 4096 r) fun k r => if 4194304 < 4 * (n : Int) * n * k then .bad 194 else bindP (octsP n (pairs n) k [] r) fun os r => .ok (D, (n : Int), os) r
def endP : PR (Int × Int × List OC) → PR (Int × Int × List OC)
  | .bad e => .bad e
  | .ok v r => if 0 < r.length then .bad 195 else .ok v r
theorem bodyP_end (D : Int) (b : List Int) : bodyP D b = endP (bodyQ D b) := by
  unfold bodyP bodyQ
  cases h1 : upToP 0 64 b with
  | bad e => rfl
  | ok n r =>
    simp only [bindP]
    cases h2 : upToP 1 4096 r with
    | bad e => rfl
    | ok k r2 =>
      simp only
      split
      · rfl
      · cases octsP n (pairs n) k [] r2 <;> rfl
def takeN (k : Nat) (b : List Int) : PR (List Int) := if b.length < k then .bad 192 else .ok (b.take k) (b.drop k)
theorem reads_take {k : Nat} {w : List Int} (h : w.length = k) : Reads (takeN k) w w := by
  subst h
  refine ⟨fun s => ?_, fun q t hq ht => ?_⟩
  · unfold takeN
    rw [if_neg (by simp), List.take_left, List.drop_left]
  · unfold takeN
    rw [if_pos]
    have : 0 < t.length := List.length_pos_iff.2 ht
    rw [hq, List.length_append]; omega
def certQ (b : List Int) : PR (Int × Int × List OC) :=
  bindP (takeN 4 b) fun m r => if m ≠ [103, 110, 109, 49] then .bad 191 else bindP (takeN 8 r) fun d r => bodyQ (digN d) r
theorem certP_end (b : List Int) : certP b = endP (certQ b) := by
  unfold certP certQ takeN
  by_cases h1 : b.length < 4
  · rw [if_pos h1, if_pos h1]; rfl
  · rw [if_neg h1, if_neg h1]
    simp only [bindP]
    by_cases h2 : b.take 4 ≠ [103, 110, 109, 49]
    · rw [if_pos h2, if_pos h2]; rfl
    · rw [if_neg h2, if_neg h2]
      by_cases h3 : (b.drop 4).length < 8
      · rw [if_pos h3, if_pos h3]; rfl
      · rw [if_neg h3, if_neg h3]
        exact bodyP_end _ _
theorem digN_digTo {D : Int} (h : 0 ≤ D ∧ D ≤ 18446744073709551615) : digN (digTo D 8) = D := by
  have e : digTo D 8 = [D / 72057594037927936 % 256, D / 281474976710656 % 256, D / 1099511627776 % 256, D / 4294967296 % 256, D / 16777216 % 256, D / 65536 % 256, D / 256 % 256, D / 1 % 256] := rfl
  rw [e]
  unfold digN
  simp only [List.foldl_cons, List.foldl_nil]
  omega
theorem octsTo_map (n : Nat) (os : List OC) : ∀ k, k ≤ os.length → octsTo n os k = (os.take k).flatMap fun o => octB n o.e o.m
  | 0, _ => by simp [octsTo]
  | k + 1, h => by
    rw [octsTo_succ, octsTo_map n os k (by omega), List.take_add_one, List.getElem?_eq_getElem (by omega), List.flatMap_append]
    congr 1
    unfold ocAt
    rw [List.getD_eq_getElem?_getD, List.getElem?_eq_getElem (by omega)]
    simp
theorem reads_cert {D : Int} {n : Nat} {os : List OC} (hD : 0 ≤ D ∧ D ≤ 18446744073709551615) (hc : chkC n os = 0) (h64 : ∀ o ∈ os, ∀ x ∈ o.m, I64 x) : Reads certQ (bytesTo D n os os.length) (D, (n : Int), os) := by
  obtain ⟨⟨⟨hn0, hn1⟩, hL1, hL2, hL3⟩, hg⟩ := chkC_zero hc
  have hgo : ∀ o ∈ os, goodO n o ∧ ∀ x ∈ o.m, I64 x := fun o ho => ⟨by
    obtain ⟨i, hi, rfl⟩ := List.getElem_of_mem ho
    have := hg i hi
    unfold ocAt at this
    rw [List.getD_eq_getElem?_getD, List.getElem?_eq_getElem hi] at this
    exact this, h64 o ho⟩
  have h1 := reads_octs os [] hgo
  rw [List.nil_append] at h1
  have h2 := reads_bind (β := Int × Int × List OC) (f := fun os r => .ok (D, (n : Int), os) r) h1 (reads_pure _)
  rw [List.append_nil] at h2
  have h3 := reads_congr (P' := fun r => if 4194304 < 4 * (n : Int) * n * os.length then PR.bad 194 else bindP (octsP n (pairs n) os.length [] r) fun os r => .ok (D, (n : Int), os) r) h2 (fun b => if_neg (by omega))
  have h4 := reads_bind (β := Int × Int × List OC) (f := fun (k : Nat) r => if 4194304 < 4 * (n : Int) * n * k then PR.bad 194 else bindP (octsP n (pairs n) k [] r) fun os r => .ok (D, (n : Int), os) r) (reads_upTo (lo := 1) (hi := 4096) (v := os.length) (by omega) (by omega) (by omega)) h3
  have h5 : Reads (bodyQ D) _ _ := reads_bind (β := Int × Int × List OC) (f := fun (n : Nat) r => bindP (upToP 1 4096 r) fun k r => if 4194304 < 4 * (n : Int) * n * k then PR.bad 194 else bindP (octsP n (pairs n) k [] r) fun os r => .ok (D, (n : Int), os) r) (reads_upTo (lo := 0) (hi := 64) (v := n) (by omega) (by omega) (by omega)) h4
  have h6 := reads_bind (β := Int × Int × List OC) (f := fun d r => bodyQ (digN d) r) (reads_take (k := 8) (w := digTo D 8) (digTo_len D 8)) (by rw [digN_digTo hD]; exact h5)
  have h7 := reads_congr (P' := fun r => if [103, 110, 109, 49] ≠ ([103, 110, 109, 49] : List Int) then PR.bad 191 else bindP (takeN 8 r) fun d r => bodyQ (digN d) r) h6 (fun b => if_neg (fun x => x rfl))
  have h8 : Reads certQ _ _ := reads_bind (β := Int × Int × List OC) (f := fun m r => if m ≠ [103, 110, 109, 49] then PR.bad 191 else bindP (takeN 8 r) fun d r => bodyQ (digN d) r) (reads_take (k := 4) (w := [103, 110, 109, 49]) rfl) h7
  have e : bytesTo D n os os.length = [103, 110, 109, 49] ++ (digTo D 8 ++ (put n ++ (put os.length ++ os.flatMap fun o => octB n o.e o.m))) := by
    unfold bytesTo headB
    rw [octsTo_map n os os.length (Nat.le_refl _), List.take_length]
    simp [putAll]
  rw [e]
  exact h8
/-- What Encode wrote comes back; cut, or with a byte behind, it is refused. -/
theorem back_ok {D : Int} {n : Nat} {os : List OC} {bs : List Int} (hD : 0 ≤ D ∧ D ≤ 18446744073709551615) (h64 : ∀ o ∈ os, ∀ x ∈ o.m, I64 x) (h : encP D n os = (bs, 0)) :
    decP bs = ((D, (n : Int), os), 0) ∧ (∀ k, k < bs.length → (decP (bs.take k)).2 = 192) ∧ ∀ x, (decP (bs ++ [x])).2 = 195 ∨ ((decP (bs ++ [x])).2 = 196 ∧ 4194304 ≤ bs.length) := by
  unfold encP at h
  split at h
  · rename_i h1
    injection h with h2 h3
    exact absurd h3 h1
  · rename_i h1
    split at h
    · injection h with h2 h3
      omega
    · rename_i h4
      injection h with h2 h3
      rw [Int.toNat_natCast] at h2 h4
      have hc0 : chkC (n : Int) os = 0 := by omega
      have hr := reads_cert hD hc0 h64
      rw [h2] at hr h4
      have hc : certP bs = .ok (D, (n : Int), os) [] := by
        rw [certP_end]
        have := hr.1 []
        rw [List.append_nil] at this
        rw [this]
        rfl
      refine ⟨?_, fun k hk => ?_, fun x => ?_⟩
      · rw [decP_fin h4, hc]; rfl
      · have hq := hr.2 (bs.take k) (bs.drop k) (List.take_append_drop k bs).symm (by
          intro e
          have := congrArg List.length e
          simp at this
          omega)
        rw [decP_fin (by rw [List.length_take]; omega), certP_end, hq]; rfl
      · by_cases hx : 4194304 < (bs ++ [x]).length
        · right
          unfold decP
          rw [if_pos hx]
          rw [List.length_append] at hx
          simp at hx
          exact ⟨rfl, by omega⟩
        · left
          rw [decP_fin hx, certP_end, hr.1 [x]]; rfl
end Gn
namespace Gn
theorem number_back {b r : List Int} {v : Nat} (hb : Bts b) (h : numberP b = .ok v r) : (v : Int) ≤ 18446744073709551615 ∧ b = put v ++ r ∧ Bts r := by
  unfold numberP at h
  split at h
  · cases h
  · split at h
    · cases h
    · rename_i h1 h2
      injection h with h3 h4
      rcases take_err_or b with he | he | he
      · obtain ⟨_, _, t1, t2⟩ := take_cnt hb he
        rw [← h3, ← h4]
        refine ⟨t2, ?_, fun x hx => hb x (List.mem_of_mem_drop hx)⟩
        rw [← t1, List.take_append_drop]
      · exact absurd (by rw [he]) h1
      · exact absurd (by rw [he]) h2
theorem upTo_back {lo hi : Int} {b r : List Int} {v : Nat} (hb : Bts b) (h : upToP lo hi b = .ok v r) : (v : Int) ≤ 18446744073709551615 ∧ b = put v ++ r ∧ Bts r ∧ lo ≤ v ∧ (v : Int) ≤ hi := by
  have h0 := h
  unfold upToP at h
  split at h
  · cases h
  · rename_i n r' hN
    split at h
    · cases h
    · rename_i h1
      injection h with h2 h3
      subst h2 h3
      obtain ⟨a1, a2, a3⟩ := number_back hb hN
      exact ⟨a1, a2, a3, by omega, by omega⟩
theorem encTo_agree {m : Nat} {M X : List Int} {ps : List (Nat × Nat)} : ∀ k, (∀ q, q < k → cl m M (pfst ps q) (psnd ps q) = cl m X (pfst ps q) (psnd ps q)) → encTo m M ps k = encTo m X ps k
  | 0, _ => rfl
  | k + 1, h => by
    rw [encTo_succ, encTo_succ, encTo_agree k (fun q hq => h q (by omega))]
    unfold encStep
    rw [h k (by omega)]
theorem encTo_skip {m : Nat} {M : List Int} {ps : List (Nat × Nat)} (a : Nat) : ∀ d, (∀ q, a ≤ q → q < a + d → cl m M (pfst ps q) (psnd ps q) = 9223372036854775807) → encTo m M ps (a + d) = encTo m M ps a
  | 0, _ => rfl
  | d + 1, h => by
    rw [← Nat.add_assoc, encTo_succ]
    unfold encStep
    rw [if_pos (h (a + d) (by omega) (by omega))]
    exact encTo_skip a d (fun q h1 h2 => h q h1 (by omega))
theorem okM_put {n i j : Nat} {X : List Int} {u : Int} (hl : X.length = (2 * n) * (2 * n)) (hk : okM (2 * n) X) (hi : i < 2 * n) (hj : j < 2 * n) (hij : i ≠ j) (hu : isB u = true) : okM (2 * n) (putM (2 * n) X i j u) := by
  intro a ha b hb
  have hc := fun {a b : Nat} (hb : b < 2 * n) => cl_putM (v := u) (a := a) hl hi hj (ac_lt hi) (ac_lt hj) hb
  obtain ⟨k1, k2, k3⟩ := hk a ha b hb
  have hs : ((ac b = i ∧ ac a = j) ∨ (ac b = ac j ∧ ac a = ac i)) ↔ ((a = i ∧ b = j) ∨ (a = ac j ∧ b = ac i)) := by
    have inj : ∀ x y : Nat, ac x = ac y ↔ x = y := fun x y => ⟨fun h => by rw [← ac_ac x, h, ac_ac], fun h => by rw [h]⟩
    have sw : ∀ x y : Nat, ac x = y ↔ x = ac y := fun x y => ⟨fun h => by rw [← h, ac_ac], fun h => by rw [h, ac_ac]⟩
    rw [inj, inj, sw, sw]
    constructor
    · rintro (⟨h1, h2⟩ | ⟨h1, h2⟩)
      · exact .inr ⟨h2, h1⟩
      · exact .inl ⟨h2, h1⟩
    · rintro (⟨h1, h2⟩ | ⟨h1, h2⟩)
      · exact .inr ⟨h2, h1⟩
      · exact .inl ⟨h2, h1⟩
  unfold okC
  rw [hc hb, hc (ac_lt ha)]
  by_cases h : (a = i ∧ b = j) ∨ (a = ac j ∧ b = ac i)
  · rw [if_pos h, if_pos (hs.2 h)]
    refine ⟨hu, fun e => ?_, rfl⟩
    subst e
    rcases h with ⟨e1, e2⟩ | ⟨e1, e2⟩
    · exact absurd (e1.symm.trans e2) hij
    · have := congrArg ac (e1.symm.trans e2)
      rw [ac_ac, ac_ac] at this
      exact absurd this.symm hij
  · rw [if_neg h, if_neg (fun x => h (hs.1 x))]
    exact ⟨k1, k2, k3⟩
theorem putM_fits {m : Nat} {M : List Int} {i j : Nat} {v : Int} (h : ∀ x ∈ M, I64 x) (hv : I64 v) : ∀ x ∈ putM m M i j v, I64 x := by
  intro x hx
  unfold putM at hx
  rcases List.mem_or_eq_of_mem_set hx with h1 | rfl
  · rcases List.mem_or_eq_of_mem_set h1 with h2 | rfl
    · exact h x h2
    · exact hv
  · exact hv
theorem place_back {n nx : Nat} {X b r : List Int} {s : Nat × List Int} (hb : Bts b) (h : placeP n (pairs n) nx X b = .ok s r) :
    ∃ g v : Nat, b = put g ++ put v ++ r ∧ Bts r ∧ (v : Int) ≤ 18446744073709551615 ∧ nx + g < (pairs n).length ∧ unfold' (v : Int) ≠ 9223372036854775807 ∧ isB (unfold' (v : Int)) = true ∧ s = (nx + g + 1, putM (2 * n) X (pfst (pairs n) (nx + g)) (psnd (pairs n) (nx + g)) (unfold' (v : Int))) := by
  rw [placeP_bind] at h
  cases h1 : upToP 0 (((pairs n).length : Int) - (nx : Int) - 1) b with
  | bad e => rw [h1] at h; cases h
  | ok g r1 =>
    rw [h1] at h
    obtain ⟨a1, a2, a3, a4, a5⟩ := upTo_back hb h1
    change bindP (numberP r1) _ = _ at h
    cases h2 : numberP r1 with
    | bad e => rw [h2] at h; cases h
    | ok v r2 =>
      rw [h2] at h
      obtain ⟨b1, b2, b3⟩ := number_back a3 h2
      change (if _ then _ else _) = _ at h
      split at h
      · cases h
      · rename_i hn
        injection h with h3 h4
        subst h3 h4
        have hn' := not_or.1 hn
        exact ⟨g, v, by rw [a2, b2, List.append_assoc], b3, b1, by omega, hn'.1, by simpa using hn'.2, rfl⟩
theorem places_back {n : Nat} : ∀ (k nx : Nat) (X b r : List Int) (s : Nat × List Int), Bts b → X.length = (2 * n) * (2 * n) → okM (2 * n) X → (∀ x ∈ X, I64 x) → Fresh n nx X → nx ≤ (pairs n).length → (encTo (2 * n) X (pairs n) nx).nxt = nx →
    placesP n (pairs n) k nx X b = .ok s r → s.2.length = (2 * n) * (2 * n) ∧ okM (2 * n) s.2 ∧ (∀ x ∈ s.2, I64 x) ∧ (∀ q, q < nx → cl (2 * n) s.2 (pfst (pairs n) q) (psnd (pairs n) q) = cl (2 * n) X (pfst (pairs n) q) (psnd (pairs n) q)) ∧ Bts r ∧
      ∃ l', b = putAll l' ++ r ∧ (encTo (2 * n) s.2 (pairs n) (pairs n).length).l = (encTo (2 * n) X (pairs n) nx).l ++ l' ∧ (encTo (2 * n) s.2 (pairs n) (pairs n).length).cnt = (encTo (2 * n) X (pairs n) nx).cnt + k
  | 0, nx, X, b, r, s, hb, hl, hk, h64, hF, hnx, hE, h => by
    injection h with h1 h2
    subst h1 h2
    have e := encTo_skip (m := 2 * n) (M := X) (ps := pairs n) nx ((pairs n).length - nx) (fun q h1 h2 => hF q h1 (by omega))
    rw [show nx + ((pairs n).length - nx) = (pairs n).length by omega] at e
    refine ⟨hl, hk, h64, fun _ _ => rfl, hb, [], rfl, ?_, ?_⟩
    · dsimp only; rw [e, List.append_nil]
    · dsimp only; rw [e]; rfl
  | k + 1, nx, X, b, r, s, hb, hl, hk, h64, hF, hnx, hE, h => by
    rw [placesP_bind] at h
    cases h1 : placeP n (pairs n) nx X b with
    | bad e => rw [h1] at h; cases h
    | ok s1 r1 =>
      rw [h1] at h
      obtain ⟨g, v, e1, hb1, hv, ht, hu1, hu2, rfl⟩ := place_back hb h1
      obtain ⟨g1, g2, g3⟩ := pairs_mem.1 (pget_mem ht)
      dsimp only at g1 g2 g3
      have gne : pfst (pairs n) (nx + g) ≠ psnd (pairs n) (nx + g) := by unfold isP at g3; simp only [Bool.and_eq_true, decide_eq_true_eq] at g3; exact g3.1
      have hu64 : I64 (unfold' (v : Int)) := by unfold unfold' I64; split <;> omega
      have hcell : ∀ q, q < (pairs n).length → q ≠ nx + g → cl (2 * n) (putM (2 * n) X (pfst (pairs n) (nx + g)) (psnd (pairs n) (nx + g)) (unfold' (v : Int))) (pfst (pairs n) q) (psnd (pairs n) q) = cl (2 * n) X (pfst (pairs n) q) (psnd (pairs n) q) := fun q hq hne => by
        obtain ⟨c1, c2, _⟩ := pairs_mem.1 (pget_mem hq)
        rw [cl_putM hl g1 g2 (ac_lt g1) (ac_lt g2) c2, if_neg (fun x => hne (place_uniq hq ht x))]
      have hat : cl (2 * n) (putM (2 * n) X (pfst (pairs n) (nx + g)) (psnd (pairs n) (nx + g)) (unfold' (v : Int))) (pfst (pairs n) (nx + g)) (psnd (pairs n) (nx + g)) = unfold' (v : Int) := by
        rw [cl_putM hl g1 g2 (ac_lt g1) (ac_lt g2) g2, if_pos (.inl ⟨rfl, rfl⟩)]
      have hE1 : encTo (2 * n) (putM (2 * n) X (pfst (pairs n) (nx + g)) (psnd (pairs n) (nx + g)) (unfold' (v : Int))) (pairs n) (nx + g + 1) = ⟨(encTo (2 * n) X (pairs n) nx).l ++ [g, v], nx + g + 1, (encTo (2 * n) X (pairs n) nx).cnt + 1⟩ := by
        rw [encTo_succ, encTo_agree (nx + g) (fun q hq => hcell q (by omega) (by omega)), encTo_skip nx g (fun q h1 h2 => hF q h1 (by omega))]
        unfold encStep
        rw [hat, if_neg hu1, hE, fold_unfold (by omega), Int.toNat_natCast, show nx + g - nx = g by omega]
      obtain ⟨r1', r2', r3', r4', r5', l', r6', r7', r8'⟩ := places_back k (nx + g + 1) _ r1 r s hb1 (by rw [putM_len]; exact hl) (okM_put hl hk g1 g2 gne hu2) (putM_fits h64 hu64) (fresh_put hF hl (by omega) ht) (by omega) (by rw [hE1]) h
      refine ⟨r1', r2', r3', fun q hq => ?_, r5', [g, v] ++ l', ?_, ?_, ?_⟩
      · rw [r4' q (by omega), hcell q (by omega) (by omega)]
      · rw [e1, r6', putAll_append]; simp [putAll]
      · rw [r7', hE1, List.append_assoc]
      · rw [r8', hE1]; simp only; omega
theorem okM_top (n : Nat) : okM (2 * n) (topM (2 * n)) := by
  intro a ha b hb
  unfold okC topM
  rw [cl_mat ha hb, cl_mat (ac_lt hb) (ac_lt ha)]
  have e : (ac b = ac a) ↔ (a = b) := ⟨fun h => by rw [← ac_ac a, ← h, ac_ac], fun h => by rw [h]⟩
  by_cases h : a = b
  · rw [if_pos h, if_pos (e.2 h)]; exact ⟨by decide, fun _ => rfl, rfl⟩
  · rw [if_neg h, if_neg (fun x => h (e.1 x))]; exact ⟨by decide, fun x => absurd x h, rfl⟩
theorem chk_of {n : Nat} {M : List Int} (hn : n ≤ 64) (hl : M.length = (2 * n) * (2 * n)) (hk : okM (2 * n) M) : chk n false M = 0 := by
  unfold chk
  rw [sq2] at hl
  have h4 : (4 * (n : Int) * n) = ((4 * n * n : Nat) : Int) := by push_cast; rfl
  rw [if_neg ?_, if_neg (by simp), if_pos (by rw [Int.toNat_natCast]; exact hk)]
  rintro (h | h | h | h)
  · omega
  · omega
  · exact absurd h.1 (by simp)
  · exact h.2 (by rw [h4, hl])
theorem oct_back {n : Nat} {b r : List Int} {o : OC} (hn : n ≤ 64) (hb : Bts b) (h : octP n (pairs n) b = .ok o r) : goodO n o ∧ (∀ x ∈ o.m, I64 x) ∧ b = octB n o.e o.m ++ r ∧ Bts r := by
  cases b with
  | nil => cases h
  | cons x r0 =>
    obtain ⟨x0, x1⟩ := hb x List.mem_cons_self
    have hb0 : Bts r0 := fun y hy => hb y (List.mem_cons_of_mem _ hy)
    by_cases hx : 1 < x
    · rw [octP_kind hx] at h; cases h
    · by_cases hz : x = 0
      · subst hz
        rw [octP_empty] at h
        injection h with h1 h2
        subst h1 h2
        refine ⟨⟨rfl, ?_⟩, by simp, rfl, hb0⟩
        show chk n true [] = 0
        unfold chk
        rw [if_neg (by simp; omega), if_pos rfl]
      · obtain rfl : x = 1 := by omega
        rw [octP_bind] at h
        cases h1 : upToP 0 ((pairs n).length : Int) r0 with
        | bad e => rw [h1] at h; cases h
        | ok k r1 =>
          rw [h1] at h
          obtain ⟨a1, a2, a3, a4, a5⟩ := upTo_back hb0 h1
          change bindP (placesP n (pairs n) k 0 (topM (2 * n)) r1) _ = _ at h
          cases h2 : placesP n (pairs n) k 0 (topM (2 * n)) r1 with
          | bad e => rw [h2] at h; cases h
          | ok s r2 =>
            rw [h2] at h
            injection h with h3 h4
            subst h3 h4
            obtain ⟨c1, c2, c3, _, c5, l', c6, c7, c8⟩ := places_back k 0 _ r1 r2 s a3 (topM_len _) (okM_top n) Go.Proofs.Ytghpiofjejhegaa.topM_i64' (fresh_top n) (Nat.zero_le _) rfl h2
            refine ⟨⟨rfl, chk_of hn c1 c2⟩, c3, ?_, c5⟩
            have e1 : (encTo (2 * n) s.2 (pairs n) (pairs n).length).l = l' := c7
            have e2 : (encTo (2 * n) s.2 (pairs n) (pairs n).length).cnt = k := by rw [c8]; exact Nat.zero_add k
            show 1 :: r0 = octB n false s.2 ++ r2
            rw [octB_false, e1, e2, a2, c6]
            simp
theorem octB_pos (n : Nat) (E : Bool) (M : List Int) : 0 < (octB n E M).length := by
  cases E with
  | true => rw [octB_true]; simp
  | false => rw [octB_false]; simp
theorem octs_back {n : Nat} (hn : n ≤ 64) : ∀ (k : Nat) (acc os : List OC) (b r : List Int), Bts b → octsP n (pairs n) k acc b = .ok os r → ∃ l, os = acc ++ l ∧ l.length = k ∧ (∀ o ∈ l, goodO n o ∧ ∀ x ∈ o.m, I64 x) ∧ b = (l.flatMap fun o => octB n o.e o.m) ++ r ∧ Bts r ∧ k + r.length ≤ b.length
  | 0, acc, os, b, r, hb, h => by
    injection h with h1 h2
    subst h1 h2
    exact ⟨[], by simp, rfl, by simp, rfl, hb, by omega⟩
  | k + 1, acc, os, b, r, hb, h => by
    rw [octsP_bind] at h
    cases h1 : octP n (pairs n) b with
    | bad e => rw [h1] at h; cases h
    | ok o r1 =>
      rw [h1] at h
      obtain ⟨a1, a2, a3, a4⟩ := oct_back hn hb h1
      obtain ⟨l, c1, c2, c3, c4, c5, c6⟩ := octs_back hn k (acc ++ [o]) os r1 r a4 h
      refine ⟨o :: l, by rw [c1]; simp, by simp [c2], fun y hy => ?_, by rw [a3, c4]; simp, c5, ?_⟩
      · rcases List.mem_cons.1 hy with rfl | hy
        · exact ⟨a1, a2⟩
        · exact c3 y hy
      · have := octB_pos n o.e o.m
        rw [a3, List.length_append]; omega
theorem takeN_back {k : Nat} {b w r : List Int} (h : takeN k b = .ok w r) : b = w ++ r ∧ w.length = k := by
  unfold takeN at h
  split at h
  · cases h
  · injection h with h1 h2
    subst h1 h2
    exact ⟨(List.take_append_drop k b).symm, by rw [List.length_take]; omega⟩
theorem digTo_digN {d : List Int} (hd : Bts d) (hl : d.length = 8) : digTo (digN d) 8 = d ∧ 0 ≤ digN d ∧ digN d ≤ 18446744073709551615 := by
  match d, hl with
  | [d0, d1, d2, d3, d4, d5, d6, d7], _ =>
    obtain ⟨a0, b0⟩ := hd d0 (by simp)
    obtain ⟨a1, b1⟩ := hd d1 (by simp)
    obtain ⟨a2, b2⟩ := hd d2 (by simp)
    obtain ⟨a3, b3⟩ := hd d3 (by simp)
    obtain ⟨a4, b4⟩ := hd d4 (by simp)
    obtain ⟨a5, b5⟩ := hd d5 (by simp)
    obtain ⟨a6, b6⟩ := hd d6 (by simp)
    obtain ⟨a7, b7⟩ := hd d7 (by simp)
    obtain ⟨D, hD⟩ : ∃ D, D = digN [d0, d1, d2, d3, d4, d5, d6, d7] := ⟨_, rfl⟩
    rw [← hD]
    have e : digTo D 8 = [D / 72057594037927936 % 256, D / 281474976710656 % 256, D / 1099511627776 % 256, D / 4294967296 % 256, D / 16777216 % 256, D / 65536 % 256, D / 256 % 256, D / 1 % 256] := rfl
    unfold digN at hD
    simp only [List.foldl_cons, List.foldl_nil] at hD
    rw [e]
    refine ⟨?_, by omega, by omega⟩
    congr 1
    · omega
    · congr 1
      · omega
      · congr 1
        · omega
        · congr 1
          · omega
          · congr 1
            · omega
            · congr 1
              · omega
              · congr 1
                · omega
                · congr 1
                  omega
theorem cert_back {b r : List Int} {v : Int × Int × List OC} (hb : Bts b) (h : certQ b = .ok v r) :
    ∃ n : Nat, v.2.1 = (n : Int) ∧ b = bytesTo v.1 n v.2.2 v.2.2.length ++ r ∧ chkC n v.2.2 = 0 ∧ (0 ≤ v.1 ∧ v.1 ≤ 18446744073709551615) ∧ (∀ o ∈ v.2.2, ∀ x ∈ o.m, I64 x) ∧ v.2.2.length ≤ b.length := by
  unfold certQ at h
  cases h1 : takeN 4 b with
  | bad e => rw [h1] at h; cases h
  | ok m r1 =>
    rw [h1] at h
    obtain ⟨a1, a2⟩ := takeN_back h1
    change (if _ then _ else _) = _ at h
    split at h
    · cases h
    · rename_i hm
      obtain rfl : m = [103, 110, 109, 49] := Decidable.of_not_not hm
      have hb1 : Bts r1 := fun x hx => hb x (by rw [a1]; exact List.mem_append_right _ hx)
      cases h2 : takeN 8 r1 with
      | bad e => rw [h2] at h; cases h
      | ok d r2 =>
        rw [h2] at h
        obtain ⟨c1, c2⟩ := takeN_back h2
        have hbd : Bts d := fun x hx => hb1 x (by rw [c1]; exact List.mem_append_left _ hx)
        have hb2 : Bts r2 := fun x hx => hb1 x (by rw [c1]; exact List.mem_append_right _ hx)
        obtain ⟨d1, d2, d3⟩ := digTo_digN hbd c2
        change bodyQ (digN d) r2 = _ at h
        unfold bodyQ at h
        cases h3 : upToP 0 64 r2 with
        | bad e => rw [h3] at h; cases h
        | ok n r3 =>
          rw [h3] at h
          obtain ⟨_, e2, e3, _, e5⟩ := upTo_back hb2 h3
          change bindP (upToP 1 4096 r3) _ = _ at h
          cases h4 : upToP 1 4096 r3 with
          | bad e => rw [h4] at h; cases h
          | ok k r4 =>
            rw [h4] at h
            obtain ⟨_, f2, f3, f4, f5⟩ := upTo_back e3 h4
            change (if _ then _ else _) = _ at h
            split at h
            · cases h
            · rename_i hc
              cases h5 : octsP n (pairs n) k [] r4 with
              | bad e => rw [h5] at h; cases h
              | ok os r5 =>
                rw [h5] at h
                injection h with h6 h7
                subst h6 h7
                obtain ⟨l, g1, g2, g3, g4, g5, g6⟩ := octs_back (n := n) (by omega) k [] os r4 r5 f3 h5
                rw [List.nil_append] at g1
                subst g1
                refine ⟨n, rfl, ?_, chkC_ok ⟨⟨by omega, by omega⟩, show 1 ≤ os.length by omega, show os.length ≤ 4096 by omega, show 4 * (n : Int) * n * (os.length : Int) ≤ 4194304 by rw [g2]; omega⟩ (fun i hi => ?_), ⟨d2, d3⟩, fun o ho => (g3 o ho).2, ?_⟩
                · unfold bytesTo headB
                  dsimp only
                  rw [octsTo_map n os os.length (Nat.le_refl _), List.take_length, d1, a1, c1, e2, f2, g2]
                  rw [g4]
                  simp [putAll]
                · unfold ocAt
                  rw [List.getD_eq_getElem?_getD, List.getElem?_eq_getElem hi]
                  exact (g3 _ (List.getElem_mem hi)).1
                · have t1 := congrArg List.length a1
                  have t2 := congrArg List.length c1
                  have t3 := congrArg List.length e2
                  have t4 := congrArg List.length f2
                  rw [List.length_append] at t1 t2 t3 t4
                  dsimp only
                  omega
/-- A parser whose faults are numbers above 0. -/
def Errs {α : Type} (P : List Int → PR α) : Prop := ∀ b e, P b = .bad e → 1 ≤ e
theorem errs_bind {α β : Type} {P : List Int → PR α} {f : α → List Int → PR β} (h1 : Errs P) (h2 : ∀ v, Errs (f v)) : Errs (fun b => bindP (P b) f) := fun b e h => by
  change bindP (P b) f = _ at h
  cases hP : P b with
  | bad x => rw [hP] at h; injection h with h; exact h ▸ h1 b x hP
  | ok v r => rw [hP] at h; exact h2 v r e h
theorem errs_ok {α : Type} (v : α) : Errs (fun b => PR.ok v b) := fun b e h => by cases h
theorem errs_ite {α : Type} {c : Prop} [Decidable c] {x : Int} {P : List Int → PR α} (hx : 1 ≤ x) (h : Errs P) : Errs (fun b => if c then .bad x else P b) := fun b e he => by
  change (if c then _ else _) = _ at he
  split at he
  · injection he with he; omega
  · exact h b e he
theorem errs_number : Errs numberP := fun b e h => by
  unfold numberP at h
  split at h
  · injection h with h; omega
  · split at h
    · injection h with h; omega
    · cases h
theorem errs_upTo (lo hi : Int) : Errs (upToP lo hi) := fun b e h => by
  rw [upToP_bind] at h
  exact errs_bind (f := fun (n : Nat) r => if hi < lo ∨ (n : Int) < lo ∨ hi < (n : Int) then .bad 194 else .ok n r) errs_number (fun v => errs_ite (by omega) (errs_ok v)) b e h
theorem errs_place (n nx : Nat) (ps : List (Nat × Nat)) (M : List Int) : Errs (placeP n ps nx M) := fun b e h => by
  rw [placeP_bind] at h
  exact errs_bind (f := fun (g : Nat) r => bindP (numberP r) fun v r => if unfold' (v : Int) = 9223372036854775807 ∨ ¬ isB (unfold' (v : Int)) then PR.bad 194 else PR.ok (nx + g + 1, putM (2 * n) M (pfst ps (nx + g)) (psnd ps (nx + g)) (unfold' (v : Int))) r) (errs_upTo _ _)
    (fun g => errs_bind (f := fun (v : Nat) r => if unfold' (v : Int) = 9223372036854775807 ∨ ¬ isB (unfold' (v : Int)) then PR.bad 194 else PR.ok (nx + g + 1, putM (2 * n) M (pfst ps (nx + g)) (psnd ps (nx + g)) (unfold' (v : Int))) r) errs_number (fun v => errs_ite (by omega) (errs_ok _))) b e h
theorem errs_places (n : Nat) (ps : List (Nat × Nat)) : ∀ (k nx : Nat) (M : List Int), Errs (placesP n ps k nx M)
  | 0, nx, M => errs_ok _
  | k + 1, nx, M => fun b e h => by
    rw [placesP_bind] at h
    exact errs_bind (f := fun s r => placesP n ps k s.1 s.2 r) (errs_place n nx ps M) (fun s => errs_places n ps k s.1 s.2) b e h
theorem errs_oct (n : Nat) : Errs (octP n (pairs n)) := fun b e h => by
  unfold octP at h
  split at h
  · injection h with h; omega
  · split at h
    · injection h with h; omega
    · split at h
      · cases h
      · split at h
        · rename_i hU
          injection h with h
          exact h ▸ errs_upTo _ _ _ _ hU
        · split at h
          · rename_i hP
            injection h with h
            exact h ▸ errs_places _ _ _ _ _ _ _ hP
          · cases h
theorem errs_octs (n : Nat) : ∀ (k : Nat) (acc : List OC), Errs (octsP n (pairs n) k acc)
  | 0, acc => errs_ok _
  | k + 1, acc => fun b e h => by
    rw [octsP_bind] at h
    exact errs_bind (f := fun o r => octsP n (pairs n) k (acc ++ [o]) r) (errs_oct n) (fun o => errs_octs n k (acc ++ [o])) b e h
theorem errs_take (k : Nat) : Errs (takeN k) := fun b e h => by
  unfold takeN at h
  split at h
  · injection h with h; omega
  · cases h
theorem errs_body (D : Int) : Errs (bodyQ D) :=
  errs_bind (f := fun (n : Nat) r => bindP (upToP 1 4096 r) fun k r => if 4194304 < 4 * (n : Int) * n * k then .bad 194 else bindP (octsP n (pairs n) k [] r) fun os r => .ok (D, (n : Int), os) r) (errs_upTo _ _)
    (fun n => errs_bind (f := fun (k : Nat) r => if 4194304 < 4 * (n : Int) * n * k then .bad 194 else bindP (octsP n (pairs n) k [] r) fun os r => .ok (D, (n : Int), os) r) (errs_upTo _ _)
      (fun k => errs_ite (by omega) (errs_bind (f := fun os r => .ok (D, (n : Int), os) r) (errs_octs n k []) (fun os => errs_ok _))))
theorem certQ_errs (b : List Int) (e : Int) (h : certQ b = .bad e) : 1 ≤ e :=
  errs_bind (f := fun (m : List Int) r => if m ≠ [103, 110, 109, 49] then .bad 191 else bindP (takeN 8 r) fun d r => bodyQ (digN d) r) (errs_take 4) (fun m => errs_ite (by omega) (errs_bind (f := fun d r => bodyQ (digN d) r) (errs_take 8) (fun d => errs_body _))) b e h
/-- What is taken is written so. -/
theorem taken_back {b : List Int} {D N : Int} {os : List OC} (hb : Bts b) (h : decP b = ((D, N, os), 0)) :
    encP D N os = (b, 0) ∧ os.length ≤ b.length ∧ (0 ≤ D ∧ D ≤ 18446744073709551615) ∧ I64 N ∧ ∀ o ∈ os, ∀ x ∈ o.m, I64 x := by
  by_cases hl : 4194304 < b.length
  · unfold decP at h
    rw [if_pos hl] at h
    injection h with h1 h2
    cases h2
  · rw [decP_fin hl, certP_end] at h
    cases hQ : certQ b with
    | bad e =>
      rw [hQ] at h
      injection h with h1 h2
      have := certQ_errs b e hQ
      omega
    | ok v r =>
      rw [hQ] at h
      obtain ⟨n, e1, e2, e3, e4, e5, e6⟩ := cert_back hb hQ
      change dFin (if 0 < r.length then _ else _) = _ at h
      split at h
      · injection h with h1 h2
        cases h2
      · rename_i hr
        have hr0 : r = [] := List.eq_nil_of_length_eq_zero (by omega)
        subst hr0
        rw [List.append_nil] at e2
        injection h with h1 h2
        subst h1
        dsimp only at e1 e2 e3 e4 e5 e6
        subst e1
        have hn := (chkC_zero e3).1.1
        refine ⟨?_, e6, e4, ⟨by omega, by omega⟩, e5⟩
        rw [encP_ok e3 (by rw [← e2]; exact hl), ← e2]
end Gn
end Go.Proofs.Ytghpiofjejhegaa
