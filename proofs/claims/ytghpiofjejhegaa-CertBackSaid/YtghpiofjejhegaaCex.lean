/- Plain: the reference's decoding; the walk of gnomonref19.Decode. -/
import Derived.Test.YtghpiofjejhegaaCew
import Derived.Laws.StructEq
namespace Go.Proofs.Ytghpiofjejhegaa
open Go.RowKit
set_option maxRecDepth 100000
set_option linter.unusedVariables false
set_option linter.unusedSimpArgs false
open Gn
theorem run_eql4 (x1 x2 x3 x4 y1 y2 y3 y4 : Int) (w : World) :
    (Op.equalIn 10000 99 (.agg #[.int .u8 x1, .int .u8 x2, .int .u8 x3, .int .u8 x4]) (.agg #[.int .u8 y1, .int .u8 y2, .int .u8 y3, .int .u8 y4])).run Try.prog w = .ok (decide (x1 = y1 ∧ x2 = y2 ∧ x3 = y3 ∧ x4 = y4)) w := by
  have hu : Try.prog.underlying 99 = some (.array 4 5) := by kernel_rfl
  have he : ∀ a b : Int, ∀ W : World, (Op.equalIn 9999 5 (.int .u8 a) (.int .u8 b)).run Try.prog W = .ok (a == b) W := fun a b W => run_equalIn_int W 9998 5 .u8 .u8 a b (by kernel_rfl)
  have hs : ∀ W : World, (sizeOf 5).run Try.prog W = .ok 1 W := fun W => by kernel_rfl
  have p0 : ∀ (a b c d : Int) (W : World), (part 5 #[.int .u8 a, .int .u8 b, .int .u8 c, .int .u8 d] 0).run Try.prog W = .ok (.int .u8 a) W := fun _ _ _ _ _ => by kernel_rfl
  have p1 : ∀ (a b c d : Int) (W : World), (part 5 #[.int .u8 a, .int .u8 b, .int .u8 c, .int .u8 d] 1).run Try.prog W = .ok (.int .u8 b) W := fun _ _ _ _ _ => by kernel_rfl
  have p2 : ∀ (a b c d : Int) (W : World), (part 5 #[.int .u8 a, .int .u8 b, .int .u8 c, .int .u8 d] 2).run Try.prog W = .ok (.int .u8 c) W := fun _ _ _ _ _ => by kernel_rfl
  have p3 : ∀ (a b c d : Int) (W : World), (part 5 #[.int .u8 a, .int .u8 b, .int .u8 c, .int .u8 d] 3).run Try.prog W = .ok (.int .u8 d) W := fun _ _ _ _ _ => by kernel_rfl
  rw [show (10000 : Nat) = 9999 + 1 from rfl]
  unfold Op.equalIn
  simp only [Sem.run_bind, run_underlying hu, Result.andThen_ok, hs]
  simp only [Std.Legacy.Range.forIn_eq_forIn_range', Std.Legacy.Range.size]
  simp [List.range'_succ, p0, p1, p2, p3, he, Sem.run_bind]
  by_cases h1 : x1 = y1 <;> by_cases h2 : x2 = y2 <;> by_cases h3 : x3 = y3 <;> by_cases h4 : x4 = y4 <;> simp [h1, h2, h3, h4, he, p0, p1, p2, p3]
namespace Gn
def digF (D : Int) (b : List Int) : Int := b.foldl (fun d x => d * 256 + x) D
/-- The digest's bytes from one on, and what follows. -/
def ldg (k : Nat) (D : Int) : PR Unit → PR (Int × Int × List OC)
  | .bad e => .bad e
  | .ok _ r => if r.length < 8 - k then .bad 192 else bodyP (digF D (r.take (8 - k))) (r.drop (8 - k))
theorem lmag (b : List Int) {x1 x2 x3 x4 : Int} {S1 S2 S3 S4 : PR Unit} (h1 : lbyte (.ok () b) = (x1, S1)) (h2 : lbyte S1 = (x2, S2)) (h3 : lbyte S2 = (x3, S3)) (h4 : lbyte S3 = (x4, S4)) :
    (S4 = .bad 192 ∧ certP b = ldg 0 0 (.bad 192)) ∨ ∃ r, S4 = .ok () r ∧ (x1 = 103 ∧ x2 = 110 ∧ x3 = 109 ∧ x4 = 49 → certP b = ldg 0 0 (.ok () r)) ∧ (¬ (x1 = 103 ∧ x2 = 110 ∧ x3 = 109 ∧ x4 = 49) → certP b = ldg 0 0 (.bad 191)) := by
  have short : b.length < 4 → certP b = ldg 0 0 (.bad 192) := fun h => by unfold certP; rw [if_pos h]; rfl
  match b, h1, short with
  | [], h1, short => cases h1; cases h2; cases h3; cases h4; exact .inl ⟨rfl, short (by simp)⟩
  | [a], h1, short => cases h1; cases h2; cases h3; cases h4; exact .inl ⟨rfl, short (by simp)⟩
  | [a, a2], h1, short => cases h1; cases h2; cases h3; cases h4; exact .inl ⟨rfl, short (by simp)⟩
  | [a, a2, a3], h1, short => cases h1; cases h2; cases h3; cases h4; exact .inl ⟨rfl, short (by simp)⟩
  | a :: a2 :: a3 :: a4 :: r, h1, short =>
    cases h1; cases h2; cases h3; cases h4
    refine .inr ⟨r, rfl, ?_, ?_⟩
    · rintro ⟨rfl, rfl, rfl, rfl⟩
      unfold certP
      rw [if_neg (by simp), if_neg (by simp)]
      rfl
    · intro hn
      unfold certP
      rw [if_neg (by simp), if_pos ?_]
      · rfl
      · intro e
        simp only [List.take_succ_cons, List.take_zero, List.cons.injEq, and_true] at e
        exact hn e
theorem ldg_step (k : Nat) (D : Int) (S : PR Unit) (hk : k < 8) : ldg (k + 1) (256 * D + (lbyte S).1) (lbyte S).2 = ldg k D S := by
  cases S with
  | bad e => rfl
  | ok u r =>
    cases r with
    | nil => show _ = if ([] : List Int).length < 8 - k then _ else _; rw [if_pos (by simp; omega)]; rfl
    | cons x r =>
      show (if r.length < 8 - (k + 1) then _ else _) = if (x :: r).length < 8 - k then _ else _
      by_cases h : r.length < 8 - (k + 1)
      · rw [if_pos h, if_pos (by simp; omega)]
      · rw [if_neg h, if_neg (by simp; omega), show 8 - k = (8 - (k + 1)) + 1 by omega, List.take_succ_cons, List.drop_succ_cons, Int.mul_comm]
        rfl
theorem ldg_end (D : Int) (r : List Int) : ldg 8 D (.ok () r) = bodyP D r := by
  show (if r.length < 8 - 8 then PR.bad 192 else bodyP (digF D (r.take (8 - 8))) (r.drop (8 - 8))) = _
  rw [if_neg (by omega)]
  rfl
def octsEnd (D : Int) (n : Nat) : PR (List OC) → PR (Int × Int × List OC)
  | .bad e => .bad e
  | .ok os r => if 0 < r.length then .bad 195 else .ok (D, n, os) r
theorem lhead (D : Int) (S : PR Unit) {n o : Nat} {Sa Sb Sc Sd : PR Unit} (h1 : lnum S = (n, Sa)) (hb : Sb = lsize (decide (n ≤ 64)) Sa) (h3 : lnum Sb = (o, Sc)) (hd : Sd = lsize (decide (1 ≤ o) && decide (o ≤ 4096)) Sc) :
    (∀ x, Sd = .bad x → ldg 8 D S = .bad x) ∧ (∀ r, Sd = .ok () r → n ≤ 64 ∧ 1 ≤ o ∧ o ≤ 4096 ∧ ldg 8 D S = if 4194304 < 4 * (n : Int) * n * o then .bad 194 else octsEnd D n (octsP n (pairs n) o [] r)) := by
  have key : ∀ x, Sb = .bad x → ldg 8 D S = .bad x → (∀ x, Sd = .bad x → ldg 8 D S = .bad x) ∧ (∀ r, Sd = .ok () r → n ≤ 64 ∧ 1 ≤ o ∧ o ≤ 4096 ∧ ldg 8 D S = if 4194304 < 4 * (n : Int) * n * o then .bad 194 else octsEnd D n (octsP n (pairs n) o [] r)) := by
    intro x hx hl
    rw [hx] at h3
    cases h3
    subst hd
    exact ⟨fun y hy => by cases hy; exact hl, fun r hr => by cases hr⟩
  cases S with
  | bad e => cases h1; exact key e hb rfl
  | ok u r =>
    have e1 : lnumP (numberP r) = (n, Sa) := h1
    rw [ldg_end] at *
    cases hN : numberP r with
    | bad e =>
      rw [hN] at e1
      cases e1
      exact key e hb (by unfold bodyP upToP; rw [hN])
    | ok v r2 =>
      rw [hN] at e1
      cases e1
      by_cases hv : n ≤ 64
      · rw [decide_eq_true hv] at hb
        have hb' : Sb = .ok () r2 := hb
        have eU : upToP 0 64 r = .ok n r2 := by unfold upToP; rw [hN]; exact if_neg (by omega)
        rw [hb'] at h3
        have e3 : lnumP (numberP r2) = (o, Sc) := h3
        cases hM : numberP r2 with
        | bad e =>
          rw [hM] at e3
          cases e3
          subst hd
          refine ⟨fun y hy => ?_, fun r hr => by cases hr⟩
          cases hy
          unfold bodyP
          rw [eU]
          simp only
          rw [show upToP 1 4096 r2 = .bad e by unfold upToP; rw [hM]]
        | ok v' r3 =>
          rw [hM] at e3
          cases e3
          by_cases ho : 1 ≤ o ∧ o ≤ 4096
          · rw [decide_eq_true ho.1, decide_eq_true ho.2] at hd
            have hd' : Sd = .ok () r3 := hd
            subst hd'
            refine ⟨fun y hy => (by cases hy), fun r' hr => ?_⟩
            cases hr
            refine ⟨hv, ho.1, ho.2, ?_⟩
            unfold bodyP
            rw [eU]
            simp only
            rw [show upToP 1 4096 r2 = .ok o r3 by unfold upToP; rw [hM]; exact if_neg (by omega)]
            simp only
            by_cases hc : 4194304 < 4 * (n : Int) * n * o
            · rw [if_pos hc, if_pos hc]
            · rw [if_neg hc, if_neg hc]
              cases octsP n (pairs n) o [] r3 <;> rfl
          · have hk : (decide (1 ≤ o) && decide (o ≤ 4096)) = false := by
              rw [Bool.and_eq_false_iff, decide_eq_false_iff_not, decide_eq_false_iff_not]; omega
            rw [hk] at hd
            have hd' : Sd = .bad 194 := hd
            subst hd'
            refine ⟨fun y hy => ?_, fun r hr => by cases hr⟩
            cases hy
            unfold bodyP
            rw [eU]
            simp only
            rw [show upToP 1 4096 r2 = .bad 194 by unfold upToP; rw [hM]; exact if_pos (by omega)]
      · rw [decide_eq_false hv] at hb
        exact key 194 hb (by unfold bodyP upToP; rw [hN]; simp only; rw [if_pos (by omega)])
/-- Octagons that are still to come. -/
def lOcts (n k : Nat) (os : List OC) : PR Unit → PR (List OC)
  | .bad e => .bad e
  | .ok _ r => octsP n (pairs n) k os r
theorem lOcts_bad {n k : Nat} {os : List OC} {u : Unit} {r : List Int} {x : Int} (h : loct n (.ok u r) = .bad x) : lOcts n (k + 1) os (.ok u r) = .bad x := octsP_bad h
theorem lOcts_ok {n k : Nat} {os : List OC} {u : Unit} {r r' : List Int} {o : OC} (h : loct n (.ok u r) = .ok o r') : lOcts n (k + 1) os (.ok u r) = lOcts n k (os ++ [o]) (.ok () r') := octsP_ok h
def dFin : PR (Int × Int × List OC) → (Int × Int × List OC) × Int
  | .bad e => ((0, 0, []), e)
  | .ok v _ => (v, 0)
theorem decP_fin {b : List Int} (h : ¬ 4194304 < b.length) : decP b = dFin (certP b) := by
  unfold decP
  rw [if_neg h]
  cases certP b <;> rfl
end Gn
end Go.Proofs.Ytghpiofjejhegaa
