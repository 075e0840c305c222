/- Plain: what is read of bytes. No program in sight. -/
import Derived.Test.YtghpiofjejhegaaCej
namespace Go.Proofs.Ytghpiofjejhegaa
open Go.RowKit
set_option linter.unusedVariables false
set_option linter.unusedSimpArgs false
namespace Gn
/-- What a reader's step tells. -/
inductive PR (α : Type) where
  | bad (e : Int) : PR α
  | ok (v : α) (r : List Int) : PR α
def numberP (b : List Int) : PR Nat := if (take b).2.2 = 180 then .bad 192 else if (take b).2.2 = 181 then .bad 193 else .ok (take b).1 (b.drop (take b).2.1)
def upToP (lo hi : Int) (b : List Int) : PR Nat :=
  match numberP b with
  | .bad e => .bad e
  | .ok n r => if hi < lo ∨ (n : Int) < lo ∨ hi < (n : Int) then .bad 194 else .ok n r
/-- A place's cell, and that across, laid. -/
def putM (m : Nat) (M : List Int) (i j : Nat) (v : Int) : List Int := (M.set (i * m + j) v).set (ac j * m + ac i) v
/-- One place: the next one's number, the cells. -/
def placeP (n : Nat) (ps : List (Nat × Nat)) (nxt : Nat) (M : List Int) (b : List Int) : PR (Nat × List Int) :=
  match upToP 0 ((ps.length : Int) - (nxt : Int) - 1) b with
  | .bad e => .bad e
  | .ok g r =>
    match numberP r with
    | .bad e => .bad e
    | .ok v r => if unfold' v = 9223372036854775807 ∨ ¬ isB (unfold' v) then .bad 194 else .ok (nxt + g + 1, putM (2 * n) M (pfst ps (nxt + g)) (psnd ps (nxt + g)) (unfold' v)) r
/-- So many places. -/
def placesP (n : Nat) (ps : List (Nat × Nat)) : Nat → Nat → List Int → List Int → PR (Nat × List Int)
  | 0, nxt, M, b => .ok (nxt, M) b
  | k + 1, nxt, M, b =>
    match placeP n ps nxt M b with
    | .bad e => .bad e
    | .ok s r => placesP n ps k s.1 s.2 r
def octP (n : Nat) (ps : List (Nat × Nat)) (b : List Int) : PR OC :=
  match b with
  | [] => .bad 192
  | x :: r =>
    if 1 < x then .bad 194 else if x = 0 then .ok ⟨n, true, []⟩ r else
      match upToP 0 (ps.length : Int) r with
      | .bad e => .bad e
      | .ok k r =>
        match placesP n ps k 0 (topM (2 * n)) r with
        | .bad e => .bad e
        | .ok s r => .ok ⟨n, false, s.2⟩ r
def octEnd (n : Nat) : PR (Nat × List Int) → PR OC
  | .bad e => .bad e
  | .ok s r => .ok ⟨n, false, s.2⟩ r
def placesNext (n : Nat) (ps : List (Nat × Nat)) (k : Nat) : PR (Nat × List Int) → PR (Nat × List Int)
  | .bad e => .bad e
  | .ok s r => placesP n ps k s.1 s.2 r
theorem octP_nil (n : Nat) (ps : List (Nat × Nat)) : octP n ps [] = .bad 192 := rfl
theorem octP_kind {n : Nat} {ps : List (Nat × Nat)} {x : Int} {r : List Int} (h : 1 < x) : octP n ps (x :: r) = .bad 194 := by unfold octP; exact if_pos h
theorem octP_empty (n : Nat) (ps : List (Nat × Nat)) (r : List Int) : octP n ps (0 :: r) = .ok ⟨n, true, []⟩ r := by unfold octP; simp
theorem octP_one_bad {n : Nat} {ps : List (Nat × Nat)} {r : List Int} {x : Int} (h : upToP 0 (ps.length : Int) r = .bad x) : octP n ps (1 :: r) = .bad x := by unfold octP; simp only; rw [if_neg (by omega), if_neg (by omega), h]
theorem octP_one_ok {n : Nat} {ps : List (Nat × Nat)} {r r' : List Int} {k : Nat} (h : upToP 0 (ps.length : Int) r = .ok k r') : octP n ps (1 :: r) = octEnd n (placesP n ps k 0 (topM (2 * n)) r') := by
  unfold octP
  simp only
  rw [if_neg (by omega), if_neg (by omega), h]
  simp only
  cases placesP n ps k 0 (topM (2 * n)) r' <;> rfl
theorem placesP_zero (n : Nat) (ps : List (Nat × Nat)) (nx : Nat) (M b : List Int) : placesP n ps 0 nx M b = .ok (nx, M) b := rfl
theorem placesP_succ (n : Nat) (ps : List (Nat × Nat)) (k nx : Nat) (M b : List Int) : placesP n ps (k + 1) nx M b = placesNext n ps k (placeP n ps nx M b) := by
  show (match placeP n ps nx M b with | .bad e => _ | .ok s r => _) = _
  cases placeP n ps nx M b <;> rfl
section
variable {n : Nat} {ps : List (Nat × Nat)} {nx g v : Nat} {M b r r' : List Int} {x : Int}
theorem placeP_bad1 (h : upToP 0 ((ps.length : Int) - (nx : Int) - 1) b = .bad x) : placeP n ps nx M b = .bad x := by unfold placeP; rw [h]
theorem placeP_bad2 (h : upToP 0 ((ps.length : Int) - (nx : Int) - 1) b = .ok g r) (h2 : numberP r = .bad x) : placeP n ps nx M b = .bad x := by unfold placeP; rw [h]; simp only; rw [h2]
theorem placeP_bad3 (h : upToP 0 ((ps.length : Int) - (nx : Int) - 1) b = .ok g r) (h2 : numberP r = .ok v r') (h3 : unfold' v = 9223372036854775807 ∨ ¬ isB (unfold' v)) : placeP n ps nx M b = .bad 194 := by
  unfold placeP; rw [h]; simp only; rw [h2]; exact if_pos h3
theorem placeP_ok (h : upToP 0 ((ps.length : Int) - (nx : Int) - 1) b = .ok g r) (h2 : numberP r = .ok v r') (h3 : ¬ (unfold' v = 9223372036854775807 ∨ ¬ isB (unfold' v))) :
    placeP n ps nx M b = .ok (nx + g + 1, putM (2 * n) M (pfst ps (nx + g)) (psnd ps (nx + g)) (unfold' v)) r' := by
  unfold placeP; rw [h]; simp only; rw [h2]; exact if_neg h3
end
theorem octP_n {n : Nat} {ps : List (Nat × Nat)} {b r : List Int} {o : OC} (h : octP n ps b = .ok o r) : o.n = n := by
  unfold octP at h
  split at h
  · cases h
  · split at h
    · cases h
    · split at h
      · injection h with h1 h2; subst h1; rfl
      · split at h
        · cases h
        · split at h
          · cases h
          · injection h with h1 h2; subst h1; rfl
def octsP (n : Nat) (ps : List (Nat × Nat)) : Nat → List OC → List Int → PR (List OC)
  | 0, os, b => .ok os b
  | k + 1, os, b =>
    match octP n ps b with
    | .bad e => .bad e
    | .ok o r => octsP n ps k (os ++ [o]) r
theorem octsP_bad {n : Nat} {ps : List (Nat × Nat)} {k : Nat} {os : List OC} {b : List Int} {x : Int} (h : octP n ps b = .bad x) : octsP n ps (k + 1) os b = .bad x := by unfold octsP; rw [h]
theorem octsP_ok {n : Nat} {ps : List (Nat × Nat)} {k : Nat} {os : List OC} {b r : List Int} {o : OC} (h : octP n ps b = .ok o r) : octsP n ps (k + 1) os b = octsP n ps k (os ++ [o]) r := by
  show (match octP n ps b with | .bad e => _ | .ok o r => _) = _
  rw [h]
theorem octsP_zero (n : Nat) (ps : List (Nat × Nat)) (os : List OC) (b : List Int) : octsP n ps 0 os b = .ok os b := rfl
def digN (b : List Int) : Int := b.foldl (fun d x => d * 256 + x) 0
/-- The body behind the digest. -/
def bodyP (D : Int) (b : List Int) : PR (Int × Int × List OC) :=
  match upToP 0 64 b with
  | .bad e => .bad e
  | .ok n r =>
    match upToP 1 4096 r with
    | .bad e => .bad e
    | .ok k r =>
      if 4194304 < 4 * (n : Int) * n * k then .bad 194 else
        match octsP n (pairs n) k [] r with
        | .bad e => .bad e
        | .ok os r => if 0 < r.length then .bad 195 else .ok (D, n, os) r
def certP (b : List Int) : PR (Int × Int × List OC) :=
  if b.length < 4 then .bad 192
  else if b.take 4 ≠ [103, 110, 109, 49] then .bad 191
  else if (b.drop 4).length < 8 then .bad 192
  else bodyP (digN ((b.drop 4).take 8)) ((b.drop 4).drop 8)
/-- A certificate, or what is wrong. -/
def decP (b : List Int) : (Int × Int × List OC) × Int :=
  if 4194304 < b.length then ((0, 0, []), 196) else
    match certP b with
    | .bad e => ((0, 0, []), e)
    | .ok v _ => (v, 0)
end Gn
end Go.Proofs.Ytghpiofjejhegaa
