/- SpanExact: what its walk wants: answers by cases, octagons with numbers for variables, the law's own ranges. -/
import Derived.Test.YtkogplnleiapfaaSpr
import Derived.Test.YtkogplnleiapfaaRex
import Derived.Deep.DeepCutAuto
namespace Go.Proofs.Ytkogplnleiapfaa
open Go.RowKit
set_option linter.unusedVariables false
set_option linter.unusedSimpArgs false
namespace Gn
/-- Is there a closed octagon that isn't empty? -/
def innB (ec : Int) (Ec : Bool) : Bool := decide (ec = 0) && !Ec
theorem innB_true {ec : Int} {Ec : Bool} (h : innB ec Ec = true) : ec = 0 ∧ Ec = false := by
  unfold innB at h
  cases Ec
  · exact ⟨by simpa using h, rfl⟩
  · simp at h
theorem innB_false {ec : Int} {Ec : Bool} (h : innB ec Ec = false) (k : ec = 0) : Ec = true := by
  unfold innB at h
  cases Ec
  · simp [k] at h
  · rfl
section
variable {N Nc : Int} {E Ec : Bool} {M Mc : List Int} {sc : Bool} {ec : Int}
theorem closeP_chkE (hP : closeP N E M = (((Nc, Ec, Mc), sc), ec)) : chk N E M = ec := by rw [← closeP_err, hP]
theorem closeP_clo (hP : closeP N E M = (((Nc, Ec, Mc), sc), ec)) : clo N E M = (Nc, Ec, Mc) := by unfold clo; rw [hP]
theorem closeP_in (hP : closeP N E M = (((Nc, Ec, Mc), sc), ec)) (hi : innB ec Ec = true) : chk N E M = 0 ∧ Nc = N ∧ Ec = false ∧ chk Nc Ec Mc = 0 := by
  obtain ⟨h1, h2⟩ := innB_true hi
  have hc := (closeP_chkE hP).trans h1
  have k := clo_chk hc
  rw [closeP_clo hP] at k
  dsimp only at k
  exact ⟨hc, k.1, h2, by rw [k.1]; exact k.2⟩
theorem ansP_no (hP : closeP N E M = (((Nc, Ec, Mc), sc), ec)) {f : Int → Int} {xs : List Int} {i j : Nat} (h : askE N E M xs ≠ 0 ∨ innB ec Ec = false) : ansP f N E M xs i j = ⟨Rg.none, false, askE N E M xs⟩ := by
  unfold ansP
  by_cases k : askE N E M xs = 0
  · rw [if_neg (by rw [k]; omega), k]
    have hi : innB ec Ec = false := by rcases h with h | h; exact absurd k h; exact h
    have := innB_false hi ((closeP_chkE hP).symm.trans (askE_zero k).1)
    rw [closeP_clo hP, if_pos this]
  · rw [if_pos k]
theorem ansP_yes (hP : closeP N E M = (((Nc, Ec, Mc), sc), ec)) {f : Int → Int} {xs : List Int} {i j : Nat} (h : askE N E M xs = 0) (hi : innB ec Ec = true) :
    ansP f N E M xs i j = ⟨sidesR (f (cl (2 * N.toNat) Mc i j)) (f (cl (2 * N.toNat) Mc (ac i) (ac j))), true, 0⟩ := by
  obtain ⟨h1, h2⟩ := innB_true hi
  unfold ansP
  rw [if_neg (by rw [h]; omega), closeP_clo hP, if_neg (by rw [h2]; simp)]
/-- What is wrong with an operand. -/
def opE (N : Int) (E : Bool) (M : List Int) (v : Int) : Int := if chk N E M = 0 ∧ N ≤ v then 122 else chk N E M
/-- An operand's range, by a closed octagon. -/
def opR (N : Int) (Mc : List Int) (v y : Int) : Rg :=
  if 0 ≤ v then sidesR (half (cl (2 * N.toNat) Mc (2 * v).toNat (2 * v + 1).toNat)) (half (cl (2 * N.toNat) Mc (ac (2 * v).toNat) (ac (2 * v + 1).toNat))) else ⟨y, y, true, true⟩
theorem opE_ask {v : Int} (h : 0 ≤ v) : opE N E M v = askE N E M [v] := by
  unfold opE
  by_cases k : chk N E M = 0
  · by_cases kv : N ≤ v
    · rw [if_pos ⟨k, kv⟩, askE_out k]
      simp [inB]; omega
    · rw [if_neg (fun q => kv q.2), askE_in k, k]
      simp [inB]; omega
  · rw [if_neg (fun q => k q.1), askE_chk k]
theorem opE_neg {v : Int} (h : ¬ 0 ≤ v) : opE N E M v = chk N E M ∧ askE N E M [] = chk N E M := by
  unfold opE
  by_cases k : chk N E M = 0
  · obtain ⟨n, hn, _⟩ := chk_zero k
    exact ⟨if_neg (fun q => by omega), by rw [askE_in k (by simp [inB]), k]⟩
  · exact ⟨if_neg (fun q => k q.1), askE_chk k⟩
theorem opP_no (hP : closeP N E M = (((Nc, Ec, Mc), sc), ec)) {v y : Int} (h : opE N E M v ≠ 0 ∨ innB ec Ec = false) : opP N E M v y = ⟨Rg.none, false, opE N E M v⟩ := by
  unfold opP
  by_cases hv : 0 ≤ v
  · rw [if_pos hv, opE_ask hv]
    rw [opE_ask hv] at h
    exact ansP_no hP h
  · obtain ⟨e1, e2⟩ := @opE_neg N E M v hv
    rw [if_neg hv, e2, e1]
    rw [e1] at h
    by_cases k : chk N E M = 0
    · rw [if_neg (by rw [k]; omega), k]
      have hi : innB ec Ec = false := by rcases h with h | h; exact absurd k h; exact h
      have := innB_false hi ((closeP_chkE hP).symm.trans k)
      rw [closeP_clo hP, if_pos this]
    · rw [if_pos k]
theorem opP_yes (hP : closeP N E M = (((Nc, Ec, Mc), sc), ec)) {v y : Int} (h : opE N E M v = 0) (hi : innB ec Ec = true) : opP N E M v y = ⟨opR N Mc v y, true, 0⟩ := by
  unfold opP opR
  by_cases hv : 0 ≤ v
  · rw [if_pos hv, if_pos hv]
    rw [opE_ask hv] at h
    exact ansP_yes hP h hi
  · obtain ⟨e1, e2⟩ := @opE_neg N E M v hv
    obtain ⟨h1, h2⟩ := innB_true hi
    rw [e1] at h
    rw [if_neg hv, if_neg hv, if_neg (by rw [e2, h]; omega), closeP_clo hP, if_neg (by rw [h2]; simp)]
theorem opE_lt {v : Int} (h : opE N E M v = 0) : v < N := by
  unfold opE at h
  split at h
  · exact absurd h (by omega)
  · rename_i k
    by_cases hv : N ≤ v
    · exact absurd ⟨h, hv⟩ k
    · omega
/-- What is wrong with two variables. -/
theorem both_ask {u v : Int} : askE N E M [u, v] = if askE N E M [u] = 0 then askE N E M [v] else askE N E M [u] := by
  by_cases k : chk N E M = 0
  · by_cases h1 : inB N [u] = true
    · rw [if_pos (askE_in k h1)]
      by_cases h2 : inB N [v] = true
      · rw [askE_in k h2, askE_in k]
        have a := inB_one h1
        have b := inB_one h2
        simp [inB]; omega
      · have h2 : inB N [v] = false := by simpa using h2
        rw [askE_out k h2, askE_out k]
        simp [inB] at h2 ⊢
        intro _ _; omega
    · have h1 : inB N [u] = false := by simpa using h1
      rw [if_neg (by rw [askE_out k h1]; omega), askE_out k h1, askE_out k]
      simp [inB] at h1 ⊢
      intro a b; omega
  · rw [askE_chk k, askE_chk k, if_neg k]
theorem cl_flip {n : Nat} (hk : chk n false M = 0) {i j : Nat} (hi : i < 2 * n) (hj : j < 2 * n) : cl (2 * n) M i j = cl (2 * n) M (ac j) (ac i) := by
  obtain ⟨m, hm, hn64, -, hl⟩ := chk_zero hk
  obtain rfl : m = n := by omega
  exact ((hl rfl).2 i hi j hj).2.2
end
end Gn
open Gn
theorem ref15_VarI (N : Int) (E : Bool) (A : Option Addr) (c : Nat) (M : List Int) (v : Int) (w : World) (h : OctIn w w.heap.size A c N M) (hE : E = false) (hk : chk N E M = 0) (hv : 0 ≤ v ∧ v < N) (R : Rg)
    (hR : sidesR (half (cl (2 * N.toNat) M (2 * v).toNat (2 * v + 1).toNat)) (half (cl (2 * N.toNat) M (ac (2 * v).toNat) (ac (2 * v + 1).toNat))) = R) :
    Calls Try.prog 38 #[.agg #[.int .i64 N, .bool E, .slice A M.length c], .int .i64 v] w fun e w' => e = .returned (.agg #[.int .i64 R.lo, .int .i64 R.hi, .bool R.hl, .bool R.hh]) ∧ Below w.heap.size w w' := by
  subst hE
  obtain ⟨n, rfl, -⟩ := chk_zero hk
  obtain ⟨k, rfl⟩ := Int.eq_ofNat_of_zero_le hv.1
  refine ref15_Var n A c M k w h hk (by omega) R ?_
  rw [← hR]
  rw [show (2 * (k : Int)).toNat = 2 * k by omega, show (2 * (k : Int) + 1).toNat = 2 * k + 1 by omega, Int.toNat_natCast, ac_even, ac_odd]
theorem ref15_SumI (N : Int) (E : Bool) (A : Option Addr) (c : Nat) (M : List Int) (u v : Int) (w : World) (h : OctIn w w.heap.size A c N M) (hE : E = false) (hk : chk N E M = 0) (hu : 0 ≤ u ∧ u < N) (hv : 0 ≤ v ∧ v < N) (R : Rg)
    (hR : sidesR (cl (2 * N.toNat) M (2 * u).toNat (2 * v + 1).toNat) (cl (2 * N.toNat) M (ac (2 * u).toNat) (ac (2 * v + 1).toNat)) = R) :
    Calls Try.prog 39 #[.agg #[.int .i64 N, .bool E, .slice A M.length c], .int .i64 u, .int .i64 v] w fun e w' => e = .returned (.agg #[.int .i64 R.lo, .int .i64 R.hi, .bool R.hl, .bool R.hh]) ∧ Below w.heap.size w w' := by
  subst hE
  obtain ⟨n, rfl, -⟩ := chk_zero hk
  obtain ⟨a, rfl⟩ := Int.eq_ofNat_of_zero_le hu.1
  obtain ⟨k, rfl⟩ := Int.eq_ofNat_of_zero_le hv.1
  refine ref15_Sum n A c M a k w h hk (by omega) (by omega) R ?_
  rw [← hR]
  rw [show (2 * (a : Int)).toNat = 2 * a by omega, show (2 * (k : Int) + 1).toNat = 2 * k + 1 by omega, Int.toNat_natCast, ac_even, ac_odd]
theorem ref15_DiffI (N : Int) (E : Bool) (A : Option Addr) (c : Nat) (M : List Int) (u v : Int) (w : World) (h : OctIn w w.heap.size A c N M) (hE : E = false) (hk : chk N E M = 0) (hu : 0 ≤ u ∧ u < N) (hv : 0 ≤ v ∧ v < N) (R : Rg)
    (hR : sidesR (cl (2 * N.toNat) M (2 * u).toNat (2 * v).toNat) (cl (2 * N.toNat) M (ac (2 * u).toNat) (ac (2 * v).toNat)) = R) :
    Calls Try.prog 40 #[.agg #[.int .i64 N, .bool E, .slice A M.length c], .int .i64 u, .int .i64 v] w fun e w' => e = .returned (.agg #[.int .i64 R.lo, .int .i64 R.hi, .bool R.hl, .bool R.hh]) ∧ Below w.heap.size w w' := by
  subst hE
  obtain ⟨n, rfl, -⟩ := chk_zero hk
  obtain ⟨a, rfl⟩ := Int.eq_ofNat_of_zero_le hu.1
  obtain ⟨k, rfl⟩ := Int.eq_ofNat_of_zero_le hv.1
  refine ref15_Diff n A c M a k w h hk (by omega) (by omega) R ?_
  rw [← hR]
  rw [show (2 * (a : Int)).toNat = 2 * a by omega, show (2 * (k : Int)).toNat = 2 * k by omega, Int.toNat_natCast, cl_flip hk (i := 2 * k) (j := 2 * a) (by omega) (by omega)]
theorem ref15_OperandI (N : Int) (E : Bool) (A : Option Addr) (c : Nat) (M : List Int) (v x : Int) (w : World) (h : OctIn w w.heap.size A c N M) (hE : E = false) (hk : chk N E M = 0) (hv : v < N) (R : Rg) (hR : opR N M v x = R) :
    Calls Try.prog 41 #[.agg #[.int .i64 N, .bool E, .slice A M.length c], .agg #[.int .i64 v, .int .i64 x]] w fun e w' => e = .returned (.agg #[.int .i64 R.lo, .int .i64 R.hi, .bool R.hl, .bool R.hh]) ∧ Below w.heap.size w w' := by
  subst hE
  obtain ⟨n, rfl, -⟩ := chk_zero hk
  refine ref15_Operand n A c M v x w h hk hv R ?_
  rw [← hR]
  unfold opR
  by_cases h0 : 0 ≤ v
  · obtain ⟨k, rfl⟩ := Int.eq_ofNat_of_zero_le h0
    rw [if_pos h0, if_pos h0, show (2 * (k : Int)).toNat = 2 * k by omega, show (2 * (k : Int) + 1).toNat = 2 * k + 1 by omega, Int.toNat_natCast, Int.toNat_natCast, ac_even, ac_odd]
  · rw [if_neg h0, if_neg h0]
/-- An answer that is right is found right. -/
theorem told_ans (a : Ans) (R : Rg) (i : Bool) (f : Int) (w : World) (h1 : f ≠ 0 ∨ i = false → a = ⟨Rg.none, false, f⟩) (h2 : f = 0 → i = true → a = ⟨R, true, 0⟩) :
    Calls Try.prog 42 #[.agg #[.int .i64 a.r.lo, .int .i64 a.r.hi, .bool a.r.hl, .bool a.r.hh], .bool a.ok, .int .i64 a.e, .agg #[.int .i64 R.lo, .int .i64 R.hi, .bool R.hl, .bool R.hh], .bool (!i), .int .i64 f] w fun e w' => e = .returned (.bool true) ∧ Below w.heap.size w w' := by
  by_cases k : f ≠ 0 ∨ i = false
  · rw [h1 k]
    exact law_told_no R (!i) f w (by rcases k with k | k; exact .inl k; exact .inr (by rw [k]; rfl))
  · have hf : f = 0 := by
      by_cases hf : f = 0
      · exact hf
      · exact absurd (.inl hf) k
    have hi : i = true := by
      cases i
      · exact absurd (.inr rfl) k
      · rfl
    rw [h2 hf hi, hf, hi]
    exact law_told_yes R w
theorem RgBox.aside {w : World} {b b' : Nat} {l h : Int} {p q : Bool} (k : RgBox w b l h p q) (hne : b ≠ b') (v0 v1 v2 v3 : Value) : RgBox ((((w.setCell ⟨b', 0, none⟩ v0).setCell ⟨b', 1, none⟩ v1).setCell ⟨b', 2, none⟩ v2).setCell ⟨b', 3, none⟩ v3) b l h p q :=
  ⟨by simp [go_sem, k.c0, hne, hne.symm], by simp [go_sem, k.c1, hne, hne.symm], by simp [go_sem, k.c2, hne, hne.symm], by simp [go_sem, k.c3, hne, hne.symm], fun i => by simp [go_sem, k.fz]⟩
theorem below_put {w X : World} {B b : Nat} (hL : Below B w X) (hb : B ≤ b) (v0 v1 v2 v3 : Value) : Below B w ((((X.setCell ⟨b, 0, none⟩ v0).setCell ⟨b, 1, none⟩ v1).setCell ⟨b, 2, none⟩ v2).setCell ⟨b, 3, none⟩ v3) :=
  (((hL.setCell hb _).setCell hb _).setCell hb _).setCell hb _
/-- The octagon and the operand that came in. -/
structure Fo (w : World) (o : OV) (v y : Int) (Y : World) : Prop where
  ob : OctAt Y w.heap.size o.N o.E (.slice o.A o.M.length o.c)
  oin : OctIn Y Y.heap.size o.A o.c o.N o.M
  p0 : Y.cell? ⟨w.heap.size + 1, 0, none⟩ = some (.int .i64 v)
  p1 : Y.cell? ⟨w.heap.size + 1, 1, none⟩ = some (.int .i64 y)
  below : Below w.heap.size w Y
theorem Fo.go {w : World} {o : OV} {v y : Int} {Y Z : World} (h : Fo w o v y Y) (hb : Below Y.heap.size Y Z) : Fo w o v y Z :=
  ⟨h.ob.below hb, h.oin.go hb, below_cell hb h.p0, below_cell hb h.p1, h.below.trans (hb.mono h.below.size)⟩
/-- The law's own variables that stay. -/
structure Fx (w : World) (o : OV) (v y : Int) (i : Bool) (bC : Nat) (c : OV) (Y : World) : Prop where
  fo : Fo w o v y Y
  cb : OctAt Y bC c.N c.E (.slice c.A c.M.length c.c)
  cin : i = true → OctIn Y Y.heap.size c.A c.c c.N c.M
theorem Fx.go {w : World} {o : OV} {v y : Int} {i : Bool} {bC : Nat} {c : OV} {Y Z : World} (h : Fx w o v y i bC c Y) (hb : Below Y.heap.size Y Z) : Fx w o v y i bC c Z :=
  ⟨h.fo.go hb, h.cb.below hb, fun k => (h.cin k).go hb⟩
/-- The law's four ranges. -/
structure St (w : World) (o : OV) (v y : Int) (i : Bool) (bC : Nat) (c : OV) (Y0 : World) (x s d p : Rg) (Y : World) : Prop where
  fx0 : Fx w o v y i bC c Y0
  below : Below Y0.heap.size Y0 Y
  bx : RgBox Y Y0.heap.size x.lo x.hi x.hl x.hh
  bs : RgBox Y (Y0.heap.size + 1) s.lo s.hi s.hl s.hh
  bd : RgBox Y (Y0.heap.size + 1 + 1) d.lo d.hi d.hl d.hh
  bp : RgBox Y (Y0.heap.size + 1 + 1 + 1) p.lo p.hi p.hl p.hh
section
variable {w : World} {o : OV} {v y : Int} {i : Bool} {bC : Nat} {c : OV} {Y0 Y Z : World} {x s d p : Rg}
theorem St.fx (h : St w o v y i bC c Y0 x s d p Y) : Fx w o v y i bC c Y := h.fx0.go h.below
theorem St.go (h : St w o v y i bC c Y0 x s d p Y) (hb : Below Y.heap.size Y Z) : St w o v y i bC c Y0 x s d p Z :=
  ⟨h.fx0, h.below.trans (hb.mono h.below.size), h.bx.go hb, h.bs.go hb, h.bd.go hb, h.bp.go hb⟩
theorem St.putx (h : St w o v y i bC c Y0 x s d p Y) (R : Rg) : St w o v y i bC c Y0 R s d p ((((Y.setCell ⟨Y0.heap.size, 0, none⟩ (.int .i64 R.lo)).setCell ⟨Y0.heap.size, 1, none⟩ (.int .i64 R.hi)).setCell ⟨Y0.heap.size, 2, none⟩ (.bool R.hl)).setCell ⟨Y0.heap.size, 3, none⟩ (.bool R.hh)) :=
  ⟨h.fx0, below_put h.below (by omega) _ _ _ _, h.bx.put _ _ _ _, h.bs.aside (by omega) _ _ _ _, h.bd.aside (by omega) _ _ _ _, h.bp.aside (by omega) _ _ _ _⟩
theorem St.puts (h : St w o v y i bC c Y0 x s d p Y) (R : Rg) : St w o v y i bC c Y0 x R d p ((((Y.setCell ⟨Y0.heap.size + 1, 0, none⟩ (.int .i64 R.lo)).setCell ⟨Y0.heap.size + 1, 1, none⟩ (.int .i64 R.hi)).setCell ⟨Y0.heap.size + 1, 2, none⟩ (.bool R.hl)).setCell ⟨Y0.heap.size + 1, 3, none⟩ (.bool R.hh)) :=
  ⟨h.fx0, below_put h.below (by omega) _ _ _ _, h.bx.aside (by omega) _ _ _ _, h.bs.put _ _ _ _, h.bd.aside (by omega) _ _ _ _, h.bp.aside (by omega) _ _ _ _⟩
theorem St.putd (h : St w o v y i bC c Y0 x s d p Y) (R : Rg) : St w o v y i bC c Y0 x s R p ((((Y.setCell ⟨Y0.heap.size + 1 + 1, 0, none⟩ (.int .i64 R.lo)).setCell ⟨Y0.heap.size + 1 + 1, 1, none⟩ (.int .i64 R.hi)).setCell ⟨Y0.heap.size + 1 + 1, 2, none⟩ (.bool R.hl)).setCell ⟨Y0.heap.size + 1 + 1, 3, none⟩ (.bool R.hh)) :=
  ⟨h.fx0, below_put h.below (by omega) _ _ _ _, h.bx.aside (by omega) _ _ _ _, h.bs.aside (by omega) _ _ _ _, h.bd.put _ _ _ _, h.bp.aside (by omega) _ _ _ _⟩
theorem St.putp (h : St w o v y i bC c Y0 x s d p Y) (R : Rg) : St w o v y i bC c Y0 x s d R ((((Y.setCell ⟨Y0.heap.size + 1 + 1 + 1, 0, none⟩ (.int .i64 R.lo)).setCell ⟨Y0.heap.size + 1 + 1 + 1, 1, none⟩ (.int .i64 R.hi)).setCell ⟨Y0.heap.size + 1 + 1 + 1, 2, none⟩ (.bool R.hl)).setCell ⟨Y0.heap.size + 1 + 1 + 1, 3, none⟩ (.bool R.hh)) :=
  ⟨h.fx0, below_put h.below (by omega) _ _ _ _, h.bx.aside (by omega) _ _ _ _, h.bs.aside (by omega) _ _ _ _, h.bd.aside (by omega) _ _ _ _, h.bp.put _ _ _ _⟩
theorem St.puto (h : St w o v y i bC c Y0 x s d p Y) {b : Nat} (hb : Y0.heap.size + 1 + 1 + 1 < b) (v0 v1 v2 v3 : Value) : St w o v y i bC c Y0 x s d p ((((Y.setCell ⟨b, 0, none⟩ v0).setCell ⟨b, 1, none⟩ v1).setCell ⟨b, 2, none⟩ v2).setCell ⟨b, 3, none⟩ v3) :=
  ⟨h.fx0, below_put h.below (by omega) _ _ _ _, h.bx.aside (by omega) _ _ _ _, h.bs.aside (by omega) _ _ _ _, h.bd.aside (by omega) _ _ _ _, h.bp.aside (by omega) _ _ _ _⟩
end
/-- Two variables of a call's own: an octagon, an operand. -/
theorem oct_op (w : World) (t t1 : TypeId) (N : Int) (E : Bool) (v : Value) (a b : Int) : ∃ W, W = (w.alloc (.cells #[.int .i64 N, .bool E, v] t)).alloc (.cells #[.int .i64 a, .int .i64 b] t1) ∧ OctAt W w.heap.size N E v ∧
    W.cell? ⟨w.heap.size + 1, 0, none⟩ = some (.int .i64 a) ∧ W.cell? ⟨w.heap.size + 1, 1, none⟩ = some (.int .i64 b) ∧ Below w.heap.size w W ∧ W.heap.size = w.heap.size + 1 + 1 := by
  have b1 : Below w.heap.size w (w.alloc (.cells #[.int .i64 N, .bool E, v] t)) := (Below.refl _ _).alloc (Nat.le_refl _) _
  have e : (w.alloc (.cells #[.int .i64 N, .bool E, v] t)).heap.size = w.heap.size + 1 := by simp
  refine ⟨_, rfl, (OctAt.box _ _ _ _ _).alloc _, ?_, ?_, b1.alloc (by simp) _, by simp⟩
  · rw [← e]; simp [World.cell?_alloc_new]
  · rw [← e]; simp [World.cell?_alloc_new]
/-- The four ranges made. -/
theorem St.new {w : World} {o : OV} {v y : Int} {i : Bool} {bC : Nat} {c : OV} {Y0 : World} (t : TypeId) (h : Fx w o v y i bC c Y0) :
    ∃ Y, Y = (((Y0.alloc (.cells #[.int .i64 0, .int .i64 0, .bool false, .bool false] t)).alloc (.cells #[.int .i64 0, .int .i64 0, .bool false, .bool false] t)).alloc (.cells #[.int .i64 0, .int .i64 0, .bool false, .bool false] t)).alloc (.cells #[.int .i64 0, .int .i64 0, .bool false, .bool false] t) ∧
      St w o v y i bC c Y0 Rg.none Rg.none Rg.none Rg.none Y := by
  have b := fun (X : World) => (Below.refl X.heap.size X).alloc (Nat.le_refl _) (.cells #[.int .i64 0, .int .i64 0, .bool false, .bool false] t)
  obtain ⟨Y1, h1⟩ : ∃ Y1, Y1 = Y0.alloc (.cells #[.int .i64 0, .int .i64 0, .bool false, .bool false] t) := ⟨_, rfl⟩
  obtain ⟨Y2, h2⟩ : ∃ Y2, Y2 = Y1.alloc (.cells #[.int .i64 0, .int .i64 0, .bool false, .bool false] t) := ⟨_, rfl⟩
  obtain ⟨Y3, h3⟩ : ∃ Y3, Y3 = Y2.alloc (.cells #[.int .i64 0, .int .i64 0, .bool false, .bool false] t) := ⟨_, rfl⟩
  obtain ⟨Y4, h4⟩ : ∃ Y4, Y4 = Y3.alloc (.cells #[.int .i64 0, .int .i64 0, .bool false, .bool false] t) := ⟨_, rfl⟩
  refine ⟨Y4, by rw [h4, h3, h2, h1], ?_⟩
  have b0 := b Y0
  have b1 := b Y1
  have b2 := b Y2
  have b3 := b Y3
  have r0 := RgBox.new Y0 t 0 0 false false
  have r1 := RgBox.new Y1 t 0 0 false false
  have r2 := RgBox.new Y2 t 0 0 false false
  have r3 := RgBox.new Y3 t 0 0 false false
  rw [← h1] at r0 b0
  rw [← h2] at r1 b1
  rw [← h3] at r2 b2
  rw [← h4] at r3 b3
  have s1 : Y1.heap.size = Y0.heap.size + 1 := by rw [h1]; simp
  have s2 : Y2.heap.size = Y0.heap.size + 1 + 1 := by rw [h2]; simp [s1]
  have s3 : Y3.heap.size = Y0.heap.size + 1 + 1 + 1 := by rw [h3]; simp [s2]
  have q : Below Y0.heap.size Y0 Y4 := ((b0.trans (b1.mono (by omega))).trans (b2.mono (by omega))).trans (b3.mono (by omega))
  exact ⟨h, q, ((r0.go b1).go b2).go b3, s1 ▸ (r1.go b2).go b3, s2 ▸ r2.go b3, s3 ▸ r3⟩
end Go.Proofs.Ytkogplnleiapfaa
