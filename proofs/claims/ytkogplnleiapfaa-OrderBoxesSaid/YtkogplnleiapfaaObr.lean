/- The walk of the statement OrderBoxes. -/
import Derived.Test.YtkogplnleiapfaaObq
import Derived.Test.YtkogplnleiapfaaOrt
import Derived.Deep.DeepCutAuto
import Derived.Maps.AppendAt
import Derived.Deep.RegionHeld3
namespace Go.Proofs.Ytkogplnleiapfaa
open Go.RowKit
set_option linter.unusedVariables false
set_option linter.unusedSimpArgs false
open Gn
theorem Try.elI16 : ElTy Try.prog 39 41 (.int .i16 0) 2 := ⟨Try.underlying39, by kernel_rfl, rfl, by decide⟩
theorem chk_len2 {N : Int} {E : Bool} {M : List Int} (h : chk N E M = 0) : (M.length : Int) ≤ 16384 := by
  obtain ⟨n, rfl, hn, h0, h1⟩ := chk_zero h
  rcases E with _ | _
  · rw [(h1 rfl).1]; have := sq_le hn; omega
  · rw [h0 rfl]; simp
/-- Two rows apart. -/
def Ap (A B : Option Addr) : Prop := ∀ g g', A = some ⟨g, 0, none⟩ → B = some ⟨g', 0, none⟩ → g ≠ g'
theorem Ap.symm {A B : Option Addr} (h : Ap A B) : Ap B A := fun g g' h1 h2 e => h g' g h2 h1 e.symm
theorem Ap.nil (B : Option Addr) : Ap none B := fun g g' h => by cases h
theorem Ap.nil' (B : Option Addr) : Ap B none := fun g g' _ h => by cases h
/-- What append does beside its row. -/
structure Aside (w w' : World) (A A' : Option Addr) : Prop where
  grown : w.grownBy w' (Value.ownBlock (.slice A 0 0))
  at' : ∀ g, A' = some ⟨g, 0, none⟩ → A = some ⟨g, 0, none⟩ ∨ w.heap.size ≤ g
theorem Aside.keep {w w' : World} {A A' B : Option Addr} {base c : Nat} {e : TypeId} {k : IntKind} {ys : List Int} (hA : ∀ b, Value.ownBlock (.slice A 0 0) = some b → A = some ⟨b, 0, none⟩) (h : Aside w w' A A') (o : Ow w base e k B c ys) (ap : Ap A B) : Ow w' base e k B c ys ∧ Ap A' B := by
  rcases o.form with ⟨rfl, rfl, rfl⟩ | ⟨g, rfl, hg, hlt, _⟩
  · exact ⟨Ow.nil _ _ _ _, Ap.nil' _⟩
  · refine ⟨o.other h.grown (fun e => ap _ _ (hA _ e) rfl rfl), fun g1 g2 h1 h2 e => ?_⟩
    injection h2 with h2; injection h2 with h2
    subst h2 e
    rcases h.at' _ h1 with h3 | h3
    · exact ap _ _ h3 rfl rfl
    · omega
theorem Ow.block {w : World} {base c : Nat} {e : TypeId} {k : IntKind} {A : Option Addr} {ys : List Int} (o : Ow w base e k A c ys) : ∀ b, Value.ownBlock (.slice A 0 0) = some b → A = some ⟨b, 0, none⟩ := fun b h => by
  rcases o.form with ⟨rfl, rfl, rfl⟩ | ⟨g, rfl, hg, hlt, _⟩
  · simp [Value.ownBlock] at h
  · simp [Value.ownBlock] at h; rw [h]
section
variable {P : Program} {t e : TypeId} {z : Value} {bytes : Nat}
/-- append(s, u) onto an owned row among several. -/
theorem wp_app1_at (E : ElTy P t e z bytes) {o : Oper} {a : Act} {K : Act → World → Prop} {Q : Exit → Act → World → Prop} (W : World) (s x : Operand)
    (ho : o.op = .call { callee := .builtin .append, args := #[s, x], argTypes := #[t, t] })
    (base : Nat) (k : IntKind) (A : Option Addr) (c m : Nat) (xs : List Int) (hm : xs.length = m) (hs : a.eval s = .slice A m c) (hown : Ow W base e k A c xs)
    (u : Int) (g : Nat) (hx : a.eval x = .slice (some ⟨g, 0, none⟩) 1 1) (hcell : W.cell? ⟨g, 0, none⟩ = some (.int k u))
    (hn : (m + 1) * bytes ≤ 140737488355328) (hbase : base ≤ W.heap.size)
    (h : ∀ A' c' w', Ow w' base e k A' c' (xs ++ [u]) → Below base W w' → Aside W w' A A' → K (a.put o.dst (.slice A' (m + 1) c')) w') :
    o.wp P a W K Q := by
  subst hm
  obtain ⟨i0, hi, hz0, hz1, hz2⟩ := info_parts E.info
  have hb := E.hb
  have hle : xs.length + 1 ≤ (xs.length + 1) * bytes := Nat.le_mul_of_pos_right _ hb
  have hcells : ∀ j v, [Value.int k u][j]? = some v → W.cell? ((⟨g, 0, none⟩ : Addr).add j) = some v := by
    intro j v hj
    match j, hj with
    | 0, hj =>
      simp at hj
      subst hj
      exact hcell
  obtain ⟨v', w1, hr, hown', hgrow, _, hat⟩ := run_append_own_at (P := P) W base t o.type e i0 z 1 bytes E.ht hi hz0 hz1 hz2 E.hz (by decide) _ _ _ hown ⟨g, 0, none⟩ 1 1 [.int k u] rfl hcells (by simp [Value.oneCell']) (by unfold maxLen; omega) hn hbase
  unfold Oper.wp execOp
  simp only [ho, resolve, invoke, builtin, Sem.run_bind, Sem.run_pure, Result.andThen_ok, List.map_toArray, List.map_cons, List.map_nil, hs, hx, hr]
  have hB : Below base W w1 := (Below.refl _ _).grown hgrow hbase (fun j hj => by
    rcases hown.form with ⟨rfl, rfl, rfl⟩ | ⟨g, rfl, hg, _⟩
    · simp [Value.ownBlock] at hj
    · simp [Value.ownBlock] at hj; omega)
  rw [show xs.map (Value.int k) ++ [Value.int k u] = (xs ++ [u]).map (Value.int k) by simp] at hown'
  obtain ⟨A', c', rfl, ho'⟩ := ow_of_row hown' (by simp)
  refine h _ _ _ ho' hB ⟨?_, fun g1 h1 => ?_⟩
  · have : Value.ownBlock (.slice A xs.length c) = Value.ownBlock (.slice A 0 0) := by cases A <;> rfl
    rw [← this]; exact hgrow
  · subst h1
    rcases hat with h2 | h2
    · left
      have : Value.ownBlock (.slice A 0 0) = some g1 := by
        have e : Value.ownBlock (.slice A xs.length c) = Value.ownBlock (.slice A 0 0) := by cases A <;> rfl
        rw [← e, ← h2]; rfl
      exact hown.block _ this
    · right
      simp [Value.ownBlock] at h2
      omega
end
section
variable {P : Program} {t e : TypeId} {z : Value} {bytes : Nat}
/-- The same for 'go_region_held3'. -/
theorem step_app1_at (E : ElTy P t e z bytes) {ops : Array Oper} {o : Oper} {a : Act} {K : Act → World → Prop} {Q : Exit → Act → World → Prop} {N : Prop} (W : World) (hgd : o.guard = none) (s x : Operand)
    (ho : o.op = .call { callee := .builtin .append, args := #[s, x], argTypes := #[t, t] })
    (base : Nat) (k : IntKind) (A : Option Addr) (c m : Nat) (xs : List Int) (hm : xs.length = m) (hs : a.eval s = .slice A m c) (hown : Ow W base e k A c xs)
    (u : Int) (g : Nat) (hx : a.eval x = .slice (some ⟨g, 0, none⟩) 1 1) (hcell : W.cell? ⟨g, 0, none⟩ = some (.int k u))
    (hn : (m + 1) * bytes ≤ 140737488355328) (hbase : base ≤ W.heap.size)
    (h : ∀ A' c' w', Ow w' base e k A' c' (xs ++ [u]) → Below base W w' → Aside W w' A A' → K (a.put o.dst (.slice A' (m + 1) c')) w') :
    if Region.wanted o (yielded ops a.tmps) = true then Oper.wp P o a W K Q else N := by
  have hw : Region.wanted o (yielded ops a.tmps) = true := by simp [Region.wanted, hgd]
  rw [if_pos hw]
  exact wp_app1_at E W s x ho base k A c m xs hm hs hown u g hx hcell hn hbase h
end
/-- Four rows that grow. -/
structure L4 (base : Nat) (W : World) (A1 : Option Addr) (c1 : Nat) (X1 : List Int) (A2 : Option Addr) (c2 : Nat) (X2 : List Int) (A3 : Option Addr) (c3 : Nat) (X3 : List Int) (A4 : Option Addr) (c4 : Nat) (X4 : List Int) : Prop where
  o1 : Ow W base 41 .i16 A1 c1 X1
  o2 : Ow W base 41 .i16 A2 c2 X2
  o3 : Ow W base 41 .i16 A3 c3 X3
  o4 : Ow W base 41 .i16 A4 c4 X4
  p12 : Ap A1 A2
  p13 : Ap A1 A3
  p14 : Ap A1 A4
  p23 : Ap A2 A3
  p24 : Ap A2 A4
  p34 : Ap A3 A4
section
variable {base : Nat} {W W' : World} {A1 A2 A3 A4 : Option Addr} {c1 c2 c3 c4 : Nat} {X1 X2 X3 X4 : List Int}
theorem L4.rot (h : L4 base W A1 c1 X1 A2 c2 X2 A3 c3 X3 A4 c4 X4) : L4 base W A2 c2 X2 A3 c3 X3 A4 c4 X4 A1 c1 X1 :=
  ⟨h.o2, h.o3, h.o4, h.o1, h.p23, h.p24, h.p12.symm, h.p34, h.p13.symm, h.p14.symm⟩
theorem L4.go (h : L4 base W A1 c1 X1 A2 c2 X2 A3 c3 X3 A4 c4 X4) (hb : Below W.heap.size W W') : L4 base W' A1 c1 X1 A2 c2 X2 A3 c3 X3 A4 c4 X4 :=
  ⟨h.o1.below hb, h.o2.below hb, h.o3.below hb, h.o4.below hb, h.p12, h.p13, h.p14, h.p23, h.p24, h.p34⟩
theorem L4.step (h : L4 base W A1 c1 X1 A2 c2 X2 A3 c3 X3 A4 c4 X4) {A' : Option Addr} {c' : Nat} {X' : List Int} (o : Ow W' base 41 .i16 A' c' X') (s : Aside W W' A1 A') : L4 base W' A' c' X' A2 c2 X2 A3 c3 X3 A4 c4 X4 :=
  ⟨o, (s.keep h.o1.block h.o2 h.p12).1, (s.keep h.o1.block h.o3 h.p13).1, (s.keep h.o1.block h.o4 h.p14).1, (s.keep h.o1.block h.o2 h.p12).2, (s.keep h.o1.block h.o3 h.p13).2, (s.keep h.o1.block h.o4 h.p14).2, h.p23, h.p24, h.p34⟩
theorem L4.start (base : Nat) (W : World) : L4 base W none 0 [] none 0 [] none 0 [] none 0 [] :=
  ⟨Ow.nil _ _ _ _, Ow.nil _ _ _ _, Ow.nil _ _ _ _, Ow.nil _ _ _ _, Ap.nil _, Ap.nil _, Ap.nil _, Ap.nil _, Ap.nil _, Ap.nil _⟩
end
theorem rowOf_snoc (n : Nat) (f : Nat → Int) : rowOf n f ++ [f n] = rowOf (n + 1) f := by unfold rowOf; rw [List.range_succ, List.map_append]; rfl
/-- Two boxes, as the law makes them. -/
structure B2 (w : World) (bp bq n g1 g2 : Nat) (P Q : List Int) (X : World) : Prop where
  op : OctAt X bp n false (.slice (some ⟨g1, 0, none⟩) P.length P.length)
  oq : OctAt X bq n false (.slice (some ⟨g2, 0, none⟩) Q.length Q.length)
  ip : OctIn X X.heap.size (some ⟨g1, 0, none⟩) P.length n P
  iq : OctIn X X.heap.size (some ⟨g2, 0, none⟩) Q.length n Q
  below : Below w.heap.size w X
theorem B2.go {w X Y : World} {bp bq n g1 g2 : Nat} {P Q : List Int} (h : B2 w bp bq n g1 g2 P Q X) (hb : Below X.heap.size X Y) : B2 w bp bq n g1 g2 P Q Y :=
  ⟨h.op.below hb, h.oq.below hb, h.ip.go hb, h.iq.go hb, h.below.trans (hb.mono h.below.size)⟩
theorem B2.new {w w3 : World} {n g1 g2 : Nat} {P Q : List Int} (t : TypeId) (hB : Below w.heap.size w w3) (i1 : OctIn w3 w3.heap.size (some ⟨g1, 0, none⟩) P.length n P) (i2 : OctIn w3 w3.heap.size (some ⟨g2, 0, none⟩) Q.length n Q) :
    B2 w w3.heap.size (w3.heap.size + 1) n g1 g2 P Q ((w3.alloc (.cells #[.int .i64 n, .bool false, .slice (some ⟨g1, 0, none⟩) P.length P.length] t)).alloc (.cells #[.int .i64 n, .bool false, .slice (some ⟨g2, 0, none⟩) Q.length Q.length] t)) := by
  obtain ⟨W1, h1⟩ : ∃ W, W = w3.alloc (.cells #[.int .i64 n, .bool false, .slice (some ⟨g1, 0, none⟩) P.length P.length] t) := ⟨_, rfl⟩
  obtain ⟨W2, h2⟩ : ∃ W, W = W1.alloc (.cells #[.int .i64 n, .bool false, .slice (some ⟨g2, 0, none⟩) Q.length Q.length] t) := ⟨_, rfl⟩
  rw [← h1, ← h2]
  have b1 : Below w3.heap.size w3 W1 := by rw [h1]; exact (Below.refl _ _).alloc (Nat.le_refl _) _
  have b2 : Below W1.heap.size W1 W2 := by rw [h2]; exact (Below.refl _ _).alloc (Nat.le_refl _) _
  have s1 : W1.heap.size = w3.heap.size + 1 := by rw [h1]; simp
  have o1 : OctAt W1 w3.heap.size n false (.slice (some ⟨g1, 0, none⟩) P.length P.length) := by rw [h1]; exact OctAt.box _ _ _ _ _
  have o2 : OctAt W2 W1.heap.size n false (.slice (some ⟨g2, 0, none⟩) Q.length Q.length) := by rw [h2]; exact OctAt.box _ _ _ _ _
  have q : Below w3.heap.size w3 W2 := b1.trans (b2.mono (by omega))
  exact ⟨o1.below b2, s1 ▸ o2, i1.go q, i2.go q, hB.trans (q.mono hB.size)⟩
set_option maxRecDepth 100000 in
set_option maxHeartbeats 16000000 in
theorem law_OrderBoxes (A0 A1 A2 A3 : Option Addr) (c0 c1 c2 c3 : Nat) (a b c d : List Int) (w : World) (h0 : Rd w w.heap.size .i16 A0 a.length (nth a)) (h1 : Rd w w.heap.size .i16 A1 b.length (nth b)) (h2 : Rd w w.heap.size .i16 A2 c.length (nth c)) (h3 : Rd w w.heap.size .i16 A3 d.length (nth d))
    (sa : ∀ v, small (nth a v)) (sb : ∀ v, small (nth b v)) (sc : ∀ v, small (nth c v)) (sd : ∀ v, small (nth d v))
    (m0 : (a.length : Int) ≤ 9223372036854775807) (m1 : (b.length : Int) ≤ 9223372036854775807) (m2 : (c.length : Int) ≤ 9223372036854775807) (m3 : (d.length : Int) ≤ 9223372036854775807) :
    Calls Try.prog 5 #[.slice A0 a.length c0, .slice A1 b.length c1, .slice A2 c.length c2, .slice A3 d.length c3] w fun e w' => e = .returned (.bool true) ∧ Below w.heap.size w w' := by
  have cK := known14 w
  go_enter Try.func5, Try.ntmps5
  have H0 := Lib.hid h0
  have H1 := Lib.hid h1
  have H2 := Lib.hid h2
  have H3 := Lib.hid h3
  have SA := Lib.hid sa
  have SB := Lib.hid sb
  have SC := Lib.hid sc
  have SD := Lib.hid sd
  clear h0 h1 h2 h3 sa sb sc sd
  go_wp2_with fail
  with_reducible refine cK.mono ?_
  clear cK
  rintro e w1 ⟨rfl, hB1⟩
  by_cases hn : (5 : Int) < a.length
  · have q : decide ((a.length : Int) > 5) = true := decide_eq_true hn
    go_wp2_with fail
    go_ret
    exact ⟨rfl, hB1⟩
  have q0 : decide ((a.length : Int) > 5) = false := decide_eq_false hn
  by_cases e1 : (b.length : Int) = a.length
  rotate_left
  · have q1 : ((b.length : Int) != (a.length : Int)) = true := bne_iff_ne.2 e1
    clear e1
    go_wp2_with fail
    go_ret
    exact ⟨rfl, hB1⟩
  have q1 : ((b.length : Int) != (a.length : Int)) = false := bne_eq_false_iff_eq.2 e1
  by_cases e2 : (c.length : Int) = a.length
  rotate_left
  · have q2 : ((c.length : Int) != (a.length : Int)) = true := bne_iff_ne.2 e2
    have E1 := Lib.hid e1
    clear e2 e1
    go_wp2_with fail
    go_ret
    exact ⟨rfl, hB1⟩
  have q2 : ((c.length : Int) != (a.length : Int)) = false := bne_eq_false_iff_eq.2 e2
  by_cases e3 : (d.length : Int) = a.length
  rotate_left
  · have q3 : ((d.length : Int) != (a.length : Int)) = true := bne_iff_ne.2 e3
    have E1 := Lib.hid e1
    have E2 := Lib.hid e2
    clear e3 e2 e1
    go_wp2_with fail
    go_ret
    exact ⟨rfl, hB1⟩
  have q3 : ((d.length : Int) != (a.length : Int)) = false := bne_eq_false_iff_eq.2 e3
  clear q0 q1 q2 q3
  have h0 := H0.out
  have h1 := H1.out
  have h2 := H2.out
  have h3 := H3.out
  rw [show b.length = a.length by omega] at h1 ⊢
  rw [show c.length = a.length by omega] at h2 ⊢
  rw [show d.length = a.length by omega] at h3 ⊢
  have hn5 : a.length ≤ 5 := by omega
  clear H0 H1 H2 H3 hn e1 e2 e3 m0 m1 m2 m3
  generalize a.length = n at *
  have hn' : ¬ (5 : Int) < (n : Int) := by omega
  have q0 : decide ((n : Int) > 5) = false := decide_eq_false hn'
  have q1 : ((n : Int) != (n : Int)) = false := bne_self_eq_false _
  obtain ⟨P, hP⟩ : ∃ P, P = boxM n a b n := ⟨_, rfl⟩
  obtain ⟨Q, hQ⟩ : ∃ Q, Q = boxM n c d n := ⟨_, rfl⟩
  have cB1 := fun (X : World) (hX : Below w.heap.size w X) => law_box A0 A1 c0 c1 n a b X ((h0.below hX).more hX.size) ((h1.below hX).more hX.size) SA.out SB.out (by omega)
  have cB2 := fun (X : World) (hX : Below w.heap.size w X) => law_box A2 A3 c2 c3 n c d X ((h2.below hX).more hX.size) ((h3.below hX).more hX.size) SC.out SD.out (by omega)
  rw [← hP] at cB1
  rw [← hQ] at cB2
  have kP : chk n false P = 0 := by rw [hP]; exact box_chk (by omega) SA.out SB.out
  have kQ : chk n false Q = 0 := by rw [hQ]; exact box_chk (by omega) SC.out SD.out
  have lP := chk_len2 kP
  have lQ := chk_len2 kQ
  have hp0 := pairP_ok kP kQ
  obtain ⟨r, hr⟩ : ∃ r, (decide ((0 : Int) = 0) && entP n false P false Q) = r := ⟨_, rfl⟩
  obtain ⟨Rm, hRm⟩ : ∃ R, meetE n false P false Q 0 = R := ⟨_, rfl⟩
  obtain ⟨Rj, hRj⟩ : ∃ R, joinE n false P false Q 0 = R := ⟨_, rfl⟩
  have cE := fun (X : World) (bp bq g1 g2 : Nat) (h : B2 w bp bq n g1 g2 P Q X) => order_Entails n false (some ⟨g1, 0, none⟩) P.length P n false (some ⟨g2, 0, none⟩) Q.length Q X h.ip h.iq (by omega) 0 hp0 r hr
  have cM := fun (X : World) (bp bq g1 g2 : Nat) (h : B2 w bp bq n g1 g2 P Q X) => order_Meet n false (some ⟨g1, 0, none⟩) P.length P n false (some ⟨g2, 0, none⟩) Q.length Q X h.ip h.iq (by omega) 0 hp0 Rm hRm
  have cJ := fun (X : World) (bp bq g1 g2 : Nat) (h : B2 w bp bq n g1 g2 P Q X) => order_Join n false (some ⟨g1, 0, none⟩) P.length P n false (some ⟨g2, 0, none⟩) Q.length Q X h.ip h.iq (by omega) (by omega) 0 hp0 Rj hRj
  unfold TellsE at cM cJ
  have hE : Hid (r = (boxE a b n || (wthn a b c d n && !boxE c d n))) := Lib.hid (by rw [← hr, hP, hQ, box_ent (by omega) SA.out SB.out SC.out SD.out]; rfl)
  obtain ⟨Nm, Em, Mm⟩ := Rm
  obtain ⟨Nj, Ej, Mj⟩ := Rj
  have hM := box_meet (n := n) (by omega) SA.out SB.out SC.out SD.out _ _ rfl rfl Nm Em Mm (by rw [← hRm, hP, hQ]; rfl)
  have hJ : Hid (boxE a b n = false → boxE c d n = false → _) := Lib.hid (fun e1 e2 => box_join (n := n) (by omega) SA.out SB.out SC.out SD.out _ _ rfl rfl e1 e2 Nj Ej Mj (by rw [← hRj, hP, hQ]; rfl))
  have HM := Lib.hid hM
  have iP : ∀ v ∈ P, I64 v := chk_ints kP
  have iQ : ∀ v ∈ Q, I64 v := chk_ints kQ
  have HIP := Lib.hid iP
  have HIQ := Lib.hid iQ
  clear hr hRm hRj hp0 lP lQ kP kQ hP hQ hM iP iQ
  dsimp only at cM cJ
  go_wp2_with fail
  with_reducible refine (cB1 _ hB1).mono ?_
  clear cB1
  rintro e w2 ⟨g1, L1, rfl, rfl, ho1, hb2⟩
  have hB2 := hB1.trans (hb2.mono hB1.size)
  have i1 := ho1.oct (N := (n : Int)) (by unfold I64; omega) HIP.out
  clear hB1 hb2 ho1
  go_wp2_with fail
  with_reducible refine (cB2 _ hB2).mono ?_
  clear cB2
  rintro e w3 ⟨g2, L2, rfl, rfl, ho2, hb3⟩
  have hB3 := hB2.trans (hb3.mono hB2.size)
  have i2 := ho2.oct (N := (n : Int)) (by unfold I64; omega) HIQ.out
  replace i1 := i1.go hb3
  clear hB2 hb3 ho2 HIP HIQ
  have B := B2.new 24 hB3 i1 i2
  clear i1 i2
  go_upto_region 7 with fail
  generalize ((w3.alloc (.cells #[.int .i64 n, .bool false, .slice (some ⟨g1, 0, none⟩) P.length P.length] 24)).alloc (.cells #[.int .i64 n, .bool false, .slice (some ⟨g2, 0, none⟩) Q.length Q.length] 24)) = w4 at *
  generalize w3.heap.size + 1 = bq at *
  generalize w3.heap.size = bp at *
  clear w3 w2 w1 hB3
  obtain ⟨k0, k1, k2⟩ := id B.op
  obtain ⟨l0, l1, l2⟩ := id B.oq
  go_wp2_with fail
  with_reducible refine (cE _ _ _ _ _ B).mono ?_
  clear cE k0 k1 k2 l0 l1 l2
  rintro e w5 ⟨rfl, hb⟩
  replace B := B.go hb
  clear hb
  obtain ⟨k0, k1, k2⟩ := id B.op
  obtain ⟨l0, l1, l2⟩ := id B.oq
  go_wp2_with fail
  with_reducible refine (cM _ _ _ _ _ B).mono ?_
  clear cM k0 k1 k2 l0 l1 l2
  rintro e w6 ⟨Am, cm, rfl, hoM, hb⟩
  replace B := B.go hb
  have rm := hoM.rd
  clear hb hoM
  obtain ⟨w7, hw7⟩ : ∃ X, X = w6.alloc (.cells #[.int .i64 Nm, .bool Em, .slice Am Mm.length cm] 24) := ⟨_, rfl⟩
  have hm : OctAt w7 w6.heap.size Nm Em (.slice Am Mm.length cm) := by rw [hw7]; exact OctAt.box _ _ _ _ _
  have hb7 : Below w6.heap.size w6 w7 := by rw [hw7]; exact (Below.refl _ _).alloc (Nat.le_refl _) _
  replace rm := (rm.below hb7).more hb7.size
  replace B := B.go hb7
  clear hb7
  go_upto_region 9 with fail
  rw [← hw7]
  clear hw7
  generalize w6.heap.size = bm at *
  clear w6
  obtain ⟨k0, k1, k2⟩ := id B.op
  obtain ⟨l0, l1, l2⟩ := id B.oq
  go_wp2_with fail
  with_reducible refine (cJ _ _ _ _ _ B).mono ?_
  clear cJ k0 k1 k2 l0 l1 l2
  rintro e w8 ⟨Aj, cj, rfl, hoJ, hb⟩
  have hB8 := (B.go hb).below
  have rj := hoJ.rd
  replace rm := (rm.below hb).more hb.size
  replace hm := hm.below hb
  clear hb hoJ B
  obtain ⟨w9, hw9⟩ : ∃ X, X = w8.alloc (.cells #[.int .i64 Nj, .bool Ej, .slice Aj Mj.length cj] 24) := ⟨_, rfl⟩
  have hj : OctAt w9 w8.heap.size Nj Ej (.slice Aj Mj.length cj) := by rw [hw9]; exact OctAt.box _ _ _ _ _
  have hb9 : Below w8.heap.size w8 w9 := by rw [hw9]; exact (Below.refl _ _).alloc (Nat.le_refl _) _
  replace rj := (rj.below hb9).more hb9.size
  replace rm := (rm.below hb9).more hb9.size
  replace hm := hm.below hb9
  have hB9 := hB8.trans (hb9.mono hB8.size)
  clear hb9 hB8
  go_upto_region 10 with fail
  rw [← hw9]
  clear hw9
  generalize w8.heap.size = bj at *
  clear w8
  have Hm := Lib.hid hm
  have Hj := Lib.hid hj
  have Rm := Lib.hid rm
  have Rj := Lib.hid rj
  have H0 := Lib.hid h0
  have H1 := Lib.hid h1
  have H2 := Lib.hid h2
  have H3 := Lib.hid h3
  have HB9 := Lib.hid hB9
  have hB9s := Lib.hid hB9.size
  clear hm hj rm rj h0 h1 h2 h3 hB9
  go_wp2_with fail
  go_loopw [18, 19, 20, 21, 22, 23] (fun s18 s19 s20 s21 s22 s23 wr => ∃ v : Nat, s23 = .int .i64 v ∧ v ≤ n ∧ s18 = .bool (wthn a b c d v) ∧ ∃ B1 d1 B2 d2 B3 d3 B4 d4, s19 = .slice B1 v d1 ∧ s20 = .slice B2 v d2 ∧ s21 = .slice B3 v d3 ∧ s22 = .slice B4 v d4 ∧
      L4 w9.heap.size wr B1 d1 (rowOf v fun i => max (nth a i) (nth c i)) B2 d2 (rowOf v fun i => min (nth b i) (nth d i)) B3 d3 (rowOf v fun i => min (nth a i) (nth c i)) B4 d4 (rowOf v fun i => max (nth b i) (nth d i)) ∧ Below w9.heap.size w9 wr) (fun _ _ _ _ _ s _ => n - (intOf s).toNat)
  case atStart => exact ⟨0, rfl, by omega, rfl, none, 0, none, 0, none, 0, none, 0, rfl, rfl, rfl, rfl, L4.start _ _, Below.refl _ _⟩
  case round =>
    obtain ⟨v, rfl, hv, rfl, B1, d1, B2, d2, B3, d3, B4, d4, rfl, rfl, rfl, rfl, L, hB⟩ := hrel
    rcases Nat.lt_or_ge v n with hlt | hge
    · obtain ⟨ga, oa, rfl, ka⟩ := rd_later H0.out (by omega)
      obtain ⟨gb, ob, rfl, kb⟩ := rd_later H1.out (by omega)
      obtain ⟨gc, oc, rfl, kc⟩ := rd_later H2.out (by omega)
      obtain ⟨gd, od, rfl, kd⟩ := rd_later H3.out (by omega)
      have KA : Hid (∀ W : World, Below w9.heap.size w9 W → W.cell? ⟨ga, oa + v, none⟩ = some (.int .i16 (nth a v))) := Lib.hid (fun W hb => ka v hlt W (HB9.out.trans (hb.mono hB9s.out)))
      have KB : Hid (∀ W : World, Below w9.heap.size w9 W → W.cell? ⟨gb, ob + v, none⟩ = some (.int .i16 (nth b v))) := Lib.hid (fun W hb => kb v hlt W (HB9.out.trans (hb.mono hB9s.out)))
      have KC : Hid (∀ W : World, Below w9.heap.size w9 W → W.cell? ⟨gc, oc + v, none⟩ = some (.int .i16 (nth c v))) := Lib.hid (fun W hb => kc v hlt W (HB9.out.trans (hb.mono hB9s.out)))
      have KD : Hid (∀ W : World, Below w9.heap.size w9 W → W.cell? ⟨gd, od + v, none⟩ = some (.int .i16 (nth d v))) := Lib.hid (fun W hb => kd v hlt W (HB9.out.trans (hb.mono hB9s.out)))
      have HW := Lib.hid (show ((wthn a b c d v && decide (nth c v ≤ nth a v)) && decide (nth b v ≤ nth d v)) = wthn a b c d (v + 1) from rfl)
      have S1 := Lib.hid (rowOf_snoc v fun i => max (nth a i) (nth c i))
      have S2 := Lib.hid (rowOf_snoc v fun i => min (nth b i) (nth d i))
      have S3 := Lib.hid (rowOf_snoc v fun i => min (nth a i) (nth c i))
      have S4 := Lib.hid (rowOf_snoc v fun i => max (nth b i) (nth d i))
      clear ka kb kc kd
      generalize wthn a b c d v = wt at *
      obtain ⟨wt', hwt⟩ : ∃ x, x = wthn a b c d (v + 1) := ⟨_, rfl⟩
      rw [← hwt] at HW
      have HWT := Lib.hid hwt
      clear hwt
      generalize nth a v = xa at *
      generalize nth b v = xb at *
      generalize nth c v = xc at *
      generalize nth d v = xd at *
      have q2 : (v : Int) < (n : Int) := by omega
      have hsz : (v + 1) * 2 ≤ 140737488355328 := by omega
      go_upto_region 17 with fail
      go_cut [18] (fun s18 wx => s18 = .bool wt' ∧ Below wr.heap.size wr wx)
      case first =>
        as_aux_lemma =>
          have a0 := After.cell (KA.out _ hB)
          have a1 := After.cell (KB.out _ hB)
          have a2 := After.cell (KC.out _ hB)
          have a3 := After.cell (KD.out _ hB)
          rcases wt with _ | _
          · refine wp_region_after (by kernel_rfl) (by kernel_rfl) ?_
            repeat (go_big_quiet_step (fail))
            refine wpQuiet_nil ?_
            intro w20 hb
            have hend := Lib.hid hb
            go_wp2_with fail
            go_meet
            exact ⟨by rw [← HW.out]; rfl, hend.out⟩
          · rcases e1 : (decide (xc ≤ xa)) with _ | _
            · refine wp_region_after (by kernel_rfl) (by kernel_rfl) ?_
              repeat (go_big_quiet_step (fail))
              refine wpQuiet_nil ?_
              intro w20 hb
              have hend := Lib.hid hb
              go_wp2_with fail
              go_meet
              exact ⟨by rw [← HW.out, e1]; rfl, hend.out⟩
            · rcases e2 : (decide (xb ≤ xd)) with _ | _
              all_goals
                refine wp_region_after (by kernel_rfl) (by kernel_rfl) ?_
                repeat (go_big_quiet_step (fail))
                refine wpQuiet_nil ?_
                intro w20 hb
                have hend := Lib.hid hb
                go_wp2_with fail
                go_meet
                exact ⟨by rw [← HW.out, e1, e2]; rfl, hend.out⟩
      case rest =>
        obtain ⟨rfl, hb⟩ := hcut
        replace L := L.go hb
        replace hB := hB.trans (hb.mono hB.size)
        clear hb HW
        obtain ⟨Y0, hYY⟩ : ∃ Y, Y = wc := ⟨_, rfl⟩
        subst hYY
        go_upto_region 18 with fail
        go_cut [19] (fun s wx => ∃ A e, s = .slice A (v + 1) e ∧ L4 w9.heap.size wx A e (rowOf (v + 1) fun i => max (nth a i) (nth c i)) B2 d2 (rowOf v fun i => min (nth b i) (nth d i)) B3 d3 (rowOf v fun i => min (nth a i) (nth c i)) B4 d4 (rowOf v fun i => max (nth b i) (nth d i)) ∧ Below w9.heap.size w9 wx)
        case first =>
          as_aux_lemma =>
            have m0 := KA.out _ hB
            have m1 := KC.out _ hB
            by_cases hc : xc > xa
            · have HV := Lib.hid (show max xa xc = xc by omega)
              have L2 := L.o1
              have hBa := (hB.alloc hB.size (.cells #[.int .i16 xc] 41)).drew
              have hnew : ((Y0.alloc (.cells #[.int .i16 xc] 41)).drew).cell? ⟨Y0.heap.size, 0, none⟩ = some (.int .i16 xc) := by simp [World.cell?_alloc_new]
              have hbs := hBa.size
              go_region_held3 (fun X => X.cell? ⟨ga, oa + v, none⟩ = some (.int .i16 xa) ∧ X.cell? ⟨gc, oc + v, none⟩ = some (.int .i16 xc)) (first | exact ⟨m0, m1⟩ | exact ⟨KA.out _ (hBa.trans hb), KC.out _ (hBa.trans hb)⟩ | go_keep) ((refine step_app1_at Try.elI16 ((Y0.alloc (.cells #[.int .i16 xc] 41)).drew) rfl (.tmp 113) (.tmp 123) rfl w9.heap.size .i16 B1 d1 v _ (rowOf_len _ _) (by rfl) (L2.alloc _).drew xc Y0.heap.size (by rfl) hnew hsz hbs ?_; intro A e w21 ho hb hs))
              rw [show (rowOf v fun i => max (nth a i) (nth c i)) ++ [xc] = rowOf (v + 1) fun i => max (nth a i) (nth c i) by rw [← S1.out, HV.out]] at ho
              have L3 := (L.go (((Below.refl Y0.heap.size Y0).alloc (Nat.le_refl _) (.cells #[.int .i16 xc] 41)).drew)).step ho hs
              have hB3 := hBa.trans hb
              clear L2 hnew hBa hbs ho hb hs hB HV m0 m1 L
              go_wp2_with fail
              go_meet
              exact ⟨_, _, rfl, L3, hB3⟩
            · have HV := Lib.hid (show max xa xc = xa by omega)
              have L2 := L.o1
              have hBa := (hB.alloc hB.size (.cells #[.int .i16 xa] 41)).drew
              have hnew : ((Y0.alloc (.cells #[.int .i16 xa] 41)).drew).cell? ⟨Y0.heap.size, 0, none⟩ = some (.int .i16 xa) := by simp [World.cell?_alloc_new]
              have hbs := hBa.size
              go_region_held3 (fun X => X.cell? ⟨ga, oa + v, none⟩ = some (.int .i16 xa) ∧ X.cell? ⟨gc, oc + v, none⟩ = some (.int .i16 xc)) (first | exact ⟨m0, m1⟩ | exact ⟨KA.out _ (hBa.trans hb), KC.out _ (hBa.trans hb)⟩ | go_keep) ((refine step_app1_at Try.elI16 ((Y0.alloc (.cells #[.int .i16 xa] 41)).drew) rfl (.tmp 113) (.tmp 123) rfl w9.heap.size .i16 B1 d1 v _ (rowOf_len _ _) (by rfl) (L2.alloc _).drew xa Y0.heap.size (by rfl) hnew hsz hbs ?_; intro A e w21 ho hb hs))
              rw [show (rowOf v fun i => max (nth a i) (nth c i)) ++ [xa] = rowOf (v + 1) fun i => max (nth a i) (nth c i) by rw [← S1.out, HV.out]] at ho
              have L3 := (L.go (((Below.refl Y0.heap.size Y0).alloc (Nat.le_refl _) (.cells #[.int .i16 xa] 41)).drew)).step ho hs
              have hB3 := hBa.trans hb
              clear L2 hnew hBa hbs ho hb hs hB HV m0 m1 L
              go_wp2_with fail
              go_meet
              exact ⟨_, _, rfl, L3, hB3⟩
        case rest =>
          clear L hB
          obtain ⟨B1, d1, rfl, L, hB⟩ := hcut
          replace L := L.rot
          clear S1
          obtain ⟨Y1, hYY⟩ : ∃ Y, Y = wc := ⟨_, rfl⟩
          subst hYY
          go_upto_region 19 with fail
          go_cut [20] (fun s wx => ∃ A e, s = .slice A (v + 1) e ∧ L4 w9.heap.size wx A e (rowOf (v + 1) fun i => min (nth b i) (nth d i)) B3 d3 (rowOf v fun i => min (nth a i) (nth c i)) B4 d4 (rowOf v fun i => max (nth b i) (nth d i)) B1 d1 (rowOf (v + 1) fun i => max (nth a i) (nth c i)) ∧ Below w9.heap.size w9 wx)
          case first =>
            as_aux_lemma =>
              have m0 := KB.out _ hB
              have m1 := KD.out _ hB
              by_cases hc : xd < xb
              · have HV := Lib.hid (show min xb xd = xd by omega)
                have L2 := L.o1
                have hBa := (hB.alloc hB.size (.cells #[.int .i16 xd] 41)).drew
                have hnew : ((Y1.alloc (.cells #[.int .i16 xd] 41)).drew).cell? ⟨Y1.heap.size, 0, none⟩ = some (.int .i16 xd) := by simp [World.cell?_alloc_new]
                have hbs := hBa.size
                go_region_held3 (fun X => X.cell? ⟨gb, ob + v, none⟩ = some (.int .i16 xb) ∧ X.cell? ⟨gd, od + v, none⟩ = some (.int .i16 xd)) (first | exact ⟨m0, m1⟩ | exact ⟨KB.out _ (hBa.trans hb), KD.out _ (hBa.trans hb)⟩ | go_keep) ((refine step_app1_at Try.elI16 ((Y1.alloc (.cells #[.int .i16 xd] 41)).drew) rfl (.tmp 125) (.tmp 135) rfl w9.heap.size .i16 B2 d2 v _ (rowOf_len _ _) (by rfl) (L2.alloc _).drew xd Y1.heap.size (by rfl) hnew hsz hbs ?_; intro A e w21 ho hb hs))
                rw [show (rowOf v fun i => min (nth b i) (nth d i)) ++ [xd] = rowOf (v + 1) fun i => min (nth b i) (nth d i) by rw [← S2.out, HV.out]] at ho
                have L3 := (L.go (((Below.refl Y1.heap.size Y1).alloc (Nat.le_refl _) (.cells #[.int .i16 xd] 41)).drew)).step ho hs
                have hB3 := hBa.trans hb
                clear L2 hnew hBa hbs ho hb hs hB HV m0 m1 L
                go_wp2_with fail
                go_meet
                exact ⟨_, _, rfl, L3, hB3⟩
              · have HV := Lib.hid (show min xb xd = xb by omega)
                have L2 := L.o1
                have hBa := (hB.alloc hB.size (.cells #[.int .i16 xb] 41)).drew
                have hnew : ((Y1.alloc (.cells #[.int .i16 xb] 41)).drew).cell? ⟨Y1.heap.size, 0, none⟩ = some (.int .i16 xb) := by simp [World.cell?_alloc_new]
                have hbs := hBa.size
                go_region_held3 (fun X => X.cell? ⟨gb, ob + v, none⟩ = some (.int .i16 xb) ∧ X.cell? ⟨gd, od + v, none⟩ = some (.int .i16 xd)) (first | exact ⟨m0, m1⟩ | exact ⟨KB.out _ (hBa.trans hb), KD.out _ (hBa.trans hb)⟩ | go_keep) ((refine step_app1_at Try.elI16 ((Y1.alloc (.cells #[.int .i16 xb] 41)).drew) rfl (.tmp 125) (.tmp 135) rfl w9.heap.size .i16 B2 d2 v _ (rowOf_len _ _) (by rfl) (L2.alloc _).drew xb Y1.heap.size (by rfl) hnew hsz hbs ?_; intro A e w21 ho hb hs))
                rw [show (rowOf v fun i => min (nth b i) (nth d i)) ++ [xb] = rowOf (v + 1) fun i => min (nth b i) (nth d i) by rw [← S2.out, HV.out]] at ho
                have L3 := (L.go (((Below.refl Y1.heap.size Y1).alloc (Nat.le_refl _) (.cells #[.int .i16 xb] 41)).drew)).step ho hs
                have hB3 := hBa.trans hb
                clear L2 hnew hBa hbs ho hb hs hB HV m0 m1 L
                go_wp2_with fail
                go_meet
                exact ⟨_, _, rfl, L3, hB3⟩
          case rest =>
            clear L hB
            obtain ⟨B2, d2, rfl, L, hB⟩ := hcut
            replace L := L.rot
            clear S2
            obtain ⟨Y2, hYY⟩ : ∃ Y, Y = wc := ⟨_, rfl⟩
            subst hYY
            go_upto_region 20 with fail
            go_cut [21] (fun s wx => ∃ A e, s = .slice A (v + 1) e ∧ L4 w9.heap.size wx A e (rowOf (v + 1) fun i => min (nth a i) (nth c i)) B4 d4 (rowOf v fun i => max (nth b i) (nth d i)) B1 d1 (rowOf (v + 1) fun i => max (nth a i) (nth c i)) B2 d2 (rowOf (v + 1) fun i => min (nth b i) (nth d i)) ∧ Below w9.heap.size w9 wx)
            case first =>
              as_aux_lemma =>
                have m0 := KA.out _ hB
                have m1 := KC.out _ hB
                by_cases hc : xc < xa
                · have HV := Lib.hid (show min xa xc = xc by omega)
                  have L2 := L.o1
                  have hBa := (hB.alloc hB.size (.cells #[.int .i16 xc] 41)).drew
                  have hnew : ((Y2.alloc (.cells #[.int .i16 xc] 41)).drew).cell? ⟨Y2.heap.size, 0, none⟩ = some (.int .i16 xc) := by simp [World.cell?_alloc_new]
                  have hbs := hBa.size
                  go_region_held3 (fun X => X.cell? ⟨ga, oa + v, none⟩ = some (.int .i16 xa) ∧ X.cell? ⟨gc, oc + v, none⟩ = some (.int .i16 xc)) (first | exact ⟨m0, m1⟩ | exact ⟨KA.out _ (hBa.trans hb), KC.out _ (hBa.trans hb)⟩ | go_keep) ((refine step_app1_at Try.elI16 ((Y2.alloc (.cells #[.int .i16 xc] 41)).drew) rfl (.tmp 137) (.tmp 147) rfl w9.heap.size .i16 B3 d3 v _ (rowOf_len _ _) (by rfl) (L2.alloc _).drew xc Y2.heap.size (by rfl) hnew hsz hbs ?_; intro A e w21 ho hb hs))
                  rw [show (rowOf v fun i => min (nth a i) (nth c i)) ++ [xc] = rowOf (v + 1) fun i => min (nth a i) (nth c i) by rw [← S3.out, HV.out]] at ho
                  have L3 := (L.go (((Below.refl Y2.heap.size Y2).alloc (Nat.le_refl _) (.cells #[.int .i16 xc] 41)).drew)).step ho hs
                  have hB3 := hBa.trans hb
                  clear L2 hnew hBa hbs ho hb hs hB HV m0 m1 L
                  go_wp2_with fail
                  go_meet
                  exact ⟨_, _, rfl, L3, hB3⟩
                · have HV := Lib.hid (show min xa xc = xa by omega)
                  have L2 := L.o1
                  have hBa := (hB.alloc hB.size (.cells #[.int .i16 xa] 41)).drew
                  have hnew : ((Y2.alloc (.cells #[.int .i16 xa] 41)).drew).cell? ⟨Y2.heap.size, 0, none⟩ = some (.int .i16 xa) := by simp [World.cell?_alloc_new]
                  have hbs := hBa.size
                  go_region_held3 (fun X => X.cell? ⟨ga, oa + v, none⟩ = some (.int .i16 xa) ∧ X.cell? ⟨gc, oc + v, none⟩ = some (.int .i16 xc)) (first | exact ⟨m0, m1⟩ | exact ⟨KA.out _ (hBa.trans hb), KC.out _ (hBa.trans hb)⟩ | go_keep) ((refine step_app1_at Try.elI16 ((Y2.alloc (.cells #[.int .i16 xa] 41)).drew) rfl (.tmp 137) (.tmp 147) rfl w9.heap.size .i16 B3 d3 v _ (rowOf_len _ _) (by rfl) (L2.alloc _).drew xa Y2.heap.size (by rfl) hnew hsz hbs ?_; intro A e w21 ho hb hs))
                  rw [show (rowOf v fun i => min (nth a i) (nth c i)) ++ [xa] = rowOf (v + 1) fun i => min (nth a i) (nth c i) by rw [← S3.out, HV.out]] at ho
                  have L3 := (L.go (((Below.refl Y2.heap.size Y2).alloc (Nat.le_refl _) (.cells #[.int .i16 xa] 41)).drew)).step ho hs
                  have hB3 := hBa.trans hb
                  clear L2 hnew hBa hbs ho hb hs hB HV m0 m1 L
                  go_wp2_with fail
                  go_meet
                  exact ⟨_, _, rfl, L3, hB3⟩
            case rest =>
              clear L hB
              obtain ⟨B3, d3, rfl, L, hB⟩ := hcut
              replace L := L.rot
              clear S3
              obtain ⟨Y3, hYY⟩ : ∃ Y, Y = wc := ⟨_, rfl⟩
              subst hYY
              go_upto_region 21 with fail
              have m0 := KB.out _ hB
              have m1 := KD.out _ hB
              by_cases hc : xd > xb
              · have HV := Lib.hid (show max xb xd = xd by omega)
                have L2 := L.o1
                have hBa := (hB.alloc hB.size (.cells #[.int .i16 xd] 41)).drew
                have hnew : ((Y3.alloc (.cells #[.int .i16 xd] 41)).drew).cell? ⟨Y3.heap.size, 0, none⟩ = some (.int .i16 xd) := by simp [World.cell?_alloc_new]
                have hbs := hBa.size
                go_region_held3 (fun X => X.cell? ⟨gb, ob + v, none⟩ = some (.int .i16 xb) ∧ X.cell? ⟨gd, od + v, none⟩ = some (.int .i16 xd)) (first | exact ⟨m0, m1⟩ | exact ⟨KB.out _ (hBa.trans hb), KD.out _ (hBa.trans hb)⟩ | go_keep) ((refine step_app1_at Try.elI16 ((Y3.alloc (.cells #[.int .i16 xd] 41)).drew) rfl (.tmp 149) (.tmp 159) rfl w9.heap.size .i16 B4 d4 v _ (rowOf_len _ _) (by rfl) (L2.alloc _).drew xd Y3.heap.size (by rfl) hnew hsz hbs ?_; intro A e w21 ho hb hs))
                rw [show (rowOf v fun i => max (nth b i) (nth d i)) ++ [xd] = rowOf (v + 1) fun i => max (nth b i) (nth d i) by rw [← S4.out, HV.out]] at ho
                have L3 := (L.go (((Below.refl Y3.heap.size Y3).alloc (Nat.le_refl _) (.cells #[.int .i16 xd] 41)).drew)).step ho hs
                have hB3 := hBa.trans hb
                clear L2 hnew hBa hbs ho hb hs hB HV m0 m1 L
                go_wp2_with fail
                go_roundw
                case rel => exact ⟨v + 1, by go_num, by omega, by rw [HWT.out], B1, d1, B2, d2, B3, d3, A, e, rfl, rfl, rfl, rfl, L3.rot, hB3⟩
                case measure => simp [intOf]; omega
              · have HV := Lib.hid (show max xb xd = xb by omega)
                have L2 := L.o1
                have hBa := (hB.alloc hB.size (.cells #[.int .i16 xb] 41)).drew
                have hnew : ((Y3.alloc (.cells #[.int .i16 xb] 41)).drew).cell? ⟨Y3.heap.size, 0, none⟩ = some (.int .i16 xb) := by simp [World.cell?_alloc_new]
                have hbs := hBa.size
                go_region_held3 (fun X => X.cell? ⟨gb, ob + v, none⟩ = some (.int .i16 xb) ∧ X.cell? ⟨gd, od + v, none⟩ = some (.int .i16 xd)) (first | exact ⟨m0, m1⟩ | exact ⟨KB.out _ (hBa.trans hb), KD.out _ (hBa.trans hb)⟩ | go_keep) ((refine step_app1_at Try.elI16 ((Y3.alloc (.cells #[.int .i16 xb] 41)).drew) rfl (.tmp 149) (.tmp 159) rfl w9.heap.size .i16 B4 d4 v _ (rowOf_len _ _) (by rfl) (L2.alloc _).drew xb Y3.heap.size (by rfl) hnew hsz hbs ?_; intro A e w21 ho hb hs))
                rw [show (rowOf v fun i => max (nth b i) (nth d i)) ++ [xb] = rowOf (v + 1) fun i => max (nth b i) (nth d i) by rw [← S4.out, HV.out]] at ho
                have L3 := (L.go (((Below.refl Y3.heap.size Y3).alloc (Nat.le_refl _) (.cells #[.int .i16 xb] 41)).drew)).step ho hs
                have hB3 := hBa.trans hb
                clear L2 hnew hBa hbs ho hb hs hB HV m0 m1 L
                go_wp2_with fail
                go_roundw
                case rel => exact ⟨v + 1, by go_num, by omega, by rw [HWT.out], B1, d1, B2, d2, B3, d3, A, e, rfl, rfl, rfl, rfl, L3.rot, hB3⟩
                case measure => simp [intOf]; omega
    ·
      as_aux_lemma =>
        obtain rfl : n = v := by omega
        obtain ⟨na, hna⟩ : ∃ x, boxE a b n = x := ⟨_, rfl⟩
        obtain ⟨nc, hnc⟩ : ∃ x, boxE c d n = x := ⟨_, rfl⟩
        have hM := HM.out
        have hJJ := hJ.out
        have hr := hE.out
        rw [hna, hnc] at hr hJJ
        have sLo : ∀ v, small (nth (rowOf n fun i => max (nth a i) (nth c i)) v) := sm_nth_rowOf (fun v => small_max (SA.out v) (SC.out v))
        have sHi : ∀ v, small (nth (rowOf n fun i => min (nth b i) (nth d i)) v) := sm_nth_rowOf (fun v => small_min (SB.out v) (SD.out v))
        have sLe : ∀ v, small (nth (rowOf n fun i => min (nth a i) (nth c i)) v) := sm_nth_rowOf (fun v => small_min (SA.out v) (SC.out v))
        have sMo : ∀ v, small (nth (rowOf n fun i => max (nth b i) (nth d i)) v) := sm_nth_rowOf (fun v => small_max (SB.out v) (SD.out v))
        have l1 := rowOf_len n fun i => max (nth a i) (nth c i)
        have l2 := rowOf_len n fun i => min (nth b i) (nth d i)
        have l3 := rowOf_len n fun i => min (nth a i) (nth c i)
        have l4 := rowOf_len n fun i => max (nth b i) (nth d i)
        generalize (rowOf n fun i => max (nth a i) (nth c i)) = lo at *
        generalize (rowOf n fun i => min (nth b i) (nth d i)) = hi at *
        generalize (rowOf n fun i => min (nth a i) (nth c i)) = le at *
        generalize (rowOf n fun i => max (nth b i) (nth d i)) = mo at *
        have cN1 := fun (X : World) (hX : Below w9.heap.size w9 X) => law_none A0 A1 c0 c1 n a b X ((H0.out.below (HB9.out.trans (hX.mono hB9s.out))).more (HB9.out.trans (hX.mono hB9s.out)).size) ((H1.out.below (HB9.out.trans (hX.mono hB9s.out))).more (HB9.out.trans (hX.mono hB9s.out)).size) (by omega) na hna
        have cN2 := fun (X : World) (hX : Below w9.heap.size w9 X) => law_none A2 A3 c2 c3 n c d X ((H2.out.below (HB9.out.trans (hX.mono hB9s.out))).more (HB9.out.trans (hX.mono hB9s.out)).size) ((H3.out.below (HB9.out.trans (hX.mono hB9s.out))).more (HB9.out.trans (hX.mono hB9s.out)).size) (by omega) nc hnc
        have cN3 := fun (X : World) (h : L4 w9.heap.size X B1 d1 lo B2 d2 hi B3 d3 le B4 d4 mo) => law_none B1 B2 d1 d2 n lo hi X (l1 ▸ h.o1.rd) (l2 ▸ h.o2.rd) (by omega) Em hM.1.symm
        generalize wthn a b c d n = wt at *
        have HR := Lib.hid hr
        have HM2 := Lib.hid hM.2
        have HJ2 := Lib.hid hJJ
        have L1 := Lib.hid l1
        have L2 := Lib.hid l2
        have L3 := Lib.hid l3
        have L4' := Lib.hid l4
        have SLo := Lib.hid sLo
        have SHi := Lib.hid sHi
        have SLe := Lib.hid sLe
        have SMo := Lib.hid sMo
        clear hr hM hJJ l1 l2 l3 l4 sLo sHi sLe sMo hna hnc HM hJ hE SA SB SC SD H0 H1 H2 H3 hge hv
        go_upto_region 22 with fail
        go_cut [182] (fun s wx => s = .bool false ∧ Below wr.heap.size wr wx)
        case first =>
          as_aux_lemma =>
            obtain ⟨k0, k1, k2⟩ := id (Hm.out.below hB)
            have a1 := After.cell k1
            have n1 := fun x : After wr => cN1 x.w (hB.trans (x.below.mono hB.size))
            have n2 := fun x : After wr => cN2 x.w (hB.trans (x.below.mono hB.size))
            have n3 := fun x : After wr => cN3 x.w (L.go x.below)
            clear k0 k1 k2 cN1 cN2 cN3 HM2 HJ2
            rcases na with _ | _ <;> rcases wt with _ | _ <;> rcases nc with _ | _
            all_goals
              have hr := HR.out
              simp at hr
              subst hr
              refine wp_region_after (by kernel_rfl) (by kernel_rfl) ?_
              repeat (go_big_quiet_step (first | (go_at_call 27; with_reducible exact after_of (n1 _)) | (go_at_call 27; with_reducible exact after_of (n2 _)) | (go_at_call 27; with_reducible exact after_of (n3 _))))
              refine wpQuiet_nil ?_
              intro w20 hb
              have hend := Lib.hid hb
              go_wp2_with fail
              go_meet
              exact ⟨rfl, hend.out⟩
        case rest =>
          obtain ⟨rfl, hb⟩ := hcut
          replace L := L.go hb
          replace hB := hB.trans (hb.mono hB.size)
          clear hb HR cN3
          go_wp2_with fail
          with_reducible refine (cN1 _ hB).mono ?_
          clear cN1
          rintro e w24 ⟨rfl, hb⟩
          replace L := L.go hb
          replace hB := hB.trans (hb.mono hB.size)
          clear hb
          have hend := Lib.hid (HB9.out.trans (hB.mono hB9s.out))
          rcases na with _ | _
          rotate_left
          · go_wp2_with fail
            go_ret
            exact ⟨rfl, hend.out⟩
          clear hend
          go_wp2_with fail
          with_reducible refine (cN2 _ hB).mono ?_
          clear cN2
          rintro e w25 ⟨rfl, hb⟩
          replace L := L.go hb
          replace hB := hB.trans (hb.mono hB.size)
          clear hb
          have hend := Lib.hid (HB9.out.trans (hB.mono hB9s.out))
          rcases nc with _ | _
          rotate_left
          · go_wp2_with fail
            go_ret
            exact ⟨rfl, hend.out⟩
          clear hend
          have hJ := HJ2.out (by first | exact trivial | rfl) (by first | exact trivial | rfl)
          have HJ := Lib.hid hJ
          clear HJ2 hJ
          have HL := Lib.hid L
          have HB := Lib.hid hB
          clear L hB
          go_wp2_with fail
          go_loopw [24] (fun s wr => ∃ v : Nat, s = .int .i64 v ∧ v ≤ n ∧ Below w25.heap.size w25 wr) (fun s _ => n - (intOf s).toNat)
          case atStart => exact ⟨0, rfl, by omega, Below.refl _ _⟩
          case round =>
            obtain ⟨v, rfl, hv, hbw⟩ := hrel
            have L := HL.out.go hbw
            have hB := HB.out.trans (hbw.mono HB.out.size)
            rcases Nat.lt_or_ge v n with hlt | hge
            ·
              as_aux_lemma =>
                have hX : 2 * v * (2 * n) + (2 * v + 1) < (2 * n) * (2 * n) := idx_lt (by omega) (by omega)
                have hZ : (2 * v + 1) * (2 * n) + 2 * v < (2 * n) * (2 * n) := idx_lt (by omega) (by omega)
                have hq : (2 * n) * (2 * n) ≤ 10 * 10 := Nat.mul_le_mul (by omega) (by omega)
                have E1 : 2 * (v : Int) * 2 * (n : Int) = ((2 * v * (2 * n) : Nat) : Int) := by push_cast; rw [Int.mul_assoc (2 * (v : Int)) 2 n]
                have E2 : (2 * (v : Int) + 1) * 2 * (n : Int) = (((2 * v + 1) * (2 * n) : Nat) : Int) := by push_cast; rw [Int.mul_assoc (2 * (v : Int) + 1) 2 n]
                have hj1 := (HJ.out.2 v hlt).1
                have hj2 := (HJ.out.2 v hlt).2
                have hjl : Mj.length = (2 * n) * (2 * n) := HJ.out.1
                have hm0 := Lib.hid HM2.out
                have hmv : Hid (Em = false → Mm.length = (2 * n) * (2 * n) ∧ nth Mm (2 * v * (2 * n) + (2 * v + 1)) = 2 * nth hi v ∧ nth Mm ((2 * v + 1) * (2 * n) + 2 * v) = -2 * nth lo v) := Lib.hid (fun h => ⟨(HM2.out h).1, ((HM2.out h).2 v hlt).1, ((HM2.out h).2 v hlt).2⟩)
                clear hm0
                generalize 2 * v * (2 * n) = p at *
                generalize (2 * v + 1) * (2 * n) = q at *
                generalize (2 * n) * (2 * n) = Len at *
                have q2 : (v : Int) < (n : Int) := by omega
                have q3 : (v : Int) < 5 := by omega
                have q4 : (p : Int) ≤ 100 := by omega
                have q5 : (q : Int) ≤ 100 := by omega
                go_upto_region 29 with fail
                go_cut [25, 26] (fun s25 s26 wx => s25 = .int .i64 ((p : Int) + 2 * (v : Int) + 1) ∧ s26 = .int .i64 ((q : Int) + 2 * (v : Int)) ∧ wr = wx)
                case first =>
                  as_aux_lemma =>
                    clear L hB HL HB HJ HM2 hj1 hj2 hjl hmv
                    go_wp2_with fail
                    go_meet
                    exact ⟨rfl, rfl, rfl⟩
                case rest =>
                  obtain ⟨rfl, rfl, rfl⟩ := hcut
                  clear E1 E2
                  rw [show (p : Int) + 2 * (v : Int) + 1 = ((p + (2 * v + 1) : Nat) : Int) by omega, show (q : Int) + 2 * (v : Int) = ((q + 2 * v : Nat) : Int) by omega]
                  generalize p + (2 * v + 1) = X at *
                  generalize q + 2 * v = Z at *
                  clear q4 q5 p q
                  have s1 := SLo.out v
                  have s2 := SHi.out v
                  have s3 := SLe.out v
                  have s4 := SMo.out v
                  unfold small at s1 s2 s3 s4
                  obtain ⟨ga, oa, rfl, ka⟩ := rd_later L.o1.rd (by rw [L1.out]; omega)
                  obtain ⟨gb, ob, rfl, kb⟩ := rd_later L.o2.rd (by rw [L2.out]; omega)
                  obtain ⟨gc, oc, rfl, kc⟩ := rd_later L.o3.rd (by rw [L3.out]; omega)
                  obtain ⟨gd, od, rfl, kd⟩ := rd_later L.o4.rd (by rw [L4'.out]; omega)
                  obtain ⟨gj, oj, rfl, kj⟩ := rd_later Rj.out (by omega)
                  have KA := Lib.hid (ka v (by rw [L1.out]; omega))
                  have KB := Lib.hid (kb v (by rw [L2.out]; omega))
                  have kC := kc v (by rw [L3.out]; omega) _ (Below.refl _ _)
                  have kD := kd v (by rw [L4'.out]; omega) _ (Below.refl _ _)
                  have kX := kj X (by omega) _ hB
                  have kZ := kj Z (by omega) _ hB
                  rw [hj1] at kX
                  rw [hj2] at kZ
                  have qX : (X : Int) < (Mj.length : Int) := by omega
                  have qZ : (Z : Int) < (Mj.length : Int) := by omega
                  obtain ⟨k0, k1, k2⟩ := id (Hj.out.below hB)
                  have a2 := After.cell k2
                  have aC := After.cell kC
                  have aD := After.cell kD
                  have aX := After.cell kX
                  have aZ := After.cell kZ
                  have HBB := Lib.hid hB
                  have HX := Lib.hid hX
                  have HZ := Lib.hid hZ
                  clear ka kb kc kd kj kC kD kX kZ k0 k1 k2 hj1 hj2 hjl L hB HL HJ hX hZ hq
                  generalize nth lo v = xa at *
                  generalize nth hi v = xb at *
                  generalize nth le v = xc at *
                  generalize nth mo v = xd at *
                  go_upto_region 30 with fail
                  refine wp_region_after (by kernel_rfl) (by kernel_rfl) ?_
                  repeat (go_big_quiet_step (fail))
                  refine wpQuiet_nil ?_
                  intro w26 hb
                  have hbw2 := hbw.trans (hb.mono hbw.size)
                  have hB2 := HBB.out.trans (hb.mono HBB.out.size)
                  have kA := KA.out _ hb
                  have kB := KB.out _ hb
                  have HE := Lib.hid hbw2
                  clear a2 aC aD aX aZ hb hbw2 hbw
                  obtain ⟨k0, k1, k2⟩ := id (Hm.out.below hB2)
                  go_upto_region 32 with fail
                  rcases Em with _ | _
                  · obtain ⟨ml, m1, m2⟩ := hmv.out (by first | exact trivial | rfl)
                    obtain ⟨gm, om, rfl, km⟩ := rd_later Rm.out (by have := HX.out; omega)
                    have kX := km X (by have := HX.out; omega) _ hB2
                    have kZ := km Z (by have := HZ.out; omega) _ hB2
                    rw [m1] at kX
                    rw [m2] at kZ
                    have qX : (X : Int) < (Mm.length : Int) := by have := HX.out; omega
                    have qZ : (Z : Int) < (Mm.length : Int) := by have := HZ.out; omega
                    have a1 := After.cell k1
                    have a2 := After.cell k2
                    have aA := After.cell kA
                    have aB := After.cell kB
                    have aX := After.cell kX
                    have aZ := After.cell kZ
                    clear hmv km kX kZ m1 m2 ml kA kB k0 k1 k2 hB2
                    refine wp_region_after (by kernel_rfl) (by kernel_rfl) ?_
                    repeat (go_big_quiet_step (fail))
                    refine wpQuiet_nil ?_
                    intro w27 hb
                    have hend := Lib.hid (HE.out.trans (hb.mono HE.out.size))
                    go_wp2_with fail
                    go_roundw
                    case rel => exact ⟨v + 1, by go_num, by omega, hend.out⟩
                    case measure => simp [intOf]; omega
                  · have a1 := After.cell k1
                    clear hmv kA kB k0 k1 k2 hB2
                    refine wp_region_after (by kernel_rfl) (by kernel_rfl) ?_
                    repeat (go_big_quiet_step (fail))
                    refine wpQuiet_nil ?_
                    intro w27 hb
                    have hend := Lib.hid (HE.out.trans (hb.mono HE.out.size))
                    go_wp2_with fail
                    go_roundw
                    case rel => exact ⟨v + 1, by go_num, by omega, hend.out⟩
                    case measure => simp [intOf]; omega
            · obtain rfl : n = v := by omega
              have hend := Lib.hid (HB9.out.trans (hB.mono hB9s.out))
              clear L hB HL HB HJ HM2 hge hv
              go_wp2_with fail
              go_ret
              exact ⟨rfl, hend.out⟩
end Go.Proofs.Ytkogplnleiapfaa
