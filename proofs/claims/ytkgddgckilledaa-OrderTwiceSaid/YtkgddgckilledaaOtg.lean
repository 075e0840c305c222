/- Octagons in a row (a slice of structs); gnomonlaw14.calm. -/
import Derived.Test.YtkgddgckilledaaOrt
import Derived.Test.YtkgddgckilledaaRex
namespace Go.Proofs.Ytkgddgckilledaa
open Go.RowKit
set_option linter.unusedVariables false
set_option linter.unusedSimpArgs false
namespace Gn
/-- An octagon as a value. -/
structure OV where
  N : Int
  E : Bool
  A : Option Addr
  c : Nat
  M : List Int
def OV.val (o : OV) : Value := .agg #[.int .i64 o.N, .bool o.E, .slice o.A o.M.length o.c]
/-- Does nothing saturate? -/
def calmO (o : OV) : Bool := decide ((closeP o.N o.E o.M).2 = 0) && !(closeP o.N o.E o.M).1.2
def calmB (os : List OV) : Bool := os.all calmO
theorem calmB_no {os : List OV} {i : Nat} {o : OV} (h : os[i]? = some o) (hc : calmO o = false) : calmB os = false := by
  cases e : calmB os
  · rfl
  · have := List.all_eq_true.1 e o (List.mem_of_getElem? h)
    rw [hc] at this; cases this
theorem calmB_all {os : List OV} (h : ∀ (j : Nat) o, os[j]? = some o → calmO o = true) : calmB os = true :=
  List.all_eq_true.2 fun o ho => by
    obtain ⟨j, hj⟩ := List.mem_iff_getElem?.1 ho
    exact h j o hj
end Gn
open Gn
/-- An octagon in a variable. -/
structure Oc (w : World) (b : Nat) (o : OV) : Prop where
  at' : OctAt w b o.N o.E (.slice o.A o.M.length o.c)
  inn : OctIn w w.heap.size o.A o.c o.N o.M
theorem Oc.go {w w' : World} {b : Nat} {o : OV} (h : Oc w b o) (hb : Below w.heap.size w w') : Oc w' b o := ⟨h.at'.below hb, h.inn.go hb⟩
theorem Oc.new {w : World} (o : OV) (h : OctIn w w.heap.size o.A o.c o.N o.M) (t : TypeId) : Oc (w.alloc (.cells #[.int .i64 o.N, .bool o.E, .slice o.A o.M.length o.c] t)) w.heap.size o :=
  ⟨OctAt.box _ _ _ _ _, h.go ((Below.refl _ _).alloc (Nat.le_refl _) _)⟩
/-- A slice of octagons that can be read. -/
structure Octs (w : World) (B : Nat) (g off : Nat) (os : List OV) : Prop where
  lt : g < B
  cell : ∀ i o, os[i]? = some o → w.cell? ⟨g, off + i * 3, none⟩ = some (.int .i64 o.N) ∧ w.cell? ⟨g, off + i * 3 + 1, none⟩ = some (.bool o.E) ∧ w.cell? ⟨g, off + i * 3 + 2, none⟩ = some (.slice o.A o.M.length o.c)
  ok : ∀ o, o ∈ os → OctIn w B o.A o.c o.N o.M ∧ (o.M.length : Int) ≤ 17592186043904
theorem Octs.go {w w' : World} {g off : Nat} {os : List OV} (h : Octs w w.heap.size g off os) (hb : Below w.heap.size w w') : Octs w' w'.heap.size g off os :=
  ⟨Nat.lt_of_lt_of_le h.lt hb.size, fun i o ho => by
    obtain ⟨h0, h1, h2⟩ := h.cell i o ho
    exact ⟨below_cell hb h0, below_cell hb h1, below_cell hb h2⟩, fun o ho => ⟨(h.ok o ho).1.go hb, (h.ok o ho).2⟩⟩
set_option maxRecDepth 100000 in
set_option maxHeartbeats 4000000 in
theorem law_calm (g off c : Nat) (os : List OV) (w : World) (h : Octs w w.heap.size g off os) (hl : (os.length : Int) ≤ 9223372036854775807) (r : Bool) (hr : calmB os = r) :
    Calls Try.prog 23 #[.slice (some ⟨g, off, none⟩) os.length c] w fun e w' => e = .returned (.bool r) ∧ Below w.heap.size w w' := by
  have HR := Lib.hid hr
  clear hr
  go_enter Try.func23, Try.ntmps23
  go_wp2_with fail
  go_loopw [3] (fun i wr => ∃ k : Nat, i = .int .i64 k ∧ k ≤ os.length ∧ Hid (∀ j o, j < k → os[j]? = some o → calmO o = true) ∧ Below w.heap.size w wr) (fun i _ => os.length - (intOf i).toNat)
  case atStart => exact ⟨0, rfl, by omega, Lib.hid (fun j o hj => absurd hj (by omega)), Below.refl _ _⟩
  case round =>
    obtain ⟨i, rfl, hi, HLe, hbw⟩ := hrel
    rcases Nat.lt_or_ge i os.length with hlt | hge
    · obtain ⟨o, ho⟩ : ∃ o, os[i]? = some o := ⟨os[i], List.getElem?_eq_getElem hlt⟩
      have hO := h.go hbw
      obtain ⟨k0, k1, k2⟩ := hO.cell i o ho
      have hin := hO.ok o (List.mem_of_getElem? ho)
      have q1 : (i : Int) < (os.length : Int) := by omega
      have HO := Lib.hid ho
      clear ho
      have cC := ref13_Close o.N o.E o.A o.c o.M wr hin.1 hin.2 _ rfl
      unfold TellsCl at cC
      have HX := Lib.hid (show calmO o = (decide ((closeP o.N o.E o.M).2 = 0) && !(closeP o.N o.E o.M).1.2) from rfl)
      have HLt := Lib.hid hlt
      have HH := Lib.hid h
      obtain ⟨Q, hQ⟩ : ∃ Q, Q = closeP o.N o.E o.M := ⟨_, rfl⟩
      rw [← hQ] at cC HX
      clear hQ hin hO h hlt
      obtain ⟨⟨⟨Nq, Eq, Mq⟩, sq⟩, eq⟩ := Q
      dsimp only at HX
      go_wp2_with fail
      with_reducible refine cC.mono ?_
      clear cC
      rintro e w2 ⟨Aq, cq, rfl, -, hb2⟩
      have hbz := hbw.trans (hb2.mono hbw.size)
      have hend := Lib.hid (hbz.alloc hbz.size (.cells #[.int .i64 Nq, .bool Eq, .slice Aq Mq.length cq] 24))
      clear k0 k1 k2 hb2 hbw hbz
      dsimp only
      rcases sq with _ | _
      · by_cases he : eq = 0
        · have HC := Lib.hid (show calmO o = true by rw [HX.out, he]; rfl)
          have hd : (eq != 0) = false := bne_eq_false_iff_eq.2 he
          clear HX he
          go_wp2_with fail
          go_roundw
          case rel => exact ⟨i + 1, by go_num, by have := HLt.out; omega, Lib.hid (fun j o' hj ho' => by
            rcases Nat.lt_or_ge j i with h1 | h1
            · exact HLe.out j o' h1 ho'
            · obtain rfl : j = i := by omega
              rw [HO.out] at ho'
              injection ho' with ho'
              rw [← ho']; exact HC.out), hend.out⟩
          case measure => have := HLt.out; simp [intOf]; omega
        · have HC := Lib.hid (show calmO o = false by rw [HX.out, decide_eq_false he]; rfl)
          have hd : (eq != 0) = true := bne_iff_ne.2 he
          have HF := Lib.hid (show r = false by rw [← HR.out]; exact calmB_no HO.out HC.out)
          clear HX he
          go_wp2_with fail
          exact bodyPost_ret (v := .bool false) (by simp [results, Try.results23, go_sem]) rfl ⟨by rw [HF.out], hend.out⟩
      · have HC := Lib.hid (show calmO o = false by rw [HX.out]; simp)
        have HF := Lib.hid (show r = false by rw [← HR.out]; exact calmB_no HO.out HC.out)
        clear HX
        go_wp2_with fail
        exact bodyPost_ret (v := .bool false) (by simp [results, Try.results23, go_sem]) rfl ⟨by rw [HF.out], hend.out⟩
    · have hil : i = os.length := by omega
      have HF := Lib.hid (show r = true by rw [← HR.out]; exact calmB_all (fun j o hj => HLe.out j o (by rw [hil]; exact (List.getElem?_eq_some_iff.1 hj).1) hj))
      have hd : decide ((i : Int) < (os.length : Int)) = false := decide_eq_false (by omega)
      clear hil
      go_wp2_with fail
      exact bodyPost_ret (v := .bool true) (by simp [results, Try.results23, go_sem]) rfl ⟨by rw [HF.out], hbw⟩
theorem three_boxes (w : World) (a b c : OV) (t : TypeId) (ha : OctIn w w.heap.size a.A a.c a.N a.M) (hb : OctIn w w.heap.size b.A b.c b.N b.M) (hc : OctIn w w.heap.size c.A c.c c.N c.M) :
    ∃ W, W = ((w.alloc (.cells #[.int .i64 a.N, .bool a.E, .slice a.A a.M.length a.c] t)).alloc (.cells #[.int .i64 b.N, .bool b.E, .slice b.A b.M.length b.c] t)).alloc (.cells #[.int .i64 c.N, .bool c.E, .slice c.A c.M.length c.c] t) ∧
      Oc W w.heap.size a ∧ Oc W (w.heap.size + 1) b ∧ Oc W (w.heap.size + 1 + 1) c ∧ Below w.heap.size w W := by
  have b1 : Below w.heap.size w (w.alloc (.cells #[.int .i64 a.N, .bool a.E, .slice a.A a.M.length a.c] t)) := (Below.refl _ _).alloc (Nat.le_refl _) _
  have o1 := Oc.new a ha t
  have o2 := Oc.new b (hb.go b1) t
  have s1 : (w.alloc (.cells #[.int .i64 a.N, .bool a.E, .slice a.A a.M.length a.c] t)).heap.size = w.heap.size + 1 := by simp
  have b2 : Below (w.heap.size + 1) (w.alloc (.cells #[.int .i64 a.N, .bool a.E, .slice a.A a.M.length a.c] t)) ((w.alloc (.cells #[.int .i64 a.N, .bool a.E, .slice a.A a.M.length a.c] t)).alloc (.cells #[.int .i64 b.N, .bool b.E, .slice b.A b.M.length b.c] t)) := (Below.refl _ _).alloc (Nat.le_of_eq s1.symm) _
  rw [← s1] at b2
  have o3 := Oc.new c ((hc.go b1).go b2) t
  have s2 : ((w.alloc (.cells #[.int .i64 a.N, .bool a.E, .slice a.A a.M.length a.c] t)).alloc (.cells #[.int .i64 b.N, .bool b.E, .slice b.A b.M.length b.c] t)).heap.size = w.heap.size + 1 + 1 := by simp
  have b3 := fun (x : Obj) => (Below.refl ((w.alloc (.cells #[.int .i64 a.N, .bool a.E, .slice a.A a.M.length a.c] t)).alloc (.cells #[.int .i64 b.N, .bool b.E, .slice b.A b.M.length b.c] t)).heap.size ((w.alloc (.cells #[.int .i64 a.N, .bool a.E, .slice a.A a.M.length a.c] t)).alloc (.cells #[.int .i64 b.N, .bool b.E, .slice b.A b.M.length b.c] t))).alloc (Nat.le_refl _) x
  refine ⟨_, rfl, (o1.go b2).go (b3 _), ?_, ?_, ?_⟩
  · rw [s1] at o2; exact o2.go (b3 _)
  · rw [s2] at o3; exact o3
  · exact ((b1.trans (b2.mono b1.size))).trans ((b3 _).mono (by rw [s2]; omega))
/-- Three octagons laid into a slice. -/
theorem octs3 {w : World} (a b c : OV) (t : TypeId) (ha : OctIn w w.heap.size a.A a.c a.N a.M) (hb : OctIn w w.heap.size b.A b.c b.N b.M) (hc : OctIn w w.heap.size c.A c.c c.N c.M)
    (la : (a.M.length : Int) ≤ 17592186043904) (lb : (b.M.length : Int) ≤ 17592186043904) (lc : (c.M.length : Int) ≤ 17592186043904) :
    Octs (w.alloc (.cells #[.int .i64 a.N, .bool a.E, .slice a.A a.M.length a.c, .int .i64 b.N, .bool b.E, .slice b.A b.M.length b.c, .int .i64 c.N, .bool c.E, .slice c.A c.M.length c.c] t))
      (w.alloc (.cells #[.int .i64 a.N, .bool a.E, .slice a.A a.M.length a.c, .int .i64 b.N, .bool b.E, .slice b.A b.M.length b.c, .int .i64 c.N, .bool c.E, .slice c.A c.M.length c.c] t)).heap.size w.heap.size 0 [a, b, c] := by
  have h := fun (x : Obj) => (Below.refl w.heap.size w).alloc (Nat.le_refl _) x
  refine ⟨by simp, fun i o ho => ?_, fun o ho => ?_⟩
  · match i, ho with
    | 0, ho => simp only [List.getElem?_cons_zero, Option.some.injEq] at ho; subst ho; simp [World.cell?_alloc_new]
    | 1, ho => simp only [List.getElem?_cons_succ, List.getElem?_cons_zero, Option.some.injEq] at ho; subst ho; simp [World.cell?_alloc_new]
    | 2, ho => simp only [List.getElem?_cons_succ, List.getElem?_cons_zero, Option.some.injEq] at ho; subst ho; simp [World.cell?_alloc_new]
    | i + 3, ho => simp at ho
  · simp only [List.mem_cons, List.not_mem_nil, or_false] at ho
    rcases ho with rfl | rfl | rfl
    · exact ⟨ha.go (h _), la⟩
    · exact ⟨hb.go (h _), lb⟩
    · exact ⟨hc.go (h _), lc⟩
theorem law_calm3 (a b c : OV) (X : World) (ha : OctIn X X.heap.size a.A a.c a.N a.M) (hb : OctIn X X.heap.size b.A b.c b.N b.M) (hc : OctIn X X.heap.size c.A c.c c.N c.M)
    (la : (a.M.length : Int) ≤ 17592186043904) (lb : (b.M.length : Int) ≤ 17592186043904) (lc : (c.M.length : Int) ≤ 17592186043904) (r : Bool) (hr : calmB [a, b, c] = r) :
    Calls Try.prog 23 #[.slice (some ⟨X.heap.size, 0, none⟩) 3 3] (X.alloc (.cells #[.int .i64 a.N, .bool a.E, .slice a.A a.M.length a.c, .int .i64 b.N, .bool b.E, .slice b.A b.M.length b.c, .int .i64 c.N, .bool c.E, .slice c.A c.M.length c.c] 24))
      fun e w' => e = .returned (.bool r) ∧ Below X.heap.size X w' :=
  (law_calm X.heap.size 0 3 [a, b, c] _ (octs3 a b c 24 ha hb hc la lb lc) (by simp) r hr).mono fun e w' ⟨he, hb⟩ =>
    ⟨he, (((Below.refl X.heap.size X).alloc (Nat.le_refl _) _)).trans (hb.mono (by simp))⟩
/-- An octagon that a call tells. -/
structure Told (w w' : World) (R : Int × Bool × List Int) (o : OV) : Prop where
  inn : OctIn w' w'.heap.size o.A o.c o.N o.M
  len : (o.M.length : Int) ≤ 17592186043904
  eq : (o.N, o.E, o.M) = R
  below : Below w.heap.size w w'
theorem chk_i64 {N : Int} {E : Bool} {M : List Int} (h : chk N E M = 0) : I64 N := by
  obtain ⟨n, rfl, hn, _⟩ := chk_zero h
  unfold I64; omega
theorem chk_len {N : Int} {E : Bool} {M : List Int} (h : chk N E M = 0) : (M.length : Int) ≤ 16384 := by
  obtain ⟨n, rfl, hn, h0, h1⟩ := chk_zero h
  rcases E with _ | _
  · rw [(h1 rfl).1]; have := sq_le hn; omega
  · rw [h0 rfl]; simp
theorem told_of {w w' : World} {R : Int × Bool × List Int} {A : Option Addr} {c : Nat} (ho : Ow w' w.heap.size 2 .i64 A c R.2.2) (hk : chk R.1 R.2.1 R.2.2 = 0) (hb : Below w.heap.size w w') : Told w w' R ⟨R.1, R.2.1, A, c, R.2.2⟩ :=
  ⟨ho.oct (chk_i64 hk) (chk_ints hk), by have := chk_len hk; simp only; omega, rfl, hb⟩
def TellsV (w : World) (R : Int × Bool × List Int) (e : Ending) (w' : World) : Prop :=
  ∃ o : OV, e = .returned (.agg #[.int .i64 o.N, .bool o.E, .slice o.A o.M.length o.c]) ∧ Told w w' R o
def TellsVE (w : World) (R : Int × Bool × List Int) (e : Ending) (w' : World) : Prop :=
  ∃ o : OV, e = .returned (.tuple #[.agg #[.int .i64 o.N, .bool o.E, .slice o.A o.M.length o.c], .int .i64 0]) ∧ Told w w' R o
/-- Octagons that may be, of one size. -/
structure Same2 (a b : OV) : Prop where
  fst : chk a.N a.E a.M = 0
  snd : chk b.N b.E b.M = 0
  size : a.N = b.N
theorem same2 {a b : OV} (h : pairP a.N a.E a.M b.N b.E b.M = 0) : Same2 a b := ⟨(pairP_zero h).1, (pairP_zero h).2.1, (pairP_zero h).2.2⟩
theorem Same2.pair {a b : OV} (h : Same2 a b) : pairP a.N a.E a.M b.N b.E b.M = 0 := by
  have k := h.snd
  rw [← h.size] at k ⊢
  exact pairP_ok h.fst k
theorem ov_Join (a b : OV) (w : World) (ha : OctIn w w.heap.size a.A a.c a.N a.M) (hb : OctIn w w.heap.size b.A b.c b.N b.M) (la : (a.M.length : Int) ≤ 17592186043904) (lb : (b.M.length : Int) ≤ 17592186043904) (h : Same2 a b) :
    Calls Try.prog 30 #[.agg #[.int .i64 a.N, .bool a.E, .slice a.A a.M.length a.c], .agg #[.int .i64 b.N, .bool b.E, .slice b.A b.M.length b.c]] w (TellsVE w (joinP a.N a.E a.M b.E b.M)) := by
  have hb2 := h.snd
  rw [← h.size] at hb2
  have hk := joinP_chk h.fst hb2
  refine (order_Join a.N a.E a.A a.c a.M b.N b.E b.A b.c b.M w ha hb la lb 0 h.pair (joinP a.N a.E a.M b.E b.M) rfl).mono ?_
  rintro e w' ⟨A, c, he, ho, hb⟩
  exact ⟨_, he, told_of ho (by rw [hk.1]; exact hk.2) hb⟩
theorem ov_Meet (a b : OV) (w : World) (ha : OctIn w w.heap.size a.A a.c a.N a.M) (hb : OctIn w w.heap.size b.A b.c b.N b.M) (la : (a.M.length : Int) ≤ 17592186043904) (h : Same2 a b) :
    Calls Try.prog 29 #[.agg #[.int .i64 a.N, .bool a.E, .slice a.A a.M.length a.c], .agg #[.int .i64 b.N, .bool b.E, .slice b.A b.M.length b.c]] w (TellsVE w (meetP a.N a.E a.M b.E b.M)) := by
  have hb2 := h.snd
  rw [← h.size] at hb2
  have hk := meetP_chk h.fst hb2
  refine (order_Meet a.N a.E a.A a.c a.M b.N b.E b.A b.c b.M w ha hb la 0 h.pair (meetP a.N a.E a.M b.E b.M) rfl).mono ?_
  rintro e w' ⟨A, c, he, ho, hb⟩
  exact ⟨_, he, told_of ho (by rw [hk.1]; exact hk.2) hb⟩
theorem ov_Entails (a b : OV) (w : World) (ha : OctIn w w.heap.size a.A a.c a.N a.M) (hb : OctIn w w.heap.size b.A b.c b.N b.M) (la : (a.M.length : Int) ≤ 17592186043904) (h : Same2 a b) (r : Bool) (hr : entP a.N a.E a.M b.E b.M = r) :
    Calls Try.prog 28 #[.agg #[.int .i64 a.N, .bool a.E, .slice a.A a.M.length a.c], .agg #[.int .i64 b.N, .bool b.E, .slice b.A b.M.length b.c]] w fun e w' => e = .returned (.tuple #[.bool r, .int .i64 0]) ∧ Below w.heap.size w w' :=
  order_Entails a.N a.E a.A a.c a.M b.N b.E b.A b.c b.M w ha hb la 0 h.pair r (by rw [hr]; simp)
/-- An octagon that is closed already, closed again. -/
theorem ov_Closed (a : OV) (w : World) (ha : OctIn w w.heap.size a.A a.c a.N a.M) (la : (a.M.length : Int) ≤ 17592186043904) (hk : chk a.N a.E a.M = 0) (hc : clo a.N a.E a.M = (a.N, a.E, a.M)) :
    Calls Try.prog 54 #[.agg #[.int .i64 a.N, .bool a.E, .slice a.A a.M.length a.c]] w fun e w' => ∃ (A : Option Addr) (c : Nat) (s : Bool), e = .returned (.tuple #[.agg #[.int .i64 a.N, .bool a.E, .slice A a.M.length c], .bool s, .int .i64 0]) ∧ OctIn w' w'.heap.size A c a.N a.M ∧ Below w.heap.size w w' := by
  obtain ⟨P, hP⟩ : ∃ P, closeP a.N a.E a.M = P := ⟨_, rfl⟩
  have hc' : P.1.1 = (a.N, a.E, a.M) := by rw [← hP]; exact hc
  have h2 : P.2 = 0 := by rw [← hP, closeP_err]; exact hk
  refine (ref13_Close a.N a.E a.A a.c a.M w ha la P hP).mono ?_
  rintro e w' ⟨A, c, he, ho, hb⟩
  rw [hc', h2] at he
  rw [hc'] at ho
  exact ⟨A, c, P.1.2, he, ho.oct (chk_i64 hk) (chk_ints hk), hb⟩
theorem calmO_iff {o : OV} (h : calmO o = true) : (closeP o.N o.E o.M).2 = 0 ∧ (closeP o.N o.E o.M).1.2 = false := by
  unfold calmO at h
  simpa using h
/-- The law's facts, where nothing saturates. -/
theorem tight_facts {a b c j m r : OV} (hab : Same2 a b) (hac : Same2 a c) (h1 : calmB [a, b, c] = true) (hj : (j.N, j.E, j.M) = joinP a.N a.E a.M b.E b.M) (hm : (m.N, m.E, m.M) = meetP a.N a.E a.M b.E b.M) (hr : (r.N, r.E, r.M) = rawP a.N a.E a.M b.E b.M)
    (h2 : calmB [j, m, r] = true) : (entP a.N a.E a.M b.E b.M = true → entP b.N b.E b.M c.E c.M = true → entP a.N a.E a.M c.E c.M = true) ∧ (entP a.N a.E a.M c.E c.M && entP b.N b.E b.M c.E c.M) = entP j.N j.E j.M c.E c.M ∧
      clo j.N j.E j.M = (j.N, j.E, j.M) ∧ clo m.N m.E m.M = (m.N, m.E, m.M) := by
  obtain ⟨Na, Ea, Aa, ca, Ma⟩ := a
  obtain ⟨Nb, Eb, Ab, cb, Mb⟩ := b
  obtain ⟨Nc, Ec, Ac, cc, Mc⟩ := c
  obtain ⟨Nj, Ej, Aj, cj, Mj⟩ := j
  obtain ⟨Nm, Em, Am, cm, Mm⟩ := m
  obtain ⟨Nr, Er, Ar, cr, Mr⟩ := r
  obtain ⟨ka, kb, e1⟩ := hab
  obtain ⟨-, kc, e2⟩ := hac
  dsimp only at *
  subst e1 e2
  obtain ⟨n, rfl, -⟩ := chk_zero ka
  simp only [calmB, List.all_cons, List.all_nil, Bool.and_true, Bool.and_eq_true] at h1 h2
  have sa := (calmO_iff h1.1).2
  have sb := (calmO_iff h1.2.1).2
  have sr := (calmO_iff h2.2.2).2
  dsimp only at sa sb sr
  have kj := joinP_chk ka kb
  have km := meetP_chk ka kb
  have kr := rawP_chk ka kb
  have e3 : Nj = n := by have := congrArg (·.1) hj; dsimp only at this; rw [this, kj.1]
  have e4 : Nm = n := by have := congrArg (·.1) hm; dsimp only at this; rw [this, km.1]
  have e5 : Nr = n := by have := congrArg (·.1) hr; dsimp only at this; rw [this, kr.1]
  subst e3 e4 e5
  have hj2 : joinP n Ea Ma Eb Mb = ((n : Int), Ej, Mj) := hj.symm
  have hm2 : meetP n Ea Ma Eb Mb = ((n : Int), Em, Mm) := hm.symm
  have hr2 : rawP n Ea Ma Eb Mb = ((n : Int), Er, Mr) := hr.symm
  refine ⟨fun u v => tight_trans ka kb kc sa u v, ?_, ?_, ?_⟩
  · have := tight_join ka kb kc sa sb
    rw [hj2] at this
    exact this
  · have := joinP_shut ka kb sa sb
    rw [hj2] at this
    obtain ⟨k, hk, hn, -⟩ := chk_zero ka
    exact shutO_clo (by omega) this
  · have := tight_meet ka kb (by rw [hr2]; exact sr)
    rw [hm2] at this
    exact this
theorem Told.lower {w X w' : World} {R : Int × Bool × List Int} {o : OV} (hX : Below w.heap.size w X) (h : Told X w' R o) : Told w w' R o := ⟨h.inn, h.len, h.eq, hX.trans (h.below.mono hX.size)⟩
theorem Told.go {w X w' : World} {R : Int × Bool × List Int} {o : OV} (h : Told w X R o) (hb : Below X.heap.size X w') : Told w w' R o := ⟨h.inn.go hb, h.len, h.eq, h.below.trans (hb.mono h.below.size)⟩
theorem same2_join {a b c j : OV} (h : Same2 a b) (k : Same2 a c) (hj : (j.N, j.E, j.M) = joinP a.N a.E a.M b.E b.M) : Same2 j c := by
  have hb := h.snd
  rw [← h.size] at hb
  have := joinP_chk h.fst hb
  rw [← hj] at this
  dsimp only at this
  exact ⟨by rw [this.1]; exact this.2, k.snd, this.1.trans k.size⟩
theorem chk_meet {a b m : OV} (h : Same2 a b) (hm : (m.N, m.E, m.M) = meetP a.N a.E a.M b.E b.M) : chk m.N m.E m.M = 0 := by
  have hb := h.snd
  rw [← h.size] at hb
  have := meetP_chk h.fst hb
  rw [← hm] at this
  dsimp only at this
  rw [this.1]; exact this.2
/-- Nothing is asked of two values. -/
def noS (_ : Nat) (_ : Value) (_ : Nat) (_ : Value) : Prop := True
/-- What each operation of the call of calm yields. -/
def tightR (w : World) (a b j m : OV) : Nat → Value → World → Prop
  | 0, v, _ => v = .agg #[.int .i64 j.N, .bool j.E, .slice j.A j.M.length j.c]
  | 1, v, _ => v = .agg #[.int .i64 m.N, .bool m.E, .slice m.A m.M.length m.c]
  | 2, v, _ => v = .agg #[.int .i64 a.N, .bool a.E, .slice a.A a.M.length a.c]
  | 3, v, _ => v = .agg #[.int .i64 b.N, .bool b.E, .slice b.A b.M.length b.c]
  | _, v, X => ∃ r : OV, v = .agg #[.int .i64 r.N, .bool r.E, .slice r.A r.M.length r.c] ∧ Told w X (rawP a.N a.E a.M b.E b.M) r
theorem tightR_below {w0 : World} {a b j m : OV} (i : Nat) (v : Value) (w w' : World) (h : tightR w0 a b j m i v w) (hb : Below w.heap.size w w') : tightR w0 a b j m i v w' := by
  match i, h with
  | 0, h => exact h
  | 1, h => exact h
  | 2, h => exact h
  | 3, h => exact h
  | i + 4, ⟨r, h1, h2⟩ => exact ⟨r, h1, h2.go hb⟩
-- the law OrderTight (printed by gen_tight.py)
end Go.Proofs.Ytkgddgckilledaa
