/- Rows of structs that grow; the walks of cert.places and gnomonref19.places. -/
import Derived.Test.YtghpiofjejhegaaCeb
namespace Go.Proofs.Ytghpiofjejhegaa
open Go.RowKit
set_option linter.unusedVariables false
set_option linter.unusedSimpArgs false
open Gn
/-- What append asks of an element's type of several cells. -/
structure ElTyS (P : Program) (t e : TypeId) (z : Value) (size bytes : Nat) : Prop where
  ht : P.underlying t = some (.slice e)
  info : (P.info? e).map (fun i => (i.zero, i.size, i.bytes)) = some (some z, size, bytes)
  hz : z.cells.size = size
  hb : 0 < bytes
  hs : 0 < size
theorem info_partsS {P : Program} {e : TypeId} {z : Value} {size bytes : Nat} (h : (P.info? e).map (fun i => (i.zero, i.size, i.bytes)) = some (some z, size, bytes)) : ∃ i, P.info? e = some i ∧ i.zero = some z ∧ i.size = size ∧ i.bytes = bytes := by
  cases hi : P.info? e with
  | none => rw [hi] at h; cases h
  | some i =>
    rw [hi] at h
    simp only [Option.map_some, Option.some.injEq, Prod.mk.injEq] at h
    exact ⟨i, rfl, h.1, h.2.1, h.2.2⟩
/-- append(s, u), u a struct. -/
theorem wpList_appS {P : Program} {t e : TypeId} {z : Value} {size bytes : Nat} (E : ElTyS P t e z size bytes) {ops : Array Oper} {rest : List Oper} {o : Oper} {a : Act} {Q : Exit → Act → World → Prop} (W : World) (hgd : o.guard = none) (s x : Operand)
    (ho : o.op = .call { callee := .builtin .append, args := #[s, x], argTypes := #[t, t] })
    (base : Nat) (A : Option Addr) (c n : Nat) (vs : List Value) (hs : a.eval s = .slice A n c) (hown : W.ownsRow base e size (.slice A n c) n vs)
    (news : List Value) (g : Nat) (hx : a.eval x = .slice (some ⟨g, 0, none⟩) 1 1) (hl : news.length = size) (hnews : ∀ j u, news[j]? = some u → W.cell? ((⟨g, 0, none⟩ : Addr).add j) = some u) (h1 : ∀ u ∈ news, u.oneCell' = true)
    (hn : (n + 1) * bytes ≤ 140737488355328) (hbase : base ≤ W.heap.size)
    (h : ∀ A' c' w', w'.ownsRow base e size (.slice A' (n + 1) c') (n + 1) (vs ++ news) → Below base W w' → wpList P ops Q rest (a.put o.dst (.slice A' (n + 1) c')) w') :
    wpList P ops Q (o :: rest) a W := by
  obtain ⟨i0, hi, hz0, hz1, hz2⟩ := info_partsS E.info
  have hle : n + 1 ≤ (n + 1) * bytes := Nat.le_mul_of_pos_right _ E.hb
  refine wpList_append_own W hgd s x t ho base e i0 z size bytes E.ht hi hz0 hz1 hz2 E.hz E.hs _ _ _ hs hown ⟨g, 0, none⟩ 1 1 news hx (by rw [hl, Nat.one_mul]) hnews h1 (by unfold maxLen; omega) hn hbase ?_
  intro v' w1 hown' hgrow _
  have hB : Below base W w1 := (Below.refl _ _).grown hgrow hbase (fun j hj => (hown.lt j hj).1)
  rcases hown'.2 with ⟨rfl, h0⟩ | ⟨g', cap, cur, rfl, _⟩
  · omega
  · exact h _ _ _ hown' hB
theorem own_below {w w' : World} {base : Nat} {e : TypeId} {size n c : Nat} {A : Option Addr} {vs : List Value} (h : w.ownsRow base e size (.slice A n c) n vs) (hb : Below w.heap.size w w') : w'.ownsRow base e size (.slice A n c) n vs :=
  World.ownsRow.kept (row := none) h ⟨hb.os, hb.tape, hb.output, hb.size, fun i hi _ => hb.block i hi⟩ (by
    cases A <;> simp [Value.ownBlock])
theorem own_lower {w : World} {base b' : Nat} {e : TypeId} {size n : Nat} {v : Value} {vs : List Value} (h : w.ownsRow base e size v n vs) (hb : b' ≤ base) : w.ownsRow b' e size v n vs := by
  refine ⟨h.1, ?_⟩
  rcases h.2 with h0 | ⟨g, cap, cur, hv, hb0, hr⟩
  · exact .inl h0
  · exact .inr ⟨g, cap, cur, hv, by omega, hr⟩
/-- Pairs of numbers as cells. -/
def pv (ps : List (Nat × Nat)) : List Value := ps.flatMap fun p => [.int .i64 (p.1 : Int), .int .i64 (p.2 : Int)]
theorem pv_snoc (ps : List (Nat × Nat)) (p : Nat × Nat) : pv (ps ++ [p]) = pv ps ++ [.int .i64 (p.1 : Int), .int .i64 (p.2 : Int)] := by unfold pv; rw [List.flatMap_append]; simp
theorem pv_get : ∀ (ps : List (Nat × Nat)) (i : Nat), i < ps.length → (pv ps)[i * 2]? = some (.int .i64 (pfst ps i : Int)) ∧ (pv ps)[i * 2 + 1]? = some (.int .i64 (psnd ps i : Int))
  | p :: ps, 0, _ => by constructor <;> rfl
  | p :: ps, i + 1, h => by
    have := pv_get ps i (by simpa using h)
    rw [show (i + 1) * 2 = i * 2 + 2 by omega, show i * 2 + 2 + 1 = i * 2 + 1 + 2 by omega]
    exact this
/-- A slice of pairs that can be read below block B. -/
def RdP (w : World) (B : Nat) (A : Option Addr) (ps : List (Nat × Nat)) : Prop :=
  0 < ps.length → ∃ b off, A = some ⟨b, off, none⟩ ∧ b < B ∧ ∀ i, i < ps.length → w.cell? ⟨b, off + i * 2, none⟩ = some (.int .i64 (pfst ps i : Int)) ∧ w.cell? ⟨b, off + i * 2 + 1, none⟩ = some (.int .i64 (psnd ps i : Int))
theorem RdP.go {w w' : World} {A : Option Addr} {ps : List (Nat × Nat)} (h : RdP w w.heap.size A ps) (hb : Below w.heap.size w w') : RdP w' w'.heap.size A ps := fun hn => by
  obtain ⟨b, off, e, hlt, hc⟩ := h hn
  exact ⟨b, off, e, Nat.lt_of_lt_of_le hlt hb.size, fun i hi => ⟨below_cell hb (hc i hi).1, below_cell hb (hc i hi).2⟩⟩
theorem rdp_own {w : World} {base : Nat} {e : TypeId} {c : Nat} {A : Option Addr} {ps : List (Nat × Nat)} (h : w.ownsRow base e 2 (.slice A ps.length c) ps.length (pv ps)) : RdP w w.heap.size A ps := fun hn => by
  rcases h.2 with ⟨hv, h0⟩ | ⟨g, cap, cur, hv, hb, hh, hnc, hcm, hcs, hx⟩
  · omega
  · injection hv with h1 h2 h3
    subst h1
    have hlt := (h.lt g rfl).2
    have key : ∀ j u, (pv ps)[j]? = some u → w.cell? ⟨g, j, none⟩ = some u := fun j u hu => by
      have := h.cells (g := g) rfl j u hu
      rwa [show (⟨g, 0, none⟩ : Addr).add j = ⟨g, j, none⟩ by unfold Addr.add; split <;> simp_all] at this
    exact ⟨g, 0, rfl, hlt, fun i hi => by
      obtain ⟨p1, p2⟩ := pv_get ps i hi
      rw [Nat.zero_add]
      exact ⟨key _ _ p1, key _ _ p2⟩⟩
theorem Try.elPair : ElTyS Try.prog 71 84 (.agg #[.int .i64 0, .int .i64 0]) 2 16 := ⟨Try.underlying71, by kernel_rfl, rfl, by decide, by decide⟩
theorem Try.elPlace : ElTyS Try.prog 74 79 (.agg #[.int .i64 0, .int .i64 0]) 2 16 := ⟨Try.underlying74, by kernel_rfl, rfl, by decide, by decide⟩
theorem val_slice' {A : Option Addr} {m n c : Nat} (h : m = n) : Value.slice A m c = .slice A n c := by rw [h]
theorem ret_slice' {A : Option Addr} {m n c : Nat} (h : m = n) : Ending.returned (.slice A m c) = .returned (.slice A n c) := by rw [h]
set_option maxRecDepth 100000 in
set_option maxHeartbeats 4000000 in
theorem cert_places (n : Nat) (w : World) (hn : n ≤ 64) :
    Calls Try.prog 39 #[.int .i64 n] w fun e w' => ∃ A c, e = .returned (.slice A (pairs n).length c) ∧ w'.ownsRow w.heap.size 84 2 (.slice A (pairs n).length c) (pairs n).length (pv (pairs n)) ∧ Below w.heap.size w w' := by
  have hE := Try.elPair
  have hq : (2 * n) * (2 * n) ≤ 128 * 128 := Nat.mul_le_mul (by omega) (by omega)
  have HQ := Lib.hid hq
  clear hq
  go_enter Try.func39, Try.ntmps39
  go_wp2_with fail
  go_loopw [3, 9] (fun s3 s9 wr => ∃ i : Nat, s9 = .int .i64 i ∧ i ≤ 2 * n ∧ ∃ A c, ∃ ps : List (Nat × Nat), Hid (ps = pairsTo n i) ∧ s3 = .slice A ps.length c ∧ wr.ownsRow w.heap.size 84 2 (.slice A ps.length c) ps.length (pv ps) ∧ Below w.heap.size w wr) (fun _ s _ => 2 * n - (intOf s).toNat)
  case atStart => exact ⟨0, rfl, by omega, none, 0, [], Lib.hid rfl, rfl, World.ownsRow_nil _ _ _ _, Below.refl _ _⟩
  case round =>
    obtain ⟨i, rfl, hi, A, c, ps, HP, rfl, hown, hB⟩ := hrel
    rcases Nat.lt_or_ge i (2 * n) with hlt | hge
    · have hdi : decide ((i : Int) < 2 * (n : Int)) = true := decide_eq_true (by omega)
      have hps : ps.length ≤ i * (2 * n) := by rw [HP.out]; exact pairsTo_len n i
      have HPS := Lib.hid hps
      clear hps
      go_wp2_with fail
      go_loopw [3, 14] (fun s3 s14 wr => ∃ j : Nat, s14 = .int .i64 j ∧ j ≤ 2 * n ∧ ∃ A c, ∃ qs : List (Nat × Nat), Hid (qs = ps ++ rowP i j) ∧ s3 = .slice A qs.length c ∧ wr.ownsRow w.heap.size 84 2 (.slice A qs.length c) qs.length (pv qs) ∧ Below w.heap.size w wr) (fun _ s _ => 2 * n - (intOf s).toNat)
      case atStart => exact ⟨0, rfl, by omega, A, c, ps, Lib.hid (by rw [rowP_zero, List.append_nil]), rfl, hown, hB⟩
      case round =>
        clear hown hB
        obtain ⟨j, rfl, hj, A, c, qs, HQS, rfl, hown, hB⟩ := hrel
        rcases Nat.lt_or_ge j (2 * n) with hjl | hjg
        · have hdj : decide ((j : Int) < 2 * (n : Int)) = true := decide_eq_true (by omega)
          have hql : qs.length ≤ i * (2 * n) + j := by
            have := rowP_len i j
            have := HPS.out
            rw [HQS.out, List.length_append]; omega
          have hix : i * (2 * n) + j < (2 * n) * (2 * n) := idx_lt hlt hjl
          have hsz : (qs.length + 1) * 16 ≤ 140737488355328 := by have := HQ.out; omega
          clear hql hix
          have cP := fun W => pair_behind i j W (by omega) (by omega)
          have hb1 : Below wr.heap.size wr (wr.alloc (.cells #[.int .i64 i, .int .i64 j] 84)) := (Below.refl _ _).alloc (Nat.le_refl _) _
          have hBox := PrBox.new wr 84 i j
          obtain ⟨w1, hw1⟩ : ∃ w1, w1 = wr.alloc (.cells #[.int .i64 i, .int .i64 j] 84) := ⟨_, rfl⟩
          rw [← hw1] at hb1 hBox
          replace hown := own_below hown hb1
          replace hB := hB.trans (hb1.mono hB.size)
          clear hb1
          go_upto_region 9 with fail
          rw [← hw1]
          clear hw1
          generalize wr.heap.size = bp at *
          by_cases hij : i = j
          · have q0 : ((i : Int) != (j : Int)) = false := bne_eq_false_iff_eq.2 (by omega)
            have HN := Lib.hid (show qs = ps ++ rowP i (j + 1) by rw [HQS.out, rowP_succ, if_neg (by unfold isP; rw [decide_eq_false (fun h => h hij)]; simp)])
            clear hij
            have HO := Lib.hid hown
            have HB := Lib.hid hB
            clear hown hB
            go_wp2_with fail
            go_roundw
            case rel => exact ⟨j + 1, by go_num, by omega, A, c, qs, HN, rfl, HO.out, HB.out⟩
            case measure => simp [intOf]; omega
          · have q0 : ((i : Int) != (j : Int)) = true := bne_iff_ne.2 (by omega)
            have HF : Hid (isP i j = fst2 i j) := Lib.hid (by unfold isP; rw [decide_eq_true hij]; rfl)
            clear hij
            obtain ⟨f, hf⟩ : ∃ f, f = fst2 i j := ⟨_, rfl⟩
            rw [← hf] at cP HF
            clear hf
            obtain ⟨k0, k1, kf⟩ := id hBox
            rcases f with _ | _
            · have HN := Lib.hid (show qs = ps ++ rowP i (j + 1) by rw [HQS.out, rowP_succ, if_neg (by rw [HF.out]; simp)])
              go_wp2_with fail
              with_reducible refine (cP _).mono ?_
              clear cP
              rintro e w2 ⟨rfl, hb⟩
              have HO := Lib.hid (own_below hown hb)
              have HB := Lib.hid (hB.trans (hb.mono hB.size))
              clear hown hB hb k0 k1 kf hBox
              go_wp2_with fail
              go_roundw
              case rel => exact ⟨j + 1, by go_num, by omega, A, c, qs, HN, rfl, HO.out, HB.out⟩
              case measure => simp [intOf]; omega
            · have HN := Lib.hid (show qs ++ [(i, j)] = ps ++ rowP i (j + 1) by rw [HQS.out, rowP_succ, if_pos HF.out, List.append_assoc])
              go_wp2_with fail
              with_reducible refine (cP _).mono ?_
              clear cP
              rintro e w2 ⟨rfl, hb⟩
              obtain ⟨k0, k1, kf⟩ := id (hBox.go hb)
              have hB2 := hB.trans (hb.mono hB.size)
              have hown2 := (own_below hown hb).alloc (.cells #[.int .i64 i, .int .i64 j] 84)
              have hB3 := hB2.alloc hB2.size (.cells #[.int .i64 i, .int .i64 j] 84)
              have hbs := hB3.size
              clear hown hB hb hBox hB2
              go_wp2_with (at_builtin; refine wpList_appS hE (w2.alloc (.cells #[.int .i64 i, .int .i64 j] 84)) rfl _ _ rfl w.heap.size A c qs.length _ rfl hown2 [.int .i64 i, .int .i64 j] w2.heap.size rfl rfl (World.news_of_block (heap_alloc_new w2 _)) (by simp [Value.oneCell']) hsz hbs ?_; intro A' c' w3 ho hb)
              have HB := Lib.hid (hB3.trans hb)
              have HO := Lib.hid ho
              clear ho hb hB3 hown2 hbs
              go_roundw
              case rel => exact ⟨j + 1, by go_num, by omega, A', c', qs ++ [(i, j)], HN, val_slice' (by simp), by rw [pv_snoc, List.length_append]; exact HO.out, HB.out⟩
              case measure => simp [intOf]; omega
        · obtain rfl : j = 2 * n := by omega
          have HN := Lib.hid (show qs = pairsTo n (i + 1) by rw [HQS.out, HP.out, pairsTo_succ])
          have HO := Lib.hid hown
          have HB := Lib.hid hB
          clear hown hB
          go_wp2_with fail
          go_roundw
          case rel => exact ⟨i + 1, by go_num, by omega, A, c, qs, HN, rfl, HO.out, HB.out⟩
          case measure => simp [intOf]; omega
    · obtain rfl : i = 2 * n := by omega
      have HF := Lib.hid (show ps = pairs n from HP.out)
      have HO := Lib.hid hown
      have HB := Lib.hid hB
      clear hown hB hge hi
      go_wp2_with fail
      go_ret
      exact ⟨A, c, ret_slice' (by rw [HF.out]), by rw [← HF.out]; exact HO.out, HB.out⟩
end Go.Proofs.Ytghpiofjejhegaa
