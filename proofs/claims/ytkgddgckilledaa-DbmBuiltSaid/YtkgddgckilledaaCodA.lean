/- Plain facts on all numbers that stand in bytes. No program in sight. -/
import Derived.Test.YtkgddgckilledaaCod
namespace Go.Proofs.Ytkgddgckilledaa
namespace Gn
theorem take_cnt {b : List Int} (hb : Bts b) (h : (take b).2.2 = 0) : 0 < (take b).2.1 ∧ (take b).2.1 ≤ b.length ∧ b.take (take b).2.1 = put (take b).1 ∧ ((take b).1 : Int) ≤ 18446744073709551615 :=
  take_back hb (v := (take b).1) (k := (take b).2.1) (by rw [← h])
theorem takeAllF_fuel : ∀ (f g : Nat) (b : List Int), Bts b → b.length ≤ f → b.length ≤ g → takeAllF f b = takeAllF g b := by
  intro f
  induction f with
  | zero =>
    intro g b _ hf hg
    obtain rfl := List.eq_nil_of_length_eq_zero (by omega : b.length = 0)
    cases g <;> rfl
  | succ f ih =>
    intro g b hb hf hg
    by_cases h0 : b = []
    · subst h0; cases g <;> rfl
    · have hl : 0 < b.length := List.length_pos_iff.2 h0
      cases g with
      | zero => omega
      | succ g =>
        simp only [takeAllF, if_neg h0]
        by_cases he : (take b).2.2 = 0
        · rw [if_pos he, if_pos he]
          have hc := take_cnt hb he
          rw [ih g (b.drop (take b).2.1) (fun x hx => hb x (List.mem_of_mem_drop hx)) (by simp; omega) (by simp; omega)]
        · rw [if_neg he, if_neg he]
theorem takeAll_nil : takeAll [] = ([], 0) := rfl
theorem takeAll_ok {b : List Int} (hb : Bts b) (h0 : b ≠ []) (he : (take b).2.2 = 0) :
    takeAll b = if (takeAll (b.drop (take b).2.1)).2 = 0 then ((take b).1 :: (takeAll (b.drop (take b).2.1)).1, 0) else ([], (takeAll (b.drop (take b).2.1)).2) := by
  have hl : 0 < b.length := List.length_pos_iff.2 h0
  have hc := take_cnt hb he
  unfold takeAll
  obtain ⟨f, hf⟩ : ∃ f, b.length = f + 1 := ⟨b.length - 1, by omega⟩
  rw [hf]
  simp only [takeAllF, if_neg h0, if_pos he]
  rw [takeAllF_fuel f (b.drop (take b).2.1).length _ (fun x hx => hb x (List.mem_of_mem_drop hx)) (by simp; omega) (Nat.le_refl _)]
theorem takeAll_err {b : List Int} (h0 : b ≠ []) (he : (take b).2.2 ≠ 0) : takeAll b = ([], (take b).2.2) := by
  have hl : 0 < b.length := List.length_pos_iff.2 h0
  unfold takeAll
  obtain ⟨f, hf⟩ : ∃ f, b.length = f + 1 := ⟨b.length - 1, by omega⟩
  rw [hf]
  simp only [takeAllF, if_neg h0, if_neg he]
theorem take_err_or (b : List Int) : (take b).2.2 = 0 ∨ (take b = (0, 0, 180)) ∨ (take b = (0, 0, 181)) := by
  by_cases h : (take b).2.2 = 0
  · exact .inl h
  · obtain ⟨h1, h2⟩ := tk_err (b := b) (i := 0) (acc := 0) h
    rcases h2 with h2 | h2
    · right; left; rw [h2] at h1; exact h1
    · right; right; rw [h2] at h1; exact h1
theorem takeAll_fst (b : List Int) (hb : Bts b) (h : (takeAll b).2 ≠ 0) : (takeAll b).1 = [] := by
  by_cases h0 : b = []
  · subst h0; rfl
  · by_cases he : (take b).2.2 = 0
    · rw [takeAll_ok hb h0 he] at h ⊢
      by_cases hr : (takeAll (b.drop (take b).2.1)).2 = 0
      · rw [if_pos hr] at h; exact absurd rfl h
      · rw [if_neg hr]
    · rw [takeAll_err h0 he]
/-- What was taken all, put all, is the bytes. -/
theorem putAll_takeAll (n : Nat) : ∀ b : List Int, b.length ≤ n → Bts b → (takeAll b).2 = 0 → putAll (takeAll b).1 = b := by
  induction n with
  | zero => intro b hn _ _; obtain rfl := List.eq_nil_of_length_eq_zero (by omega : b.length = 0); rfl
  | succ n ih =>
    intro b hn hb h
    by_cases h0 : b = []
    · subst h0; rfl
    · by_cases he : (take b).2.2 = 0
      · have hc := take_cnt hb he
        rw [takeAll_ok hb h0 he] at h ⊢
        by_cases hr : (takeAll (b.drop (take b).2.1)).2 = 0
        · rw [if_pos hr]
          show put (take b).1 ++ putAll (takeAll (b.drop (take b).2.1)).1 = b
          rw [ih _ (by simp; omega) (fun x hx => hb x (List.mem_of_mem_drop hx)) hr, ← hc.2.2.1, List.take_append_drop]
        · rw [if_neg hr] at h; exact absurd h hr
      · rw [takeAll_err h0 he] at h; exact absurd h he
theorem takeAll_len (n : Nat) : ∀ b : List Int, b.length ≤ n → Bts b → (takeAll b).1.length ≤ b.length := by
  induction n with
  | zero => intro b hn _; obtain rfl := List.eq_nil_of_length_eq_zero (by omega : b.length = 0); simp [takeAll_nil]
  | succ n ih =>
    intro b hn hb
    by_cases h0 : b = []
    · subst h0; simp [takeAll_nil]
    · by_cases he : (take b).2.2 = 0
      · have hc := take_cnt hb he
        rw [takeAll_ok hb h0 he]
        by_cases hr : (takeAll (b.drop (take b).2.1)).2 = 0
        · rw [if_pos hr]
          have := ih (b.drop (take b).2.1) (by simp; omega) (fun x hx => hb x (List.mem_of_mem_drop hx))
          simp at this ⊢; omega
        · rw [if_neg hr]; simp
      · rw [takeAll_err h0 he]; simp
theorem putAll_bts (l : List Nat) : Bts (putAll l) := by
  induction l with
  | nil => intro x hx; simp [putAll] at hx
  | cons n l ih =>
    intro x hx
    rcases List.mem_append.1 hx with h | h
    · exact put_bts n x h
    · exact ih x h
/-- What was put all, taken all, is the numbers. -/
theorem takeAll_putAll (l : List Nat) (hl : ∀ n ∈ l, (n : Int) ≤ 18446744073709551615) : takeAll (putAll l) = (l, 0) := by
  induction l with
  | nil => rfl
  | cons n l ih =>
    have ht := take_put (putAll l) (hl n (by simp))
    have h0 : put n ++ putAll l ≠ [] := fun h => by
      have := put_pos n
      rw [List.append_eq_nil_iff] at h
      rw [h.1] at this; simp at this
    show takeAll (put n ++ putAll l) = _
    have hbb : Bts (put n ++ putAll l) := putAll_bts (n :: l)
    rw [takeAll_ok hbb h0 (by rw [ht]), ht]
    simp only [List.drop_left]
    rw [ih (fun m hm => hl m (by simp [hm]))]
    rfl
end Gn
end Go.Proofs.Ytkgddgckilledaa
