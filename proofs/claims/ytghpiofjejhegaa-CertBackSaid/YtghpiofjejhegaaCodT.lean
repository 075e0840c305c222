/- The walk of TakeAll, of the package code. -/
import Derived.Test.YtghpiofjejhegaaCodX
import Derived.Test.YtghpiofjejhegaaCodA
import Derived.Deep.RegionLaw
import Derived.Maps.RangeWalk
import Derived.Lib.Hide
import Derived.Test.YtghpiofjejhegaaMem
namespace Go.Proofs.Ytghpiofjejhegaa
open Go.RowKit
open Gn
theorem Try.elU64 : ElTy Try.prog 22 26 (.int .u64 0) 8 := ⟨Try.underlying22, by kernel_rfl, rfl, by decide⟩
def nats (l : List Nat) : List Int := l.map (fun n : Nat => (n : Int))
theorem nats_len (l : List Nat) : (nats l).length = l.length := by simp [nats]
theorem nats_snoc (l : List Nat) (n : Nat) : nats l ++ [(n : Int)] = nats (l ++ [n]) := by simp [nats]
theorem ow_nats {w : World} {base : Nat} {e : TypeId} {k : IntKind} {A : Option Addr} {c : Nat} {l : List Nat} (h : Ow w base e k A c (nats l)) : w.ownsRow base e 1 (.slice A l.length c) l.length ((nats l).map (Value.int k)) := by
  have := h; unfold Ow at this; rw [nats_len] at this; exact this
def sLen (v : Value) : Nat := match v with | .slice _ n _ => n | _ => 0
set_option maxHeartbeats 1000000 in
theorem code_TakeAll (A : Option Addr) (c : Nat) (b : List Int) (w : World) (hb : Bts b) (hr : Rd w w.heap.size .u8 A b.length (nth b)) (hc : b.length ≤ c) (hcm : c ≤ maxLen) (hl : (b.length : Int) ≤ 17000000000000) :
    Calls Try.prog 18 #[.slice A b.length c] w fun e w' => ∃ A' c', e = .returned (.tuple #[.slice A' (nats (takeAll b).1).length c', .int .i64 (takeAll b).2]) ∧ Ow w' w.heap.size 26 .u64 A' c' (nats (takeAll b).1) ∧ Below w.heap.size w w' := by
  have hE := Try.elU64
  go_enter Try.func18, Try.ntmps18
  go_wp2
  go_loopw [0, 4] (fun s out wr => ∃ A' c' b' Ao co ns, s = .slice A' (b' : List Int).length c' ∧ Bts b' ∧ Rd wr w.heap.size .u8 A' b'.length (nth b') ∧ b'.length ≤ c' ∧ c' ≤ maxLen ∧ (ns : List Nat).length + b'.length ≤ b.length ∧
      out = .slice Ao (nats ns).length co ∧ Ow wr w.heap.size 26 .u64 Ao co (nats ns) ∧ Below w.heap.size w wr ∧ takeAll b = (if (takeAll b').2 = 0 then (ns ++ (takeAll b').1, 0) else ([], (takeAll b').2)))
    (fun s _ _ => sLen s)
  case atStart => exact ⟨A, c, b, none, 0, [], rfl, hb, hr, hc, hcm, by simp, rfl, Ow.nil _ _ _ _, Below.refl _ _, by
    by_cases h : (takeAll b).2 = 0
    · rw [if_pos h]; rw [← h]; rfl
    · rw [if_neg h]
      have : (takeAll b).1 = [] := takeAll_fst b hb h
      rw [← this]⟩
  case round =>
    obtain ⟨A', c', b', Ao, co, ns, rfl, hb', hr', hc', hcm', hlen, rfl, hown, hB, ht⟩ := hrel
    have HT := Lib.hid ht
    clear ht
    rcases Nat.eq_zero_or_pos b'.length with h0 | h0
    · obtain rfl := List.eq_nil_of_length_eq_zero h0
      clear h0
      go_wp2_with fail
      go_ret2
      rw [HT.out, takeAll_nil, if_pos rfl, List.append_nil]
      exact ⟨Ao, co, rfl, hown, hB⟩
    · have hne : b' ≠ [] := List.length_pos_iff.1 h0
      have hBs := hB.size
      have cT := code_Take A' c' b' wr hb' (hr'.more hBs) (by omega)
      rcases take_err_or b' with he | he | he
      · have hcnt := take_cnt hb' he
        have hta := takeAll_ok hb' hne he
        obtain ⟨g, off, rfl, hg, hcell⟩ := hr' h0
        have hrd : Rd wr w.heap.size .u8 (some ⟨g, off, none⟩) b'.length (nth b') := fun _ => ⟨g, off, rfl, hg, hcell⟩
        clear hcell hr'
        rw [he] at cT
        generalize (take b').1 = v at *
        generalize (take b').2.1 = k at *
        clear he
        go_wp2_with (go_at_call 13; with_reducible refine cT.mono ?_; rintro e w' ⟨rfl, rfl⟩)
        have hsz : ((nats ns).length + 1) * 8 ≤ 140737488355328 := by rw [nats_len]; omega
        have hnew : ((wr.alloc (.cells #[.int .u64 (v : Int)] /-T-/26)).drew).cell? ⟨wr.heap.size, 0, none⟩ = some (.int .u64 (v : Int)) := by simp [World.cell?_alloc_new]
        have hbase : w.heap.size ≤ ((wr.alloc (.cells #[.int .u64 (v : Int)] /-T-/26)).drew).heap.size := by simp; omega
        go_region_law (refine step_app1' hE ((wr.alloc (.cells #[.int .u64 (v : Int)] /-T-/26)).drew) rfl (.tmp 20) (.tmp 22) rfl w.heap.size .u64 Ao co (nats ns) rfl (hown.alloc _).drew (v : Int) wr.heap.size rfl hnew hsz hbase ?_; intro A2 c2 w1 hown' hb2)
        have hrd' := (hrd.below (((((Below.refl _ wr).alloc hBs _).drew).trans hb2))).cutList (m := k) (c := c') hcnt.2.1 hc'
        have hB' : Below w.heap.size w w1 := hB.trans (((Below.refl _ wr).alloc hBs _).drew.trans hb2)
        rw [nats_snoc] at hown'
        clear hrd hown hB hb2 hnew cT
        generalize (if c' = k then some (⟨g, off, none⟩ : Addr) else some ⟨g, off + k, none⟩) = A3 at *
        go_frame
        simp only [Exit.inBlock]
        have hT2 : takeAll b = (if (takeAll (b'.drop k)).2 = 0 then ((ns ++ [v]) ++ (takeAll (b'.drop k)).1, 0) else ([], (takeAll (b'.drop k)).2)) := by
          rw [HT.out, hta]
          by_cases h : (takeAll (b'.drop k)).2 = 0
          · simp [h]
          · simp [h]
        refine ⟨?_, ?_⟩
        · (repeat apply Exists.intro)
          exact ⟨⟨A3, c' - k, b'.drop k, A2, c2, ns ++ [v], val_slice (by simp), fun x hx => hb' x (List.mem_of_mem_drop hx), hrd', by simp; omega, by omega, by simp; omega, val_slice (by simp [nats]), hown', hB', hT2⟩, rfl⟩
        · simp [sLen]; omega
      · have hta := takeAll_err hne (by rw [he]; simp)
        rw [he] at cT hta
        clear he
        go_wp2_with (go_at_call 13; with_reducible refine cT.mono ?_; rintro e w' ⟨rfl, rfl⟩)
        go_ret2
        rw [HT.out, hta]
        exact ⟨none, 0, rfl, Ow.nil _ _ _ _, hB⟩
      · have hta := takeAll_err hne (by rw [he]; simp)
        rw [he] at cT hta
        clear he
        go_wp2_with (go_at_call 13; with_reducible refine cT.mono ?_; rintro e w' ⟨rfl, rfl⟩)
        go_ret2
        rw [HT.out, hta]
        exact ⟨none, 0, rfl, Ow.nil _ _ _ _, hB⟩
end Go.Proofs.Ytghpiofjejhegaa
