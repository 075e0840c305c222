/- Walks: bytes held against one another; folds; the known values of layer 18. -/
import Derived.Test.YtkgddgckilledaaCodW
namespace Go.Proofs.Ytkgddgckilledaa
open Go.RowKit
open Gn
theorem xor_ones {a : Nat} (h : a < 18446744073709551616) : a ^^^ 18446744073709551615 = 18446744073709551615 - a := by
  have e := congrArg BitVec.toNat (BitVec.xor_allOnes (x := BitVec.ofNat 64 a))
  rw [BitVec.toNat_xor, BitVec.toNat_not, BitVec.toNat_allOnes, BitVec.toNat_ofNat, Nat.mod_eq_of_lt (by omega)] at e
  omega
theorem fold_neg {n : Int} (h1 : -9223372036854775808 ≤ n) (h0 : n < 0) :
    bits .xor .u64 (IntKind.u64.wrap (IntKind.u64.wrap n * 2)) (IntKind.u64.wrap (n / 9223372036854775808)) = fold n := by
  have e1 : IntKind.u64.wrap n = n + 18446744073709551616 := by
    simp [IntKind.wrap, IntKind.bits, IntKind.signed]; omega
  have e2 : IntKind.u64.wrap ((n + 18446744073709551616) * 2) = ((2 * n + 18446744073709551616).toNat : Int) := by
    simp [IntKind.wrap, IntKind.bits, IntKind.signed]; omega
  have e3 : n / 9223372036854775808 = -1 := by omega
  have e4 : IntKind.u64.wrap (-1) = ((18446744073709551615 : Nat) : Int) := by decide
  rw [e1, e2, e3, e4, u64_xor_nat _ _ (by omega) (by omega), xor_ones (by omega)]
  unfold fold
  rw [if_pos h0]
  omega
theorem fold_pos {n : Int} (h1 : n ≤ 9223372036854775807) (h0 : 0 ≤ n) : bits .xor .u64 (n * 2) (n / 9223372036854775808) = fold n := by
  have e3 : n / 9223372036854775808 = ((0 : Nat) : Int) := by omega
  have e2 : n * 2 = (((n * 2).toNat : Nat) : Int) := by omega
  rw [e3, e2, u64_xor_nat _ _ (by omega) (by omega), Nat.xor_zero]
  unfold fold
  rw [if_neg (by omega)]
  omega
theorem unfold_bits {n : Int} (h0 : 0 ≤ n) (h1 : n ≤ 18446744073709551615) :
    bits .xor .i64 (n / 2) (wrap64 (-wrap64 (bits .and .u64 n 1))) = unfold' n := by
  have e1 : bits .and .u64 n 1 = n % 2 := by
    have := u64_and_nat n.toNat 1 (by omega) (by omega)
    rw [show ((n.toNat : Nat) : Int) = n by omega, show ((1 : Nat) : Int) = 1 from rfl] at this
    rw [this, Nat.and_one_is_mod]; omega
  rw [e1, wrap64_eq (x := n % 2) (by unfold I64; omega), wrap64_eq (x := -(n % 2)) (by unfold I64; omega)]
  have eN : (BitVec.ofInt 64 (n / 2)).toNat = (n / 2).toNat := by
    rw [show n / 2 = ((n / 2).toNat : Int) by omega, BitVec.ofInt_natCast, BitVec.toNat_ofNat]
    omega
  unfold unfold'
  by_cases h : n % 2 = 1
  · rw [h, if_pos rfl]
    show IntKind.i64.wrap ((BitVec.ofInt 64 (n / 2) ^^^ BitVec.ofInt 64 (-1)).toNat : Int) = _
    rw [show BitVec.ofInt 64 (-1) = BitVec.allOnes 64 by decide, BitVec.xor_allOnes, BitVec.toNat_not, eN, IntKind.wrap_i64]
    omega
  · rw [show n % 2 = 0 by omega]
    show IntKind.i64.wrap ((BitVec.ofInt 64 (n / 2) ^^^ BitVec.ofInt 64 (-0)).toNat : Int) = _
    rw [show BitVec.ofInt 64 (-0) = 0#64 by decide, BitVec.xor_zero, eN, IntKind.wrap_i64]
    simp; omega
theorem conv_rd {P : Program} {w : World} {B c : Nat} {A : Option Addr} {xs : List Int} (src e dst : TypeId) (hs : P.underlying src = some (.slice e)) (he : P.underlying e = some (.int .u8)) (hd : P.underlying dst = some .string)
    (h : Rd w B .u8 A xs.length (nth xs)) : (convert src dst (.slice A xs.length c)).run P w = .ok (.string (strOfNums xs)) w := by
  rcases Nat.eq_zero_or_pos xs.length with h0 | h0
  · obtain rfl := List.eq_nil_of_length_eq_zero h0
    rcases A with _ | ad
    · exact run_convert_bytes_nil w src e hs he 0 c dst hd
    · rw [run_convert_bytes_string w src dst e _ _ c hs he hd]
      have hl : (loadCells ad 0).run P w = .ok (([] : List Int).map (Value.int .u8)).toArray w := by
        exact run_loadCells_list (P := P) w ad [] (fun j v hj => by simp at hj)
      simp only [List.length_nil]
      rw [run_bytesToString w _ 0 c [] hl]
      rfl
  · obtain ⟨b, off, rfl, _, hc⟩ := h h0
    exact run_convert_bytes_arg w src e hs he b off _ c xs rfl (fun i hi => by rw [hc i hi]; rfl) dst hd
theorem strOfNums_inj {xs ys : List Int} (hx : Bts xs) (hy : Bts ys) (h : strOfNums xs = strOfNums ys) : xs = ys := by
  have h1 : (strOfNums xs).data.toList = (strOfNums ys).data.toList := by rw [h]
  rw [strOfNums_data, strOfNums_data] at h1
  clear h
  induction xs generalizing ys with
  | nil => cases ys with
    | nil => rfl
    | cons y ys => simp at h1
  | cons x xs ih => cases ys with
    | nil => simp at h1
    | cons y ys =>
      simp only [List.map_cons, List.cons.injEq] at h1
      have a := hx x (by simp)
      have b := hy y (by simp)
      have e : x = y := by
        have := congrArg UInt8.toNat h1.1
        simp at this
        omega
      rw [e, ih (fun z hz => hx z (by simp [hz])) (fun z hz => hy z (by simp [hz])) h1.2]
theorem str_beq {xs ys : List Int} (hx : Bts xs) (hy : Bts ys) : ((strOfNums xs).toList == (strOfNums ys).toList) = decide (xs = ys) := by
  rw [Bool.eq_iff_iff, beq_iff_eq, decide_eq_true_eq]
  refine ⟨fun h => strOfNums_inj hx hy ?_, fun h => by rw [h]⟩
  rw [ByteArray.toList_eq, ByteArray.toList_eq] at h
  have : (strOfNums xs).data = (strOfNums ys).data := Array.toList_inj.1 h
  exact congrArg ByteArray.mk this
end Go.Proofs.Ytkgddgckilledaa
