/- Lemmas for wholeNotEmpty; no conditions. -/
import Derived.Test.YtpggdkenajfjjaaGreatDoorGad
import Derived.Test.YtpggdkenajfjjaaGreatDoorGal
import Derived.Lib.Hide
set_option linter.all false
set_option maxRecDepth 100000
set_option maxHeartbeats 16000000
namespace Go.Proofs.YtpggdkenajfjjaaGreatDoor
open Go.RowKit Tryz
section
open Gn
theorem Bl (n:Int) (w:World):Calls prog 71 #[.int .i64 n] w λe w'=>e=.returned (.bool (decide (0≤n∧n≤64)))∧w=w':=by
 go_enter func71,ntmps71
 by_cases h0:0≤n
 .by_cases h1:n≤64
  .go_wp2_with fail
   go_ret
   simp [h0,h1]
  go_wp2_with fail
  go_ret
  simp [h1]
 go_wp2_with fail
 go_ret
 simp;omega
theorem Vp (i:Nat) (w:World) (h:i<1000000):Calls prog 19 #[.int .i64 i] w λe w'=>e=.returned (.int .i64 (ac i))∧w=w':=by
 go_enter func19,ntmps19
 have:(i:Int).tmod 2=((i % 2:Nat):Int):=by rw [QH (by omega)];omega
 by_cases h0:i % 2=0
 .have hb:(((i % 2:Nat):Int)==0)=true:=by rw [h0];rfl
  have he:((ac i:Nat):Int)=i+1:=by unfold ac;rw [ZM h0];omega
  rw [he];go_wp2_with fail
  go_ret
  simp
 have hb:(((i % 2:Nat):Int)==0)=false:=beq_eq_false_iff_ne.2 (by omega);have he:((ac i:Nat):Int)=i - 1:=by unfold ac;rw [ZL h0];omega
 rw [he];go_wp2_with fail
 go_ret
 simp
theorem Wx (i j n:Nat) (w:World) (hi:i<1000) (hj:j<1000) (hn:n<1000):
 Calls prog 72 #[.agg #[.int .i64 i,.int .i64 j],.int .i64 n] w λe w'=>e=.returned (.int .i64 ((i*(2*n)+j:Nat):Int))∧Below w.heap.size w w':=by
 have:i*(2*n)≤1000*2000:=QA (by omega) (by omega);have:(2*(n:Int))*(i:Int)=((i*(2*n):Nat):Int):=by push_cast;rw [Int.mul_comm]
 generalize i*(2*n)=p at*;go_enter func72,ntmps72
 go_wp2_with fail
 go_ret
 exact ⟨by push_cast;rfl,(QK _ _).alloc (ZH _) _⟩
theorem Xp {x:Nat} (h:x<256):bits .xor .i64 (x:Int) 1=(ac x:Int):=by
 have h':∀x,x<256->bits .xor .i64 ((x:Nat):Int) 1=((ac x:Nat):Int):=by decide+kernel
 exact h' x h
theorem Hx (i j:Nat) (w:World) (hi:i<256) (hj:j<256):
 Calls prog 74 #[.agg #[.int .i64 i,.int .i64 j]] w λe w'=>e=.returned (.agg #[.int .i64 (ac j),.int .i64 (ac i)])∧Below w.heap.size w w':=by
 have:=Xp hi;have:=Xp hj;generalize ac i=ai at*;generalize ac j=aj at*;go_enter func74,ntmps74
 go_wp2_with fail
 exact QL (v:=.agg #[.int .i64 aj,.int .i64 ai]) (by simp [results,results74,go_sem]) rfl ⟨rfl,((QK _ _).alloc (ZH _) _).alloc (by simp) _⟩
end
