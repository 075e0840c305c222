/- Lemmas for wholeNotEmpty; no conditions. -/
import Derived.Test.YtpggdkenajfjjaaGreatDoorGal
import Derived.Laws.EntriesVeiled
set_option linter.all false
set_option maxRecDepth 100000
set_option maxHeartbeats 16000000
namespace Go.Proofs.YtpggdkenajfjjaaGreatDoor
open Go.RowKit Tryz
section
open Gn
theorem Vq7 (op:Int) (w:World):
 Calls prog 118 #[.int .i64 op] w λe w'=>e=.returned (.int .i64 (Ry op))∧w=w':=by
 by_cases h1:op<1
 .have f:Ry op=0:=by unfold Ry;repeat' (first|rw [ZL (by omega)])
  rw [f];clear f;go_enter func118,ntmps118
  go_wp2
  go_ret
  exact ⟨rfl,rfl⟩
 by_cases h2:6<op
 .have f:Ry op=0:=by unfold Ry;repeat' (first|rw [ZL (by omega)])
  rw [f];clear f;go_enter func118,ntmps118
  go_wp2
  go_ret
  exact ⟨rfl,rfl⟩
 have h:op=1∨op=2∨op=3∨op=4∨op=5∨op=6:=by omega
 clear h1 h2;have:∀w,(Instr.index 252 (.agg #[.int .i64 0,.int .i64 6,.int .i64 5,.int .i64 4,.int .i64 3,.int .i64 2,.int .i64 1]) (.int .i64 1)).run prog w=.ok (.int .i64 6) w:=λ_=>by kernel_rfl
 have:∀w,(Instr.index 252 (.agg #[.int .i64 0,.int .i64 6,.int .i64 5,.int .i64 4,.int .i64 3,.int .i64 2,.int .i64 1]) (.int .i64 2)).run prog w=.ok (.int .i64 5) w:=λ_=>by kernel_rfl
 have:∀w,(Instr.index 252 (.agg #[.int .i64 0,.int .i64 6,.int .i64 5,.int .i64 4,.int .i64 3,.int .i64 2,.int .i64 1]) (.int .i64 3)).run prog w=.ok (.int .i64 4) w:=λ_=>by kernel_rfl
 have:∀w,(Instr.index 252 (.agg #[.int .i64 0,.int .i64 6,.int .i64 5,.int .i64 4,.int .i64 3,.int .i64 2,.int .i64 1]) (.int .i64 4)).run prog w=.ok (.int .i64 3) w:=λ_=>by kernel_rfl
 have:∀w,(Instr.index 252 (.agg #[.int .i64 0,.int .i64 6,.int .i64 5,.int .i64 4,.int .i64 3,.int .i64 2,.int .i64 1]) (.int .i64 5)).run prog w=.ok (.int .i64 2) w:=λ_=>by kernel_rfl
 have:∀w,(Instr.index 252 (.agg #[.int .i64 0,.int .i64 6,.int .i64 5,.int .i64 4,.int .i64 3,.int .i64 2,.int .i64 1]) (.int .i64 6)).run prog w=.ok (.int .i64 1) w:=λ_=>by kernel_rfl
 rcases h with rfl|rfl|rfl|rfl|rfl|rfl
 all_goals
  go_enter func118,ntmps118
  go_wp2
  try go_ret
  try exact ⟨rfl,rfl⟩
def Ar:Value:=.agg #[.func (.func 333) #[] #[],.func (.func 334) #[] #[],.func (.func 335) #[] #[],.func (.func 336) #[] #[],.func (.func 337) #[] #[],.func (.func 338) #[] #[],.func (.func 339) #[] #[]]
theorem Qc1 (w:World):Calls prog 292 #[] w λe w'=>e=.returned Ar∧Below w.heap.size w w':=by
 unfold Ar;go_enter func292,ntmps292
 go_wp2
 refine bodyPost_ret (v:=.agg #[.func (.func 333) #[] #[],.func (.func 334) #[] #[],.func (.func 335) #[] #[],.func (.func 336) #[] #[],.func (.func 337) #[] #[],.func (.func 338) #[] #[],.func (.func 339) #[] #[]]) (by simp [results,results292,go_sem]) rfl ⟨rfl,?_⟩;exact (Below.refl _ _).alloc (ZH _) _
theorem Zh9 (op a b:Int) (w:World):
 Calls prog 243 #[.int .i64 op,.int .i64 a,.int .i64 b] w λe w'=>e=.returned (.bool (Fe op a b))∧Below w.heap.size w w':=by
 by_cases h1:op<1
 .have f:Fe op a b=false:=by unfold Fe;repeat' (first|rw [ZL (by omega)])
  rw [f];clear f;go_enter func243,ntmps243
  go_wp2
  go_ret
  exact ⟨rfl,Below.refl _ _⟩
 by_cases h2:6<op
 .have f:Fe op a b=false:=by unfold Fe;repeat' (first|rw [ZL (by omega)])
  rw [f];clear f;go_enter func243,ntmps243
  go_wp2
  go_ret
  exact ⟨rfl,Below.refl _ _⟩
 have h:op=1∨op=2∨op=3∨op=4∨op=5∨op=6:=by omega
 clear h1 h2;have c:=Qc1 w;have:∀w,(Instr.index 380 Ar (.int .i64 1)).run prog w=.ok (.func (.func 334) #[] #[]) w:=λ_=>by kernel_rfl
 have:∀w,(Instr.index 380 Ar (.int .i64 2)).run prog w=.ok (.func (.func 335) #[] #[]) w:=λ_=>by kernel_rfl
 have:∀w,(Instr.index 380 Ar (.int .i64 3)).run prog w=.ok (.func (.func 336) #[] #[]) w:=λ_=>by kernel_rfl
 have:∀w,(Instr.index 380 Ar (.int .i64 4)).run prog w=.ok (.func (.func 337) #[] #[]) w:=λ_=>by kernel_rfl
 have:∀w,(Instr.index 380 Ar (.int .i64 5)).run prog w=.ok (.func (.func 338) #[] #[]) w:=λ_=>by kernel_rfl
 have:∀w,(Instr.index 380 Ar (.int .i64 6)).run prog w=.ok (.func (.func 339) #[] #[]) w:=λ_=>by kernel_rfl
 rcases h with rfl|rfl|rfl|rfl|rfl|rfl
 all_goals
  go_enter func243,ntmps243
  go_wp2_with (first|(go_at_call 292;refine c.mono ?_;rintro e _ ⟨rfl,hb⟩)|go_in)
  go_ret
  exact ⟨by simp [Fe]<;>rfl,hb⟩
theorem Vy3 (op:Int) (w:World):
 Calls prog 49 #[.int .i64 op] w λe w'=>e=.returned (.int .i64 (Ry op))∧w=w':=by
 by_cases h:op=1∨op=2∨op=3∨op=4∨op=5∨op=6
 .rcases h with rfl|rfl|rfl|rfl|rfl|rfl
  all_goals
   go_enter func49,ntmps49
   go_wp2
   go_ret
   exact ⟨rfl,rfl⟩
 have f:Ry op=0:=by unfold Ry;repeat' (first|rw [ZL (by omega)])
 have:(op==1)=false:=beq_eq_false_iff_ne.2 (by omega);have:(op==2)=false:=beq_eq_false_iff_ne.2 (by omega);have:(op==3)=false:=beq_eq_false_iff_ne.2 (by omega);have:(op==4)=false:=beq_eq_false_iff_ne.2 (by omega);have:(op==5)=false:=beq_eq_false_iff_ne.2 (by omega);have:(op==6)=false:=beq_eq_false_iff_ne.2 (by omega);rw [f];clear f h;go_enter func49,ntmps49
 go_wp2
 go_ret
 exact ⟨rfl,rfl⟩
theorem Vx9 (op a b:Int) (w:World):
 Calls prog 108 #[.int .i64 op,.int .i64 a,.int .i64 b] w λe w'=>e=.returned (.bool (Fe op a b))∧w=w':=by
 by_cases h:op=1∨op=2∨op=3∨op=4∨op=5∨op=6
 .rcases h with rfl|rfl|rfl|rfl|rfl|rfl
  all_goals
   go_enter func108,ntmps108
   go_wp2
   go_ret
   exact ⟨by simp [Fe]<;>rfl,rfl⟩
 have f:Fe op a b=false:=by unfold Fe;repeat' (first|rw [ZL (by omega)])
 have:(op==1)=false:=beq_eq_false_iff_ne.2 (by omega);have:(op==2)=false:=beq_eq_false_iff_ne.2 (by omega);have:(op==3)=false:=beq_eq_false_iff_ne.2 (by omega);have:(op==4)=false:=beq_eq_false_iff_ne.2 (by omega);have:(op==5)=false:=beq_eq_false_iff_ne.2 (by omega);have:(op==6)=false:=beq_eq_false_iff_ne.2 (by omega);rw [f];clear f h;go_enter func108,ntmps108
 go_wp2
 go_ret
 exact ⟨rfl,rfl⟩
end
