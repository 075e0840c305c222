/- Lemmas for wholeNotEmpty; no conditions. -/
import Derived.Test.YtpggdkenajfjjaaGreatDoorGal
import Derived.Test.YtpggdkenajfjjaaGreatDoorGad
import Derived.Test.YtpggdkenajfjjaaGreatDoorGab
import Derived.Lib.Hide
import Derived.Deep.QuietTactic
import Derived.Deep.RegionHeld3
set_option linter.all false
set_option maxRecDepth 100000
set_option maxHeartbeats 16000000
namespace Go.Proofs.YtpggdkenajfjjaaGreatDoor
open Go.RowKit Tryz
section
open Gn
theorem Zg4 (n:Int) (w:World):
 Calls prog 192 #[.int .i64 n] w λe w'=>e=.returned (.agg #[.int .i64 n,.bool true])∧Below w.heap.size w w':=by
 go_enter func192,ntmps192
 go_wp2_with fail
 refine QL (v:=.agg #[.int .i64 n,.bool true]) (by simp [results,results192,go_sem]) rfl ⟨rfl,?_⟩
 repeat (first|exact QK _ _|refine Below.setCell ?_ (by simp) _|refine Below.alloc ?_ (by simp) _)
theorem Jn3 (n m:Int) (p q:Bool) (w:World) (R:Rg) (hR:R=toR n p m q):
 Calls prog 193 #[.agg #[.int .i64 n,.bool p],.agg #[.int .i64 m,.bool q]] w λe w'=>e=.returned (.agg #[.int .i64 R.lo,.int .i64 R.hi,.bool R.hl,.bool R.hh])∧Below w.heap.size w w':=by
 subst hR;rcases p with _|_<;>rcases q with _|_
 all_goals
  go_enter func193,ntmps193
  go_wp2_with fail
  refine QL (v:=.agg #[.int .i64 _,.int .i64 _,.bool _,.bool _]) (by simp [results,results193,go_sem];exact ⟨rfl,rfl,rfl,rfl⟩) rfl ⟨rfl,?_⟩
  repeat (first|exact QK _ _|refine Below.setCell ?_ (by simp;omega) _|refine Below.alloc ?_ (by simp;omega) _|refine Below.setCell ?_ (by simp) _|refine Below.alloc ?_ (by simp) _)
theorem Jr4 {R:Rg} {l h:Int} {p q:Bool} (e:R=⟨l,h,p,q⟩):Ending.returned (.agg #[.int .i64 l,.int .i64 h,.bool p,.bool q])=.returned (.agg #[.int .i64 R.lo,.int .i64 R.hi,.bool R.hl,.bool R.hh]):=by subst e;rfl
structure Vr1 (w:World) (b:Nat) (l h:Int) (p q:Bool):Prop where
 c0:w.cell? ⟨b,0,none⟩=some (.int .i64 l)
 c1:w.cell? ⟨b,1,none⟩=some (.int .i64 h)
 c2:w.cell? ⟨b,2,none⟩=some (.bool p)
 c3:w.cell? ⟨b,3,none⟩=some (.bool q)
 fz:∀i,w.frozen? ⟨b,i,none⟩=false
theorem Qd7 {w w':World} {b i:Nat} {v:Value} (hb:Below w.heap.size w w') (hc:w.cell? ⟨b,0,none⟩=some v) (h:w.frozen? ⟨b,i,none⟩=false):w'.frozen? ⟨b,i,none⟩=false:=
 (hb.frozen (p:=⟨b,i,none⟩) (QO w ⟨b,0,none⟩ hc)).trans h
theorem Vr1.lt {w:World} {b:Nat} {l h:Int} {p q:Bool} (k:Vr1 w b l h p q):b<w.heap.size:=QO w ⟨b,0,none⟩ k.c0
theorem Vr1.go {w w':World} {b:Nat} {l h:Int} {p q:Bool} (k:Vr1 w b l h p q) (hb:Below w.heap.size w w'):Vr1 w' b l h p q:=
 ⟨Qq hb k.c0,Qq hb k.c1,Qq hb k.c2,Qq hb k.c3,λi=>Qd7 hb k.c0 (k.fz i)⟩
theorem Vr1.new (w:World) (t:TypeId) (l h:Int) (p q:Bool):Vr1 (w.alloc (.cells #[.int .i64 l,.int .i64 h,.bool p,.bool q] t)) w.heap.size l h p q:=
 ⟨by simp [QM],by simp [QM],by simp [QM],by simp [QM],λi=>by simp [go_sem]⟩
theorem Vr1.other {w:World} {b b':Nat} {l h:Int} {p q:Bool} (k:Vr1 w b l h p q) (hne:b≠b') (v v':Value):Vr1 ((w.setCell ⟨b',0,none⟩ v).setCell ⟨b',1,none⟩ v') b l h p q:=
 ⟨by simp [go_sem,k.c0,hne],by simp [go_sem,k.c1,hne],by simp [go_sem,k.c2,hne],by simp [go_sem,k.c3,hne],λi=>by simp [go_sem,k.fz]⟩
end
