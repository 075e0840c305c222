/- Lemmas for wholeNotEmpty; no conditions. -/
import Derived.Test.YtpggdkenajfjjaaGreatDoorGar
import Derived.Test.YtpggdkenajfjjaaGreatDoorGap
set_option linter.all false
set_option maxRecDepth 100000
set_option maxHeartbeats 16000000
namespace Go.Proofs.YtpggdkenajfjjaaGreatDoor
open Go.RowKit
namespace Gn
def Vw4 (i j:Nat):Bool:=decide (i<ac j∨(i=ac j∧j≤ac i))
def isP (i j:Nat):Bool:=decide (i≠j)&&Vw4 i j
def Ey (i k:Nat):List (Nat×Nat):=((List.range k).filter λj=>isP i j).map λj=>(i,j)
theorem Gt (i k:Nat):Ey i (k+1)=if isP i k=true then Ey i k++[(i,k)] else Ey i k:=by
 unfold Ey;rw [List.range_succ,List.filter_append,List.map_append];cases h:isP i k<;>simp [h]
theorem Jj6 (i:Nat):Ey i 0=[]:=rfl
theorem Qo5 (i k:Nat):(Ey i k).length≤k:=by
 unfold Ey;rw [List.length_map];exact ZO (List.length_filter_le _ _) (by simp)
def Mi (n k:Nat):List (Nat×Nat):=(List.range k).flatMap λi=>Ey i (2*n)
theorem El (n k:Nat):Mi n (k+1)=Mi n k++Ey k (2*n):=by
 unfold Mi;rw [List.range_succ,List.flatMap_append];simp
theorem Bf (n:Nat):∀k,(Mi n k).length≤k*(2*n)
 |0=>by simp [Mi]
 |k+1=>by
  rw [El,ZC,Nat.add_mul];have:=Bf n k
  have:=Qo5 k (2*n)
  omega
def Ze (n:Nat):List (Nat×Nat):=Mi n (2*n)
theorem Jx1 (n:Nat):(Ze n).length≤(2*n)*(2*n):=Bf n (2*n)
theorem Qw2 {n:Nat} {p:Nat×Nat}:p∈Ze n↔p.1<2*n∧p.2<2*n∧isP p.1 p.2=true:=by
 obtain ⟨a,b⟩:=p;unfold Ze Mi Ey;simp only [List.mem_flatMap,List.mem_range,List.mem_map,List.mem_filter,Prod.mk.injEq];constructor
 .rintro ⟨i,hi,j,⟨hj,hp⟩,rfl,rfl⟩;exact ⟨hi,hj,hp⟩
 rintro ⟨h1,h2,h3⟩;exact ⟨a,h1,b,⟨h2,h3⟩,rfl,rfl⟩
def Tz (ps:List (Nat×Nat)) (k:Nat):Nat:=(ps.getD k (0,0)).1
def Tw (ps:List (Nat×Nat)) (k:Nat):Nat:=(ps.getD k (0,0)).2
theorem Qi4 {ps:List (Nat×Nat)} {k:Nat} (h:k<ps.length):(Tz ps k,Tw ps k)∈ps:=by
 unfold Tz Tw;rw [ZG,ZF h];exact List.getElem_mem h
structure ES where
 l:List Nat
 nxt:Nat
 cnt:Nat
def Sa (m:Nat) (M:List Int) (ps:List (Nat×Nat)) (k:Nat) (s:ES):ES:=
 if cl m M (Tz ps k) (Tw ps k)=9223372036854775807 then s else ⟨s.l++[k - s.nxt,(Te (cl m M (Tz ps k) (Tw ps k))).toNat],k+1,s.cnt+1⟩
def Kf (m:Nat) (M:List Int) (ps:List (Nat×Nat)):Nat->ES
 |0=>⟨[],0,0⟩
 |k+1=>Sa m M ps k (Kf m M ps k)
theorem Za1 (m:Nat) (M:List Int) (ps:List (Nat×Nat)) (k:Nat):Kf m M ps (k+1)=Sa m M ps k (Kf m M ps k):=rfl
theorem Qi1 {v:Int} (h:Zu v):((Te v).toNat:Int)=Te v∧Te v≤18446744073709551615:=by
 unfold Te Zu at*;split<;>omega
theorem Jk9 (m:Nat) (M:List Int) (ps:List (Nat×Nat)) (hM:∀k,Zu (cl m M (Tz ps k) (Tw ps k))):∀k:Nat,(k:Int)≤1000000->
 (Kf m M ps k).nxt≤k∧(Kf m M ps k).cnt≤k∧(Kf m M ps k).l.length=2*(Kf m M ps k).cnt∧∀x∈(Kf m M ps k).l,(x:Int)≤18446744073709551615:=by
 intro k;induction k with
 |zero=>intro _;simp [Kf]
 |succ k ih=>
  intro hk;obtain ⟨_,_,h3,h4⟩:=ih (by omega);rw [Za1];unfold Sa;split
  .exact ⟨by omega,by omega,h3,h4⟩
  refine ⟨ZH _,by simp only;omega,by simp only [ZC,QI,List.length_nil,h3];omega,λx hx=>?_⟩;simp only [List.mem_append,List.mem_cons,List.not_mem_nil,or_false] at hx;rcases hx with hx|rfl|rfl
  .exact h4 x hx
  .omega
  have:=Qi1 (hM k)
  omega
def Zc4 (n:Nat) (M:List Int):ES:=Kf (2*n) M (Ze n) (Ze n).length
def Il (n:Nat) (E:Bool) (M:List Int):List Int:=if E=true then [0] else [1]++Aq (Zc4 n M).cnt++Jp (Zc4 n M).l
end Gn
