/- Lemmas for wholeNotEmpty; no conditions. -/
import Derived.RowKit
set_option linter.all false
set_option maxRecDepth 100000
set_option maxHeartbeats 16000000
namespace Go.Proofs.YtpggdkenajfjjaaGreatDoor
open Go.RowKit
def ZA:=@decide_eq_false
def ZE:=@decide_eq_true
def ZH:=@Nat.le_refl
def ZI:=@Nat.lt_of_lt_of_le
def ZJ:=@Nat.lt_or_ge
def ZK:=@beq_eq_false_iff_ne
def ZL:=@if_neg
def ZM:=@if_pos
def ZN:=@of_decide_eq_true
def ZO:=@Nat.le_trans
theorem ZP.{u} {α:Type u}{a:α}{l:List α}{i:Nat}:(a::l).take (i+1)=a::l.take i:=rfl
theorem ZQ.{u} {α:Type u}{l:List α}:l.take 0=[]:=rfl
theorem ZR.{u} {α:Type u}{a:α}{l:List α}{i:Nat}:(a::l).drop (i+1)=l.drop i:=rfl
theorem ZT.{u} {α:Type u}{l:List α}:l.drop 0=l:=rfl
def ZU:=@decide_eq_true_eq
def ZV:=@Int.eq_ofNat_of_zero_le
def ZX:=@Bool.and_eq_true
def ZY:=@bne_eq_false_iff_eq
def ZZ:=@bne_iff_ne
def ZC:=@List.length_append
def ZF:=@List.getElem?_eq_getElem
def ZG:=@List.getD_eq_getElem?_getD
def QA:=@Nat.mul_le_mul
def QE:=@List.eq_nil_of_length_eq_zero
def QH:=@Int.tmod_eq_emod_of_nonneg
def QI:=@List.length_cons
def QJ:=@List.length_set
section
open Go.RowKit (wrap64)
namespace Gn
def Zu (x:Int):Prop:=-9223372036854775808≤x∧x≤9223372036854775807
instance (x:Int):Decidable (Zu x):=by unfold Zu;infer_instance
theorem Qk8 {x:Int} (h:Zu x):wrap64 x=x:=by unfold Zu at h;unfold wrap64;omega
def Kd (x:Int):Int:=if Zu x then x else 0
def Xy (x:Int):Int:=if Zu x then 0 else 1
def Fe (op a b:Int):Bool:=
 if op=1 then decide (a<b) else if op=2 then decide (a≤b) else if op=3 then decide (a=b) else if op=4 then decide (a≠b)
 else if op=5 then decide (b<a) else if op=6 then decide (b≤a) else false
def Ry (op:Int):Int:=if op=1 then 6 else if op=2 then 5 else if op=3 then 4 else if op=4 then 3 else if op=5 then 2 else if op=6 then 1 else 0
end Gn
end
namespace Gn
def Jn (a:Int):Int:=if a< -4611686018427387904 then -4611686018427387904 else if 4611686018427387904<a then 9223372036854775807 else a
def Hl (a:Int):Bool:=decide (a=9223372036854775807)||(decide (-4611686018427387904≤a)&&decide (a≤4611686018427387904))
def Zh (a b:Int):Int:=if Jn a=9223372036854775807∨Jn b=9223372036854775807 then 9223372036854775807 else Jn (Jn a+Jn b)
def Yj (a b:Int):Bool:=decide (Jn a≠9223372036854775807∧Jn b≠9223372036854775807∧¬(-4611686018427387904≤Jn a+Jn b∧Jn a+Jn b≤4611686018427387904))
def Ju (a:Int):Int:=if Jn a=9223372036854775807 then 9223372036854775807 else Jn a / 2
def Rl (a:Int):Int:=if Jn a=9223372036854775807 then 9223372036854775807 else 2*(Jn a / 2)
def Jr (a b:Int):Int:=min (Jn a) (Jn b)
def Bd (x:Int):Prop:=x=9223372036854775807∨(-4611686018427387904≤x∧x≤4611686018427387904)
theorem Bd.i64 {x:Int} (h:Bd x):Zu x:=by unfold Bd at h;unfold Zu;omega
theorem Uu (x:Int):Hl x=true↔Bd x:=by simp [Hl,Bd]
theorem Vy (a:Int):Bd (Jn a):=by unfold Bd Jn;split<;>(try split)<;>omega
theorem Zi {a:Int} (h:Bd a):Jn a=a:=by
 unfold Bd at h;unfold Jn;split
 .omega
 split<;>omega
theorem Qp3 (a:Int):Jn (Jn a)=Jn a:=Zi (Vy a)
theorem Oq:Bd 9223372036854775807:=.inl rfl
theorem Ml (a b:Int):Bd (Zh a b):=by unfold Zh;split;· exact Oq
                                     exact Vy _
theorem Ka (a:Int):Bd (Ju a):=by
 have:=Vy a;unfold Ju;split
 .exact Oq
 unfold Bd at*;omega
theorem Vv8 (a:Int):Bd (Rl a):=by
 have:=Vy a;unfold Rl;split
 .exact Oq
 unfold Bd at*;omega
theorem Lg (a b:Int):Bd (Jr a b):=by
 have:=Vy a;have:=Vy b;unfold Jr;unfold Bd at*;omega
theorem Gc (a b:Int):Zh a b=Zh b a:=by
 unfold Zh;rw [Int.add_comm];by_cases h:Jn a=9223372036854775807∨Jn b=9223372036854775807
 .rw [ZM h,ZM h.symm]
 rw [ZL h,ZL (λk=>h k.symm)]
theorem Jt8 (a:Int):Ju (Jn a)=Ju a:=by unfold Ju;rw [Qp3]
theorem Lr (a:Int):Ju a=9223372036854775807↔Jn a=9223372036854775807:=by
 have h:=Vy a;unfold Ju;split
 .simp [*]
 unfold Bd at h;omega
theorem Ck (a:Int):Rl a=if Ju a=9223372036854775807 then 9223372036854775807 else 2*Ju a:=by
 by_cases h:Jn a=9223372036854775807
 .rw [ZM ((Lr a).2 h)];unfold Rl;rw [ZM h]
 rw [ZL (λk=>h ((Lr a).1 k))];unfold Rl Ju;rw [ZL h,ZL h]
theorem Qb8 (a b:Int):Yj a b=false↔(Jn a=9223372036854775807∨Jn b=9223372036854775807∨(-4611686018427387904≤Jn a+Jn b∧Jn a+Jn b≤4611686018427387904)):=by
 unfold Yj;simp;omega
theorem Pp {a b:Int} (ha:Bd a) (hb:Bd b) (h:Yj a b=false):
 (Zh a b=if a=9223372036854775807∨b=9223372036854775807 then 9223372036854775807 else a+b):=by
 rw [Qb8] at h;rw [Zi ha,Zi hb] at h;unfold Zh;rw [Zi ha,Zi hb];split
 .rfl
 exact Zi (by unfold Bd;omega)
theorem Vq2 (a:Int):Rl a≤Jr a 9223372036854775807:=by
 have h:=Vy a;unfold Jr Rl;rw [Zi Oq];unfold Bd at h;split<;>omega
end Gn
namespace Gn
structure Rg where
 lo:Int
 hi:Int
 hl:Bool
 hh:Bool
def Rg.none:Rg:=⟨0,0,false,false⟩
def toR (n:Int) (p:Bool) (m:Int) (q:Bool):Rg:=⟨if p=true then n else 0,if q=true then m else 0,p,q⟩
end Gn
