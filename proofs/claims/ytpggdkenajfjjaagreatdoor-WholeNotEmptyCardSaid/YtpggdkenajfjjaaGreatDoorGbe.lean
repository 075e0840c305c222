/- Lemmas for wholeNotEmpty; no conditions. -/
import Derived.Test.YtpggdkenajfjjaaGreatDoorGau
import Derived.Test.YtpggdkenajfjjaaGreatDoorGaw
import Derived.LoopN
set_option linter.all false
set_option maxRecDepth 100000
set_option maxHeartbeats 16000000
namespace Go.Proofs.YtpggdkenajfjjaaGreatDoor
open Go.RowKit Tryz
open Go.Lib renaming hid → Hd
namespace Gn
theorem Zu9 (i:Nat):ac i / 2=i / 2:=by unfold ac;split<;>omega
theorem Zz5 (i:Nat):(ac i % 2=1)↔¬(i % 2=1):=by unfold ac;split<;>omega
theorem Be (x:List Int) (i:Nat):Zo x (ac i)=-Zo x i:=by
 unfold Zo;rw [Zu9];by_cases h:i % 2=1
 .rw [ZL (λk=>(Zz5 i).1 k h),ZM h];omega
 rw [ZM ((Zz5 i).2 h),ZL h]
theorem Qw3 (x:List Int) (i j:Nat):Qc x (ac j) (ac i)=Qc x i j:=by
 unfold Qc;rw [Be,Be];omega
theorem Ac (x:List Int) (i:Nat):Qc x i i=0:=by unfold Qc;omega
theorem Vd4 {a b:Int} (ha:Bd a) (hb:Bd b):Bd (min a b):=by unfold Bd at*;omega
theorem Pn {a b:Nat} (h:ac a=ac b):a=b:=by rw [<-Ve a,h,Ve]
theorem Ks {n:Nat} {M:List Int} {i j:Nat} {c:Int} (hl:M.length=(2*n)*(2*n)) (hok:Yo (2*n) M) (hi:i<2*n) (hj:j<2*n) (hij:i≠j):Yo (2*n) (Zq (2*n) M i j c):=by
 have hai:=Qg hi;have haj:=Qg hj;intro a ha b hb;have haa:=Qg ha;have:=Qg hb;have h0:=hok a ha b hb;have h1:=hok i hi j hj;have hc1:=Xn (c:=c) hl hi hj hai haj (a:=a) hb;have hc2:=Xn (c:=c) hl hi hj hai haj (a:=ac b) haa;have hbd:=Vd4 ((Uu _).1 h1.1) (Vy c);by_cases h:(a=i∧b=j)∨(a=ac j∧b=ac i)
 .rw [ZM h] at hc1;rw [ZM (by rcases h with ⟨rfl,rfl⟩|⟨rfl,rfl⟩;exact .inr ⟨rfl,rfl⟩;exact .inl ⟨Ve _,Ve _⟩)] at hc2;refine ⟨?_,λe=>?_,?_⟩
  .rw [hc1];exact (Uu _).2 hbd
  .exfalso
   rcases h with ⟨rfl,rfl⟩|⟨rfl,rfl⟩
   .exact hij e
   exact hij (Pn e).symm
  rw [hc1,hc2]
 rw [ZL h] at hc1;rw [ZL (by
  rintro (⟨h1,h2⟩|⟨h1,h2⟩)
  .exact h (.inr ⟨by rw [<-h2,Ve],by rw [<-h1,Ve]⟩)
  exact h (.inl ⟨Pn h2,Pn h1⟩))] at hc2
 unfold Lx;rw [hc1,hc2];exact h0
theorem Zo1 {n:Nat} {M:List Int} {i j:Nat} {c:Int} (h:Je n false M=0) (hi:i<2*n) (hj:j<2*n) (hij:i≠j):Je n false (Zq (2*n) M i j c)=0:=by
 obtain ⟨m,_,hn,_,h0⟩:=Zz h;obtain rfl:n=m:=by omega
 obtain ⟨hl,hok⟩:=h0 rfl;exact Gu hn (by rw [Xj,hl]) (Ks (by rw [hl,Bz]) hok hi hj hij)
theorem Dy {n:Nat} {M x:List Int} {i j:Nat} {c:Int} (hl:M.length=(2*n)*(2*n)) (hok:Yo (2*n) M) (hi:i<2*n) (hj:j<2*n):
 Zr (2*n) (Zq (2*n) M i j c) x↔Zr (2*n) M x∧(Jn c=9223372036854775807∨Qc x i j≤Jn c):=by
 have hai:=Qg hi;have haj:=Qg hj;have h1:=hok i hi j hj;have hv:=(Uu _).1 h1.1;have hcb:=Vy c;have hm:=Qw3 x i j;have key:(min (cl (2*n) M i j) (Jn c)=9223372036854775807∨Qc x i j≤min (cl (2*n) M i j) (Jn c))↔(Cr (2*n) M x i j∧(Jn c=9223372036854775807∨Qc x i j≤Jn c)):=by
  unfold Cr;unfold Bd at hv hcb;omega
 have hsym:Cr (2*n) M x (ac j) (ac i)↔Cr (2*n) M x i j:=by unfold Cr;rw [<-h1.2.2,hm]
 constructor
 .intro H;have h2:=H i hi j hj;unfold Cr at h2;rw [Xn hl hi hj hai haj hj,ZM (.inl ⟨rfl,rfl⟩)] at h2;have h2:=key.1 h2;refine ⟨λa ha b hb=>?_,h2.2⟩;by_cases h:(a=i∧b=j)∨(a=ac j∧b=ac i)
  .rcases h with ⟨rfl,rfl⟩|⟨rfl,rfl⟩
   .exact h2.1
   exact hsym.2 h2.1
  have h3:=H a ha b hb;unfold Cr at h3;rw [Xn hl hi hj hai haj hb,ZL h] at h3;exact h3
 rintro ⟨H,hc⟩ a ha b hb;unfold Cr;rw [Xn hl hi hj hai haj hb];by_cases h:(a=i∧b=j)∨(a=ac j∧b=ac i)
 .rw [ZM h];have h2:=key.2 ⟨H i hi j hj,hc⟩;rcases h with ⟨rfl,rfl⟩|⟨rfl,rfl⟩
  .exact h2
  rw [hm];exact h2
 rw [ZL h];exact H a ha b hb
end Gn
namespace Gn
theorem Zk2 {α β:Type} (f:Nat->α->α) (g:Nat->β->β) (R:α->β->Prop) (n:Nat) (S:α) (T:β) (h0:R S T) (hs:∀i,i<n->∀S T,R S T->R (f i S) (g i T)):R (lp f n S) (lp g n T):=by
 induction n with
 |zero=>exact h0
 |succ n ih=>exact hs n (by omega) _ _ (ih λi hi=>hs i (by omega))
theorem Ad {a c:Int} (h:a≤c):Jn a≤Jn c:=by
 unfold Jn;repeat' split<;>omega
theorem Zy2 {a b c d:Int} (h:a≤c) (k:b≤d):Zh a b≤Zh c d:=by
 have h1:=Vy a;have h2:=Vy b;have h3:=Vy c;have h4:=Vy d;have:=Ad h;have:=Ad k;have h7:=Ml a b;unfold Bd at h7;unfold Zh at*;generalize Jn a=x at*;generalize Jn b=y at*;generalize Jn c=z at*;generalize Jn d=t at*;unfold Bd at h1 h2 h3 h4;by_cases hr:z=9223372036854775807∨t=9223372036854775807
 .rw [ZM hr];omega
 rw [ZL hr,ZL (by omega)];exact Ad (by omega)
theorem Zn3 {a b c d:Int} (h:a≤c) (k:b≤d):Jr a b≤Jr c d:=by
 have:=Ad h;have:=Ad k;unfold Jr;omega
theorem Ll (X:List Int) (k:Nat) (v:Int) (i:Nat):Qe (X.set k v) i=if k=i∧k<X.length then v else Qe X i:=by
 unfold Qe;simp only [ZG,List.getElem?_set];by_cases h:k=i
 .subst h;by_cases h2:k<X.length
  .simp [h2]
  simp [h2]
 simp [h]
def le (X Y:List Int):Prop:=X.length=Y.length∧∀k,Qe X k≤Qe Y k
theorem Qg6 (X:List Int):le X X:=⟨rfl,λ_=>Int.le_refl _⟩
theorem Vf7 {X Y:List Int} (h:le X Y) {v u:Int} (hv:v≤u) (k:Nat):le (X.set k v) (Y.set k u):=by
 refine ⟨by simp [h.1],λi=>?_⟩;rw [Ll,Ll,h.1];split
 .exact hv
 exact h.2 i
theorem Zv1 {m:Nat} {S T:MS} (h:le S.1 T.1):le (Jo m S).1 (Jo m T).1:=by
 refine Zk2 _ _ (λS T:MS=>le S.1 T.1) _ _ _ h λk _ S T h=>?_
 refine Zk2 _ _ (λS T:MS=>le S.1 T.1) _ _ _ h λi _ S T h=>?_
 refine Zk2 _ _ (λS T:MS=>le S.1 T.1) _ _ _ h λj _ S T h=>?_
 exact Vf7 h (Zn3 (h.2 _) (Zy2 (h.2 _) (h.2 _))) _
theorem Zt6 {n:Nat} {M:List Int} (h:Je n false M=0):Zp n false M=match Zb (2*n) M with
 |(none,s)=>((((n:Int),true,[]),s),0)
 |(some X,s)=>((((n:Int),false,X),s),0):=by
 unfold Zp;rw [ZL (by omega),ZL (by simp)];simp only [Int.toNat_natCast];rcases Zb (2*n) M with ⟨_|X,s⟩<;>rfl
theorem Qg3 {n:Nat} {M:List Int} (h:Je n true M=0):Zp n true M=((((n:Int),true,[]),false),0):=by
 unfold Zp;rw [ZL (by omega),ZM rfl]
end Gn
namespace Gn
theorem Mg {α:Type} (f:Nat->Nat->α->α) (I:Nat->Nat->α->Prop) (m:Nat) (S:α) (h0:I 0 0 S) (hs:∀i,i<m->∀j,j<m->∀S,I i j S->I i (j+1) (f i j S)) (hr:∀i,i<m->∀S,I i m S->I (i+1) 0 S):I m 0 (lp (λi=>lp (f i) m) m S):=
 Ax _ (λi S=>I i 0 S) m S h0 λi hi S h=>hr i hi _ (Ax (f i) (λj S=>I i j S) m S h λj hj S h=>hs i hi j hj S h)
theorem Fo (a b:Int):Jr a b=Jr b a:=by unfold Jr;omega
theorem Th {a b:Int} (ha:Bd a) (hb:Bd b):Jr a b=min a b:=by unfold Jr;rw [Zi ha,Zi hb]
theorem Gl {a:Int} (ha:Bd a):Zh a 0=a:=by
 unfold Zh;rw [Zi ha,Zi (show Bd 0 by unfold Bd;omega)];split
 .omega
 rw [Int.add_zero,Zi ha]
theorem Qk7 {a:Int} (ha:Bd a):Zh 0 a=a:=by rw [Gc];exact Gl ha
theorem Tq {a:Int} (ha:Bd a):Jr a a=a:=by rw [Th ha ha];omega
theorem Dc {a b:Int} (ha:Bd a) (hb:Bd b) (h:a≤b):Jr a b=a:=by rw [Th ha hb];omega
theorem Jx5 {a:Int} (ha:Bd a):a≤Ju (Zh a a):=by
 by_cases hi:a=9223372036854775807
 .subst hi;decide
 have h2:Zh a a=Jn (a+a):=by unfold Zh;rw [Zi ha,ZL (by omega)]
 rw [h2];unfold Ju;rw [Qp3];unfold Bd at ha;unfold Jn
 repeat' split
 all_goals omega
theorem Zl {m:Nat} {X:List Int} (h:Zg X) (i j:Nat):Bd (cl m X i j):=h _
theorem Qj5 {m k i j:Nat} {S:MS} (hl:S.1.length=m*m) (hi:i<m) (hj:j<m) {a b:Nat} (hb:b<m):
 cl m (Kg m k i j S).1 a b=if a=i∧b=j then Jr (cl m S.1 i j) (Zh (cl m S.1 i k) (cl m S.1 k j)) else cl m S.1 a b:=by
 unfold Kg;exact Rf hl hi hj hb
theorem round {m k:Nat} {X:List Int} {s:Bool} (hl:X.length=m*m) (hB:Zg X) (hk:k<m) (hd:cl m X k k=0):
 (∀a,a<m->∀b,b<m->cl m (pI m k m (X,s)).1 a b=Jr (cl m X a b) (Zh (cl m X a k) (cl m X k b)))∧
 ((pI m k m (X,s)).2=false->s=false∧∀a,a<m->∀b,b<m->Yj (cl m X a k) (cl m X k b)=false):=by
 have key:=Mg (λi j=>Kg m k i j) (λi j S=>S.1.length=m*m∧
  (∀a,a<m->∀b,b<m->cl m S.1 a b=if a<i∨(a=i∧b<j) then Jr (cl m X a b) (Zh (cl m X a k) (cl m X k b)) else cl m X a b)∧
  (S.2=false->s=false∧∀a,a<m->∀b,b<m->(a<i∨(a=i∧b<j))->Yj (cl m X a k) (cl m X k b)=false)) m (X,s)
  ⟨hl,λa _ b _=>(ZL (by omega)).symm,λh=>⟨h,λa _ b _ h=>by omega⟩⟩ ?_ ?_
 .refine ⟨λa ha b hb=>?_,λh=>?_⟩
  .have:=key.2.1 a ha b hb
   rw [ZM (.inl ha)] at this;exact this
  have:=key.2.2 h
  exact ⟨this.1,λa ha b hb=>this.2 a ha b hb (.inl ha)⟩
 .rintro i hi j hj S ⟨h1,h2,h3⟩;have e1:cl m S.1 i k=cl m X i k:=by
   rw [h2 i hi k hk,hd,Gl (Zl hB _ _),Tq (Zl hB _ _)];split<;>rfl
  have e2:cl m S.1 k j=cl m X k j:=by
   rw [h2 k hk j hj,hd,Qk7 (Zl hB _ _),Tq (Zl hB _ _)];split<;>rfl
  have e3:cl m S.1 i j=cl m X i j:=by rw [h2 i hi j hj,ZL (by omega)]
  refine ⟨by rw [Cy,h1],λa ha b hb=>?_,λh=>?_⟩
  .rw [Qj5 h1 hi hj hb,e1,e2,e3];by_cases hab:a=i∧b=j
   .rw [ZM hab,ZM (by omega),hab.1,hab.2]
   rw [ZL hab,h2 a ha b hb];by_cases h:a<i∨(a=i∧b<j)
   .rw [ZM h,ZM (by omega)]
   rw [ZL h,ZL (by omega)]
  have hs:(S.2||Yj (cl m S.1 i k) (cl m S.1 k j))=false:=h;rw [Bool.or_eq_false_iff,e1,e2] at hs;obtain ⟨h4,h5⟩:=h3 hs.1;refine ⟨h4,λa ha b hb hab=>?_⟩;by_cases he:a=i∧b=j
  .rw [he.1,he.2];exact hs.2
  exact h5 a ha b hb (by omega)
 rintro i hi S ⟨h1,h2,h3⟩;refine ⟨h1,λa ha b hb=>?_,λh=>⟨(h3 h).1,λa ha b hb hab=>(h3 h).2 a ha b hb (by omega)⟩⟩;rw [h2 a ha b hb];by_cases h:a<i∨(a=i∧b<m)
 .rw [ZM h,ZM (by omega)]
 rw [ZL h,ZL (by omega)]
theorem Jr5 {n i j:Nat} {X:List Int} (hl:X.length=(2*n)*(2*n)) (hi:i<2*n) (hj:j<2*n) {a b:Nat} (hb:b<2*n):
 cl (2*n) (Bv (2*n) i j X) a b=if (a=i∧b=j)∨(a=ac j∧b=ac i) then Jr (cl (2*n) X i j) (cl (2*n) X (ac j) (ac i)) else cl (2*n) X a b:=by
 have hp:i*(2*n)+j<X.length:=by rw [hl];exact Zy hi hj
 unfold Bv;rw [Rf (by rw [QJ];exact hl) (Qg hj) (Qg hi) hb,Vl hp,Rf hl hi hj hb];by_cases h1:a=ac j∧b=ac i
 .rw [ZM h1,ZM (.inr h1)];rfl
 rw [ZL h1];by_cases h2:a=i∧b=j
 .rw [ZM h2,ZM (.inl h2)];rfl
 rw [ZL h2,ZL (λh=>h.elim h2 h1)]
theorem Ti {n:Nat} {X:List Int} (hl:X.length=(2*n)*(2*n)) (hB:Zg X) (a:Nat) (ha:a<2*n) (b:Nat) (hb:b<2*n):
 cl (2*n) (Jq (2*n) X) a b=Jr (cl (2*n) X a b) (cl (2*n) X (ac b) (ac a)):=by
 have key:=Mg (λi j=>Bv (2*n) i j) (λi j Z=>Z.length=(2*n)*(2*n)∧
  (∀a,a<2*n->∀b,b<2*n->cl (2*n) Z a b=if (a<i∨(a=i∧b<j))∨(ac b<i∨(ac b=i∧ac a<j)) then Jr (cl (2*n) X a b) (cl (2*n) X (ac b) (ac a)) else cl (2*n) X a b)) (2*n) X
  ⟨hl,λa _ b _=>(ZL (by omega)).symm⟩ ?_ ?_
 .have:=key.2 a ha b hb
  rw [ZM (.inl (.inl ha))] at this;exact this
 .rintro i hi j hj Z ⟨h1,h2⟩;have hai:=Qg hi;have haj:=Qg hj;refine ⟨by rw [Qu2,h1],λa ha b hb=>?_⟩;have hv:Jr (cl (2*n) Z i j) (cl (2*n) Z (ac j) (ac i))=Jr (cl (2*n) X i j) (cl (2*n) X (ac j) (ac i)):=by
   have b1:Bd (cl (2*n) X i j):=Zl hB _ _;have b2:Bd (cl (2*n) X (ac j) (ac i)):=Zl hB _ _;rw [h2 i hi j hj,h2 (ac j) haj (ac i) hai,Ve,Ve,Fo (cl (2*n) X (ac j) (ac i)) (cl (2*n) X i j)];by_cases h:(i<i∨(i=i∧j<j))∨(ac j<i∨(ac j=i∧ac i<j))
   .rw [ZM h,ZM (by omega),Tq (Lg _ _)]
   rw [ZL h,ZL (by omega)]
  rw [Jr5 h1 hi hj hb,hv];by_cases h3:(a=i∧b=j)∨(a=ac j∧b=ac i)
  .rw [ZM h3];rcases h3 with ⟨rfl,rfl⟩|⟨rfl,rfl⟩
   .rw [ZM (by omega)]
   rw [ZM (by rw [Ve,Ve];omega),Ve,Ve,Fo]
  rw [ZL h3,h2 a ha b hb];have h4:¬(ac b=i∧ac a=j):=λh=>h3 (.inr ⟨by rw [<-h.2,Ve],by rw [<-h.1,Ve]⟩)
  by_cases h:(a<i∨(a=i∧b<j))∨(ac b<i∨(ac b=i∧ac a<j))
  .rw [ZM h,ZM (by omega)]
  rw [ZL h,ZL (by omega)]
 rintro i hi Z ⟨h1,h2⟩;refine ⟨h1,λa ha b hb=>?_⟩;have haa:=Qg ha;have hab:=Qg hb;rw [h2 a ha b hb];by_cases h:(a<i∨(a=i∧b<2*n))∨(ac b<i∨(ac b=i∧ac a<2*n))
 .rw [ZM h,ZM (by omega)]
 rw [ZL h,ZL (by omega)]
theorem Fj {n:Nat} {X:List Int} (hl:X.length=(2*n)*(2*n)) (a:Nat) (ha:a<2*n) (b:Nat) (hb:b<2*n):
 cl (2*n) (Uz (2*n) X) a b=if b=ac a then Rl (cl (2*n) X a b) else cl (2*n) X a b:=by
 have key:=Ax (Qn2 (2*n)) (λi Z=>Z.length=(2*n)*(2*n)∧∀a,a<2*n->∀b,b<2*n->cl (2*n) Z a b=if a<i∧b=ac a then Rl (cl (2*n) X a b) else cl (2*n) X a b) (2*n) X
  ⟨hl,λa _ b _=>(ZL (by omega)).symm⟩ ?_
 .have:=key.2 a ha b hb
  by_cases h:b=ac a
  .rw [ZM ⟨ha,h⟩] at this;rw [ZM h];exact this
  rw [ZL (λk=>h k.2)] at this;rw [ZL h];exact this
 rintro i hi Z ⟨h1,h2⟩;refine ⟨by simp [Qn2,h1],λa ha b hb=>?_⟩;unfold Qn2;rw [Rf h1 hi (Qg hi) hb];have h3:=h2 i hi (ac i) (Qg hi);rw [ZL (by omega)] at h3;by_cases h:a=i∧b=ac i
 .rw [ZM h,ZM (by rw [h.1];exact ⟨by omega,h.2⟩)];obtain ⟨rfl,rfl⟩:=h;rw [<-h3];rfl
 rw [ZL h,h2 a ha b hb];by_cases h4:a<i∧b=ac a
 .rw [ZM h4,ZM ⟨by omega,h4.2⟩]
 rw [ZL h4,ZL (by
  rintro ⟨_,h6⟩;by_cases h7:a=i
  .subst h7;exact h ⟨rfl,h6⟩
  exact h4 ⟨by omega,h6⟩)]
theorem Bo {m:Nat} {X:List Int}:Ki m X=true↔∃a,a<m∧cl m X a a<0:=by
 have key:=Ax (λi e=>e||decide (Qe X (i*m+i)<0)) (λi e=>e=true↔∃a,a<i∧cl m X a a<0) m false ?_ ?_
 .exact key
 .simp
 rintro i _ e h;rw [Bool.or_eq_true,h,ZU];constructor
 .rintro (⟨a,h1,h2⟩|h1)
  .exact ⟨a,by omega,h2⟩
  exact ⟨i,by omega,h1⟩
 rintro ⟨a,h1,h2⟩;by_cases h3:a=i
 .subst h3;exact .inr h2
 exact .inl ⟨a,by omega,h2⟩
theorem Si {m:Nat} {X:List Int} {s:Bool}:((Xq m X s).1=true↔∃a,a<m∧Zh (cl m X a (ac a)) (cl m X (ac a) a)<0)∧
 ((Xq m X s).2=false↔s=false∧∀a,a<m->Yj (cl m X a (ac a)) (cl m X (ac a) a)=false):=by
 have key:=Ax (Qw1 m X) (λi S=>(S.1=true↔∃a,a<i∧Zh (cl m X a (ac a)) (cl m X (ac a) a)<0)∧(S.2=false↔s=false∧∀a,a<i->Yj (cl m X a (ac a)) (cl m X (ac a) a)=false)) m (false,s) ?_ ?_
 .exact key
 .exact ⟨by simp,by simp⟩
 rintro i _ S ⟨h1,h2⟩;constructor
 .show (decide (Zh (cl m X i (ac i)) (cl m X (ac i) i)<0)||S.1)=true↔_
  rw [Bool.or_eq_true,h1,ZU];constructor
  .rintro (h3|⟨a,h3,h4⟩)
   .exact ⟨i,by omega,h3⟩
   exact ⟨a,by omega,h4⟩
  rintro ⟨a,h3,h4⟩;by_cases h5:a=i
  .subst h5;exact .inl h4
  exact .inr ⟨a,by omega,h4⟩
 show (S.2||Yj (cl m X i (ac i)) (cl m X (ac i) i))=false↔_
 rw [Bool.or_eq_false_iff,h2];constructor
 .rintro ⟨⟨h3,h4⟩,h5⟩;refine ⟨h3,λa ha=>?_⟩;by_cases h6:a=i
  .subst h6;exact h5
  exact h4 a (by omega)
 rintro ⟨h3,h4⟩;exact ⟨⟨h3,λa ha=>h4 a (by omega)⟩,h4 i (by omega)⟩
theorem Tj {n:Nat} {Y:List Int} {s:Bool} (hl:Y.length=(2*n)*(2*n)) (hB:Zg Y):
 (∀a,a<2*n->∀b,b<2*n->cl (2*n) (Nt (2*n) (Y,s)).1 a b=if a=b then cl (2*n) Y a b else Jr (cl (2*n) Y a b) (Ju (Zh (cl (2*n) Y a (ac a)) (cl (2*n) Y (ac b) b))))∧
 ((Nt (2*n) (Y,s)).2=false↔s=false∧∀a,a<2*n->∀b,b<2*n->a≠b->Yj (cl (2*n) Y a (ac a)) (cl (2*n) Y (ac b) b)=false):=by
 have key:=Mg (λi j=>Mk (2*n) i j) (λi j S=>S.1.length=(2*n)*(2*n)∧
  (∀a,a<2*n->∀b,b<2*n->cl (2*n) S.1 a b=if (a<i∨(a=i∧b<j))∧a≠b then Jr (cl (2*n) Y a b) (Ju (Zh (cl (2*n) Y a (ac a)) (cl (2*n) Y (ac b) b))) else cl (2*n) Y a b)∧
  (S.2=false↔s=false∧∀a,a<2*n->∀b,b<2*n->(a<i∨(a=i∧b<j))->a≠b->Yj (cl (2*n) Y a (ac a)) (cl (2*n) Y (ac b) b)=false)) (2*n) (Y,s)
  ⟨hl,λa _ b _=>(ZL (by omega)).symm,⟨λh=>⟨h,λa _ b _ h=>by omega⟩,λh=>h.1⟩⟩ ?_ ?_
 .refine ⟨λa ha b hb=>?_,?_⟩
  .have:=key.2.1 a ha b hb
   by_cases hab:a=b
   .rw [ZL (λk=>k.2 hab)] at this;rw [ZM hab];exact this
   rw [ZM ⟨.inl ha,hab⟩] at this;rw [ZL hab];exact this
  have:=key.2.2
  constructor
  .intro h;obtain ⟨h1,h2⟩:=this.1 h;exact ⟨h1,λa ha b hb hab=>h2 a ha b hb (.inl ha) hab⟩
  rintro ⟨h1,h2⟩;exact this.2 ⟨h1,λa ha b hb _ hab=>h2 a ha b hb hab⟩
 .rintro i hi j hj S ⟨h1,h2,h3⟩;have hself:∀a,a<2*n->cl (2*n) S.1 a (ac a)=cl (2*n) Y a (ac a):=by
   intro a ha;rw [h2 a ha (ac a) (Qg ha),Ve,Dc (Zl hB _ _) (Ka _) (Jx5 (Zl hB _ _))];split<;>rfl
  have hself':cl (2*n) S.1 (ac j) j=cl (2*n) Y (ac j) j:=by
   have:=hself (ac j) (Qg hj)
   rwa [Ve] at this
  by_cases hij:i=j
  .have e:Mk (2*n) i j S=S:=by unfold Mk;rw [ZM hij]
   rw [e];refine ⟨h1,λa ha b hb=>?_,h3.trans ⟨λh=>⟨h.1,λa ha b hb hab hne=>h.2 a ha b hb (by omega) hne⟩,λh=>⟨h.1,λa ha b hb hab hne=>h.2 a ha b hb (by omega) hne⟩⟩⟩;rw [h2 a ha b hb];by_cases h:(a<i∨(a=i∧b<j))∧a≠b
   .rw [ZM h,ZM (by omega)]
   rw [ZL h,ZL (by omega)]
  have e:Mk (2*n) i j S=(S.1.set (i*(2*n)+j) (Jr (cl (2*n) S.1 i j) (Ju (Zh (cl (2*n) S.1 i (ac i)) (cl (2*n) S.1 (ac j) j)))),S.2||Yj (cl (2*n) S.1 i (ac i)) (cl (2*n) S.1 (ac j) j)):=by
   unfold Mk;rw [ZL hij];rfl
  have e3:cl (2*n) S.1 i j=cl (2*n) Y i j:=by rw [h2 i hi j hj,ZL (by omega)]
  rw [e,hself i hi,hself',e3];refine ⟨by rw [QJ,h1],λa ha b hb=>?_,?_⟩
  .rw [Rf h1 hi hj hb];by_cases hab:a=i∧b=j
   .rw [ZM hab,ZM (by omega),hab.1,hab.2]
   rw [ZL hab,h2 a ha b hb];by_cases h:(a<i∨(a=i∧b<j))∧a≠b
   .rw [ZM h,ZM (by omega)]
   rw [ZL h,ZL (by omega)]
  dsimp only;rw [Bool.or_eq_false_iff,h3];constructor
  .rintro ⟨⟨h4,h5⟩,h6⟩;refine ⟨h4,λa ha b hb hab hne=>?_⟩;by_cases he:a=i∧b=j
   .rw [he.1,he.2];exact h6
   exact h5 a ha b hb (by omega) hne
  rintro ⟨h4,h5⟩;exact ⟨⟨h4,λa ha b hb hab hne=>h5 a ha b hb (by omega) hne⟩,h5 i hi j hj (by omega) hij⟩
 rintro i hi S ⟨h1,h2,h3⟩;refine ⟨h1,λa ha b hb=>?_,h3.trans ⟨λh=>⟨h.1,λa ha b hb hab hne=>h.2 a ha b hb (by omega) hne⟩,λh=>⟨h.1,λa ha b hb hab hne=>h.2 a ha b hb (by omega) hne⟩⟩⟩;rw [h2 a ha b hb];by_cases h:(a<i∨(a=i∧b<2*n))∧a≠b
 .rw [ZM h,ZM (by omega)]
 rw [ZL h,ZL (by omega)]
end Gn
section
namespace Gn
def ok (v d:Int):Prop:=v=9223372036854775807∨d≤v
theorem Qe9 {a b d:Int} (ha:ok a d) (hb:ok b d) (h1:Bd a) (h2:Bd b):ok (Jr a b) d:=by
 rw [Th h1 h2];unfold ok at*;unfold Bd at*;omega
theorem Qb2 {a b d e:Int} (ha:ok a d) (hb:ok b e) (h1:Bd a) (h2:Bd b):ok (Zh a b) (d+e):=by
 unfold Zh;rw [Zi h1,Zi h2];unfold ok at*;split
 .exact .inl rfl
 unfold Jn;repeat' split
 all_goals omega
theorem Vw1 {a t:Int} (ha:ok a (2*t)) (h1:Bd a):ok (Rl a) (2*t):=by
 unfold Rl;rw [Zi h1];unfold ok at*;split
 .exact .inl rfl
 omega
theorem Vx8 {a t:Int} (ha:ok a (2*t)) (h1:Bd a):ok (Ju a) t:=by
 unfold Ju;rw [Zi h1];unfold ok at*;split
 .exact .inl rfl
 omega
def Pt (r m:Nat) (X x:List Int):Prop:=∀i,i<r->∀j,j<r->ok (cl m X i j) (Qc x i j)
theorem Jo8 {m r k i j:Nat} {S:MS} {x:List Int} (hl:S.1.length=m*m) (hB:Zg S.1) (hk:k<r) (hi:i<m) (hj:j<m) (hr:r≤m) (h:Pt r m S.1 x):Pt r m (Kg m k i j S).1 x:=by
 intro a ha b hb;rw [Qj5 hl hi hj (by omega)];by_cases hab:a=i∧b=j
 .rw [ZM hab];obtain ⟨rfl,rfl⟩:=hab;refine Qe9 (h a ha b hb) ?_ (Zl hB _ _) (Ml _ _);have:=Qb2 (h a ha k hk) (h k hk b hb) (Zl hB _ _) (Zl hB _ _)
  rwa [show Qc x a k+Qc x k b=Qc x a b by unfold Qc;omega] at this
 rw [ZL hab];exact h a ha b hb
theorem Bh {m k:Nat} {S:MS} (h:S.1.length=m*m∧Zg S.1):(pK m k S).1.length=m*m∧Zg (pK m k S).1:=⟨by rw [Gw,h.1],Cb h.2⟩
theorem Vh5 {m r k:Nat} {S:MS} {x:List Int} (hf:S.1.length=m*m∧Zg S.1) (hk:k<r) (hr:r≤m) (h:Pt r m S.1 x):Pt r m (pI m k m S).1 x:=
 (Mg (λi j=>Kg m k i j) (λ_ _ S=>(S.1.length=m*m∧Zg S.1)∧Pt r m S.1 x) m S ⟨hf,h⟩ (λi hi j hj S ⟨h1,h2⟩=>⟨⟨by rw [Cy,h1.1],Qe6 h1.2⟩,Jo8 h1.1 h1.2 hk hi hj hr h2⟩) (λ_ _ _ h=>h)).2
theorem Vi3 {m r:Nat} {S:MS} {x:List Int} (hf:S.1.length=m*m∧Zg S.1) (hr:r≤m) (h:Pt r m S.1 x):∀k,k≤r->Pt r m (pK m k S).1 x:=by
 intro k;induction k with
 |zero=>exact λ_=>h
 |succ k ih=>exact λhk=>Vh5 (Bh hf) (by omega) hr (ih (by omega))
theorem Ta {X Y Z:List Int} (h:le X Y) (k:le Y Z):le X Z:=⟨h.1.trans k.1,λi=>Int.le_trans (h.2 i) (k.2 i)⟩
theorem Qm1 {X:List Int} {k:Nat} {v:Int} (h:v≤Qe X k):le (X.set k v) X:=by
 refine ⟨by simp,λi=>?_⟩;rw [Ll];split
 .rename_i h';rw [<-h'.1];exact h
 exact Int.le_refl _
theorem Qe1 {a b:Int} (ha:Bd a):Jr a b≤a:=by unfold Jr;rw [Zi ha];omega
theorem Ji2 {m k i j:Nat} {S:MS} (hB:Zg S.1):le (Kg m k i j S).1 S.1:=Qm1 (Qe1 (hB _))
theorem Vu5 {m k:Nat} {S:MS} (hB:Zg S.1):le (pI m k m S).1 S.1:=
 (Mg (λi j=>Kg m k i j) (λ_ _ S'=>Zg S'.1∧le S'.1 S.1) m S ⟨hB,Qg6 _⟩ (λi hi j hj S' ⟨h1,h2⟩=>⟨Qe6 h1,Ta (Ji2 h1) h2⟩) (λ_ _ _ h=>h)).2
theorem Ja7 {m:Nat} {S:MS} (hB:Zg S.1):∀k,le (pK m k S).1 S.1
 |0=>Qg6 _
 |k+1=>Ta (Vu5 (Cb hB)) (Ja7 hB k)
theorem Jn9 {m:Nat} {S:MS} (hB:Zg S.1) (k:Nat):∀d,le (pK m (k+d) S).1 (pK m k S).1
 |0=>Qg6 _
 |d+1=>Ta (Vu5 (Cb hB)) (Jn9 hB k d)
theorem Eu {m:Nat} {X Y:List Int} (hx:X.length=m*m) (hy:Y.length=m*m) (h:∀a,a<m->∀b,b<m->cl m X a b≤cl m Y a b):le X Y:=by
 refine ⟨hx.trans hy.symm,λk=>?_⟩;by_cases hk:k<m*m
 .obtain ⟨h1,h2,h3⟩:=Wq hk;have:=h _ h1 _ h2
  unfold cl at this;rwa [h3] at this
 unfold Qe;rw [ZG,List.getElem?_eq_none (by omega),ZG,List.getElem?_eq_none (by omega)];exact Int.le_refl _
theorem Jc5 {a:Int} (ha:Bd a):Rl a≤a:=by
 have:=Vq2 a
 rw [Th ha Oq] at this;omega
structure Cs (n:Nat) (M Z:List Int) (s:Bool) where
 P:List Int
 X:List Int
 Y:List Int
 sp:Bool
 ss:Bool
 hP:Jo (2*n) (M,false)=(P,sp)
 hX:X=Jq (2*n) P
 hO:Ki (2*n) X=false
 hY:Y=Uz (2*n) X
 hD:Xq (2*n) Y sp=(false,ss)
 hZ:Nt (2*n) (Y,ss)=(Z,s)
theorem Jw {n:Nat} {M Z:List Int} {s:Bool} (h:Zb (2*n) M=(some Z,s)):Nonempty (Cs n M Z s):=by
 unfold Zb at h;dsimp only at h;split at h
 .simp at h
 rename_i h1
 split at h
 .simp at h
 rename_i h2
 simp only [Prod.mk.injEq,Option.some.injEq] at h;exact ⟨⟨_,_,_,_,_,rfl,rfl,Bool.eq_false_iff.2 h1,rfl,Prod.ext (Bool.eq_false_iff.2 h2) rfl,Prod.ext h.1 h.2⟩⟩
section
variable {n:Nat} {M Z x:List Int} {s:Bool}
theorem Cs.fP (c:Cs n M Z s) (hl:M.length=(2*n)*(2*n)) (hB:Zg M):c.P.length=(2*n)*(2*n)∧Zg c.P:=by
 have:=Bh (m:=2*n) (k:=2*n) (S:=(M,false)) ⟨hl,hB⟩
 have e:pK (2*n) (2*n) (M,false)=(c.P,c.sp):=c.hP;rw [e] at this;exact this
theorem Cs.fX (c:Cs n M Z s) (hl:M.length=(2*n)*(2*n)) (hB:Zg M):c.X.length=(2*n)*(2*n)∧Zg c.X:=by
 rw [c.hX];exact ⟨(Bj _ _ _).trans (c.fP hl hB).1,En (c.fP hl hB).2⟩
theorem Cs.fY (c:Cs n M Z s) (hl:M.length=(2*n)*(2*n)) (hB:Zg M):c.Y.length=(2*n)*(2*n)∧Zg c.Y:=by
 rw [c.hY];exact ⟨(Ab _ _ _).trans (c.fX hl hB).1,Lz (c.fX hl hB).2⟩
theorem Cs.fZ (c:Cs n M Z s) (hl:M.length=(2*n)*(2*n)) (hB:Zg M):Z.length=(2*n)*(2*n)∧Zg Z:=by
 have h1:(Nt (2*n) (c.Y,c.ss)).1=Z:=by rw [c.hZ]
 rw [<-h1];exact ⟨(Qq6 _ _ _).trans (c.fY hl hB).1,Zh5 (c.fY hl hB).2⟩
theorem Cs.cX (c:Cs n M Z s) (hl:M.length=(2*n)*(2*n)) (hB:Zg M) {a b:Nat} (ha:a<2*n) (hb:b<2*n):cl (2*n) c.X a b=Jr (cl (2*n) c.P a b) (cl (2*n) c.P (ac b) (ac a)):=by
 rw [c.hX];exact Ti (c.fP hl hB).1 (c.fP hl hB).2 a ha b hb
theorem Cs.cY (c:Cs n M Z s) (hl:M.length=(2*n)*(2*n)) (hB:Zg M) {a b:Nat} (ha:a<2*n) (hb:b<2*n):cl (2*n) c.Y a b=if b=ac a then Rl (cl (2*n) c.X a b) else cl (2*n) c.X a b:=by
 rw [c.hY];exact Fj (c.fX hl hB).1 a ha b hb
theorem Cs.cZ (c:Cs n M Z s) (hl:M.length=(2*n)*(2*n)) (hB:Zg M) {a b:Nat} (ha:a<2*n) (hb:b<2*n):
 cl (2*n) Z a b=if a=b then cl (2*n) c.Y a b else Jr (cl (2*n) c.Y a b) (Ju (Zh (cl (2*n) c.Y a (ac a)) (cl (2*n) c.Y (ac b) b))):=by
 have:=(Tj (s:=c.ss) (c.fY hl hB).1 (c.fY hl hB).2).1 a ha b hb
 rwa [c.hZ] at this
theorem Cs.lePM (c:Cs n M Z s) (hB:Zg M):le c.P M:=by
 have:=Ja7 (m:=2*n) (S:=(M,false)) hB (2*n)
 have e:pK (2*n) (2*n) (M,false)=(c.P,c.sp):=c.hP;rw [e] at this;exact this
theorem Cs.leXP (c:Cs n M Z s) (hl:M.length=(2*n)*(2*n)) (hB:Zg M):le c.X c.P:=
 Eu (c.fX hl hB).1 (c.fP hl hB).1 λa ha b hb=>by rw [c.cX hl hB ha hb];exact Qe1 (Zl (c.fP hl hB).2 _ _)
theorem Cs.leYX (c:Cs n M Z s) (hl:M.length=(2*n)*(2*n)) (hB:Zg M):le c.Y c.X:=
 Eu (c.fY hl hB).1 (c.fX hl hB).1 λa ha b hb=>by
  rw [c.cY hl hB ha hb];split
  .exact Jc5 (Zl (c.fX hl hB).2 _ _)
  exact Int.le_refl _
theorem Cs.leZY (c:Cs n M Z s) (hl:M.length=(2*n)*(2*n)) (hB:Zg M):le Z c.Y:=
 Eu (c.fZ hl hB).1 (c.fY hl hB).1 λa ha b hb=>by
  rw [c.cZ hl hB ha hb];split
  .exact Int.le_refl _
  exact Qe1 (Zl (c.fY hl hB).2 _ _)
theorem Cs.leXM (c:Cs n M Z s) (hl:M.length=(2*n)*(2*n)) (hB:Zg M):le c.X M:=Ta (c.leXP hl hB) (c.lePM hB)
theorem Cs.leYM (c:Cs n M Z s) (hl:M.length=(2*n)*(2*n)) (hB:Zg M):le c.Y M:=Ta (c.leYX hl hB) (c.leXM hl hB)
theorem Cs.leZM (c:Cs n M Z s) (hl:M.length=(2*n)*(2*n)) (hB:Zg M):le Z M:=Ta (c.leZY hl hB) (c.leYM hl hB)
theorem Cs.dX (c:Cs n M Z s) (hl:M.length=(2*n)*(2*n)) (hok:Yo (2*n) M) {a:Nat} (ha:a<2*n):cl (2*n) c.X a a=0:=by
 have hB:=Zs hl hok;have h1:¬cl (2*n) c.X a a<0:=λh=>by
  have:=Bo.2 ⟨a,ha,h⟩
  rw [c.hO] at this;cases this
 have h2:=(c.leXM hl hB).2 (a*(2*n)+a);have h3:=(hok a ha a ha).2.1 rfl;unfold cl at*;omega
theorem Cs.dZ (c:Cs n M Z s) (hl:M.length=(2*n)*(2*n)) (hok:Yo (2*n) M) {a:Nat} (ha:a<2*n):cl (2*n) Z a a=0:=by
 have hB:=Zs hl hok;rw [c.cZ hl hB ha ha,ZM rfl,c.cY hl hB ha ha,ZL (λh=>Zi5 a h.symm),c.dX hl hok ha]
theorem Cs.sX (c:Cs n M Z s) (hl:M.length=(2*n)*(2*n)) (hB:Zg M) {a b:Nat} (ha:a<2*n) (hb:b<2*n):cl (2*n) c.X a b=cl (2*n) c.X (ac b) (ac a):=by
 rw [c.cX hl hB ha hb,c.cX hl hB (Qg hb) (Qg ha),Ve,Ve,Fo]
theorem Cs.sY (c:Cs n M Z s) (hl:M.length=(2*n)*(2*n)) (hB:Zg M) {a b:Nat} (ha:a<2*n) (hb:b<2*n):cl (2*n) c.Y a b=cl (2*n) c.Y (ac b) (ac a):=by
 rw [c.cY hl hB ha hb,c.cY hl hB (Qg hb) (Qg ha),Ve];by_cases h:b=ac a
 .subst h;rw [ZM rfl,ZM rfl,Ve]
 rw [ZL h,ZL (λk=>h k.symm),c.sX hl hB ha hb]
theorem Cs.sZ (c:Cs n M Z s) (hl:M.length=(2*n)*(2*n)) (hB:Zg M) {a b:Nat} (ha:a<2*n) (hb:b<2*n):cl (2*n) Z a b=cl (2*n) Z (ac b) (ac a):=by
 rw [c.cZ hl hB ha hb,c.cZ hl hB (Qg hb) (Qg ha),Ve,Ve,<-c.sY hl hB ha hb,Gc];by_cases h:a=b
 .subst h;rw [ZM rfl,ZM rfl]
 rw [ZL h,ZL (λk=>h (Pn k).symm)]
theorem Cs.okZ (c:Cs n M Z s) (hl:M.length=(2*n)*(2*n)) (hok:Yo (2*n) M):Yo (2*n) Z:=λa ha b hb=>
 ⟨(Uu _).2 (Zl (c.fZ hl (Zs hl hok)).2 _ _),λh=>by subst h;exact c.dZ hl hok ha,c.sZ hl (Zs hl hok) ha hb⟩
theorem Zu8 (x:List Int) (a:Nat):Qc x a (ac a)=2*Zo x a:=by unfold Qc;rw [Be];omega
theorem Zz8 {n:Nat} {X x:List Int} (hl:X.length=(2*n)*(2*n)) (hB:Zg X) (h:Pt (2*n) (2*n) X x):Pt (2*n) (2*n) (Jq (2*n) X) x:=λa ha b hb=>by
 rw [Ti hl hB a ha b hb];have:=h _ (Qg hb) _ (Qg ha)
 rw [Qw3] at this;exact Qe9 (h a ha b hb) this (Zl hB _ _) (Zl hB _ _)
theorem Jm4 {n:Nat} {X x:List Int} (hl:X.length=(2*n)*(2*n)) (hB:Zg X) (h:Pt (2*n) (2*n) X x):Pt (2*n) (2*n) (Uz (2*n) X) x:=λa ha b hb=>by
 rw [Fj hl a ha b hb];have h1:=h a ha b hb;split
 .rename_i e;subst e
  rw [Zu8] at h1 |-
  exact Vw1 h1 (Zl hB _ _)
 .exact h1
theorem Zn4 {n:Nat} {Y x:List Int} {s:Bool} (hl:Y.length=(2*n)*(2*n)) (hB:Zg Y) (h:Pt (2*n) (2*n) Y x):Pt (2*n) (2*n) (Nt (2*n) (Y,s)).1 x:=λa ha b hb=>by
 rw [(Tj hl hB).1 a ha b hb];have h1:=h a ha b hb;split
 .exact h1
 .refine Qe9 h1 ?_ (Zl hB _ _) (Ka _);have h2:=Qb2 (h a ha _ (Qg ha)) (h _ (Qg hb) b hb) (Zl hB _ _) (Zl hB _ _);rw [show Qc x a (ac a)+Qc x (ac b) b=2*Qc x a b by unfold Qc;rw [Be,Be];omega] at h2;exact Vx8 h2 (Ml _ _)
theorem Jl8 {m:Nat} {X x:List Int} (h:Pt m m X x):Ki m X=false:=by
 cases e:Ki m X
 .rfl
 obtain ⟨a,ha,_⟩:=Bo.1 e;have:=h a ha a ha
 rw [Ac] at this;unfold ok at this;omega
theorem Jo5 {n:Nat} {Y x:List Int} {s:Bool} (hB:Zg Y) (h:Pt (2*n) (2*n) Y x):(Xq (2*n) Y s).1=false:=by
 cases e:(Xq (2*n) Y s).1
 .rfl
 obtain ⟨a,ha,_⟩:=Si.1.1 e;have:=Qb2 (h a ha _ (Qg ha)) (h _ (Qg ha) a ha) (Zl hB _ _) (Zl hB _ _)
 rw [show Qc x a (ac a)+Qc x (ac a) a=0 by unfold Qc;omega] at this;unfold ok at this;omega
theorem Ho (hl:M.length=(2*n)*(2*n)) (hB:Zg M) (h:Zr (2*n) M x):∃Z s,Zb (2*n) M=(some Z,s)∧Zr (2*n) Z x:=by
 have h0:Pt (2*n) (2*n) M x:=h;have f1:=Bh (m:=2*n) (k:=2*n) (S:=(M,false)) ⟨hl,hB⟩;have h1:Pt (2*n) (2*n) (Jo (2*n) (M,false)).1 x:=Vi3 (S:=(M,false)) ⟨hl,hB⟩ (ZH _) h0 _ (ZH _);have f1:(Jo (2*n) (M,false)).1.length=(2*n)*(2*n)∧Zg (Jo (2*n) (M,false)).1:=f1;unfold Zb;dsimp only;generalize Jo (2*n) (M,false)=S at*;have h2:=Zz8 f1.1 f1.2 h1;have f2:(Jq (2*n) S.1).length=(2*n)*(2*n)∧Zg (Jq (2*n) S.1):=⟨(Bj _ _ _).trans f1.1,En f1.2⟩;have h3:=Jm4 f2.1 f2.2 h2;have f3:(Uz (2*n) (Jq (2*n) S.1)).length=(2*n)*(2*n)∧Zg (Uz (2*n) (Jq (2*n) S.1)):=⟨(Ab _ _ _).trans f2.1,Lz f2.2⟩;rw [Jl8 h2,Jo5 f3.2 h3,ZL (by simp),ZL (by simp)];exact ⟨_,_,rfl,Zn4 f3.1 f3.2 h3⟩
theorem Vx3 {v u d:Int} (h:v≤u) (hu:Bd u) (k:ok v d):ok u d:=by unfold ok at*;unfold Bd at hu;omega
theorem Vy2 {m:Nat} {X Y x:List Int} (h:le X Y) (hB:Zg Y) (hx:Zr m X x):Zr m Y x:=λa ha b hb=>Vx3 (h.2 _) (hB _) (hx a ha b hb)
theorem Wj (hl:M.length=(2*n)*(2*n)) (hok:Yo (2*n) M) (h:Zb (2*n) M=(some Z,s)):Zr (2*n) Z x↔Zr (2*n) M x:=by
 have hB:=Zs hl hok;obtain ⟨c⟩:=Jw h;refine ⟨Vy2 (c.leZM hl hB) hB,λhx=>?_⟩;obtain ⟨_,_,h1,h2⟩:=Ho hl hB hx;rw [h] at h1;simp only [Prod.mk.injEq,Option.some.injEq] at h1;rw [h1.1];exact h2
end
end Gn
end
section
namespace Gn
def Tri (m:Nat) (X:List Int):Prop:=∀a,a<m->∀k,k<m->∀b,b<m->cl m X a b≤Zh (cl m X a k) (cl m X k b)
theorem Jg4 (X:List Int) (p:Nat):X.set p (Qe X p)=X:=by
 refine Nm (by simp) λi hi=>?_
 rw [Ll];split
 .rename_i h;rw [h.1]
 rfl
theorem Qk3 {m:Nat} {X:List Int} {s:Bool} (hB:Zg X) (h:Tri m X):(Jo m (X,s)).1=X:=by
 refine Ax _ (λ_ S=>S.1=X) m (X,s) rfl λk hk S hS=>?_
 refine Mg (λi j=>Kg m k i j) (λ_ _ S=>S.1=X) m S hS (λi hi j hj S hS=>?_) (λ_ _ _ h=>h);show S.1.set (i*m+j) (Jr (Qe S.1 (i*m+j)) (Zh (Qe S.1 (i*m+k)) (Qe S.1 (k*m+j))))=X
 have hh:=h i hi k hk j hj;unfold cl at hh;rw [hS,Dc (hB _) (Ml _ _) hh];exact Jg4 X _
def E3 (x a b:Int):Prop:=a≠9223372036854775807->b≠9223372036854775807->x≠9223372036854775807∧x≤a+b
theorem Bi {a b:Int} (ha:Bd a) (hb:Bd b) (h:Yj a b=false):((a=9223372036854775807∨b=9223372036854775807)∧Zh a b=9223372036854775807)∨(a≠9223372036854775807∧b≠9223372036854775807∧Zh a b=a+b∧-4611686018427387904≤a+b∧a+b≤4611686018427387904):=by
 have h1:=Pp ha hb h;have h2:=(Qb8 _ _).1 h;rw [Zi ha,Zi hb] at h2;split at h1
 .rename_i h3;exact .inl ⟨h3,h1⟩
 right;unfold Bd at*;omega
theorem Ze8 {x a b:Int} (hx:Bd x) (ha:Bd a) (hb:Bd b) (h:E3 x a b):x≤Zh a b:=by
 unfold E3 at h;unfold Zh;rw [Zi ha,Zi hb];split
 .unfold Bd at hx;omega
 rename_i h3
 have:=h (by omega) (by omega)
 unfold Bd at hx;unfold Jn;repeat' split
 all_goals omega
def Ju5 (m k:Nat) (X:List Int):Prop:=∀k',k'<k->∀a,a<m->∀b,b<m->E3 (cl m X a b) (cl m X a k') (cl m X k' b)
theorem Va5 {xab xak xkb xai xib xki xik p1 p2 p3:Int} (b0:Bd xab) (b1:Bd xak) (b2:Bd xkb) (b3:Bd xai) (b4:Bd xib) (b5:Bd xki) (b6:Bd xik)
 (w1:((xak=9223372036854775807∨xkb=9223372036854775807)∧p1=9223372036854775807)∨(xak≠9223372036854775807∧xkb≠9223372036854775807∧p1=xak+xkb∧-4611686018427387904≤xak+xkb∧xak+xkb≤4611686018427387904))
 (w2:((xak=9223372036854775807∨xki=9223372036854775807)∧p2=9223372036854775807)∨(xak≠9223372036854775807∧xki≠9223372036854775807∧p2=xak+xki∧-4611686018427387904≤xak+xki∧xak+xki≤4611686018427387904))
 (w3:((xik=9223372036854775807∨xkb=9223372036854775807)∧p3=9223372036854775807)∨(xik≠9223372036854775807∧xkb≠9223372036854775807∧p3=xik+xkb∧-4611686018427387904≤xik+xkb∧xik+xkb≤4611686018427387904))
 (t1:E3 xab xai xib) (t2:E3 xkb xki xib) (t3:E3 xak xai xik) (t4:E3 0 xki xik):E3 (min xab p1) (min xai p2) (min xib p3):=by
 unfold E3 at*;intro h1 h2;unfold Bd at*;have done:∀y,y≠9223372036854775807->(min xab p1≤y)->y≤4611686018427387904->min xab p1≠9223372036854775807:=λy _ h h'=>by omega
 by_cases c1:xai≤p2
 .rw [Int.min_eq_left c1] at h1 |-
  by_cases c2:xib≤p3
  .rw [Int.min_eq_left c2] at h2 |-
   have:=t1 h1 h2
   have hm:min xab p1≤xab:=Int.min_le_left _ _;exact ⟨by clear w1 w2 w3 t1 t2 t3 t4;omega,by clear w1 w2 w3 t1 t2 t3 t4;omega⟩
  rw [Int.min_eq_right (show p3≤xib by omega)] at h2 |-
  rcases w3 with w3|⟨v1,v2,v3,v4,v5⟩
  .exact absurd w3.2 h2
  have:=t3 h1 v1
  rcases w1 with ⟨w1|w1,_⟩|⟨_,_,u3,u4,u5⟩
  .exact absurd w1 this.1
  .exact absurd w1 v2
  have hm:min xab p1≤p1:=Int.min_le_right _ _;exact ⟨by clear w2 t1 t2 t3 t4;omega,by clear w2 t1 t2 t3 t4;omega⟩
 rw [Int.min_eq_right (show p2≤xai by omega)] at h1 |-
 rcases w2 with w2|⟨v1,v2,v3,v4,v5⟩
 .exact absurd w2.2 h1
 by_cases c2:xib≤p3
 .rw [Int.min_eq_left c2] at h2 |-
  have:=t2 v2 h2
  rcases w1 with ⟨w1|w1,_⟩|⟨_,_,u3,u4,u5⟩
  .exact absurd w1 v1
  .exact absurd w1 this.1
  have hm:min xab p1≤p1:=Int.min_le_right _ _;exact ⟨by clear w3 t1 t2 t3 t4;omega,by clear w3 t1 t2 t3 t4;omega⟩
 rw [Int.min_eq_right (show p3≤xib by omega)] at h2 |-
 rcases w3 with w3|⟨y1,y2,y3,y4,y5⟩
 .exact absurd w3.2 h2
 have:=t4 v2 y1
 rcases w1 with ⟨w1|w1,_⟩|⟨_,_,u3,u4,u5⟩
 .exact absurd w1 v1
 .exact absurd w1 y2
 have hm:min xab p1≤p1:=Int.min_le_right _ _;exact ⟨by clear t1 t2 t3 t4;omega,by clear t1 t2 t3 t4;omega⟩
theorem Zm2 {m k:Nat} {X:List Int} {s:Bool} (hl:X.length=m*m) (hB:Zg X) (hk:k<m) (hd:cl m X k k=0) (hs:(pI m k m (X,s)).2=false) (h:Ju5 m k X):Ju5 m (k+1) (pI m k m (X,s)).1:=by
 obtain ⟨hc,hS⟩:=round (s:=s) hl hB hk hd;have hS:=(hS hs).2;intro k' hk' a ha b hb;have hc':=λa ha b hb=>(hc a ha b hb).trans (Th (Zl hB _ _) (Ml _ _))
 have w:=λa ha b hb=>Bi (Zl hB _ _) (Zl hB _ _) (hS a ha b hb)
 have bd:=λa b=>Zl (m:=m) hB a b
 by_cases he:k'=k
 .subst he;rw [hc' a ha b hb,hc' a ha k' hk,hc' k' hk b hb,hd,Gl (bd _ _),Qk7 (bd _ _)];have:=w a ha b hb;have:=bd a b;have:=bd a k';have:=bd k' b;unfold E3;unfold Bd at*;generalize Zh (cl m X a k') (cl m X k' b)=p at*;omega
 have hk2:k'<m:=by omega
 rw [hc' a ha b hb,hc' a ha k' hk2,hc' k' hk2 b hb];have t:=λa ha b hb=>h k' (by omega) a ha b hb
 have t4:=t k hk k hk;rw [hd] at t4;exact Va5 (bd _ _) (bd _ _) (bd _ _) (bd _ _) (bd _ _) (bd _ _) (bd _ _) (w a ha b hb) (w a ha k' hk2) (w k' hk2 b hb) (t a ha b hb) (t k hk b hb) (t a ha k hk) t4
theorem Ve3 {m k:Nat} {S:MS} (h:(pI m k m S).2=false):S.2=false:=by
 have:=Mg (λi j=>Kg m k i j) (λ_ _ S'=>S'.2=false->S.2=false) m S (λh=>h) (λi _ j _ S' hS' h=>by
  have h':(S'.2||Yj (Qe S'.1 (i*m+k)) (Qe S'.1 (k*m+j)))=false:=h;rw [Bool.or_eq_false_iff] at h';exact hS' h'.1) (λ_ _ _ h=>h)
 exact this h
theorem Jn7 {m:Nat} {S:MS} (k:Nat):∀d,(pK m (k+d) S).2=false->(pK m k S).2=false
 |0,h=>h
 |d+1,h=>Jn7 k d (Ve3 h)
theorem Zg3 {m:Nat} {M:List Int} (hl:M.length=m*m) (hB:Zg M) (hd:∀k,k<m->∀a,a<m->cl m (pK m k (M,false)).1 a a=0) (hs:(pK m m (M,false)).2=false):∀k,k≤m->Ju5 m k (pK m k (M,false)).1
 |0,_=>λk' hk'=>absurd hk' (by omega)
 |k+1,h=>by
  have f:=Bh (m:=m) (k:=k) (S:=(M,false)) ⟨hl,hB⟩;have h2:(pK m (k+1) (M,false)).2=false:=Jn7 (k+1) (m - (k+1)) (by rw [show k+1+(m - (k+1))=m by omega];exact hs);exact Zm2 (X:=(pK m k (M,false)).1) (s:=(pK m k (M,false)).2) f.1 f.2 (by omega) (hd k (by omega) k (by omega)) h2 (Zg3 hl hB hd hs k (by omega))
section
variable {n:Nat} {M Z x:List Int} {s:Bool}
theorem Cs.dK (c:Cs n M Z s) (hl:M.length=(2*n)*(2*n)) (hok:Yo (2*n) M) (k:Nat) (hk:k≤2*n) (a:Nat) (ha:a<2*n):cl (2*n) (pK (2*n) k (M,false)).1 a a=0:=by
 have hB:=Zs hl hok;have:=c.dX hl hok ha;have:=(c.leXP hl hB).2 (a*(2*n)+a);have h3:=(Jn9 (m:=2*n) (S:=(M,false)) hB k (2*n - k)).2 (a*(2*n)+a);rw [show k+(2*n - k)=2*n by omega] at h3;have e:pK (2*n) (2*n) (M,false)=(c.P,c.sp):=c.hP;rw [e] at h3;have h4:=(Ja7 (m:=2*n) (S:=(M,false)) hB k).2 (a*(2*n)+a);have:=(hok a ha a ha).2.1 rfl;unfold cl at*;dsimp only at h3 h4;omega
theorem Cs.dP (c:Cs n M Z s) (hl:M.length=(2*n)*(2*n)) (hok:Yo (2*n) M) (a:Nat) (ha:a<2*n):cl (2*n) c.P a a=0:=by
 have:=c.dK hl hok (2*n) (ZH _) a ha
 have e:pK (2*n) (2*n) (M,false)=(c.P,c.sp):=c.hP;rw [e] at this;exact this
theorem Cs.no_sat (c:Cs n M Z s) (hl:M.length=(2*n)*(2*n)) (hB:Zg M) (hs:s=false):c.sp=false∧(∀a,a<2*n->Yj (cl (2*n) c.Y a (ac a)) (cl (2*n) c.Y (ac a) a)=false)∧∀a,a<2*n->∀b,b<2*n->a≠b->Yj (cl (2*n) c.Y a (ac a)) (cl (2*n) c.Y (ac b) b)=false:=by
 have h1:=(Tj (s:=c.ss) (c.fY hl hB).1 (c.fY hl hB).2).2;rw [c.hZ] at h1;obtain ⟨h2,h3⟩:=h1.1 hs;have h4:=(Si (m:=2*n) (X:=c.Y) (s:=c.sp)).2;rw [c.hD] at h4;obtain ⟨h5,h6⟩:=h4.1 h2;exact ⟨h5,h6,h3⟩
theorem Cs.tP (c:Cs n M Z s) (hl:M.length=(2*n)*(2*n)) (hok:Yo (2*n) M) (hs:c.sp=false):Ju5 (2*n) (2*n) c.P:=by
 have e:pK (2*n) (2*n) (M,false)=(c.P,c.sp):=c.hP;have:=Zg3 hl (Zs hl hok) (λk hk a ha=>c.dK hl hok k (by omega) a ha) (by rw [e];exact hs) (2*n) (ZH _)
 rw [e] at this;exact this
theorem Cs.sP (c:Cs n M Z s) (hl:M.length=(2*n)*(2*n)) (hok:Yo (2*n) M) (hs:c.sp=false) {a b:Nat} (ha:a<2*n) (hb:b<2*n):cl (2*n) c.P a b=cl (2*n) c.P (ac b) (ac a):=by
 have hB:=Zs hl hok;have fP:=c.fP hl hB;obtain ⟨T,hT⟩:∃T,T=mat (2*n) (λi j=>cl (2*n) c.P (ac j) (ac i)):=⟨_,rfl⟩;have hTc:∀i,i<2*n->∀j,j<2*n->cl (2*n) T i j=cl (2*n) c.P (ac j) (ac i):=λi hi j hj=>by rw [hT,Ra hi hj]
 have hTl:T.length=(2*n)*(2*n):=by rw [hT,Ur]
 have hTB:Zg T:=by
  intro p;by_cases hp:p<(2*n)*(2*n)
  .obtain ⟨h1,h2,h3⟩:=Wq hp;have:=hTc _ h1 _ h2
   unfold cl at this;rw [h3] at this;rw [this];exact fP.2 _
  unfold Qe;rw [ZG,List.getElem?_eq_none (by omega)];exact .inr ⟨by decide,by decide⟩
 have tP:=c.tP hl hok hs;have hTri:Tri (2*n) T:=λi hi k hk j hj=>by
  rw [hTc i hi j hj,hTc i hi k hk,hTc k hk j hj,Gc];exact Ze8 (fP.2 _) (fP.2 _) (fP.2 _) (tP (ac k) (Qg hk) _ (Qg hj) _ (Qg hi))
 have hTM:le T M:=Eu hTl hl λi hi j hj=>by
  rw [hTc i hi j hj,(hok i hi j hj).2.2];exact (c.lePM hB).2 _
 have h1:=Zv1 (m:=2*n) (S:=(T,false)) (T:=(M,false)) hTM;rw [Qk3 hTB hTri,c.hP] at h1;have key:∀i,i<2*n->∀j,j<2*n->cl (2*n) c.P (ac j) (ac i)≤cl (2*n) c.P i j:=λi hi j hj=>by
  rw [<-hTc i hi j hj];exact h1.2 _
 have k1:=key a ha b hb;have k2:=key (ac b) (Qg hb) (ac a) (Qg ha);rw [Ve,Ve] at k2;omega
theorem Cs.xP (c:Cs n M Z s) (hl:M.length=(2*n)*(2*n)) (hok:Yo (2*n) M) (hs:c.sp=false) {a b:Nat} (ha:a<2*n) (hb:b<2*n):cl (2*n) c.X a b=cl (2*n) c.P a b:=by
 have hB:=Zs hl hok;rw [c.cX hl hB ha hb,<-c.sP hl hok hs ha hb,Tq (Zl (c.fP hl hB).2 _ _)]
def Cs.h (c:Cs n M Z s) (a:Nat):Int:=Ju (cl (2*n) c.P a (ac a))
theorem Cs.hw (c:Cs n M Z s) (hl:M.length=(2*n)*(2*n)) (hB:Zg M) (a:Nat):(c.h a=9223372036854775807∧cl (2*n) c.P a (ac a)=9223372036854775807)∨(c.h a≠9223372036854775807∧cl (2*n) c.P a (ac a)≠9223372036854775807∧c.h a=cl (2*n) c.P a (ac a) / 2∧-4611686018427387904≤cl (2*n) c.P a (ac a)∧cl (2*n) c.P a (ac a)≤4611686018427387904):=by
 have b:=Zl (m:=2*n) (c.fP hl hB).2 a (ac a);unfold Cs.h Ju;rw [Zi b];unfold Bd at b;split
 .left;omega
 right;omega
theorem Cs.yU (c:Cs n M Z s) (hl:M.length=(2*n)*(2*n)) (hok:Yo (2*n) M) (hs:c.sp=false) {a:Nat} (ha:a<2*n):(c.h a=9223372036854775807∧cl (2*n) c.Y a (ac a)=9223372036854775807)∨(c.h a≠9223372036854775807∧cl (2*n) c.Y a (ac a)=2*c.h a):=by
 have hB:=Zs hl hok;rw [c.cY hl hB ha (Qg ha),ZM rfl,c.xP hl hok hs ha (Qg ha),Ck];show (Ju (cl (2*n) c.P a (ac a))=_∧_)∨(Ju (cl (2*n) c.P a (ac a))≠_∧_=2*Ju (cl (2*n) c.P a (ac a)))
 split
 .left;exact ⟨by assumption,rfl⟩
 right;exact ⟨by assumption,rfl⟩
def hv (x y:Int):Int:=if x=9223372036854775807∨y=9223372036854775807 then 9223372036854775807 else x+y
theorem Ej (x y:Int):((x=9223372036854775807∨y=9223372036854775807)∧hv x y=9223372036854775807)∨(x≠9223372036854775807∧y≠9223372036854775807∧hv x y=x+y):=by
 unfold hv;split
 .left;exact ⟨by assumption,rfl⟩
 right;rename_i h;exact ⟨λe=>h (.inl e),λe=>h (.inr e),rfl⟩
theorem Vj4 {pab pak pkb xa xk xk' xb:Int} (b1:Bd pab) (b2:Bd pak) (b3:Bd pkb) (h1:xa=9223372036854775807∨(-2305843009213693952≤xa∧xa≤2305843009213693952)) (h2:xk=9223372036854775807∨(-2305843009213693952≤xk∧xk≤2305843009213693952))
 (h3:xk'=9223372036854775807∨(-2305843009213693952≤xk'∧xk'≤2305843009213693952)) (h4:xb=9223372036854775807∨(-2305843009213693952≤xb∧xb≤2305843009213693952))
 (t1:E3 pab pak pkb) (t2:E3 xa pak xk) (t3:E3 xb pkb xk') (t4:xk≠9223372036854775807->xk'≠9223372036854775807->0≤xk+xk'):E3 (min pab (hv xa xb)) (min pak (hv xa xk')) (min pkb (hv xk xb)):=by
 unfold E3 at*;intro q1 q2;unfold Bd at*;have w0:=Ej xa xb;have w1:=Ej xa xk';have w2:=Ej xk xb;generalize hv xa xb=p0 at*;generalize hv xa xk'=p1 at*;generalize hv xk xb=p2 at*;have hm1:min pab p0≤pab:=Int.min_le_left _ _;have:min pab p0≤p0:=Int.min_le_right _ _;by_cases c1:pak≤p1
 .rw [Int.min_eq_left c1] at q1 |-
  by_cases c2:pkb≤p2
  .rw [Int.min_eq_left c2] at q2 |-
   have:=t1 q1 q2
   clear w0 w1 w2 t1 t2 t3 t4 h1 h2 h3 h4;exact ⟨by omega,by omega⟩
  rw [Int.min_eq_right (show p2≤pkb by omega)] at q2 |-
  rcases w2 with w2|⟨v1,v2,v3⟩
  .exact absurd w2.2 q2
  have:=t2 q1 v1
  clear w1 t1 t2 t3 t4 hm1;exact ⟨by omega,by omega⟩
 rw [Int.min_eq_right (show p1≤pak by omega)] at q1 |-
 rcases w1 with w1|⟨v1,v2,v3⟩
 .exact absurd w1.2 q1
 by_cases c2:pkb≤p2
 .rw [Int.min_eq_left c2] at q2 |-
  have:=t3 q2 v2
  clear w2 t1 t2 t3 t4 hm1;exact ⟨by omega,by omega⟩
 rw [Int.min_eq_right (show p2≤pkb by omega)] at q2 |-
 rcases w2 with w2|⟨y1,y2,y3⟩
 .exact absurd w2.2 q2
 have:=t4 y1 v2
 clear t1 t2 t3 t4 hm1;exact ⟨by omega,by omega⟩
theorem Cs.sides0 (c:Cs n M Z s) (hl:M.length=(2*n)*(2*n)) (hok:Yo (2*n) M) (hs:s=false) {a:Nat} (ha:a<2*n) (h1:c.h a≠9223372036854775807) (h2:c.h (ac a)≠9223372036854775807):0≤c.h a+c.h (ac a):=by
 have hB:=Zs hl hok;obtain ⟨n1,n2,_⟩:=c.no_sat hl hB hs;have hD:=(Si (m:=2*n) (X:=c.Y) (s:=c.sp)).1;rw [c.hD] at hD;have h3:¬Zh (cl (2*n) c.Y a (ac a)) (cl (2*n) c.Y (ac a) a)<0:=λh=>by
  have:=hD.2 ⟨a,ha,h⟩;cases this
 have w:=Bi (Zl (c.fY hl hB).2 _ _) (Zl (c.fY hl hB).2 _ _) (n2 a ha);have y1:=c.yU hl hok n1 ha;have y2:=c.yU hl hok n1 (Qg ha);rw [Ve] at y2;have b1:=Zl (m:=2*n) (c.fY hl hB).2 a (ac a);have b2:=Zl (m:=2*n) (c.fY hl hB).2 (ac a) a;unfold Bd at b1 b2;generalize cl (2*n) c.Y a (ac a)=u at*;generalize cl (2*n) c.Y (ac a) a=v at*;generalize Zh u v=p at*;omega
theorem Cs.zP (c:Cs n M Z s) (hl:M.length=(2*n)*(2*n)) (hok:Yo (2*n) M) (hs:s=false) {a b:Nat} (ha:a<2*n) (hb:b<2*n):cl (2*n) Z a b=min (cl (2*n) c.P a b) (hv (c.h a) (c.h (ac b))):=by
 have hB:=Zs hl hok;obtain ⟨n1,_,n3⟩:=c.no_sat hl hB hs;have:=λa b=>Zl (m:=2*n) (c.fP hl hB).2 a b
 have bY:=λa b=>Zl (m:=2*n) (c.fY hl hB).2 a b
 by_cases hab:a=b
 .subst hab;rw [c.dZ hl hok ha,c.dP hl hok a ha];have:=c.sides0 hl hok hs ha
  unfold hv;split<;>omega
 rw [c.cZ hl hB ha hb,ZL hab,Th (bY _ _) (Ka _)];have:=Bi (bY a (ac a)) (bY (ac b) b) (n3 a ha b hb hab);have:=c.yU hl hok n1 ha;have y2:=c.yU hl hok n1 (Qg hb);rw [Ve] at y2;have hy:Ju (Zh (cl (2*n) c.Y a (ac a)) (cl (2*n) c.Y (ac b) b))=hv (c.h a) (c.h (ac b)):=by
  have bp:=Ml (cl (2*n) c.Y a (ac a)) (cl (2*n) c.Y (ac b) b);unfold Ju hv;rw [Zi bp];have b1:=bY a (ac a);have b2:=bY (ac b) b;unfold Bd at b1 b2;generalize cl (2*n) c.Y a (ac a)=u at*;generalize cl (2*n) c.Y (ac b) b=v at*;generalize Zh u v=p at*;split<;>split<;>omega
 rw [hy,c.cY hl hB ha hb];by_cases hba:b=ac a
 .rw [ZM hba];subst hba;rw [c.xP hl hok n1 ha hb,Ck];have e:Ju (cl (2*n) c.P a (ac a))=c.h a:=rfl;rw [e,Ve];have:=c.hw hl hB a;unfold hv;split<;>split<;>omega
 rw [ZL hba,c.xP hl hok n1 ha hb]
theorem Cs.hT (c:Cs n M Z s) (hl:M.length=(2*n)*(2*n)) (hok:Yo (2*n) M) (hs:c.sp=false) {a k:Nat} (ha:a<2*n) (hk:k<2*n):E3 (c.h a) (cl (2*n) c.P a k) (c.h k):=by
 have hB:=Zs hl hok;have tP:=c.tP hl hok hs;have t1:=tP k hk a ha (ac a) (Qg ha);have t2:=tP (ac k) (Qg hk) k hk (ac a) (Qg ha);rw [<-c.sP hl hok hs ha hk] at t2;have w1:=c.hw hl hB a;have w2:=c.hw hl hB k;have b1:=Zl (m:=2*n) (c.fP hl hB).2 a k;unfold Bd at b1;unfold E3 at*;intro h1 h2;have:=t2 (by omega) h1
 have:=t1 h1 this.1
 omega
theorem Cs.tZ (c:Cs n M Z s) (hl:M.length=(2*n)*(2*n)) (hok:Yo (2*n) M) (hs:s=false):Ju5 (2*n) (2*n) Z:=by
 intro k hk a ha b hb;have hB:=Zs hl hok;obtain ⟨n1,n2,n3⟩:=c.no_sat hl hB hs;have t1:=c.tP hl hok n1 k hk a ha b hb;have t2:=c.hT hl hok n1 ha hk;have t3:=c.hT hl hok n1 (Qg hb) (Qg hk);rw [<-c.sP hl hok n1 hk hb] at t3;have t4:=c.sides0 hl hok hs hk;rw [c.zP hl hok hs ha hb,c.zP hl hok hs ha hk,c.zP hl hok hs hk hb];have bP:=λa b=>Zl (m:=2*n) (c.fP hl hB).2 a b
 have b1:=bP a b;have b2:=bP a k;have b3:=bP k b;have g1:=c.hw hl hB a;have g2:=c.hw hl hB k;have g3:=c.hw hl hB (ac k);have g4:=c.hw hl hB (ac b);have h1:c.h a=9223372036854775807∨(-2305843009213693952≤c.h a∧c.h a≤2305843009213693952):=by omega
 have h2:c.h k=9223372036854775807∨(-2305843009213693952≤c.h k∧c.h k≤2305843009213693952):=by omega
 have h3:c.h (ac k)=9223372036854775807∨(-2305843009213693952≤c.h (ac k)∧c.h (ac k)≤2305843009213693952):=by omega
 have h4:c.h (ac b)=9223372036854775807∨(-2305843009213693952≤c.h (ac b)∧c.h (ac b)≤2305843009213693952):=by omega
 clear g1 g2 g3 g4 n2 n3;generalize cl (2*n) c.P a b=pab at*;generalize cl (2*n) c.P a k=pak at*;generalize cl (2*n) c.P k b=pkb at*;generalize c.h a=xa at*;generalize c.h k=xk at*;generalize c.h (ac k)=xk' at*;generalize c.h (ac b)=xb at*;exact Vj4 b1 b2 b3 h1 h2 h3 h4 t1 t2 t3 t4
theorem Cs.triZ (c:Cs n M Z s) (hl:M.length=(2*n)*(2*n)) (hok:Yo (2*n) M) (hs:s=false):Tri (2*n) Z:=λa ha k hk b hb=>
 have f:=(c.fZ hl (Zs hl hok)).2
 Ze8 (f _) (f _) (f _) (c.tZ hl hok hs k hk a ha b hb)
theorem Cs.uZ (c:Cs n M Z s) (hl:M.length=(2*n)*(2*n)) (hok:Yo (2*n) M) (hs:s=false) {a:Nat} (ha:a<2*n):(c.h a=9223372036854775807∧cl (2*n) Z a (ac a)=9223372036854775807)∨(c.h a≠9223372036854775807∧cl (2*n) Z a (ac a)=2*c.h a):=by
 rw [c.zP hl hok hs ha (Qg ha),Ve];have:=c.hw hl (Zs hl hok) a;unfold hv;split<;>omega
theorem Hf (hl:M.length=(2*n)*(2*n)) (hok:Yo (2*n) M) (h:Zb (2*n) M=(some Z,false)):∃t,Zb (2*n) Z=(some Z,t):=by
 obtain ⟨c⟩:=Jw h;have hB:=Zs hl hok;have fZ:=c.fZ hl hB;have tri:=c.triZ hl hok rfl;obtain ⟨n1,n2,n3⟩:=c.no_sat hl hB rfl;have e1:(Jo (2*n) (Z,false)).1=Z:=Qk3 fZ.2 tri;have e2:Jq (2*n) Z=Z:=Cu ((Bj _ _ _).trans fZ.1) fZ.1 λa ha b hb=>by
  rw [Ti fZ.1 fZ.2 a ha b hb,<-c.sZ hl hB ha hb,Tq (Zl fZ.2 _ _)]
 have e3:Ki (2*n) Z=false:=by
  cases e:Ki (2*n) Z
  .rfl
  obtain ⟨a,ha,h1⟩:=Bo.1 e;rw [c.dZ hl hok ha] at h1;omega
 have e4:Uz (2*n) Z=Z:=Cu ((Ab _ _ _).trans fZ.1) fZ.1 λa ha b hb=>by
  rw [Fj fZ.1 a ha b hb];split
  .rename_i e;subst e
   have u:=c.uZ hl hok rfl ha;have b1:=Zl (m:=2*n) fZ.2 a (ac a);unfold Rl;rw [Zi b1];split<;>omega
  rfl
 have e5:∀t,(Xq (2*n) Z t).1=false:=λt=>by
  cases e:(Xq (2*n) Z t).1
  .rfl
  obtain ⟨a,ha,h1⟩:=Si.1.1 e;have:=tri a ha (ac a) (Qg ha) a ha
  rw [c.dZ hl hok ha] at this;omega
 have e6:∀t,(Nt (2*n) (Z,t)).1=Z:=λt=>Cu ((Qq6 _ _ _).trans fZ.1) fZ.1 λa ha b hb=>by
  rw [(Tj fZ.1 fZ.2).1 a ha b hb];split
  .rfl
  rename_i hab
  refine Dc (Zl fZ.2 _ _) (Ka _) ?_;have u1:=c.uZ hl hok rfl ha;have u2:=c.uZ hl hok rfl (Qg hb);have y1:=c.yU hl hok n1 ha;have y2:=c.yU hl hok n1 (Qg hb);rw [Ve] at u2 y2;have z:=c.zP hl hok rfl ha hb;have f1:cl (2*n) Z a (ac a)=cl (2*n) c.Y a (ac a):=by omega
  have f2:cl (2*n) Z (ac b) b=cl (2*n) c.Y (ac b) b:=by omega
  have w:=Bi (Zl (c.fY hl hB).2 a (ac a)) (Zl (c.fY hl hB).2 (ac b) b) (n3 a ha b hb hab);rw [f1,f2];have bp:=Ml (cl (2*n) c.Y a (ac a)) (cl (2*n) c.Y (ac b) b);unfold Ju;rw [Zi bp];have b1:=Zl (m:=2*n) (c.fY hl hB).2 a (ac a);have b2:=Zl (m:=2*n) (c.fY hl hB).2 (ac b) b;have b3:=Zl (m:=2*n) fZ.2 a b;unfold hv at z;unfold Bd at b1 b2 b3;generalize cl (2*n) c.Y a (ac a)=u at*;generalize cl (2*n) c.Y (ac b) b=v at*;generalize Zh u v=p at*;split at z<;>split<;>omega
 unfold Zb;dsimp only;rw [e1,e2,e3,e4,e5,ZL (by simp),ZL (by simp),e6];exact ⟨_,rfl⟩
end
end Gn
end
namespace Gn
def Fn (L v:Int):Prop:=v=9223372036854775807∨(-L≤v∧v≤L)
def Ko (m:Nat) (L:Int) (X:List Int):Prop:=∀a,a<m->∀b,b<m->Fn L (cl m X a b)
theorem Mt {L K v:Int} (h:Fn L v) (hk:L≤K):Fn K v:=by unfold Fn at*;omega
theorem Qf7 {K L a b:Int} (ha:Fn K a) (hb:Fn L b) (hA:Bd a) (hB:Bd b) (h:K+L≤4611686018427387904):Fn (K+L) (Zh a b)∧Yj a b=false:=by
 have hs:Yj a b=false:=by rw [Qb8,Zi hA,Zi hB];unfold Fn at*;omega
 refine ⟨?_,hs⟩;rw [Pp hA hB hs];unfold Fn at*;split<;>omega
theorem Zi3 {L a b:Int} (ha:Fn L a) (hb:Fn L b) (hA:Bd a) (hB:Bd b):Fn L (Jr a b):=by rw [Th hA hB];unfold Fn at*;omega
def wB (B D:Int) (k a b:Nat):Int:=if a=k∧b=k then 2*D else if a=k∨b=k then B+2*D else 2*B+4*D
theorem Jq5 {m k:Nat} {X:List Int} {s:Bool} {B D:Int} (hl:X.length=m*m) (hB:Zg X) (hk:k<m) (h0:0≤D) (h1:D≤B) (h2:2*B+4*D≤4611686018427387904) (hX:Ko m B X) (hD:Fn D (cl m X k k)):
 Ko m (2*B+4*D) (pI m k m (X,s)).1∧(pI m k m (X,s)).2=s:=by
 have key:=Mg (λi j=>Kg m k i j) (λi j S=>S.1.length=m*m∧Zg S.1∧S.2=s∧
  (∀a,a<m->∀b,b<m->Fn (if a<i∨(a=i∧b<j) then wB B D k a b else if a=k∧b=k then D else B) (cl m S.1 a b))) m (X,s)
  ⟨hl,hB,rfl,λa ha b hb=>?_⟩ ?_ ?_
 .refine ⟨λa ha b hb=>?_,key.2.2.1⟩;have:=key.2.2.2 a ha b hb
  rw [ZM (.inl ha)] at this;exact Mt this (by unfold wB;repeat' split
                                              all_goals omega)
 .rw [ZL (by omega)];by_cases h:a=k∧b=k
  .rw [ZM h,h.1,h.2];exact hD
  rw [ZL h];exact hX a ha b hb
 .rintro i hi j hj S ⟨l1,l2,l3,l4⟩;have f1:=l4 i hi k hk;have f2:=l4 k hk j hj;have f3:=l4 i hi j hj;have hle:(if i<i∨(i=i∧k<j) then wB B D k i k else if i=k∧k=k then D else B)+(if k<i∨(k=i∧j<j) then wB B D k k j else if k=k∧j=k then D else B)≤wB B D k i j:=by
   unfold wB
   repeat' split
   all_goals omega
  have hw:wB B D k i j≤4611686018427387904:=by
   unfold wB
   repeat' split
   all_goals omega
  have hw3:(if i<i∨(i=i∧j<j) then wB B D k i j else if i=k∧j=k then D else B)≤wB B D k i j:=by
   unfold wB
   repeat' split
   all_goals omega
  obtain ⟨g1,g2⟩:=Qf7 f1 f2 (Zl l2 _ _) (Zl l2 _ _) (by omega);refine ⟨by rw [Cy,l1],Qe6 l2,?_,λa ha b hb=>?_⟩
  .show (S.2||Yj (cl m S.1 i k) (cl m S.1 k j))=s
   rw [g2,Bool.or_false,l3]
  rw [Qj5 l1 hi hj hb];by_cases hab:a=i∧b=j
  .obtain ⟨rfl,rfl⟩:=hab;rw [ZM (show a=a∧b=b from ⟨rfl,rfl⟩),ZM (show a<a∨(a=a∧b<b+1) by omega)];exact Zi3 (Mt f3 hw3) (Mt g1 hle) (Zl l2 _ _) (Ml _ _)
  rw [ZL hab];have:=l4 a ha b hb
  by_cases h:a<i∨(a=i∧b<j)
  .rw [ZM h] at this;rw [ZM (by omega)];exact this
  rw [ZL h] at this;rw [ZL (by omega)];exact this
 rintro i hi S ⟨l1,l2,l3,l4⟩;refine ⟨l1,l2,l3,λa ha b hb=>?_⟩;have:=l4 a ha b hb
 by_cases h:a<i∨(a=i∧b<m)
 .rw [ZM h] at this;rw [ZM (by omega)];exact this
 rw [ZL h] at this;rw [ZL (by omega)];exact this
theorem Tm {m k:Nat} {M:List Int} {B:Int} (hl:M.length=m*m) (hB:Zg M) (hk:k<m) (h0:0≤B) (h1:6*B≤4611686018427387904) (h:Ko m B (pK m k (M,false)).1∧(pK m k (M,false)).2=false):
 Ko m (6*B) (pK m (k+1) (M,false)).1∧(pK m (k+1) (M,false)).2=false:=by
 have f:=Bh (m:=m) (k:=k) (S:=(M,false)) ⟨hl,hB⟩;have:=Jq5 (D:=B) (s:=(pK m k (M,false)).2) f.1 f.2 hk h0 (Int.le_refl _) (by omega) h.1 (h.1 k hk k hk)
 exact ⟨λa ha b hb=>Mt (this.1 a ha b hb) (by omega),this.2.trans h.2⟩
theorem Js6 {L v:Int} (h:Fn L v) (hv:Bd v):Fn (L+1) (Rl v):=by
 unfold Rl;rw [Zi hv];unfold Fn at*;split
 .exact .inl rfl
 omega
theorem Qe8 {n:Nat} {M:List Int} {B:Int} (hl:M.length=(2*n)*(2*n)) (hB:Zg M) (hP:Ko (2*n) B (Jo (2*n) (M,false)).1) (hs:(Jo (2*n) (M,false)).2=false) (h:2*B+2≤4611686018427387904):(Zb (2*n) M).2=false:=by
 have f1:=Bh (m:=2*n) (k:=2*n) (S:=(M,false)) ⟨hl,hB⟩;have f1:(Jo (2*n) (M,false)).1.length=(2*n)*(2*n)∧Zg (Jo (2*n) (M,false)).1:=f1;unfold Zb;dsimp only;generalize Jo (2*n) (M,false)=S at*;have f2:(Jq (2*n) S.1).length=(2*n)*(2*n)∧Zg (Jq (2*n) S.1):=⟨(Bj _ _ _).trans f1.1,En f1.2⟩;have f3:(Uz (2*n) (Jq (2*n) S.1)).length=(2*n)*(2*n)∧Zg (Uz (2*n) (Jq (2*n) S.1)):=⟨(Ab _ _ _).trans f2.1,Lz f2.2⟩;have hY:Ko (2*n) (B+1) (Uz (2*n) (Jq (2*n) S.1)):=λa ha b hb=>by
  have hX:Fn B (cl (2*n) (Jq (2*n) S.1) a b):=by
   rw [Ti f1.1 f1.2 a ha b hb];exact Zi3 (hP a ha b hb) (hP _ (Qg hb) _ (Qg ha)) (Zl f1.2 _ _) (Zl f1.2 _ _)
  rw [Fj f2.1 a ha b hb];split
  .exact Js6 hX (Zl f2.2 _ _)
  exact Mt hX (by omega)
 have hS:(Xq (2*n) (Uz (2*n) (Jq (2*n) S.1)) S.2).2=false:=
  Si.2.2 ⟨hs,λa ha=>(Qf7 (hY a ha _ (Qg ha)) (hY _ (Qg ha) a ha) (Zl f3.2 _ _) (Zl f3.2 _ _) (by omega)).2⟩
 split
 .exact hs
 split
 .exact hS
 exact (Tj f3.1 f3.2).2.2 ⟨hS,λa ha b hb _=>(Qf7 (hY a ha _ (Qg ha)) (hY _ (Qg hb) b hb) (Zl f3.2 _ _) (Zl f3.2 _ _) (by omega)).2⟩
end Gn
section
namespace Gn
structure Io8 (h0 h1 h2 h3 A B C D x y:Int):Prop where
 a0:x≤h0
 a1:-x≤h1
 a2:y≤h2
 a3:-y≤h3
 b0:x - y≤A
 b1:y - x≤B
 b2:x+y≤C
 b3:-x - y≤D
structure So8 (h0 h1 h2 h3 A B C D:Int):Prop where
 s0:0≤h0+h1
 s1:0≤h2+h3
 s2:0≤A+B
 s3:0≤C+D
 g0:A≤h0+h3
 g1:B≤h1+h2
 g2:C≤h0+h2
 g3:D≤h1+h3
 u0:2*h0≤A+C
 u1:2*h1≤B+D
 u2:2*h2≤B+C
 u3:2*h3≤A+D
 v0:A≤2*h0+D
 v1:A≤C+2*h3
 v2:B≤2*h2+D
 v3:B≤C+2*h1
 v4:C≤2*h0+B
 v5:C≤A+2*h2
 v6:D≤2*h1+A
 v7:D≤B+2*h3
section
variable {h0 h1 h2 h3 A B C D:Int}
theorem Vl5 (s:So8 h0 h1 h2 h3 A B C D):∃x y,Io8 h0 h1 h2 h3 A B C D x y∧x=h0:=by
 obtain ⟨⟩:=s;obtain ⟨y,_⟩:∃y,y=max (h0 - A) (max (-h3) (-D - h0)):=⟨_,rfl⟩;exact ⟨h0,y,⟨by omega,by omega,by omega,by omega,by omega,by omega,by omega,by omega⟩,rfl⟩
theorem Vm4 (s:So8 h0 h1 h2 h3 A B C D):∃x y,Io8 h0 h1 h2 h3 A B C D x y∧-x=h1:=by
 obtain ⟨⟩:=s;obtain ⟨y,_⟩:∃y,y=max (-h1 - A) (max (-h3) (h1 - D)):=⟨_,rfl⟩;exact ⟨-h1,y,⟨by omega,by omega,by omega,by omega,by omega,by omega,by omega,by omega⟩,by omega⟩
theorem Vi5 (s:So8 h0 h1 h2 h3 A B C D):∃x y,Io8 h0 h1 h2 h3 A B C D x y∧y=h2:=by
 obtain ⟨⟩:=s;obtain ⟨x,_⟩:∃x,x=max (-h1) (max (h2 - B) (-D - h2)):=⟨_,rfl⟩;exact ⟨x,h2,⟨by omega,by omega,by omega,by omega,by omega,by omega,by omega,by omega⟩,rfl⟩
theorem Vh6 (s:So8 h0 h1 h2 h3 A B C D):∃x y,Io8 h0 h1 h2 h3 A B C D x y∧-y=h3:=by
 obtain ⟨⟩:=s;obtain ⟨x,_⟩:∃x,x=max (-h1) (max (-h3 - B) (h3 - D)):=⟨_,rfl⟩;exact ⟨x,-h3,⟨by omega,by omega,by omega,by omega,by omega,by omega,by omega,by omega⟩,by omega⟩
theorem Vn8 (s:So8 h0 h1 h2 h3 A B C D):∃x y,Io8 h0 h1 h2 h3 A B C D x y∧x - y=A:=by
 obtain ⟨⟩:=s;obtain ⟨x,_⟩:∃x,x=max (-h1) (max (A - h3) ((A - D+1) / 2)):=⟨_,rfl⟩;exact ⟨x,x - A,⟨by omega,by omega,by omega,by omega,by omega,by omega,by omega,by omega⟩,by omega⟩
theorem Vo6 (s:So8 h0 h1 h2 h3 A B C D):∃x y,Io8 h0 h1 h2 h3 A B C D x y∧y - x=B:=by
 obtain ⟨⟩:=s;obtain ⟨x,_⟩:∃x,x=max (-h1) (max (-h3 - B) ((-B - D+1) / 2)):=⟨_,rfl⟩;exact ⟨x,x+B,⟨by omega,by omega,by omega,by omega,by omega,by omega,by omega,by omega⟩,by omega⟩
theorem Vp4 (s:So8 h0 h1 h2 h3 A B C D):∃x y,Io8 h0 h1 h2 h3 A B C D x y∧x+y=C:=by
 obtain ⟨⟩:=s;obtain ⟨x,_⟩:∃x,x=max (-h1) (max (C - h2) ((C - B+1) / 2)):=⟨_,rfl⟩;exact ⟨x,C - x,⟨by omega,by omega,by omega,by omega,by omega,by omega,by omega,by omega⟩,by omega⟩
theorem Vf9 (s:So8 h0 h1 h2 h3 A B C D):∃x y,Io8 h0 h1 h2 h3 A B C D x y∧-x - y=D:=by
 obtain ⟨⟩:=s;obtain ⟨x,_⟩:∃x,x=max (-h1) (max (-D - h2) ((-B - D+1) / 2)):=⟨_,rfl⟩;exact ⟨x,-D - x,⟨by omega,by omega,by omega,by omega,by omega,by omega,by omega,by omega⟩,by omega⟩
end
def Un (M:List Int):Prop:=∀a,a<4->cl 4 M a (ac a)≤4611686018427387904
theorem Va8 {M Z:List Int} (hl:M.length=(2*2)*(2*2)) (hok:Yo (2*2) M) (hA:Zb (2*2) M=(some Z,false)) (hu:Un Z):
 (∀i,i<4->∀j,j<4->cl 4 Z i j≠9223372036854775807)∧∀i,i<4->∀j,j<4->i≠j->∃x y:Int,Zr 4 M [x,y]∧Qc [x,y] i j=cl 4 Z i j:=by
 have hB:=Zs hl hok;obtain ⟨c⟩:=Jw hA;have hle:=(c.leZM hl hB).2;have uz:=λa ha=>c.uZ hl hok rfl (a:=a) ha
 have u0:=uz 0 (by omega);have u1:=uz 1 (by omega);have u2:=uz 2 (by omega);have u3:=uz 3 (by omega);have l0:Qe Z (0*4+1)≤4611686018427387904:=hu 0 (by omega);have l1:Qe Z (1*4+0)≤4611686018427387904:=hu 1 (by omega);have l2:Qe Z (2*4+3)≤4611686018427387904:=hu 2 (by omega);have l3:Qe Z (3*4+2)≤4611686018427387904:=hu 3 (by omega);have e0:Qe Z (0*4+1)=cl (2*2) Z 0 (ac 0):=rfl;have e1:Qe Z (1*4+0)=cl (2*2) Z 1 (ac 1):=rfl;have e2:Qe Z (2*4+3)=cl (2*2) Z 2 (ac 2):=rfl;have e3:Qe Z (3*4+2)=cl (2*2) Z 3 (ac 3):=rfl;rw [e0] at l0;rw [e1] at l1;rw [e2] at l2;rw [e3] at l3;have bz:=λa b=>Zl (m:=2*2) (c.fZ hl hB).2 a b
 have b0:=bz 0 (ac 0);have b1:=bz 1 (ac 1);have b2:=bz 2 (ac 2);have b3:=bz 3 (ac 3);unfold Bd at b0 b1 b2 b3;have hf:∀a,a<4->c.h a≠9223372036854775807∧-2305843009213693953≤c.h a∧c.h a≤2305843009213693952∧cl (2*2) Z a (ac a)=2*c.h a:=λa ha=>by
  rcases (show a=0∨a=1∨a=2∨a=3 by omega) with rfl|rfl|rfl|rfl
  .clear u1 u2 u3;omega
  .clear u0 u2 u3;omega
  .clear u0 u1 u3;omega
  clear u0 u1 u2;omega
 clear u0 u1 u2 u3 l0 l1 l2 l3 b0 b1 b2 b3 hle uz hu e0 e1 e2 e3;have F1:∀a,a<4->∀b,b<4->cl (2*2) Z a b≠9223372036854775807∧cl (2*2) Z a b≤c.h a+c.h (ac b):=λa ha b hb'=>by
  have z:=c.zP hl hok rfl (a:=a) (b:=b) ha hb';have:=hf a ha;have:=hf (ac b) (Qg (n:=2) hb');have:=Ej (c.h a) (c.h (ac b));rw [z];generalize hv (c.h a) (c.h (ac b))=q at*;omega
 have F2:∀a,a<4->∀k,k<4->∀b,b<4->cl (2*2) Z a b≤cl (2*2) Z a k+cl (2*2) Z k b:=λa ha k hk b hb'=>
  (c.tZ hl hok rfl k hk a ha b hb' (F1 a ha k hk).1 (F1 k hk b hb').1).2
 have F4:=λa ha b hb'=>c.sZ hl hB (a:=a) (b:=b) ha hb'
 have F5:=λa ha=>c.dZ hl hok (a:=a) ha
 have hh:=λx=>Wj (x:=x) hl hok hA
 have f0:=hf 0 (by omega);have f1:=hf 1 (by omega);have f2:=hf 2 (by omega);have f3:=hf 3 (by omega);have:=F5 0 (by omega);have:=F5 1 (by omega);have:=F5 2 (by omega);have:=F5 3 (by omega);have y0:=F4 0 (by omega) 2 (by omega);have y1:=F4 2 (by omega) 0 (by omega);have y2:=F4 0 (by omega) 3 (by omega);have y3:=F4 1 (by omega) 2 (by omega);have a0:ac 0=1:=rfl;have a1:ac 1=0:=rfl;have a2:ac 2=3:=rfl;have a3:ac 3=2:=rfl;rw [a0] at f0;rw [a1] at f1;rw [a2] at f2;rw [a3] at f3;rw [a0,a2] at y0 y1;rw [a0,a3] at y2;rw [a1,a2] at y3;have s:So8 (c.h 0) (c.h 1) (c.h 2) (c.h 3) (cl (2*2) Z 0 2) (cl (2*2) Z 2 0) (cl (2*2) Z 0 3) (cl (2*2) Z 1 2):=by
  have t:=λa k b (h:a<4∧k<4∧b<4)=>F2 a h.1 k h.2.1 b h.2.2
  have g:=λa b (h:a<4∧b<4)=>(F1 a h.1 b h.2).2
  have:=t 0 1 0 (by omega);have:=t 2 3 2 (by omega);have:=t 0 2 0 (by omega);have:=t 0 3 0 (by omega);have:=t 0 2 1 (by omega);have:=t 1 2 0 (by omega);have:=t 2 0 3 (by omega);have:=t 3 0 2 (by omega);have:=t 0 1 2 (by omega);have:=t 0 3 2 (by omega);have:=t 2 3 0 (by omega);have:=t 2 1 0 (by omega);have:=t 0 1 3 (by omega);have:=t 0 2 3 (by omega);have:=t 1 0 2 (by omega);have:=t 1 3 2 (by omega);have g1:=g 0 2 (by omega);have g2:=g 2 0 (by omega);have g3:=g 0 3 (by omega);have g4:=g 1 2 (by omega);rw [a2] at g1;rw [a0] at g2;rw [a3] at g3;rw [a2] at g4;clear t g F1 F2 F4 F5 hf bz hh;exact ⟨by omega,by omega,by omega,by omega,by omega,by omega,by omega,by omega,by omega,by omega,by omega,by omega,by omega,by omega,by omega,by omega,by omega,by omega,by omega,by omega⟩
 refine ⟨λi hi j hj=>(F1 i hi j hj).1,λi hi j hj hij=>?_⟩;have key:∀x y,Io8 (c.h 0) (c.h 1) (c.h 2) (c.h 3) (cl (2*2) Z 0 2) (cl (2*2) Z 2 0) (cl (2*2) Z 0 3) (cl (2*2) Z 1 2) x y->Zr 4 M [x,y]:=λx y p=>by
  obtain ⟨_,_,_,_,_,_,_,_⟩:=p;refine (hh [x,y]).1 λa ha b hb'=>.inr ?_
  have ha:a<4:=ha;have hb':b<4:=hb';have q0:Zo [x,y] 0=x:=rfl;have q1:Zo [x,y] 1=-x:=rfl;have q2:Zo [x,y] 2=y:=rfl;have q3:Zo [x,y] 3=-y:=rfl;unfold Qc;clear F1 F2 F4 F5 hf bz hh s;rcases (show a=0∨a=1∨a=2∨a=3 by omega) with rfl|rfl|rfl|rfl<;>rcases (show b=0∨b=1∨b=2∨b=3 by omega) with rfl|rfl|rfl|rfl<;>simp only [q0,q1,q2,q3]<;>omega
 have fin:∀(v:Int),(∃x y,Io8 (c.h 0) (c.h 1) (c.h 2) (c.h 3) (cl (2*2) Z 0 2) (cl (2*2) Z 2 0) (cl (2*2) Z 0 3) (cl (2*2) Z 1 2) x y∧Qc [x,y] i j=v)->v=cl (2*2) Z i j->∃x y:Int,Zr 4 M [x,y]∧Qc [x,y] i j=cl 4 Z i j:=by
  rintro v ⟨x,y,h1,h2⟩ hv;exact ⟨x,y,key x y h1,h2.trans hv⟩
 have m0:=Vl5 s;have m1:=Vm4 s;have m2:=Vi5 s;have m3:=Vh6 s;have m4:=Vn8 s;have m5:=Vo6 s;have m6:=Vp4 s;have m7:=Vf9 s;clear F1 F2 F4 F5 hf bz hh s key;rcases (show i=0∨i=1∨i=2∨i=3 by omega) with rfl|rfl|rfl|rfl<;>rcases (show j=0∨j=1∨j=2∨j=3 by omega) with rfl|rfl|rfl|rfl
 .exact absurd rfl hij
 .obtain ⟨x,y,h,e⟩:=m0;exact fin _ ⟨x,y,h,rfl⟩ (by show x - -x=_;omega)
 .obtain ⟨x,y,h,e⟩:=m4;exact fin _ ⟨x,y,h,rfl⟩ (by show x - y=_;omega)
 .obtain ⟨x,y,h,e⟩:=m6;exact fin _ ⟨x,y,h,rfl⟩ (by show x - -y=_;omega)
 .obtain ⟨x,y,h,e⟩:=m1;exact fin _ ⟨x,y,h,rfl⟩ (by show -x - x=_;omega)
 .exact absurd rfl hij
 .obtain ⟨x,y,h,e⟩:=m7;exact fin _ ⟨x,y,h,rfl⟩ (by show -x - y=_;omega)
 .obtain ⟨x,y,h,e⟩:=m5;exact fin _ ⟨x,y,h,rfl⟩ (by show -x - -y=_;omega)
 .obtain ⟨x,y,h,e⟩:=m5;exact fin _ ⟨x,y,h,rfl⟩ (by show y - x=_;omega)
 .obtain ⟨x,y,h,e⟩:=m6;exact fin _ ⟨x,y,h,rfl⟩ (by show y - -x=_;omega)
 .exact absurd rfl hij
 .obtain ⟨x,y,h,e⟩:=m2;exact fin _ ⟨x,y,h,rfl⟩ (by show y - -y=_;omega)
 .obtain ⟨x,y,h,e⟩:=m7;exact fin _ ⟨x,y,h,rfl⟩ (by show -y - x=_;omega)
 .obtain ⟨x,y,h,e⟩:=m4;exact fin _ ⟨x,y,h,rfl⟩ (by show -y - -x=_;omega)
 .obtain ⟨x,y,h,e⟩:=m3;exact fin _ ⟨x,y,h,rfl⟩ (by show -y - y=_;omega)
 exact absurd rfl hij
theorem Qc9 {M Z:List Int} (hl:M.length=(2*2)*(2*2)) (hok:Yo (2*2) M) (hA:Zb (2*2) M=(some Z,false)) (hu:Un Z):
 ∃h0 h1 h2 h3 A B C D:Int,So8 h0 h1 h2 h3 A B C D∧(∀x y,Zr 4 M [x,y]↔Io8 h0 h1 h2 h3 A B C D x y)∧(cl 4 Z 0 1=2*h0∧cl 4 Z 1 0=2*h1∧cl 4 Z 2 3=2*h2∧cl 4 Z 3 2=2*h3)∧
  (cl 4 Z 0 2=A∧cl 4 Z 3 1=A∧cl 4 Z 2 0=B∧cl 4 Z 1 3=B∧cl 4 Z 0 3=C∧cl 4 Z 2 1=C∧cl 4 Z 1 2=D∧cl 4 Z 3 0=D):=by
 have hB:=Zs hl hok;obtain ⟨c⟩:=Jw hA;have hle:=(c.leZM hl hB).2;have uz:=λa ha=>c.uZ hl hok rfl (a:=a) ha
 have u0:=uz 0 (by omega);have u1:=uz 1 (by omega);have u2:=uz 2 (by omega);have u3:=uz 3 (by omega);have l0:Qe Z (0*4+1)≤4611686018427387904:=hu 0 (by omega);have l1:Qe Z (1*4+0)≤4611686018427387904:=hu 1 (by omega);have l2:Qe Z (2*4+3)≤4611686018427387904:=hu 2 (by omega);have l3:Qe Z (3*4+2)≤4611686018427387904:=hu 3 (by omega);have e0:Qe Z (0*4+1)=cl (2*2) Z 0 (ac 0):=rfl;have e1:Qe Z (1*4+0)=cl (2*2) Z 1 (ac 1):=rfl;have e2:Qe Z (2*4+3)=cl (2*2) Z 2 (ac 2):=rfl;have e3:Qe Z (3*4+2)=cl (2*2) Z 3 (ac 3):=rfl;rw [e0] at l0;rw [e1] at l1;rw [e2] at l2;rw [e3] at l3;have bz:=λa b=>Zl (m:=2*2) (c.fZ hl hB).2 a b
 have b0:=bz 0 (ac 0);have b1:=bz 1 (ac 1);have b2:=bz 2 (ac 2);have b3:=bz 3 (ac 3);unfold Bd at b0 b1 b2 b3;have hf:∀a,a<4->c.h a≠9223372036854775807∧-2305843009213693953≤c.h a∧c.h a≤2305843009213693952∧cl (2*2) Z a (ac a)=2*c.h a:=λa ha=>by
  rcases (show a=0∨a=1∨a=2∨a=3 by omega) with rfl|rfl|rfl|rfl
  .clear u1 u2 u3;omega
  .clear u0 u2 u3;omega
  .clear u0 u1 u3;omega
  clear u0 u1 u2;omega
 clear u0 u1 u2 u3 l0 l1 l2 l3 b0 b1 b2 b3 hle uz hu e0 e1 e2 e3;have F1:∀a,a<4->∀b,b<4->cl (2*2) Z a b≠9223372036854775807∧cl (2*2) Z a b≤c.h a+c.h (ac b):=λa ha b hb'=>by
  have z:=c.zP hl hok rfl (a:=a) (b:=b) ha hb';have:=hf a ha;have:=hf (ac b) (Qg (n:=2) hb');have:=Ej (c.h a) (c.h (ac b));rw [z];generalize hv (c.h a) (c.h (ac b))=q at*;omega
 have F2:∀a,a<4->∀k,k<4->∀b,b<4->cl (2*2) Z a b≤cl (2*2) Z a k+cl (2*2) Z k b:=λa ha k hk b hb'=>
  (c.tZ hl hok rfl k hk a ha b hb' (F1 a ha k hk).1 (F1 k hk b hb').1).2
 have F4:=λa ha b hb'=>c.sZ hl hB (a:=a) (b:=b) ha hb'
 have F5:=λa ha=>c.dZ hl hok (a:=a) ha
 have hh:=λx=>Wj (x:=x) hl hok hA
 have f0:=hf 0 (by omega);have f1:=hf 1 (by omega);have f2:=hf 2 (by omega);have f3:=hf 3 (by omega);have:=F5 0 (by omega);have:=F5 1 (by omega);have:=F5 2 (by omega);have:=F5 3 (by omega);have y0:=F4 0 (by omega) 2 (by omega);have y1:=F4 2 (by omega) 0 (by omega);have y2:=F4 0 (by omega) 3 (by omega);have y3:=F4 1 (by omega) 2 (by omega);have a0:ac 0=1:=rfl;have a1:ac 1=0:=rfl;have a2:ac 2=3:=rfl;have a3:ac 3=2:=rfl;rw [a0] at f0;rw [a1] at f1;rw [a2] at f2;rw [a3] at f3;rw [a0,a2] at y0 y1;rw [a0,a3] at y2;rw [a1,a2] at y3;have s:So8 (c.h 0) (c.h 1) (c.h 2) (c.h 3) (cl (2*2) Z 0 2) (cl (2*2) Z 2 0) (cl (2*2) Z 0 3) (cl (2*2) Z 1 2):=by
  have t:=λa k b (h:a<4∧k<4∧b<4)=>F2 a h.1 k h.2.1 b h.2.2
  have g:=λa b (h:a<4∧b<4)=>(F1 a h.1 b h.2).2
  have:=t 0 1 0 (by omega);have:=t 2 3 2 (by omega);have:=t 0 2 0 (by omega);have:=t 0 3 0 (by omega);have:=t 0 2 1 (by omega);have:=t 1 2 0 (by omega);have:=t 2 0 3 (by omega);have:=t 3 0 2 (by omega);have:=t 0 1 2 (by omega);have:=t 0 3 2 (by omega);have:=t 2 3 0 (by omega);have:=t 2 1 0 (by omega);have:=t 0 1 3 (by omega);have:=t 0 2 3 (by omega);have:=t 1 0 2 (by omega);have:=t 1 3 2 (by omega);have g1:=g 0 2 (by omega);have g2:=g 2 0 (by omega);have g3:=g 0 3 (by omega);have g4:=g 1 2 (by omega);rw [a2] at g1;rw [a0] at g2;rw [a3] at g3;rw [a2] at g4;clear t g F1 F2 F4 F5 hf bz hh;exact ⟨by omega,by omega,by omega,by omega,by omega,by omega,by omega,by omega,by omega,by omega,by omega,by omega,by omega,by omega,by omega,by omega,by omega,by omega,by omega,by omega⟩
 have fr:∀i,i<4->∀j,j<4->cl (2*2) Z i j≠9223372036854775807:=λi hi j hj=>(F1 i hi j hj).1
 refine ⟨_,_,_,_,_,_,_,_,s,λx y=>⟨λhM=>?_,λp=>?_⟩,⟨f0.2.2.2,f1.2.2.2,f2.2.2.2,f3.2.2.2⟩,rfl,y0.symm,rfl,y1.symm,rfl,y2.symm,rfl,y3.symm⟩
 .have hZ:=(hh [x,y]).2 hM;have q0:Zo [x,y] 0=x:=rfl;have q1:Zo [x,y] 1=-x:=rfl;have q2:Zo [x,y] 2=y:=rfl;have q3:Zo [x,y] 3=-y:=rfl;have g:=λi j (hi:i<4) (hj:j<4)=>(hZ i hi j hj).resolve_left (fr i hi j hj)
  have g1:=g 0 1 (by omega) (by omega);have g2:=g 1 0 (by omega) (by omega);have g3:=g 2 3 (by omega) (by omega);have g4:=g 3 2 (by omega) (by omega);have g5:=g 0 2 (by omega) (by omega);have g6:=g 2 0 (by omega) (by omega);have g7:=g 0 3 (by omega) (by omega);have g8:=g 1 2 (by omega) (by omega);clear g F1 F2 F4 F5 hf bz hh s fr hZ;unfold Qc at g1 g2 g3 g4 g5 g6 g7 g8;simp only [q0,q1,q2,q3] at g1 g2 g3 g4 g5 g6 g7 g8;exact ⟨by omega,by omega,by omega,by omega,by omega,by omega,by omega,by omega⟩
 obtain ⟨_,_,_,_,_,_,_,_⟩:=p;refine (hh [x,y]).1 λa ha b hb'=>.inr ?_
 have ha:a<4:=ha;have hb':b<4:=hb';have q0:Zo [x,y] 0=x:=rfl;have q1:Zo [x,y] 1=-x:=rfl;have q2:Zo [x,y] 2=y:=rfl;have q3:Zo [x,y] 3=-y:=rfl;unfold Qc;clear F1 F2 F4 F5 hf bz hh s fr;rcases (show a=0∨a=1∨a=2∨a=3 by omega) with rfl|rfl|rfl|rfl<;>rcases (show b=0∨b=1∨b=2∨b=3 by omega) with rfl|rfl|rfl|rfl<;>simp only [q0,q1,q2,q3]<;>omega
theorem Vl1 {h0 h1 h2 h3 A B C D x:Int} (s:So8 h0 h1 h2 h3 A B C D) (k0:x≤h0) (k1:-x≤h1):∃y,Io8 h0 h1 h2 h3 A B C D x y:=by
 obtain ⟨⟩:=s;obtain ⟨y,_⟩:∃y,y=max (-h3) (max (x - A) (-D - x)):=⟨_,rfl⟩;exact ⟨y,by omega,by omega,by omega,by omega,by omega,by omega,by omega,by omega⟩
theorem Vi2 {h0 h1 h2 h3 A B C D y:Int} (s:So8 h0 h1 h2 h3 A B C D) (k0:y≤h2) (k1:-y≤h3):∃x,Io8 h0 h1 h2 h3 A B C D x y:=by
 obtain ⟨⟩:=s;obtain ⟨x,_⟩:∃x,x=max (-h1) (max (y - B) (-D - y)):=⟨_,rfl⟩;exact ⟨x,by omega,by omega,by omega,by omega,by omega,by omega,by omega,by omega⟩
theorem Vu8 {M Z:List Int} {s:Bool} (hl:M.length=(2*2)*(2*2)) (hok:Yo (2*2) M) (hA:Zb (2*2) M=(some Z,s)) (hu:Un M):Un Z:=λa ha=>by
 obtain ⟨c⟩:=Jw hA;exact Int.le_trans ((c.leZM hl (Zs hl hok)).2 (a*4+ac a)) (hu a ha)
theorem Jn5 {M Z:List Int} (hl:M.length=(2*2)*(2*2)) (hok:Yo (2*2) M) (hA:Zb (2*2) M=(some Z,false)) {a k:Nat} (ha:a<4) (hk:k<4) (h1:cl 4 Z a k≠9223372036854775807) (h2:cl 4 Z k (ac k)≠9223372036854775807):cl 4 Z a (ac a)≠9223372036854775807:=by
 obtain ⟨c⟩:=Jw hA;have hka:=Qg (n:=2) hk;have haa:=Qg (n:=2) ha;have hs:=c.sZ hl (Zs hl hok) (a:=a) (b:=k) ha hk;have t:=c.tZ hl hok rfl;have e1:=(t k hk a ha (ac k) hka h1 h2).1;have e2:cl (2*2) Z (ac k) (ac a)≠9223372036854775807:=by rw [<-hs];exact h1
 exact (t (ac k) hka a ha (ac a) haa e1 e2).1
theorem Qb4 {M:List Int} (hl:M.length=(2*2)*(2*2)) (hok:Yo (2*2) M) (hF:Ko (2*2) 1125899906842624 M):(Zb (2*2) M).2=false:=by
 have hB:=Zs hl hok;have p0:Ko (2*2) 1125899906842624 (pK (2*2) 0 (M,false)).1∧(pK (2*2) 0 (M,false)).2=false:=⟨hF,rfl⟩;have p1:=Tm hl hB (by omega) (by omega) (by omega) p0;have p2:=Tm hl hB (by omega) (by omega) (by omega) p1;have p3:=Tm hl hB (by omega) (by omega) (by omega) p2;have p4:=Tm hl hB (by omega) (by omega) (by omega) p3;exact Qe8 hl hB p4.1 p4.2 (by omega)
theorem le2 {M Z M' Z':List Int} (hl:M.length=(2*2)*(2*2)) (hok:Yo (2*2) M) (hA:Zb (2*2) M=(some Z,false)) (hu:Un Z)
 (hl':M'.length=(2*2)*(2*2)) (hok':Yo (2*2) M') {s:Bool} (hA':Zb (2*2) M'=(some Z',s)) (hp:∀x y:Int,Zr 4 M [x,y]->Zr 4 M' [x,y]):
 ∀i,i<4->∀j,j<4->cl 4 Z i j≤cl 4 Z' i j:=λi hi j hj=>by
 by_cases hij:i=j
 .subst hij;obtain ⟨c⟩:=Jw hA;obtain ⟨c'⟩:=Jw hA';have h1:=c.dZ hl hok (a:=i) hi;have h2:=c'.dZ hl' hok' (a:=i) hi;have e1:cl 4 Z i i=cl (2*2) Z i i:=rfl;have e2:cl 4 Z' i i=cl (2*2) Z' i i:=rfl;omega
 .obtain ⟨x,y,h1,h2⟩:=(Va8 hl hok hA hu).2 i hi j hj hij;have h3:=(Wj (x:=[x,y]) hl' hok' hA').2 (hp x y h1) i hi j hj;have:=((Va8 hl hok hA hu).1 i hi j hj);obtain ⟨c⟩:=Jw hA;have hb:Bd (cl (2*2) Z i j):=Zl (m:=2*2) (c.fZ hl (Zs hl hok)).2 i j;have e1:cl 4 Z i j=cl (2*2) Z i j:=rfl;have e2:cl 4 Z' i j=cl (2*2) Z' i j:=rfl;unfold Cr at h3;unfold Bd at hb;omega
end Gn
end
section
open Gn
namespace Gn
theorem Td {N:Int} {E:Bool} {M:List Int} (h:Je N E M=0):∀v∈M,Zu v:=by
 obtain ⟨_,rfl,_,hE1,hE0⟩:=Zz h;rcases E with _|_
 .obtain ⟨hl,hok⟩:=hE0 rfl;have hB:=Zs (by rw [hl,Bz]) hok;intro v hv;obtain ⟨i,hi,rfl⟩:=List.getElem_of_mem hv;have:=(hB i).i64
  unfold Qe at this;rwa [ZG,ZF hi] at this
 rw [hE1 rfl];simp
theorem Wc {N:Int} {E:Bool} {M:List Int}:(Zp N E M).2=Je N E M:=by
 unfold Zp;split
 .rfl
 rename_i h
 have h0:Je N E M=0:=by omega
 rw [h0];split
 .rfl
 rcases Zb (2*N.toNat) M with ⟨_|X,s⟩<;>rfl
theorem Zd6 {N:Int} {E:Bool} {M:List Int} (hc:Je N E M=0):(Zp N E M).1.1.1=N∧Je N (Zp N E M).1.1.2.1 (Zp N E M).1.1.2.2=0:=by
 obtain ⟨n,rfl,hn,_,hE0⟩:=Zz hc;rcases E with _|_
 .obtain ⟨hl,hok⟩:=hE0 rfl;have hl':M.length=(2*n)*(2*n):=by rw [hl,Bz]
  rw [Zt6 hc];rcases hA:Zb (2*n) M with ⟨_|Z,s⟩
  .exact ⟨rfl,Nv hn⟩
  obtain ⟨c⟩:=Jw hA;exact ⟨rfl,Gu hn (by rw [(c.fZ hl' (Zs hl' hok)).1,Bz]) (c.okZ hl' hok)⟩
 rw [Qg3 hc];exact ⟨rfl,Nv hn⟩
end Gn
theorem Qa8 (N:Int) (E:Bool) (A:Option Addr) (c:Nat) (M:List Int) (w:World) (h:Vd w w.heap.size A c N M) (hM:(M.length:Int)≤17592186043904) (P:((Int×Bool×List Int)×Bool)×Int) (hP:Zp N E M=P):
 Calls prog 12 #[.agg #[.int .i64 N,.bool E,.slice A M.length c]] w (Ww w P):=by
 subst hP;exact Nd N E A c M w h hM
end
namespace Gn
def Qk5 (Na:Int) (Ea:Bool) (Ma:List Int) (Nb:Int) (Eb:Bool) (Mb:List Int):Int:=
 if Je Na Ea Ma≠0 then Je Na Ea Ma else if Je Nb Eb Mb≠0 then Je Nb Eb Mb else if Na≠Nb then 140 else 0
theorem Zj6 {Na Nb:Int} {Ea Eb:Bool} {Ma Mb:List Int} (h:Qk5 Na Ea Ma Nb Eb Mb=0):Je Na Ea Ma=0∧Je Nb Eb Mb=0∧Na=Nb:=by
 unfold Qk5 at h;split at h
 .rename_i h1;exact absurd h h1
 split at h
 .rename_i h1;exact absurd h h1
 split at h
 .exact absurd h (by omega)
 rename_i h1 h2 h3
 exact ⟨by omega,by omega,by omega⟩
def clo (N:Int) (E:Bool) (M:List Int):Int×Bool×List Int:=(Zp N E M).1.1
theorem Lc {N:Int} {E:Bool} {M:List Int} (hc:Je N E M=0):(clo N E M).1=N∧Je N (clo N E M).2.1 (clo N E M).2.2=0:=Zd6 hc
def Ei (Ea:Bool) (Ma:List Int) (Eb:Bool) (Mb:List Int):Bool:=Ea||(!Eb&&decide (∀i,i<Ma.length->Qe Ma i≤Qe Mb i))
def Qv3 (N:Int) (Ea:Bool) (Ma:List Int) (Eb:Bool) (Mb:List Int):Bool:=Ei (clo N Ea Ma).2.1 (clo N Ea Ma).2.2 Eb Mb
theorem Qs9 {N:Int} {M:List Int} (h:Je N false M=0):Zg M:=by
 obtain ⟨_,rfl,_,_,hE0⟩:=Zz h;obtain ⟨hl,hok⟩:=hE0 rfl;exact Zs (by rw [hl,Bz]) hok
theorem Qg7 {N:Int} {M M':List Int} (h:Je N false M=0) (h':Je N false M'=0):M.length=M'.length:=by
 obtain ⟨n,_,_,_,hE0⟩:=Zz h;obtain ⟨m,_,_,_,hE1⟩:=Zz h';obtain rfl:n=m:=by omega
 rw [(hE0 rfl).1,(hE1 rfl).1]
end Gn
namespace Gn
def Cn (m i j:Nat) (X:List Int):List Int:=if i=j then X else (X.set (i*m+j) 9223372036854775807).set (j*m+i) 9223372036854775807
def Zt9 (m v i:Nat) (X:List Int):List Int:=Cn m i (2*v+1) (Cn m i (2*v) X)
def wI (m v:Nat):Nat->List Int->List Int:=lp (Zt9 m v)
def wV (m v:Nat) (X:List Int):List Int:=wI m v m X
def wL (m:Nat) (vs:List Nat) (X:List Int):List Int:=vs.foldl (λX v=>wV m v X) X
theorem Gf (m i j:Nat) (X:List Int):(Cn m i j X).length=X.length:=by unfold Cn;split<;>simp
theorem Qo6 (m v i:Nat) (X:List Int):(Zt9 m v i X).length=X.length:=by unfold Zt9;rw [Gf,Gf]
theorem Jm2 (m v i:Nat) (X:List Int):(wI m v i X).length=X.length:=Vn _ (λZ:List Int=>Z.length=X.length) _ _ rfl λi S h=>by rw [Qo6,h]
theorem Ji1 (m v:Nat) (X:List Int):(wV m v X).length=X.length:=Jm2 _ _ _ _
theorem Ju7 (m:Nat) (vs:List Nat) (X:List Int):(wL m vs X).length=X.length:=by
 induction vs generalizing X with
 |nil=>rfl
 |cons v vs ih=>exact (ih _).trans (Ji1 m v X)
theorem Vk3 (m:Nat) (vs:List Nat) (v:Nat) (X:List Int):wL m (vs++[v]) X=wV m v (wL m vs X):=by simp [wL]
theorem Qs6 {m i j:Nat} {X:List Int} (hl:X.length=m*m) (hi:i<m) (hj:j<m) {a b:Nat} (hb:b<m):
 cl m (Cn m i j X) a b=if i≠j∧((a=i∧b=j)∨(a=j∧b=i)) then 9223372036854775807 else cl m X a b:=by
 unfold Cn;by_cases h:i=j
 .rw [ZM h,ZL (λk=>k.1 h)]
 rw [ZL h,Rf (by rw [QJ];exact hl) hj hi hb,Rf hl hi hj hb];by_cases h1:a=j∧b=i
 .rw [ZM h1,ZM ⟨h,.inr h1⟩]
 rw [ZL h1];by_cases h2:a=i∧b=j
 .rw [ZM h2,ZM ⟨h,.inl h2⟩]
 rw [ZL h2,ZL (λk=>k.2.elim h2 h1)]
theorem Vm2 {n v:Nat} (hv:v<n) {X:List Int} (hl:X.length=(2*n)*(2*n)) (k:Nat) (hk:k≤2*n) (a:Nat) (ha:a<2*n) (b:Nat) (hb:b<2*n):
 cl (2*n) (wI (2*n) v k X) a b=if a≠b∧((b / 2=v∧a<k)∨(a / 2=v∧b<k)) then 9223372036854775807 else cl (2*n) X a b:=by
 have key:=Ax (Zt9 (2*n) v) (λk Z=>Z.length=(2*n)*(2*n)∧∀a,a<2*n->∀b,b<2*n->
  cl (2*n) Z a b=if a≠b∧((b / 2=v∧a<k)∨(a / 2=v∧b<k)) then 9223372036854775807 else cl (2*n) X a b) k X ⟨hl,λa _ b _=>(ZL (by omega)).symm⟩ ?_
 .exact key.2 a ha b hb
 rintro i _ Z ⟨h1,h2⟩;refine ⟨by rw [Qo6,h1],λa ha b hb=>?_⟩;unfold Zt9;rw [Qs6 (by rw [Gf,h1]) (by omega) (by omega) hb,Qs6 h1 (by omega) (by omega) hb,h2 a ha b hb];by_cases c0:i≠2*v+1∧((a=i∧b=2*v+1)∨(a=2*v+1∧b=i))
 .rw [ZM c0,ZM (by omega)]
 rw [ZL c0];by_cases c1:i≠2*v∧((a=i∧b=2*v)∨(a=2*v∧b=i))
 .rw [ZM c1,ZM (by omega)]
 rw [ZL c1];by_cases c2:a≠b∧((b / 2=v∧a<i)∨(a / 2=v∧b<i))
 .rw [ZM c2,ZM (by omega)]
 rw [ZL c2,ZL (by omega)]
theorem Vl4 {n:Nat} {X:List Int} (hl:X.length=(2*n)*(2*n)) (vs:List Nat) (hv:∀v∈vs,v<n) (a:Nat) (ha:a<2*n) (b:Nat) (hb:b<2*n):
 cl (2*n) (wL (2*n) vs X) a b=if a≠b∧(a / 2∈vs∨b / 2∈vs) then 9223372036854775807 else cl (2*n) X a b:=by
 induction vs generalizing X with
 |nil=>rw [ZL (by simp)];rfl
 |cons v vs ih=>
  show cl (2*n) (wL (2*n) vs (wV (2*n) v X)) a b=_
  rw [ih (by rw [Ji1,hl]) (λu hu=>hv u (by simp [hu]))];unfold wV;rw [Vm2 (hv v (by simp)) hl _ (ZH _) a ha b hb];by_cases c1:a≠b∧(a / 2∈vs∨b / 2∈vs)
  .rw [ZM c1,ZM ⟨c1.1,c1.2.elim (λh=>.inl (by simp [h])) (λh=>.inr (by simp [h]))⟩]
  rw [ZL c1];by_cases c2:a≠b∧((b / 2=v∧a<2*n)∨(a / 2=v∧b<2*n))
  .rw [ZM c2,ZM ⟨c2.1,c2.2.elim (λh=>.inr (by simp [h.1])) (λh=>.inl (by simp [h.1]))⟩]
  rw [ZL c2,ZL ?_];rintro ⟨h0,h1|h1⟩
  .rcases List.mem_cons.1 h1 with h|h
   .exact c2 ⟨h0,.inr ⟨h,hb⟩⟩
   exact c1 ⟨h0,.inl h⟩
  rcases List.mem_cons.1 h1 with h|h
  .exact c2 ⟨h0,.inl ⟨h,ha⟩⟩
  exact c1 ⟨h0,.inr h⟩
def Jf (m:Nat) (g:Nat->Bool) (X:List Int):List Int:=(List.range (m*m)).map λk=>if k / m≠k % m∧(g (k / m / 2)||g (k % m / 2))=true then 9223372036854775807 else Qe X k
theorem Yr (m:Nat) (g:Nat->Bool) (X:List Int):(Jf m g X).length=m*m:=by simp [Jf]
theorem Ns {m:Nat} {g:Nat->Bool} {X:List Int} {a b:Nat} (ha:a<m) (hb:b<m):
 cl m (Jf m g X) a b=if a≠b∧(g (a / 2)||g (b / 2))=true then 9223372036854775807 else cl m X a b:=by
 have h:=Zy ha hb;have e1:(a*m+b) / m=a:=by rw [Nat.mul_comm,Nat.mul_add_div (by omega),Nat.div_eq_of_lt hb,Nat.add_zero]
 have e2:(a*m+b) % m=b:=by rw [Nat.mul_comm,Nat.mul_add_mod,Nat.mod_eq_of_lt hb]
 unfold cl;have:Qe (Jf m g X) (a*m+b)=(λk=>if k / m≠k % m∧(g (k / m / 2)||g (k % m / 2))=true then 9223372036854775807 else Qe X k) (a*m+b):=by
  simp [Jf,Qe,h]
 rw [this];dsimp only;rw [e1,e2]
theorem Vv7 {n:Nat} {X:List Int} (hl:X.length=(2*n)*(2*n)) {vs:List Nat} (hv:∀v∈vs,v<n) {g:Nat->Bool} (hg:∀v,v<n->(g v=true↔v∈vs)):wL (2*n) vs X=Jf (2*n) g X:=
 Cu (by rw [Ju7,hl]) (Yr _ _ _) λa ha b hb=>by
  rw [Vl4 hl vs hv a ha b hb,Ns ha hb];have h1:=hg (a / 2) (by omega);have h2:=hg (b / 2) (by omega);by_cases c:a≠b∧(a / 2∈vs∨b / 2∈vs)
  .rw [ZM c,ZM ⟨c.1,by rw [Bool.or_eq_true,h1,h2];exact c.2⟩]
  rw [ZL c,ZL (λk=>c ⟨k.1,by have:=k.2;rw [Bool.or_eq_true,h1,h2] at this;exact this⟩)]
def Oo (P:Int×Bool×List Int) (g:Nat->Bool):Int×Bool×List Int:=if P.2.1=true then P else (P.1,false,Jf (2*P.1.toNat) g P.2.2)
theorem Kw {n:Nat} {g:Nat->Bool} {X:List Int} (hok:Yo (2*n) X):Yo (2*n) (Jf (2*n) g X):=λa ha b hb=>by
 have e:=@Ns (2*n) g X;have hs:(a≠b∧(g (a / 2)||g (b / 2))=true)↔(ac b≠ac a∧(g (ac b / 2)||g (ac a / 2))=true):=by
  have d:∀i,ac i / 2=i / 2:=λi=>by unfold ac;split<;>omega
  rw [d,d,Bool.or_comm];refine and_congr_left λ_=>⟨λh k=>h ?_,λh k=>h (by rw [k])⟩
  rw [<-Ve a,<-k,Ve]
 refine ⟨?_,λq=>?_,?_⟩
 .rw [e ha hb];split
  .decide
  exact (hok a ha b hb).1
 .rw [e ha hb,ZL (λk=>k.1 q)];exact (hok a ha b hb).2.1 q
 rw [e ha hb,e (Qg hb) (Qg ha)];by_cases c:a≠b∧(g (a / 2)||g (b / 2))=true
 .rw [ZM c,ZM (hs.1 c)]
 rw [ZL c,ZL (λk=>c (hs.2 k))];exact (hok a ha b hb).2.2
theorem Zp5 {n:Nat} {E:Bool} {M:List Int} {g:Nat->Bool} (hc:Je n E M=0):(Oo (n,E,M) g).1=n∧Je n (Oo (n,E,M) g).2.1 (Oo (n,E,M) g).2.2=0:=by
 unfold Oo;dsimp only;rcases E with _|_
 .rw [ZL (by simp)];obtain ⟨m,_,hn,_,h0⟩:=Zz hc;obtain rfl:n=m:=by omega
  refine ⟨rfl,Gu hn ?_ ?_⟩
  .dsimp only;rw [show ((n:Int).toNat)=n by omega,Yr,Bz]
  dsimp only;rw [show ((n:Int).toNat)=n by omega];exact Kw (h0 rfl).2
 rw [ZM rfl];exact ⟨rfl,hc⟩
def Rz (N:Int) (E:Bool) (M:List Int) (g:Nat->Bool):Int×Bool×List Int:=Oo (clo N E M) g
theorem Ix {n:Nat} {E:Bool} {M:List Int} {g:Nat->Bool} (hc:Je n E M=0):(Rz n E M g).1=n∧Je n (Rz n E M g).2.1 (Rz n E M g).2.2=0:=by
 have h:=Lc hc;unfold Rz;rcases hq:clo n E M with ⟨a,b,c⟩;rw [hq] at h;dsimp only at h;obtain ⟨rfl,h2⟩:=h;exact Zp5 h2
def Rt (N:Int) (E:Bool) (M:List Int) (v:Int):Int:=if Je N E M≠0 then Je N E M else if v<0∨v≥N then 122 else 0
def Kj (N:Int) (E:Bool) (M:List Int) (v:Int):Int×Bool×List Int:=if Rt N E M v=0 then Rz N E M (λu=>decide ((u:Int)=v)) else (0,false,[])
end Gn
section
namespace Gn
section
variable {M Z:List Int} {x y:Int}
theorem Va2 (x y:Int):Zo [x,y] 0=x∧Zo [x,y] 1=-x∧Zo [x,y] 2=y∧Zo [x,y] 3=-y:=⟨rfl,rfl,rfl,rfl⟩
theorem Gi (hl:M.length=(2*2)*(2*2)) (hok:Yo (2*2) M) (hA:Zb (2*2) M=(some Z,false)) (hu:Un Z) {g:Nat->Bool} (g0:g 0=true) (g1:g 1=false):
 Zr 4 (Jf 4 g Z) [x,y]↔∃x',Zr 4 M [x',y]:=by
 obtain ⟨_,_,_,_,_,_,_,_,s,hp,⟨_,_,c2,c3⟩,_⟩:=Qc9 hl hok hA hu;obtain ⟨c⟩:=Jw hA;have hd:=λa (ha:a<2*2)=>c.dZ hl hok (a:=a) ha
 obtain ⟨_,_,q2,q3⟩:=Va2 x y;constructor
 .intro h;have e1:=h 2 (by omega) 3 (by omega);have e2:=h 3 (by omega) 2 (by omega);unfold Cr at e1 e2;rw [Ns (by omega) (by omega),ZL (by simp [g1])] at e1 e2;unfold Qc at e1 e2;rw [q2,q3] at e1 e2;rw [c2] at e1;rw [c3] at e2;obtain ⟨x',hx⟩:=Vi2 (y:=y) s (by omega) (by omega);exact ⟨x',(hp x' y).2 hx⟩
 rintro ⟨x',hx⟩;obtain ⟨_,_,_,_,_,_,_,_⟩:=(hp x' y).1 hx;intro a ha b hb;unfold Cr;rw [Ns ha hb];by_cases hk:a≠b∧(g (a / 2)||g (b / 2))=true
 .rw [ZM hk];exact .inl rfl
 rw [ZL hk];right
 by_cases hab:a=b
 .subst hab;have:=hd a ha
  have e:cl 4 Z a a=cl (2*2) Z a a:=rfl;rw [Ac,e,this];exact Int.le_refl _
 have hg:g (a / 2)=false∧g (b / 2)=false:=by
  rw [not_and,Bool.or_eq_true,not_or] at hk;have:=hk hab
  simpa using this
 have ha2:2≤a:=by
  rcases (show a / 2=0∨a / 2=1 by omega) with e|e
  .rw [e,g0] at hg;cases hg.1
  omega
 have hb2:2≤b:=by
  rcases (show b / 2=0∨b / 2=1 by omega) with e|e
  .rw [e,g0] at hg;cases hg.2
  omega
 unfold Qc;rcases (show (a=2∧b=3)∨(a=3∧b=2) by omega) with ⟨rfl,rfl⟩|⟨rfl,rfl⟩
 .rw [q2,q3,c2];omega
 rw [q2,q3,c3];omega
theorem Ge (hl:M.length=(2*2)*(2*2)) (hok:Yo (2*2) M) (hA:Zb (2*2) M=(some Z,false)) (hu:Un Z) {g:Nat->Bool} (g0:g 0=false) (g1:g 1=true):
 Zr 4 (Jf 4 g Z) [x,y]↔∃y',Zr 4 M [x,y']:=by
 obtain ⟨_,_,_,_,_,_,_,_,s,hp,⟨c0,c1,_,_⟩,_⟩:=Qc9 hl hok hA hu;obtain ⟨c⟩:=Jw hA;have hd:=λa (ha:a<2*2)=>c.dZ hl hok (a:=a) ha
 obtain ⟨q0,q1,_,_⟩:=Va2 x y;constructor
 .intro h;have e1:=h 0 (by omega) 1 (by omega);have e2:=h 1 (by omega) 0 (by omega);unfold Cr at e1 e2;rw [Ns (by omega) (by omega),ZL (by simp [g0])] at e1 e2;unfold Qc at e1 e2;rw [q0,q1] at e1 e2;rw [c0] at e1;rw [c1] at e2;obtain ⟨y',hy⟩:=Vl1 (x:=x) s (by omega) (by omega);exact ⟨y',(hp x y').2 hy⟩
 rintro ⟨y',hy⟩;obtain ⟨_,_,_,_,_,_,_,_⟩:=(hp x y').1 hy;intro a ha b hb;unfold Cr;rw [Ns ha hb];by_cases hk:a≠b∧(g (a / 2)||g (b / 2))=true
 .rw [ZM hk];exact .inl rfl
 rw [ZL hk];right
 by_cases hab:a=b
 .subst hab;have:=hd a ha
  have e:cl 4 Z a a=cl (2*2) Z a a:=rfl;rw [Ac,e,this];exact Int.le_refl _
 have hg:g (a / 2)=false∧g (b / 2)=false:=by
  rw [not_and,Bool.or_eq_true,not_or] at hk;have:=hk hab
  simpa using this
 have ha2:a<2:=by
  rcases (show a / 2=0∨a / 2=1 by omega) with e|e
  .omega
  rw [e,g1] at hg;cases hg.1
 have hb2:b<2:=by
  rcases (show b / 2=0∨b / 2=1 by omega) with e|e
  .omega
  rw [e,g1] at hg;cases hg.2
 unfold Qc;rcases (show (a=0∧b=1)∨(a=1∧b=0) by omega) with ⟨rfl,rfl⟩|⟨rfl,rfl⟩
 .rw [q0,q1,c0];omega
 rw [q0,q1,c1];omega
theorem Rk {X p:List Int} {i j:Nat} {k:Int} (hl:X.length=(2*2)*(2*2)) (hok:Yo (2*2) X) (hi:i<4) (hj:j<4) (hij:i≠j) (hk:-2305843009213693952≤k∧k≤2305843009213693952):
 Zr 4 (Zq 4 (Zq 4 X i j k) j i (-k)) p↔Zr 4 X p∧Qc p i j=k:=by
 have b1:Jn k=k:=Zi (by unfold Bd;omega);have b2:Jn (-k)=-k:=Zi (by unfold Bd;omega);have e:Qc p j i=-Qc p i j:=by unfold Qc;omega
 have h1:=Dy (n:=2) (x:=p) (c:=k) hl hok hi hj;have h2:=Dy (n:=2) (x:=p) (c:=-k) (i:=j) (j:=i) (M:=Zq 4 X i j k) (by rw [Xj];exact hl) (Ks (n:=2) hl hok hi hj hij) hj hi;have e1:Zr 4 (Zq 4 (Zq 4 X i j k) j i (-k)) p↔Zr (2*2) (Zq (2*2) (Zq 4 X i j k) j i (-k)) p:=Iff.rfl;rw [e1,h2,b2,e];have e2:Zr (2*2) (Zq 4 X i j k) p↔Zr (2*2) (Zq (2*2) X i j k) p:=Iff.rfl;rw [e2,h1,b1];have e3:Zr 4 X p↔Zr (2*2) X p:=Iff.rfl;rw [e3];constructor
 .rintro ⟨⟨h,k1⟩,k2⟩;exact ⟨h,by omega⟩
 rintro ⟨h,k1⟩;exact ⟨⟨h,.inr (by omega)⟩,.inr (by omega)⟩
theorem Jh3 {Z X p q:List Int} {u:Nat->Int} (hf:∀a,a<4->∀b,b<4->cl 4 Z a b≠9223372036854775807) (hX:∀a,a<4->∀b,b<4->cl 4 X a b≠9223372036854775807∧cl 4 X a b=cl 4 Z a b+(u a - u b))
 (hs:∀a,a<4->Zo q a=Zo p a+u a):Zr 4 X q↔Zr 4 Z p:=by
 have key:∀a,a<4->∀b,b<4->(Cr 4 X q a b↔Cr 4 Z p a b):=λa ha b hb=>by
  have:=hf a ha b hb;obtain ⟨_,_⟩:=hX a ha b hb;have:=hs a ha;have:=hs b hb;unfold Cr Qc;omega
 exact ⟨λh a ha b hb=>(key a ha b hb).1 (h a ha b hb),λh a ha b hb=>(key a ha b hb).2 (h a ha b hb)⟩
theorem Qt1 {Z X p q:List Int} {o:Nat->Nat} (ho:∀a,a<4->o a<4∧o (o a)=a) (hX:∀a,a<4->∀b,b<4->cl 4 X a b=cl 4 Z (o a) (o b))
 (hs:∀a,a<4->Zo q a=Zo p (o a)):Zr 4 X q↔Zr 4 Z p:=by
 have key:∀a,a<4->∀b,b<4->(Cr 4 X q a b↔Cr 4 Z p (o a) (o b)):=λa ha b hb=>by
  unfold Cr Qc;rw [hX a ha b hb,hs a ha,hs b hb]
 refine ⟨λh a ha b hb=>?_,λh a ha b hb=>(key a ha b hb).2 (h _ (ho a ha).1 _ (ho b hb).1)⟩;have h1:=(key (o a) (ho a ha).1 (o b) (ho b hb).1).1 (h _ (ho a ha).1 _ (ho b hb).1);rw [(ho a ha).2,(ho b hb).2] at h1;exact h1
theorem Zg5 {M p:List Int} {s:Bool} (hl:M.length=(2*2)*(2*2)) (hok:Yo (2*2) M) (h:Zb (2*2) M=(none,s)):¬Zr 4 M p:=λhp=>by
 obtain ⟨_,_,h1,_⟩:=Ho (n:=2) (x:=p) hl (Zs hl hok) hp;rw [h] at h1;cases h1
end
end Gn
end
section
namespace Gn
section
variable {M Z:List Int} {x y:Int}
theorem Xt (hl:M.length=(2*2)*(2*2)) (hok:Yo (2*2) M) (hA:Zb (2*2) M=(some Z,false)):Yo (2*2) Z∧Z.length=(2*2)*(2*2):=by
 obtain ⟨c⟩:=Jw hA;exact ⟨c.okZ hl hok,(c.fZ hl (Zs hl hok)).1⟩
theorem Vg5 (hl:M.length=(2*2)*(2*2)) (hok:Yo (2*2) M) (hA:Zb (2*2) M=(some Z,false)) (hu:Un Z) {g:Nat->Bool} (g0:g 0=true) (g1:g 1=false) {k:Int} (hk:-1152921504606846976≤k∧k≤1152921504606846976):
 Zr 4 (Zq 4 (Zq 4 (Jf 4 g Z) 0 1 (2*k)) 1 0 (-(2*k))) [x,y]↔x=k∧∃x',Zr 4 M [x',y]:=by
 obtain ⟨hz,_⟩:=Xt hl hok hA;rw [Rk (X:=Jf 4 g Z) (Yr _ _ _) (Kw (n:=2) hz) (by omega) (by omega) (by omega) (by omega),Gi hl hok hA hu g0 g1];have e:Qc [x,y] 0 1=x - -x:=rfl;rw [e];constructor
 .rintro ⟨h,h2⟩;exact ⟨by omega,h⟩
 rintro ⟨h,h2⟩;exact ⟨h2,by omega⟩
theorem Vb2 (hl:M.length=(2*2)*(2*2)) (hok:Yo (2*2) M) (hA:Zb (2*2) M=(some Z,false)) (hu:Un Z) {g:Nat->Bool} (g0:g 0=false) (g1:g 1=true) {k:Int} (hk:-1152921504606846976≤k∧k≤1152921504606846976):
 Zr 4 (Zq 4 (Zq 4 (Jf 4 g Z) 2 3 (2*k)) 3 2 (-(2*k))) [x,y]↔y=k∧∃y',Zr 4 M [x,y']:=by
 obtain ⟨hz,_⟩:=Xt hl hok hA;rw [Rk (X:=Jf 4 g Z) (Yr _ _ _) (Kw (n:=2) hz) (by omega) (by omega) (by omega) (by omega),Ge hl hok hA hu g0 g1];have e:Qc [x,y] 2 3=y - -y:=rfl;rw [e];constructor
 .rintro ⟨h,h2⟩;exact ⟨by omega,h⟩
 rintro ⟨h,h2⟩;exact ⟨h2,by omega⟩
theorem Jh6 (hl:M.length=(2*2)*(2*2)) (hok:Yo (2*2) M) (hA:Zb (2*2) M=(some Z,false)) (hu:Un Z) {g:Nat->Bool} (g0:g 0=true) (g1:g 1=false) {k:Int} (hk:-1152921504606846976≤k∧k≤1152921504606846976):
 Zr 4 (Zq 4 (Zq 4 (Jf 4 g Z) 0 2 k) 2 0 (-k)) [x,y]↔x=y+k∧∃x',Zr 4 M [x',y]:=by
 obtain ⟨hz,_⟩:=Xt hl hok hA;rw [Rk (X:=Jf 4 g Z) (Yr _ _ _) (Kw (n:=2) hz) (by omega) (by omega) (by omega) (by omega),Gi hl hok hA hu g0 g1];have e:Qc [x,y] 0 2=x - y:=rfl;rw [e];constructor
 .rintro ⟨h,h2⟩;exact ⟨by omega,h⟩
 rintro ⟨h,h2⟩;exact ⟨h2,by omega⟩
theorem Je6 (hl:M.length=(2*2)*(2*2)) (hok:Yo (2*2) M) (hA:Zb (2*2) M=(some Z,false)) (hu:Un Z) {g:Nat->Bool} (g0:g 0=false) (g1:g 1=true) {k:Int} (hk:-1152921504606846976≤k∧k≤1152921504606846976):
 Zr 4 (Zq 4 (Zq 4 (Jf 4 g Z) 2 0 k) 0 2 (-k)) [x,y]↔y=x+k∧∃y',Zr 4 M [x,y']:=by
 obtain ⟨hz,_⟩:=Xt hl hok hA;rw [Rk (X:=Jf 4 g Z) (Yr _ _ _) (Kw (n:=2) hz) (by omega) (by omega) (by omega) (by omega),Ge hl hok hA hu g0 g1];have e:Qc [x,y] 2 0=y - x:=rfl;rw [e];constructor
 .rintro ⟨h,h2⟩;exact ⟨by omega,h⟩
 rintro ⟨h,h2⟩;exact ⟨h2,by omega⟩
theorem Vf1 (hl:M.length=(2*2)*(2*2)) (hok:Yo (2*2) M) (hA:Zb (2*2) M=(some Z,false)) (hu:Un Z) {g:Nat->Bool} (g0:g 0=true) (g1:g 1=false):
 Zr 4 (Zq 4 (Zq 4 (Jf 4 g Z) 0 3 0) 3 0 (-0)) [x,y]↔x=-y∧∃x',Zr 4 M [x',y]:=by
 obtain ⟨hz,_⟩:=Xt hl hok hA;rw [Rk (X:=Jf 4 g Z) (Yr _ _ _) (Kw (n:=2) hz) (by omega) (by omega) (by omega) (by omega),Gi hl hok hA hu g0 g1];have e:Qc [x,y] 0 3=x - -y:=rfl;rw [e];constructor
 .rintro ⟨h,h2⟩;exact ⟨by omega,h⟩
 rintro ⟨h,h2⟩;exact ⟨h2,by omega⟩
theorem Vd6 (hl:M.length=(2*2)*(2*2)) (hok:Yo (2*2) M) (hA:Zb (2*2) M=(some Z,false)) (hu:Un Z) {g:Nat->Bool} (g0:g 0=false) (g1:g 1=true):
 Zr 4 (Zq 4 (Zq 4 (Jf 4 g Z) 2 1 0) 1 2 (-0)) [x,y]↔y=-x∧∃y',Zr 4 M [x,y']:=by
 obtain ⟨hz,_⟩:=Xt hl hok hA;rw [Rk (X:=Jf 4 g Z) (Yr _ _ _) (Kw (n:=2) hz) (by omega) (by omega) (by omega) (by omega),Ge hl hok hA hu g0 g1];have e:Qc [x,y] 2 1=y - -x:=rfl;rw [e];constructor
 .rintro ⟨h,h2⟩;exact ⟨by omega,h⟩
 rintro ⟨h,h2⟩;exact ⟨h2,by omega⟩
def Xr (v:Nat) (k:Int) (a:Nat):Int:=if a / 2=v then (if a % 2=0 then k else -k) else 0
def Us (v:Nat) (k:Int) (Z:List Int):List Int:=mat 4 λa b=>if a≠b∧cl 4 Z a b≠9223372036854775807 then Zh (cl 4 Z a b) (Xr v k a - Xr v k b) else cl 4 Z a b
theorem Vu7 (hZ:∀a,a<4->∀b,b<4->-1125899906842624≤cl 4 Z a b∧cl 4 Z a b≤1125899906842624) {v:Nat} {k:Int} (hk:-1152921504606846976≤k∧k≤1152921504606846976) {p q:List Int} (hs:∀a,a<4->Zo q a=Zo p a+Xr v k a):
 Zr 4 (Us v k Z) q↔Zr 4 Z p:=by
 have hb:∀a,-1152921504606846976≤Xr v k a∧Xr v k a≤1152921504606846976:=λa=>by unfold Xr;repeat' split
                                                                               all_goals omega
 refine Jh3 (u:=Xr v k) (λa ha b hb'=>by have:=hZ a ha b hb';omega) (λa ha b hb'=>?_) hs;have:=hZ a ha b hb';have:=hb a;have:=hb b;unfold Us;rw [Ra ha hb'];by_cases hab:a=b
 .subst hab;rw [ZL (by simp)];omega
 rw [ZM ⟨hab,by omega⟩];have e1:Jn (cl 4 Z a b)=cl 4 Z a b:=Zi (by unfold Bd;omega);have e2:Jn (Xr v k a - Xr v k b)=Xr v k a - Xr v k b:=Zi (by unfold Bd;omega);have e3:Jn (cl 4 Z a b+(Xr v k a - Xr v k b))=cl 4 Z a b+(Xr v k a - Xr v k b):=Zi (by unfold Bd;omega);unfold Zh;rw [e1,e2,ZL (by omega),e3];omega
theorem Vd2 (hZ:∀a,a<4->∀b,b<4->-1125899906842624≤cl 4 Z a b∧cl 4 Z a b≤1125899906842624) {k:Int} (hk:-1152921504606846976≤k∧k≤1152921504606846976):Zr 4 (Us 0 k Z) [x+k,y]↔Zr 4 Z [x,y]:=
 Vu7 hZ hk λa ha=>by
  rcases (show a=0∨a=1∨a=2∨a=3 by omega) with rfl|rfl|rfl|rfl
  .show x+k=x+k;rfl
  .show -(x+k)=-x+-k;omega
  .show y=y+0;omega
  show -y=-y+0;omega
theorem Vb3 (hZ:∀a,a<4->∀b,b<4->-1125899906842624≤cl 4 Z a b∧cl 4 Z a b≤1125899906842624) {k:Int} (hk:-1152921504606846976≤k∧k≤1152921504606846976):Zr 4 (Us 1 k Z) [x,y+k]↔Zr 4 Z [x,y]:=
 Vu7 hZ hk λa ha=>by
  rcases (show a=0∨a=1∨a=2∨a=3 by omega) with rfl|rfl|rfl|rfl
  .show x=x+0;omega
  .show -x=-x+0;omega
  .show y+k=y+k;rfl
  show -(y+k)=-y+-k;omega
def Zf (v a:Nat):Nat:=if a / 2=v then ac a else a
def Kl (v:Nat) (Z:List Int):List Int:=mat 4 λa b=>cl 4 Z (Zf v a) (Zf v b)
theorem Vb5:Zr 4 (Kl 0 Z) [-x,y]↔Zr 4 Z [x,y]:=
 Qt1 (o:=Zf 0) (λa ha=>by
  rcases (show a=0∨a=1∨a=2∨a=3 by omega) with rfl|rfl|rfl|rfl<;>decide)
  (λa ha b hb=>by unfold Kl;rw [Ra ha hb]) (λa ha=>by
   rcases (show a=0∨a=1∨a=2∨a=3 by omega) with rfl|rfl|rfl|rfl
   .show -x=-x;rfl
   .show - -x=x;omega
   .rfl
   rfl)
theorem Vd3:Zr 4 (Kl 1 Z) [x,-y]↔Zr 4 Z [x,y]:=
 Qt1 (o:=Zf 1) (λa ha=>by
  rcases (show a=0∨a=1∨a=2∨a=3 by omega) with rfl|rfl|rfl|rfl<;>decide)
  (λa ha b hb=>by unfold Kl;rw [Ra ha hb]) (λa ha=>by
   rcases (show a=0∨a=1∨a=2∨a=3 by omega) with rfl|rfl|rfl|rfl
   .rfl
   .rfl
   .show -y=-y;rfl
   show - -y=y;omega)
end
end Gn
end
section
namespace Gn
section
variable {Z:List Int} {v:Nat} {k:Int}
theorem Jg8 (a:Nat):Xr v k (ac a)=-Xr v k a:=by
 unfold Xr;rw [Zu9];have:=Zz5 a;split
 .split<;>split<;>omega
 rfl
theorem Qq1 (hok:Yo (2*2) Z):Yo (2*2) (Us v k Z):=λa ha b hb=>by
 obtain ⟨h1,h2,h3⟩:=hok a ha b hb;have e:∀a,a<4->∀b,b<4->cl (2*2) (Us v k Z) a b=if a≠b∧cl 4 Z a b≠9223372036854775807 then Zh (cl 4 Z a b) (Xr v k a - Xr v k b) else cl 4 Z a b:=λa ha b hb=>Ra (m:=4) ha hb
 unfold Lx;rw [e a ha b hb,e (ac b) (Qg hb) (ac a) (Qg ha),Jg8,Jg8];have e4:cl 4 Z a b=cl (2*2) Z a b:=rfl;have e5:cl 4 Z (ac b) (ac a)=cl (2*2) Z (ac b) (ac a):=rfl;have ea:(a≠b)↔(ac b≠ac a):=⟨λh k=>h (Pn k).symm,λh k=>h (by rw [k])⟩;rw [e5,<-h3,e4];refine ⟨?_,λhab=>?_,?_⟩
 .split
  .refine (Uu _).2 ?_;unfold Zh;split
   .exact .inl rfl
   exact Vy _
  exact h1
 .rw [ZL (λk=>k.1 hab)];exact h2 hab
 .have e6:Xr v k a - Xr v k b=-Xr v k b - -Xr v k a:=by omega
  rw [e6];by_cases hc:a≠b∧cl (2*2) Z a b≠9223372036854775807
  .rw [ZM hc,ZM ⟨ea.1 hc.1,hc.2⟩]
  rw [ZL hc,ZL (λk=>hc ⟨ea.2 k.1,k.2⟩)]
theorem Qy6 (a:Nat):Zf v (ac a)=ac (Zf v a):=by
 unfold Zf;rw [Zu9];split<;>rfl
theorem Rj {a:Nat} (h:a<2*2):Zf v a<2*2:=by
 unfold Zf;split
 .exact Qg h
 exact h
theorem Om (hok:Yo (2*2) Z):Yo (2*2) (Kl v Z):=λa ha b hb=>by
 have e:∀a,a<4->∀b,b<4->cl (2*2) (Kl v Z) a b=cl (2*2) Z (Zf v a) (Zf v b):=λa ha b hb=>Ra (m:=4) ha hb
 obtain ⟨h1,h2,h3⟩:=hok (Zf v a) (Rj ha) (Zf v b) (Rj hb);unfold Lx;rw [e a ha b hb,e (ac b) (Qg hb) (ac a) (Qg ha),Qy6,Qy6];exact ⟨h1,λhab=>h2 (by rw [hab]),h3⟩
theorem Bt {X:List Int} {i j:Nat} {c L:Int} (hl:X.length=(2*2)*(2*2)) (hF:Ko (2*2) L X) (hi:i<4) (hj:j<4) (hc:-L≤c∧c≤L) (hL:L≤4611686018427387904):Ko (2*2) L (Zq (2*2) X i j c):=λa ha b hb=>by
 rw [Xn hl hi hj (Qg (n:=2) hi) (Qg (n:=2) hj) hb];have e:Jn c=c:=Zi (by unfold Bd;omega);split
 .have h:=hF i hi j hj;rw [e];unfold Fn at*;omega
 .exact hF a ha b hb
theorem Jf9 {X:List Int} {g:Nat->Bool} {L:Int} (hF:Ko (2*2) L X):Ko (2*2) L (Jf (2*2) g X):=λa ha b hb=>by
 rw [Ns ha hb];split
 .exact .inl rfl
 .exact hF a ha b hb
theorem Jd2 {L:Int} (hF:Ko (2*2) L Z):Ko (2*2) L (Kl v Z):=λa ha b hb=>by
 have e:cl (2*2) (Kl v Z) a b=cl (2*2) Z (Zf v a) (Zf v b):=Ra (m:=4) ha hb;rw [e];exact hF _ (Rj ha) _ (Rj hb)
theorem Vz3 {M:List Int} (hl:M.length=(2*2)*(2*2)) (hok:Yo (2*2) M) (hA:Zb (2*2) M=(some Z,false)) (hu:∀a,a<4->cl 4 Z a (ac a)≤8):∀a,a<4->∀b,b<4->-16≤cl 4 Z a b∧cl 4 Z a b≤16:=by
 obtain ⟨_,_,_,_,_,_,_,_,s,_,⟨_,_,_,_⟩,_,_,_,_,_,_,_,_⟩:=Qc9 hl hok hA (λa ha=>by have:=hu a ha;omega);obtain ⟨c⟩:=Jw hA;have hd:=λa (ha:a<2*2)=>c.dZ hl hok (a:=a) ha
 have:=hd 0 (by omega);have:=hd 1 (by omega);have:=hd 2 (by omega);have:=hd 3 (by omega);have:=hu 0 (by omega);have:=hu 1 (by omega);have:=hu 2 (by omega);have:=hu 3 (by omega);have:cl 4 Z 0 (ac 0)=cl 4 Z 0 1:=rfl;have:cl 4 Z 1 (ac 1)=cl 4 Z 1 0:=rfl;have:cl 4 Z 2 (ac 2)=cl 4 Z 2 3:=rfl;have:cl 4 Z 3 (ac 3)=cl 4 Z 3 2:=rfl;have:cl 4 Z 0 0=cl (2*2) Z 0 0:=rfl;have:cl 4 Z 1 1=cl (2*2) Z 1 1:=rfl;have:cl 4 Z 2 2=cl (2*2) Z 2 2:=rfl;have:cl 4 Z 3 3=cl (2*2) Z 3 3:=rfl;obtain ⟨_,_,_,_,_,_,_,_,_⟩:=s;clear hd hu c;intro a ha b hb;rcases (show a=0∨a=1∨a=2∨a=3 by omega) with rfl|rfl|rfl|rfl<;>rcases (show b=0∨b=1∨b=2∨b=3 by omega) with rfl|rfl|rfl|rfl<;>omega
theorem Vr7 (a:Nat) {K:Int} (hk:-K≤k∧k≤K):-K≤Xr v k a∧Xr v k a≤K:=by
 unfold Xr
 repeat' split
 all_goals omega
theorem Ja4 {L K:Int} (hF:Ko (2*2) L Z) (hk:-K≤k∧k≤K) (hL:L+2*K≤4611686018427387904) (h0:0≤L):Ko (2*2) (L+2*K) (Us v k Z):=λa ha b hb=>by
 have e:cl (2*2) (Us v k Z) a b=if a≠b∧cl 4 Z a b≠9223372036854775807 then Zh (cl 4 Z a b) (Xr v k a - Xr v k b) else cl 4 Z a b:=Ra (m:=4) ha hb
 have h1:=Vr7 (v:=v) a hk;have h2:=Vr7 (v:=v) b hk;have h3:=hF a ha b hb;have e4:cl (2*2) Z a b=cl 4 Z a b:=rfl;rw [e4] at h3;rw [e];unfold Fn at*;split
 .rename_i hc
  have h5:-L≤cl 4 Z a b∧cl 4 Z a b≤L:=by omega
  have e1:Jn (cl 4 Z a b)=cl 4 Z a b:=Zi (by unfold Bd;omega);have e2:Jn (Xr v k a - Xr v k b)=Xr v k a - Xr v k b:=Zi (by unfold Bd;omega);have e3:Jn (cl 4 Z a b+(Xr v k a - Xr v k b))=cl 4 Z a b+(Xr v k a - Xr v k b):=Zi (by unfold Bd;omega);unfold Zh;rw [e1,e2,ZL (by omega),e3];omega
 .omega
theorem Vo7 {B D ZB ZD:List Int} {s s':Bool} (hl:B.length=(2*2)*(2*2)) (hok:Yo (2*2) B) (hF:Ko (2*2) 1125899906842624 B) (hu:Zb (2*2) B=(some ZB,false)->Un ZB)
 (hl':D.length=(2*2)*(2*2)) (hok':Yo (2*2) D) (hp:∀x y:Int,Zr 4 B [x,y]->Zr 4 D [x,y]) (hB:Zb (2*2) B=(some ZB,s)) (hD:Zb (2*2) D=(some ZD,s')):
 ∀i,i<4->∀j,j<4->cl 4 ZB i j≤cl 4 ZD i j:=by
 have hs:s=false:=by have:=Qb4 hl hok hF;rw [hB] at this;exact this
 subst hs;exact le2 hl hok hB (hu hB) hl' hok' hD hp
end
end Gn
end
namespace Gn
theorem Ew {m:Nat} {X Y:List Int} {a b:Nat} (h:le X Y) (hX:Bd (cl m X a b)) (hY:Bd (cl m Y a b)) (hn:cl m Y a b≠9223372036854775807):cl m X a b≠9223372036854775807:=by
 have:=h.2 (a*m+b)
 have e1:Qe X (a*m+b)=cl m X a b:=rfl;have e2:Qe Y (a*m+b)=cl m Y a b:=rfl;rw [e1,e2] at this;unfold Bd at*;omega
theorem Lw {u v:Nat} (e:u / 2=v / 2):u=v∨u=ac v:=by unfold ac;split<;>omega
theorem Zw7 {a i j:Nat} (ha:a<4) (hi:i<4) (hj:j<4) (hij:j / 2≠i / 2):a=i∨a=ac i∨a=j∨a=ac j:=by
 rcases (show a / 2=i / 2∨a / 2=j / 2 by omega) with e|e
 .rcases Lw e with h|h
  .exact .inl h
  exact .inr (.inl h)
 rcases Lw e with h|h
 .exact .inr (.inr (.inl h))
 exact .inr (.inr (.inr h))
theorem Va9 {q:Int} (hb:Bd q) (h:q≠9223372036854775807):q≤4611686018427387904:=by unfold Bd at hb;omega
theorem Va6 {B ZB:List Int} (hl:B.length=(2*2)*(2*2)) (hok:Yo (2*2) B) (hB:Zb (2*2) B=(some ZB,false)) {i j:Nat} (hi:i<4) (hj:j<4) (hij:j / 2≠i / 2)
 (h1:cl 4 B i j≠9223372036854775807) (h2:cl 4 B j i≠9223372036854775807) (h3:cl 4 B j (ac j)≠9223372036854775807) (h4:cl 4 B (ac j) j≠9223372036854775807):Un ZB:=by
 obtain ⟨c⟩:=Jw hB;have hA:=Zs hl hok;have hle:=c.leZM hl hA;have bz:=λa b=>Zl (m:=4) (X:=ZB) (c.fZ hl hA).2 a b
 have bb:=λa b=>Zl (m:=4) (X:=B) hA a b
 have z1:=Ew (m:=4) hle (bz i j) (bb i j) h1;have z2:=Ew (m:=4) hle (bz j i) (bb j i) h2;have z3:=Ew (m:=4) hle (bz j (ac j)) (bb j (ac j)) h3;have z4:=Ew (m:=4) hle (bz (ac j) j) (bb (ac j) j) h4;have hs:=c.sZ hl hA (a:=j) (b:=i) hj hi;have z5:cl 4 ZB (ac i) (ac j)≠9223372036854775807:=by
  have e:cl 4 ZB (ac i) (ac j)=cl (2*2) ZB (ac i) (ac j):=rfl;rw [e,<-hs];exact z2
 have z6:cl 4 ZB (ac j) (ac (ac j))≠9223372036854775807:=by rw [Ve];exact z4
 have f1:=Jn5 hl hok hB hi hj z1 z3;have f2:=Jn5 hl hok hB (Qg (n:=2) hi) (Qg (n:=2) hj) z5 z6;have key:∀a,a<4->cl 4 ZB a (ac a)≠9223372036854775807:=λa ha=>by
  rcases Zw7 ha hi hj hij with e|e|e|e<;>rw [e]
  .exact f1
  .exact f2
  .exact z3
  exact z6
 exact λa ha=>Va9 (bz a (ac a)) (key a ha)
end Gn
namespace Gn
structure Ql where
 fr:Int
 tg:Int
 kind:Int
 dst:Int
 arr:Int
 op:Int
 av:Int
 an:Int
 bv:Int
 bn:Int
abbrev Zj:Type:=Int×Bool×List Int
def Vt (N:Int):Zj:=(N,true,[])
def Yf (P:Zj) (i j c:Int):Zj:=(Up P.1 P.2.1 P.2.2 i j c).1
def Qo (P:Zj):Zj:=clo P.1 P.2.1 P.2.2
def My (P:Zj) (v:Int):Zj:=Kj P.1 P.2.1 P.2.2 v
def upO (P:Zj) (v:Int) (h:Int) (b:Bool):Zj:=if b=true then Yf P (2*v) (2*v+1) (2*h) else P
def Qt3 (P:Zj) (v:Int) (l:Int) (b:Bool):Zj:=if b=true then Yf P (2*v+1) (2*v) (2*-l) else P
def Yg (P:Zj) (v:Int) (r:Rg):Zj:=Qt3 (upO P v r.hi r.hh) v r.lo r.hl
def Kn (P:Zj) (v:Int) (r:Rg):Zj:=Qo (Yg (My P v) v r)
def Kb (s:Bool):Int:=if s=true then -1 else 0
def Jk (P:Zj) (av an bv bn:Int) (s:Bool):Zj:=
 if 0≤av then
  if 0≤bv then
   if av=bv then (if s=true then Vt P.1 else P) else Yf P (2*av) (2*bv) (Kb s)
  else Yg P av ⟨0,bn+Kb s,false,true⟩
 else Yg P bv ⟨an - Kb s,0,true,false⟩
def Xc (P:Zj) (op av an bv bn:Int):Zj:=
 if av<0∧bv<0 then (if Fe op an bn=true then P else Vt P.1)
 else if op=3 then Qo (Jk (Jk P av an bv bn false) bv bn av an false)
 else if op=5 then Qo (Jk P bv bn av an true)
 else if op=1 then Qo (Jk P av an bv bn true)
 else if op=6 then Qo (Jk P bv bn av an false)
 else Qo (Jk P av an bv bn false)
def Qt6 (m v:Nat) (k:Int) (Z:List Int):List Int:=mat m λa b=>if a≠b∧cl m Z a b≠9223372036854775807 then Zh (cl m Z a b) (Xr v k a - Xr v k b) else cl m Z a b
theorem Jg2 (v:Nat) (k:Int) (Z:List Int):Qt6 4 v k Z=Us v k Z:=rfl
def Zz1 (m v:Nat) (Z:List Int):List Int:=mat m λa b=>cl m Z (Zf v a) (Zf v b)
theorem Jh5 (v:Nat) (Z:List Int):Zz1 4 v Z=Kl v Z:=rfl
def Gz (P:Zj) (dst k:Int):Zj:=Qo (P.1,false,Qt6 (2*P.1.toNat) dst.toNat k P.2.2)
def Wh (P:Zj) (dst:Int) (i j k:Int):Zj:=Qo (Yf (Yf (My P dst) i j k) j i (-k))
def Js (P:Zj) (dst y k:Int):Zj:=if y=dst then Gz P dst k else Wh P dst (2*dst) (2*y) k
def Wa (P:Zj) (v:Int):Zj:=Qo (P.1,false,Zz1 (2*P.1.toNat) v.toNat P.2.2)
def Rs (P:Zj) (dst side:Int):Zj:=Wh P dst (2*dst) side 0
def Kh (k:Int):Rg:=⟨k,k,true,true⟩
def Ol (P:Zj) (dst av an:Int):Zj:=if av<0 then Kn P dst (Kh an) else if av=dst then P else Rs P dst (2*av)
def Zj5 (P:Zj) (dst av an:Int):Zj:=if av<0 then Kn P dst (Kh (-an)) else if av=dst then Wa P dst else Rs P dst (2*av+1)
def Xu (P:Zj) (e:Ql):Zj:=
 if e.kind=14 then Vt P.1
 else if e.kind=12 then Xc P e.op e.av e.an e.bv e.bn
 else if e.kind=2 then Ol P e.dst e.av e.an
 else if e.kind=3 then Zj5 P e.dst e.av e.an
 else if e.kind=4 then (if e.av<0 then Js P e.dst e.bv e.an else Js P e.dst e.av e.bn)
 else if e.kind=5 then Js P e.dst e.av (-e.bn)
 else P
def Ym (P:Zj) (e:Ql):Zj:=if (Qo P).2.1=true then Qo P else Xu (Qo P) e
def kD (k:Int):Bool:=decide (2≤k∧k≤10)
def kR (k:Int):Bool:=decide (k=10∨k=11)
def kO (k:Int):Bool:=decide (k=12)
def kA (k:Int):Bool:=decide (2≤k∧k≤12∧k≠9)
def kB (k:Int):Bool:=decide ((4≤k∧k≤8)∨k=11∨k=12)
def Zn (w:Bool) (a b:Bool):Bool:=if w=true then a else b
def Vx (v x n:Int) (w:Bool):Bool:=Zn w (decide (v=-1)||(decide (0≤v∧v<n)&&decide (x=0))) (decide (v=-1∧x=0))
def Uv (n a:Int) (e:Ql):Bool:=
 decide (1≤e.kind∧e.kind≤14)&&(Zn (kD e.kind) (decide (0≤e.dst∧e.dst<n)) (decide (e.dst=-1))&&(Zn (kR e.kind) (decide (0≤e.arr∧e.arr<a)) (decide (e.arr=-1))&&
  (Zn (kO e.kind) (decide (1≤e.op∧e.op≤6)) (decide (e.op=0))&&(Vx e.av e.an n (kA e.kind)&&Vx e.bv e.bn n (kB e.kind)))))
def Ie (v x:Int):Bool:=decide (0≤v)||decide (-2305843009213693952≤x∧x≤2305843009213693952)
def Vm (e:Ql):Bool:=
 Ie e.av e.an&&Ie e.bv e.bn&&
  (decide (e.kind=1∨e.kind=11∨e.kind=13∨e.kind=14∨e.kind=9∨e.kind=10∨e.kind=2∨e.kind=3)||
   (decide (e.kind=12)&&decide (e.op≠4∨(e.av<0∧e.bv<0)))||
   (decide (e.kind=4)&&decide ((0≤e.av)≠(0≤e.bv)))||
   (decide (e.kind=5)&&decide (0≤e.av∧e.bv<0)))
end Gn
section
open Gn
structure Vc (w:World) (b:Nat) (N:Int) (E:Bool) (v:Value):Prop where
 box:Jy w b N E v
 fz:∀i,w.frozen? ⟨b,i,none⟩=false
section
variable {w w':World} {b:Nat} {N:Int} {E:Bool} {v:Value}
theorem Vc.lt (h:Vc w b N E v):b<w.heap.size:=h.box.lt
theorem Vc.below (h:Vc w b N E v) (hb:Below w.heap.size w w'):Vc w' b N E v:=
 ⟨h.box.below hb,λi=>(QU (w:=w) (hb.block _ h.lt)).trans (h.fz i)⟩
theorem Vc.only {g:Nat} (h:Vc w b N E v) (hg:w.grownBy w' (some g)) (hne:b≠g):Vc w' b N E v:=
 ⟨h.box.only hg hne,λi=>Jc hg (h.fz i) h.lt hne⟩
theorem Vc.new (w:World) (t:TypeId) (N:Int) (E:Bool) (v:Value):Vc (w.alloc (.cells #[.int .i64 N,.bool E,v] t)) w.heap.size N E v:=
 ⟨Jy.box w t N E v,λi=>by simp [go_sem]⟩
theorem Vc.put (h:Vc w b N E v) (N':Int) (E':Bool) (v':Value):
 Vc (((w.setCell ⟨b,0,none⟩ (.int .i64 N')).setCell ⟨b,1,none⟩ (.bool E')).setCell ⟨b,2,none⟩ v') b N' E' v'∧w.grownBy (((w.setCell ⟨b,0,none⟩ (.int .i64 N')).setCell ⟨b,1,none⟩ (.bool E')).setCell ⟨b,2,none⟩ v') (some b):=by
 obtain ⟨⟨c0,c1,c2⟩,fz⟩:=h;refine ⟨⟨⟨?_,?_,?_⟩,λi=>?_⟩,?_⟩
 .simp [go_sem,c0,c1,c2]
 .simp [go_sem,c0,c1,c2]
 .simp [go_sem,c0,c1,c2]
 .simp [go_sem,fz]
 have g1:=Qv (p:=⟨b,0,none⟩) (QN w (some b)) (.inl rfl) (.int .i64 N');have g2:=Qv (p:=⟨b,1,none⟩) g1 (.inl rfl) (.bool E');exact Qv (p:=⟨b,2,none⟩) g2 (.inl rfl) v'
end
theorem Ow.turn {w w':World} {base c g:Nat} {A:Option Addr} {M:List Int} (h:Ow w base 2 .i64 A c M) (hg:w.grownBy w' (some g)) (hne:∀g',A=some ⟨g',0,none⟩->g'≠g):Ow w' base 2 .i64 A c M:=by
 rcases h.form with ⟨rfl,rfl,rfl⟩|⟨g',rfl,_⟩
 .exact Ow.nil _ _ _ _
 exact h.other' hg (λe=>hne g' rfl e.symm)
structure Ed (w0 w:World) (bO:Nat) (n:Nat) (g:Nat) (L:Nat) (X:List Int):Prop where
 box:Vc w bO (n:Int) false (.slice (some ⟨g,0,none⟩) L L)
 row:Ow w w0.heap.size 2 .i64 (some ⟨g,0,none⟩) L X
 ne:bO≠g
 len:X.length=L
 below:Below w0.heap.size w0 w
 ge:w0.heap.size≤bO
theorem Ed.go {w0 w w':World} {bO n g L:Nat} {X:List Int} (h:Ed w0 w bO n g L X) (hb:Below w.heap.size w w'):Ed w0 w' bO n g L X:=
 ⟨h.box.below hb,h.row.below hb,h.ne,h.len,h.below.trans (hb.mono h.below.size),h.ge⟩
theorem Ed.put {w0 w:World} {bO n g L:Nat} {X:List Int} (h:Ed w0 w bO n g L X):
 Ed w0 (((w.setCell ⟨bO,0,none⟩ (.int .i64 n)).setCell ⟨bO,1,none⟩ (.bool false)).setCell ⟨bO,2,none⟩ (.slice (some ⟨g,0,none⟩) L L)) bO n g L X:=by
 obtain ⟨h1,h2⟩:=h.box.put n false (.slice (some ⟨g,0,none⟩) L L);exact ⟨h1,h.row.other' h2 h.ne,h.ne,h.len,h.below.trans (Cv h2 h.below.size h.ge),h.ge⟩
theorem Ed.set {w0 w:World} {bO n g L:Nat} {X:List Int} (h:Ed w0 w bO n g L X) (p:Nat) (u:Int):Ed w0 (w.setCell ⟨g,p,none⟩ (.int .i64 u)) bO n g L (X.set p u):=by
 have hg:=Qv (QN w (some g)) (p:=⟨g,p,none⟩) (.inl rfl) (.int .i64 u);exact ⟨h.box.only hg h.ne,h.row.set' p u,h.ne,by rw [QJ];exact h.len,h.below.setCell h.row.blockGe.1 _,h.ge⟩
end
section
open Gn
namespace Gn
def ofP (n:Int) (E:Bool) (M:List Int):(Int×Bool×List Int)×Bool:=(Zp n E M).1
end Gn
def Ip (w:World) (P:(Int×Bool×List Int)×Bool) (e:Ending) (w':World):Prop:=
 ∃A c,e=.returned (.tuple #[.agg #[.int .i64 P.1.1,.bool P.1.2.1,.slice A P.1.2.2.length c],.bool P.2])∧Ow w' w.heap.size 2 .i64 A c P.1.2.2∧Below w.heap.size w w'
theorem Lj {w w':World} {P:(Int×Bool×List Int)×Bool} {N:Int} {E:Bool} {M:List Int} {s:Bool} {A:Option Addr} {l c:Nat} {e:Ending} (hP:P=((N,E,M),s)) (hl:l=M.length)
 (he:e=.returned (.tuple #[.agg #[.int .i64 N,.bool E,.slice A l c],.bool s])) (ho:Ow w' w.heap.size 2 .i64 A c M) (hb:Below w.heap.size w w'):Ip w P e w':=by
 subst hP hl he;exact ⟨A,c,rfl,ho,hb⟩
theorem Mx.box3 {w0 w:World} {B:Nat} {A:Option Addr} {n:Int} {c:Nat} {X:List Int} (ho:Ow w B 2 .i64 A c X) (hB:B≤w0.heap.size) (hb:Below B w0 w) (t:TypeId):
 Mx w0 (w.alloc (.cells #[.int .i64 n,.slice A X.length c,.bool false] t)) B w.heap.size A n c X false none:=
 ⟨by simp [QM],by simp [QM],by simp [QM],λe' he=>(by cases he),λi=>(by simp [go_sem]),ho.alloc _,
  λg hg e=>by
   subst hg e;rcases ho.form with ⟨h,_⟩|⟨g',h,_,h2,_⟩
   .cases h
   injection h with h;injection h with h;omega,ZO hB hb.size,hB,hb.alloc (ZO hB hb.size) _⟩
theorem Ve9 (n:Nat) (E:Bool) (A:Option Addr) (c:Nat) (M:List Int) (w:World) (h:Vd w w.heap.size A c n M) (hM:(M.length:Int)≤17592186043904) (hc:Je n E M=0):
 Calls prog 54 #[.agg #[.int .i64 n,.bool E,.slice A M.length c]] w (Ip w (ofP n E M)):=by
 have hE:=elI64;obtain ⟨W,hW,hR,_⟩:=Me w 32 n E (.slice A M.length c);have hW1:=h.go hR.below;have hR:=(⟨hR.c0,hR.c1,hR.c2,hR.r0,hR.r1,hR.r2,hR.fc,hR.fr,hR.below.mono (ZH _),hR.lt⟩:Kk w W n E (.slice A M.length c));obtain ⟨n',hn',hn,hE1,hE0⟩:=Zz hc;obtain rfl:n=n':=by omega
 have HC:=Hd hc;clear hc hn';obtain ⟨m0,m1,m2,r0,r1,r2,fc,fr,hB1,hl1⟩:=id hR;rcases E with _|_
 .have HL:=Hd (hE0 rfl).1;have HB:=Hd (Zs (n:=n) (by rw [(hE0 rfl).1,Bz]) (hE0 rfl).2);clear hE0 hE1 r0 r1 r2 fc fr hB1;have hr1:=hW1.rd;have hsz:(([]:List Int).length+M.length)*8≤140737488355328:=by simp;omega
  have hnil:=Ow.nil W W.heap.size 2 .i64;have hbs:W.heap.size≤W.heap.size:=ZH _;go_enter func54,ntmps54
  go_wp2_with (first|(rw [<-hW];clear hW)|(at_builtin;refine Yu hE _ rfl _ _ rfl _ .i64 none 0 [] rfl hnil _ A c M rfl hr1 hsz hbs ?_;intro A' c' w1 ho hb))
  rw [List.nil_append] at ho;have hM4:=Mx.box3 (w0:=W) (n:=2*(n:Int)) ho (ZH _) hb 179;generalize (w1.alloc _)=w4 at*;generalize w1.heap.size=b at*;clear hb ho m0 m1 m2 hr1 hsz hnil hbs hl1;have HLm:=Hd (show M.length=(2*n)*(2*n) by rw [HL.out,Bz]);go_loopw [6] (λs' wr=>∃k:Nat,s'=.int .i64 k∧k≤2*n∧∃S:MS,Hid (S=pK (2*n) k (M,false))∧Mx W wr W.heap.size b A' (2*(n:Int)) c' S.1 S.2 none) (λs _=>2*n - (intOf s).toNat)
  case atStart=>exact ⟨0,rfl,by omega,(M,false),Hd rfl,hM4⟩
  obtain ⟨k,rfl,_,S,HS,hM⟩:=hrel;clear hM4;rcases ZJ k (2*n) with hkt|hge
  .have dk:decide ((k:Int)<2*(n:Int))=true:=ZE (by omega);go_wp2_with fail
   go_loopw [7] (λs' wr=>∃i:Nat,s'=.int .i64 i∧i≤2*n∧∃S':MS,Hid (S'=pI (2*n) k i S)∧Mx W wr W.heap.size b A' (2*(n:Int)) c' S'.1 S'.2 none) (λs _=>2*n - (intOf s).toNat)
   case atStart=>exact ⟨0,rfl,by omega,S,Hd rfl,hM⟩
   obtain ⟨i,rfl,hi,S',HS',hM'⟩:=hrel;clear hM;rcases ZJ i (2*n) with hit|hige
   .have di:decide ((i:Int)<2*(n:Int))=true:=ZE (by omega);go_wp2_with fail
    go_loopw [8] (λs' wr=>∃j:Nat,s'=.int .i64 j∧j≤2*n∧∃S'':MS,Hid (S''=pJ (2*n) k i j S')∧Mx W wr W.heap.size b A' (2*(n:Int)) c' S''.1 S''.2 none) (λs _=>2*n - (intOf s).toNat)
    case atStart=>exact ⟨0,rfl,by omega,S',Hd rfl,hM'⟩
    obtain ⟨j,rfl,hj,Y,HY,hN⟩:=hrel;clear hM';rcases ZJ j (2*n) with hjt|hjge
    .have HJ:=Hd (show Kg (2*n) k i j Y=pJ (2*n) k i (j+1) S' by rw [HY.out];rfl);have hl2:Y.1.length=(2*n)*(2*n):=by rw [HY.out,Zj3,HS'.out,Zw5,HS.out,Gw];exact HLm.out
     have hq:Y.1.length≤16384:=by rw [hl2,Bz];exact Sc hn
     have hYB:Zg Y.1:=by rw [HY.out,HS'.out,HS.out];exact Zi7 (Zg9 (Cb HB.out))
     have hp1:i*(2*n)+j<Y.1.length:=by rw [hl2];exact Zy hit hjt
     have hp2:i*(2*n)+k<Y.1.length:=by rw [hl2];exact Zy hit hkt
     have hp3:k*(2*n)+j<Y.1.length:=by rw [hl2];exact Zy hkt hjt
     obtain ⟨g,rfl,hg1,hg2⟩:=hN.blockOf (by omega);have v1:=λ(W':World) (s':Bool) (h:Mx W W' W.heap.size b (some ⟨g,0,none⟩) (2*(n:Int)) c' Y.1 s' none)=>h.cellAt hp1
     have v2:=λ(W':World) (s':Bool) (h:Mx W W' W.heap.size b (some ⟨g,0,none⟩) (2*(n:Int)) c' Y.1 s' none)=>h.cellAt hp2
     have v3:=λ(W':World) (s':Bool) (h:Mx W W' W.heap.size b (some ⟨g,0,none⟩) (2*(n:Int)) c' Y.1 s' none)=>h.cellAt hp3
     have hSt:Kg (2*n) k i j Y=(Y.1.set (i*(2*n)+j) (Jr (Qe Y.1 (i*(2*n)+j)) (Zh (Qe Y.1 (i*(2*n)+k)) (Qe Y.1 (k*(2*n)+j)))),Y.2||Yj (Qe Y.1 (i*(2*n)+k)) (Qe Y.1 (k*(2*n)+j))):=rfl;rw [hSt,<-Qz7 (hYB _) (Ml _ _)] at HJ;clear hSt hYB hl2;have ei:(i:Int)*(2*(n:Int))=((i*(2*n):Nat):Int):=by push_cast;rfl
     have ek:(k:Int)*(2*(n:Int))=((k*(2*n):Nat):Int):=by push_cast;rfl
     generalize Qe Y.1 (i*(2*n)+j)=x1 at*;generalize Qe Y.1 (i*(2*n)+k)=x2 at*;generalize Qe Y.1 (k*(2*n)+j)=x3 at*;generalize i*(2*n)=pi at*;generalize k*(2*n)=pk at*;have q1:(pi:Int)+(j:Int)<(Y.1.length:Int):=by omega
     have q2:(pi:Int)+(k:Int)<(Y.1.length:Int):=by omega
     have q3:(pk:Int)+(j:Int)<(Y.1.length:Int):=by omega
     obtain ⟨T,hT⟩:∃T:Bool->World->Prop,T=λt W'=>Mx W W' W.heap.size b (some ⟨g,0,none⟩) (2*(n:Int)) c' Y.1 (bif t then (Y.2||Yj x2 x3) else Y.2) none:=⟨_,rfl⟩
     have hT':∀t W',T t W'↔Mx W W' W.heap.size b (some ⟨g,0,none⟩) (2*(n:Int)) c' Y.1 (bif t then (Y.2||Yj x2 x3) else Y.2) none:=λt W=>by rw [hT]
     clear hT;have l0:∀x:TW T,x.w.cell? ⟨b,1,none⟩=some (.slice (some ⟨g,0,none⟩) Y.1.length c'):=λx=>((hT' _ _).1 x.h).c1
     have l1:∀x:TW T,x.w.cell? ⟨g,pi+j,none⟩=some (.int .i64 x1):=λx=>v1 _ _ ((hT' _ _).1 x.h)
     have l2:∀x:TW T,x.w.cell? ⟨g,pi+k,none⟩=some (.int .i64 x2):=λx=>v2 _ _ ((hT' _ _).1 x.h)
     have l3:∀x:TW T,x.w.cell? ⟨g,pk+j,none⟩=some (.int .i64 x3):=λx=>v3 _ _ ((hT' _ _).1 x.h)
     go_wp2_with fail
     haveI:Nonempty (TW T):=⟨⟨false,wr,(hT' _ _).2 hN⟩⟩
     as_aux_lemma=>
      refine Yi T 43 45 (by kernel_rfl) (by kernel_rfl) ((hT' _ _).2 (hN.go (QK _ _).drew)) ?_;simp only [ZP,ZQ,ZR,ZT]
      iterate 43 ((first|refine Jh (by decide) (by rfl) rfl ?_|refine Ji (by decide) (by rfl) rfl rfl ?_|refine Vb (by decide) (by rfl) ?_);intro K hK;go_big_quiet_op;go_big_quiet_on)
      refine Vf 99 #[.pointer (some ⟨b,0,none⟩),.int .i64 x2,.int .i64 x3] (.int .i64 (Zh x2 x3)) (by kernel_rfl) (λw=>by kernel_rfl) ?_ ?_
      .intro t W' hW;have hW:=(hT' _ _).1 hW;refine (Qf8 hW x2 x3).mono ?_;rintro r W'' ⟨rfl,hW'⟩;refine ⟨rfl,(hT' _ _).2 ?_⟩;rw [show (t||decide (43=43))=true by simp];cases t
       .exact hW'
       rw [show ((bif true then (Y.2||Yj x2 x3) else Y.2)||Yj x2 x3)=(Y.2||Yj x2 x3) by cases Y.2<;>cases Yj x2 x3<;>rfl] at hW';exact hW'
      (intro K hK;go_big_quiet_op;go_big_quiet_on)
      refine Zs9 (.int .i64 (if Zh x2 x3<x1 then Zh x2 x3 else x1)) (by decide) (by kernel_rfl) (λw=>by kernel_rfl) ?_
      (intro K hK;go_big_quiet_op;go_big_quiet_on)
      refine Bn ?_;intro w5 hw5;have hN5:=(hT' _ _).1 hw5;have k1:=v1 _ _ hN5;have kf:=hN5.frozenAt (pi+j);have hN6:=hN5.put (pi+j) (if Zh x2 x3<x1 then Zh x2 x3 else x1) hg1;clear hN5 hw5 hN l0 l1 l2 l3 v1 v2 v3 hT';rw [show (bif true then (Y.2||Yj x2 x3) else Y.2)=(Y.2||Yj x2 x3) from rfl] at hN6;generalize (if Zh x2 x3<x1 then Zh x2 x3 else x1)=x4 at*;generalize (Y.2||Yj x2 x3)=s4 at*;go_wp2_with fail
      refine Qu ?_;go_wp2_with fail
      go_roundw
      case rel=>exact ⟨j+1,by go_num,by omega,(Y.1.set (pi+j) x4,s4),Hd HJ.out,hN6⟩
      simp [intOf];omega
    obtain rfl:j=2*n:=by omega
    go_wp2_with fail
    go_roundw
    case rel=>exact ⟨i+1,by go_num,by omega,Y,Hd (by rw [HY.out,HS'.out];rfl),hN⟩
    simp [intOf];omega
   obtain rfl:i=2*n:=by omega
   go_wp2_with fail
   go_roundw
   case rel=>exact ⟨k+1,by go_num,by omega,S',Hd (by rw [HS'.out,HS.out];rfl),hM'⟩
   simp [intOf];omega
  have hk':k=2*n:=by omega
  have dk:decide ((k:Int)<2*(n:Int))=false:=ZA (by omega);have HP:=Hd (show S=Jo (2*n) (M,false) by rw [HS.out,hk'];rfl);clear HS hk';go_wp2_with fail
  go_loopw [9] (λs' wr=>∃i:Nat,s'=.int .i64 i∧i≤2*n∧∃Z:List Int,Hid (Z=mI (2*n) i S.1)∧Mx W wr W.heap.size b A' (2*(n:Int)) c' Z S.2 none) (λs _=>2*n - (intOf s).toNat)
  case atStart=>exact ⟨0,rfl,by omega,S.1,Hd rfl,hM⟩
  obtain ⟨i,rfl,hi,Z,HZ,hM'⟩:=hrel;clear hM;rcases ZJ i (2*n) with hit|hige
  .have di:decide ((i:Int)<2*(n:Int))=true:=ZE (by omega);go_wp2_with fail
   go_loopw [10] (λs' wr=>∃j:Nat,s'=.int .i64 j∧j≤2*n∧∃Y:List Int,Hid (Y=mJ (2*n) i j Z)∧Mx W wr W.heap.size b A' (2*(n:Int)) c' Y S.2 none) (λs _=>2*n - (intOf s).toNat)
   case atStart=>exact ⟨0,rfl,by omega,Z,Hd rfl,hM'⟩
   obtain ⟨j,rfl,hj,Y,HY,hN⟩:=hrel;clear hM';rcases ZJ j (2*n) with hjt|hjge
   .have hai:=Qg hit;have haj:=Qg hjt;have hSt:mJ (2*n) i (j+1) Z=Bv (2*n) i j Y:=by rw [HY.out];rfl
    unfold Bv at hSt;have hl2:Y.length=(2*n)*(2*n):=by rw [HY.out,Zb9,HZ.out,Bj,HP.out];exact (Gw _ _ _).trans HLm.out
    have hq:Y.length≤16384:=by rw [hl2,Bz];exact Sc hn
    have hYB:Zg Y:=by rw [HY.out,HZ.out,HP.out];exact Zg2 (En (Cb HB.out))
    have hp1:i*(2*n)+j<Y.length:=by rw [hl2];exact Zy hit hjt
    have hp2:ac j*(2*n)+ac i<Y.length:=by rw [hl2];exact Zy haj hai
    obtain ⟨g,rfl,hg1,hg2⟩:=hN.blockOf (by omega);have V1:=λ(W':World) (h:Mx W W' W.heap.size b (some ⟨g,0,none⟩) (2*(n:Int)) c' Y S.2 none)=>h.cellAt hp1
    have V2:=λ(W':World) (h:Mx W W' W.heap.size b (some ⟨g,0,none⟩) (2*(n:Int)) c' Y S.2 none)=>h.cellAt hp2
    have cAi:=λW=>Vp i W (by omega)
    have cAj:=λW=>Vp j W (by omega)
    have ei:(i:Int)*(2*(n:Int))=((i*(2*n):Nat):Int):=by push_cast;rfl
    have ek:((ac j:Nat):Int)*(2*(n:Int))=((ac j*(2*n):Nat):Int):=by push_cast;rfl
    rw [<-Qz7 (hYB _) (hYB _)] at hSt;clear hYB hl2;generalize hx4:(if Qe Y (ac j*(2*n)+ac i)<Qe Y (i*(2*n)+j) then Qe Y (ac j*(2*n)+ac i) else Qe Y (i*(2*n)+j))=x4 at*;generalize Qe Y (i*(2*n)+j)=x1 at*;generalize Qe Y (ac j*(2*n)+ac i)=x2 at*;generalize i*(2*n)=pi at*;generalize ac j*(2*n)=pj at*;generalize ac i=ai at*;generalize ac j=aj at*;obtain ⟨U,hU⟩:∃U,U=Y.set (pi+j) x4:=⟨_,rfl⟩;have hUl:U.length=Y.length:=by rw [hU,QJ]
    have hU1:Qe U (pi+j)=x4:=by rw [hU];exact Vl hp1
    rw [<-hU,hU1] at hSt;have HJ:=Hd hSt;have HU:=Hd hU;have HU1:=Hd hU1;have HUl:=Hd hUl;have Hp1:=Hd hp1;have Hp2:=Hd hp2;have q1:(pi:Int)+(j:Int)<(Y.length:Int):=by omega
    have q2:(pj:Int)+(ai:Int)<(Y.length:Int):=by omega
    clear hSt hU hU1 hUl;go_wp2_with (first|(go_at_call 19;with_reducible refine (cAj _).mono ?_;rintro r w3 ⟨rfl,rfl⟩)|(go_at_call 19;with_reducible refine (cAi _).mono ?_;rintro r w3 ⟨rfl,rfl⟩))
    have a0:=Qz.cell hN.c1;have a1:=Qz.cell (V1 _ hN);have a2:=Qz.cell (V2 _ hN);refine Qb [(28,2)] (by kernel_rfl) (by kernel_rfl) ?_;simp only [Jl,ZP,ZQ,ZR,ZT]
    repeat (go_big_quiet_step (fail))
    refine wpQuiet_nil ?_;intro w6 hb6;have hN6:=hN.go hb6;have k1:=V1 _ hN6;have kf:=hN6.frozenAt (pi+j);have hP:=hN6.put (pi+j) x4 hg1;rw [<-HU.out] at hP;clear hN hN6 hb6 a0 a1 a2;go_wp2_with fail
    refine Qu (wpQuiet_nil ?_);intro w7 hb7;have hN7:=hP.go hb7;clear hP hb7 k1 kf;have k1:=hN7.cellAt (p:=pi+j) (by rw [HUl.out];exact Hp1.out);rw [HU1.out] at k1;go_wp2_with fail
    have a0:=Qz.cell hN7.c1;have a1:=Qz.cell k1;have hUl:=HUl.out;rw [hUl] at a0;refine Qb [(16,2)] (by kernel_rfl) (by kernel_rfl) ?_;simp only [Jl,ZP,ZQ,ZR,ZT]
    repeat (go_big_quiet_step (fail))
    refine wpQuiet_nil ?_;intro w8 hb8;have hN8:=hN7.go hb8;have k2:=hN8.cellAt (p:=pj+ai) (by rw [HUl.out];exact Hp2.out);have kf:=hN8.frozenAt (pj+ai);have hP:=Hd (hN8.put (pj+ai) x4 hg1);clear hN7 hN8 hb8 a0 a1 k1 hUl;go_wp2_with fail
    refine Qu (wpQuiet_nil ?_);intro w9 hb9;have hN9:=hP.out.go hb9;clear hP hb9 k2 kf;go_wp2_with fail
    go_roundw
    case rel=>exact ⟨j+1,by go_num,by omega,_,Hd HJ.out.symm,hN9⟩
    simp [intOf];omega
   obtain rfl:j=2*n:=by omega
   go_wp2_with fail
   go_roundw
   case rel=>exact ⟨i+1,by go_num,by omega,Y,Hd (by rw [HY.out,HZ.out];rfl),hN⟩
   simp [intOf];omega
  have hi':i=2*n:=by omega
  have di:decide ((i:Int)<2*(n:Int))=false:=ZA (by omega);have HX:=Hd (show Z=Jq (2*n) S.1 by rw [HZ.out,hi'];rfl);clear HZ hi';go_wp2_with fail
  have hZl:Z.length=(2*n)*(2*n):=by rw [HX.out,HP.out];exact (Bj _ _ _).trans ((Gw _ _ _).trans HLm.out)
  have hZB:Zg Z:=by rw [HX.out,HP.out];exact En (Cb HB.out)
  have HZl:=Hd hZl;have HZB:=Hd hZB;clear hZl hZB di dk;go_loopw [12] (λs' wr=>∃q:Nat,s'=.int .i64 q∧q≤2*n∧Hid (Qu4 (2*n) Z q false=false)∧Mx W wr W.heap.size b A' (2*(n:Int)) c' Z S.2 none) (λs _=>2*n - (intOf s).toNat)
  case atStart=>exact ⟨0,rfl,by omega,Hd rfl,hM'⟩
  obtain ⟨q,rfl,hq,HQ,hN⟩:=hrel;clear hM';rcases ZJ q (2*n) with hqt|hqge
  .have hp:q*(2*n)+q<Z.length:=by rw [HZl.out];exact Zy hqt hqt
   have hSt:Qu4 (2*n) Z (q+1) false=decide (Qe Z (q*(2*n)+q)<0):=by
    show (Qu4 (2*n) Z q false||_)=_
    rw [HQ.out,Bool.false_or]
   have hq2:Z.length≤16384:=by rw [HZl.out,Bz];exact Sc hn
   obtain ⟨g,rfl,hg1,hg2⟩:=hN.blockOf (by omega);have:=hN.c1;have k1:=hN.cellAt hp;have ei:(q:Int)*(2*(n:Int))=((q*(2*n):Nat):Int):=by push_cast;rfl
   have HO1:=Hd (λ(h:Qe Z (q*(2*n)+q)<0)=>(Bo.2 ⟨q,hqt,h⟩:Ki (2*n) Z=true));have HJ:=Hd hSt;clear hSt;generalize Qe Z (q*(2*n)+q)=x1 at*;generalize q*(2*n)=pq at*;have q1:(pq:Int)+(q:Int)<(Z.length:Int):=by omega
   by_cases hx:x1<0
   .have hd:decide (x1<0)=true:=ZE hx;have HF:Hid (ofP n false M=(((n:Int),true,[]),S.2)):=Hd (by
     have hcm:=Fy (m:=2*n) (M:=M) (by show Ki (2*n) (Jq (2*n) (Jo (2*n) (M,false)).1)=true;rw [<-HP.out,<-HX.out];exact HO1.out hx);unfold ofP Zp;rw [HC.out,ZL (by simp),ZL (by simp)];simp only [Int.toNat_natCast];rw [hcm];show ((((n:Int),true,[]),(Jo (2*n) (M,false)).2):(Int×Bool×List Int)×Bool)=_
     rw [<-HP.out])
    have cE:=λW=>Hz n W
    obtain ⟨m0,m1,m2,r0,r1,r2,fc,fr,hB5,hl5⟩:=hR.go hN.below;have q2:=hN.c2;have hbl:=hN.hb;have hbL:=hN.lt;have hwl:=hR.lt;have hRr:=hR.go hN.below;have hne1:¬(b=w.heap.size+1):=by omega
    have hne2:¬(w.heap.size+1=b):=by omega
    clear HJ HO1 m1 m2 hN;generalize S.2=sv at*;go_wp2_with fail
    go_region_held3 (λX=>X.cell? ⟨w.heap.size,0,none⟩=some (.int .i64 n)∧X.cell? ⟨b,2,none⟩=some (.bool sv)) (first|exact ⟨m0,q2⟩|exact ⟨c0,c1⟩|go_keep) ((go_at_call 51;refine (cE _).mono ?_;rintro e w8 ⟨rfl,hb8⟩;have hb9:=(QK wr.heap.size wr).drew.trans hb8;have c1:=Qq hb9 q2;obtain ⟨c0,_,_,r0,r1,r2,fc,fr,hB,hl⟩:=hRr.go hb9))
    go_wp2_with fail
    refine QL (v:=.tuple #[.agg #[.int .i64 n,.bool true,.slice none 0 0],.bool sv]) (by simp [results,results54,go_sem,r0,r1,r2]) rfl (Lj HF.out rfl rfl (Ow.nil _ _ _ _) ?_);exact ((hB.setCell (by simp) _).setCell (by simp) _).setCell (by simp) _
   have hd:decide (x1<0)=false:=ZA hx;rw [hd] at HJ;go_wp2_with fail
   go_roundw
   case rel=>exact ⟨q+1,by go_num,by omega,Hd HJ.out,hN⟩
   simp [intOf];omega
  have hq':q=2*n:=by omega
  have dq:decide ((q:Int)<2*(n:Int))=false:=ZA (by omega);have HO:=Hd (show Ki (2*n) Z=false by rw [<-HQ.out,hq'];rfl);clear HQ hq';go_wp2_with fail
  clear dq;go_loopw [13] (λs' wr=>∃i:Nat,s'=.int .i64 i∧i≤2*n∧∃Y:List Int,Hid (Y=eI (2*n) i Z)∧Mx W wr W.heap.size b A' (2*(n:Int)) c' Y S.2 none) (λs _=>2*n - (intOf s).toNat)
  case atStart=>exact ⟨0,rfl,by omega,Z,Hd rfl,hN⟩
  obtain ⟨i,rfl,hi,Y,HY,hM⟩:=hrel;clear hN;rcases ZJ i (2*n) with hit|hige
  .have hai:=Qg hit;have hl2:Y.length=(2*n)*(2*n):=by rw [HY.out,Ab];exact HZl.out
   have hq2:Y.length≤16384:=by rw [hl2,Bz];exact Sc hn
   have hp:i*(2*n)+ac i<Y.length:=by rw [hl2];exact Zy hit hai
   have hSt:eI (2*n) (i+1) Z=Y.set (i*(2*n)+ac i) (Rl (Qe Y (i*(2*n)+ac i))):=by rw [HY.out];rfl
   obtain ⟨g,rfl,hg1,hg2⟩:=hM.blockOf (by omega);have V1:=λ(W':World) (h:Mx W W' W.heap.size b (some ⟨g,0,none⟩) (2*(n:Int)) c' Y S.2 none)=>h.cellAt hp
   have cA:=λW=>Vp i W (by omega)
   have cE:=λW=>Jn6 (Qe Y (i*(2*n)+ac i)) W
   have ei:(i:Int)*(2*(n:Int))=((i*(2*n):Nat):Int):=by push_cast;rfl
   have HJ:=Hd hSt;clear hSt hl2;generalize Rl (Qe Y (i*(2*n)+ac i))=y at*;generalize Qe Y (i*(2*n)+ac i)=x1 at*;generalize i*(2*n)=pi at*;generalize ac i=ai at*;have q1:(pi:Int)+(ai:Int)<(Y.length:Int):=by omega
   go_wp2_with (go_at_call 19;with_reducible refine (cA _).mono ?_;rintro r w3 ⟨rfl,rfl⟩)
   have a0:=Qz.cell hM.c1;have a1:=Qz.cell (V1 _ hM);refine Qb [(13,2)] (by kernel_rfl) (by kernel_rfl) ?_;simp only [Jl,ZP,ZQ,ZR,ZT]
   repeat (go_big_quiet_step ((go_at_call 100;with_reducible exact Qw (cE _))))
   refine wpQuiet_nil ?_;intro w6 hb6;have hN6:=hM.go hb6;have k1:=V1 _ hN6;have kf:=hN6.frozenAt (pi+ai);have hP:=Hd (hN6.put (pi+ai) y hg1);clear hM hN6 hb6 a0 a1;go_wp2_with fail
   refine Qu (wpQuiet_nil ?_);intro w7 hb7;have hN7:=hP.out.go hb7;clear hP hb7 k1 kf;go_wp2_with fail
   go_roundw
   case rel=>exact ⟨i+1,by go_num,by omega,_,Hd HJ.out.symm,hN7⟩
   simp [intOf];omega
  have hi':i=2*n:=by omega
  have di:decide ((i:Int)<2*(n:Int))=false:=ZA (by omega);have HV:=Hd (show Y=Uz (2*n) Z by rw [HY.out,hi'];rfl);clear HY hi';go_wp2_with fail
  clear di;have HYl:=Hd (show Y.length=(2*n)*(2*n) by rw [HV.out];exact (Ab _ _ _).trans HZl.out);go_loopw [15,16] (λe' s' wr=>∃i:Nat,s'=.int .i64 i∧i≤2*n∧∃D:Bool×Bool,e'=.bool D.1∧Hid (D=sI (2*n) Y i (false,S.2))∧Mx W wr W.heap.size b A' (2*(n:Int)) c' Y D.2 none) (λe s _=>2*n - (intOf s).toNat)
  case atStart=>exact ⟨0,rfl,by omega,(false,S.2),rfl,Hd rfl,hM⟩
  obtain ⟨i,rfl,hi,D,rfl,HD,hN⟩:=hrel;clear hM;obtain ⟨e0,s0⟩:=D;rcases ZJ i (2*n) with hit|hige
  .have hai:=Qg hit;have hSt:sI (2*n) Y (i+1) (false,S.2)=Qw1 (2*n) Y i (e0,s0):=by rw [HD.out];rfl
   unfold Qw1 at hSt;have hq2:Y.length≤16384:=by rw [HYl.out,Bz];exact Sc hn
   have hp2:i*(2*n)+ac i<Y.length:=by rw [HYl.out];exact Zy hit hai
   have hp3:ac i*(2*n)+i<Y.length:=by rw [HYl.out];exact Zy hai hit
   obtain ⟨g,rfl,hg1,hg2⟩:=hN.blockOf (by omega);have v2:=λ(W':World) (s':Bool) (h:Mx W W' W.heap.size b (some ⟨g,0,none⟩) (2*(n:Int)) c' Y s' none)=>h.cellAt hp2
   have v3:=λ(W':World) (s':Bool) (h:Mx W W' W.heap.size b (some ⟨g,0,none⟩) (2*(n:Int)) c' Y s' none)=>h.cellAt hp3
   have cA:=λW=>Vp i W (by omega)
   have ei:(i:Int)*(2*(n:Int))=((i*(2*n):Nat):Int):=by push_cast;rfl
   have ek:((ac i:Nat):Int)*(2*(n:Int))=((ac i*(2*n):Nat):Int):=by push_cast;rfl
   have HJ:=Hd hSt;clear hSt HD;generalize Qe Y (i*(2*n)+ac i)=x2 at*;generalize Qe Y (ac i*(2*n)+i)=x3 at*;generalize i*(2*n)=pi at*;generalize ac i*(2*n)=pa at*;generalize ac i=ai at*;have q2:(pi:Int)+(ai:Int)<(Y.length:Int):=by omega
   have q3:(pa:Int)+(i:Int)<(Y.length:Int):=by omega
   go_wp2_with (go_at_call 19;with_reducible refine (cA _).mono ?_;rintro r w3 ⟨rfl,rfl⟩)
   obtain ⟨T,hT⟩:∃T:Bool->World->Prop,T=λt W'=>Mx W W' W.heap.size b (some ⟨g,0,none⟩) (2*(n:Int)) c' Y (bif t then (s0||Yj x2 x3) else s0) none:=⟨_,rfl⟩
   have hT':∀t W',T t W'↔Mx W W' W.heap.size b (some ⟨g,0,none⟩) (2*(n:Int)) c' Y (bif t then (s0||Yj x2 x3) else s0) none:=λt W=>by rw [hT]
   clear hT;have l0:∀x:TW T,x.w.cell? ⟨b,1,none⟩=some (.slice (some ⟨g,0,none⟩) Y.length c'):=λx=>((hT' _ _).1 x.h).c1
   have l2:∀x:TW T,x.w.cell? ⟨g,pi+ai,none⟩=some (.int .i64 x2):=λx=>v2 _ _ ((hT' _ _).1 x.h)
   have l3:∀x:TW T,x.w.cell? ⟨g,pa+i,none⟩=some (.int .i64 x3):=λx=>v3 _ _ ((hT' _ _).1 x.h)
   haveI:Nonempty (TW T):=⟨⟨false,wr,(hT' _ _).2 hN⟩⟩
   by_cases hx:Zh x2 x3<0
   all_goals
    first
     |(have hd:decide (Zh x2 x3<0)=true:=ZE hx)
     |(have hd:decide (Zh x2 x3<0)=false:=ZA hx)
    rw [hd] at HJ;refine Yi T 23 28 (by kernel_rfl) (by kernel_rfl) ((hT' _ _).2 (hN.go (QK _ _).drew)) ?_;simp only [ZP,ZQ,ZR,ZT]
    iterate 23 ((first|refine Jh (by decide) (by rfl) rfl ?_|refine Ji (by decide) (by rfl) rfl rfl ?_|refine Vb (by decide) (by rfl) ?_);intro K hK;go_big_quiet_op;go_big_quiet_on)
    refine Vf 99 #[.pointer (some ⟨b,0,none⟩),.int .i64 x2,.int .i64 x3] (.int .i64 (Zh x2 x3)) (by kernel_rfl) (λw=>by kernel_rfl) ?_ ?_
    .intro t W' hW;have hW:=(hT' _ _).1 hW;refine (Qf8 hW x2 x3).mono ?_;rintro r W'' ⟨rfl,hW'⟩;refine ⟨rfl,(hT' _ _).2 ?_⟩;rw [show (t||decide (23=23))=true by simp];cases t
     .exact hW'
     rw [show ((bif true then (s0||Yj x2 x3) else s0)||Yj x2 x3)=(s0||Yj x2 x3) by cases s0<;>cases Yj x2 x3<;>rfl] at hW';exact hW'
    (intro K hK;go_big_quiet_op;go_big_quiet_on)
    iterate 4 ((first|refine Jh (by decide) (by rfl) rfl ?_|refine Ji (by decide) (by rfl) rfl rfl ?_|refine Vb (by decide) (by rfl) ?_);intro K hK;go_big_quiet_op;go_big_quiet_on)
    refine Bn ?_;intro w5 hw5;have hN5:=(hT' _ _).1 hw5;rw [show (bif true then (s0||Yj x2 x3) else s0)=(s0||Yj x2 x3) from rfl] at hN5;clear hw5 hN l0 l2 l3 v2 v3 hT' cA;generalize (s0||Yj x2 x3)=s4 at*;go_wp2_with fail
    refine Qu ?_;go_wp2_with fail
    go_roundw
    case rel=>exact ⟨i+1,by go_num,by omega,(_,s4),rfl,Hd HJ.out.symm,hN5⟩
    case measure=>simp [intOf];omega
  have hi':i=2*n:=by omega
  have di:decide ((i:Int)<2*(n:Int))=false:=ZA (by omega);have HW:=Hd (show (e0,s0)=Xq (2*n) Y S.2 by rw [HD.out,hi'];rfl);clear HD hi';have HA:=Hd (show Mz (2*n) M 4=(Y,S.2) by show (Uz (2*n) (Jq (2*n) (Jo (2*n) (M,false)).1),(Jo (2*n) (M,false)).2)=(Y,S.2);rw [<-HP.out,<-HX.out,<-HV.out]);have HO2:=Hd (show Ki (2*n) (Mz (2*n) M 2).1=false by show Ki (2*n) (Jq (2*n) (Jo (2*n) (M,false)).1)=false;rw [<-HP.out,<-HX.out];exact HO.out);have hbl:=hN.hb;have hbL:=hN.lt;have hwl:=hR.lt;have hne1:¬(b=w.heap.size+1):=by omega
  have hne2:¬(w.heap.size+1=b):=by omega
  rcases e0 with _|_
  .have HW2:=Hd (show (Xq (2*n) (Mz (2*n) M 4).1 (Mz (2*n) M 4).2).1=false by rw [HA.out,<-HW.out]);clear hne1 hne2 hbl hbL hwl;go_wp2_with fail
   clear di;go_loopw [18] (λs' wr=>∃i:Nat,s'=.int .i64 i∧i≤2*n∧∃S':MS,Hid (S'=tI (2*n) i (Y,s0))∧Mx W wr W.heap.size b A' (2*(n:Int)) c' S'.1 S'.2 none) (λs _=>2*n - (intOf s).toNat)
   case atStart=>exact ⟨0,rfl,by omega,(Y,s0),Hd rfl,hN⟩
   obtain ⟨i,rfl,hi,S',HS',hM'⟩:=hrel;clear hN;rcases ZJ i (2*n) with hit|hige
   .have di:decide ((i:Int)<2*(n:Int))=true:=ZE (by omega);go_wp2_with fail
    go_loopw [19] (λs' wr=>∃j:Nat,s'=.int .i64 j∧j≤2*n∧∃S'':MS,Hid (S''=tJ (2*n) i j S')∧Mx W wr W.heap.size b A' (2*(n:Int)) c' S''.1 S''.2 none) (λs _=>2*n - (intOf s).toNat)
    case atStart=>exact ⟨0,rfl,by omega,S',Hd rfl,hM'⟩
    obtain ⟨j,rfl,hj,V,HVV,hN⟩:=hrel;clear hM';rcases ZJ j (2*n) with hjt|hjge
    .have dj:decide ((j:Int)<2*(n:Int))=true:=ZE (by omega);have HJ0:=Hd (show Mk (2*n) i j V=tJ (2*n) i (j+1) S' by rw [HVV.out];rfl);by_cases hij:i=j
     .have hji:((i:Int)!=(j:Int))=false:=bne_eq_false_iff_eq.2 (by omega);have HJ:=Hd (show V=tJ (2*n) i (j+1) S' by rw [<-HJ0.out];unfold Mk;rw [ZM hij]);clear HJ0 hij;go_wp2_with fail
      go_roundw
      case rel=>exact ⟨j+1,by go_num,by omega,V,Hd HJ.out,hN⟩
      simp [intOf];omega
     have hji:((i:Int)!=(j:Int))=true:=bne_iff_ne.2 (by omega);have hai:=Qg hit;have haj:=Qg hjt;have hSt:tJ (2*n) i (j+1) S'=(V.1.set (i*(2*n)+j) (Jr (Qe V.1 (i*(2*n)+j)) (Ju (Zh (Qe V.1 (i*(2*n)+ac i)) (Qe V.1 (ac j*(2*n)+j))))),V.2||Yj (Qe V.1 (i*(2*n)+ac i)) (Qe V.1 (ac j*(2*n)+j))):=by
      rw [<-HJ0.out];unfold Mk;rw [ZL hij]
     clear hij HJ0;have hl2:V.1.length=(2*n)*(2*n):=by rw [HVV.out,Za4,HS'.out,Qq6];exact HYl.out
     have hq2:V.1.length≤16384:=by rw [hl2,Bz];exact Sc hn
     have hVB:Zg V.1:=by rw [HVV.out,HS'.out];exact Zh4 (Zh5 (by rw [HV.out];exact Lz HZB.out))
     have hp1:i*(2*n)+j<V.1.length:=by rw [hl2];exact Zy hit hjt
     have hp2:i*(2*n)+ac i<V.1.length:=by rw [hl2];exact Zy hit hai
     have hp3:ac j*(2*n)+j<V.1.length:=by rw [hl2];exact Zy haj hjt
     obtain ⟨g,rfl,hg1,hg2⟩:=hN.blockOf (by omega);have v1:=λ(W':World) (s':Bool) (h:Mx W W' W.heap.size b (some ⟨g,0,none⟩) (2*(n:Int)) c' V.1 s' none)=>h.cellAt hp1
     have v2:=λ(W':World) (s':Bool) (h:Mx W W' W.heap.size b (some ⟨g,0,none⟩) (2*(n:Int)) c' V.1 s' none)=>h.cellAt hp2
     have v3:=λ(W':World) (s':Bool) (h:Mx W W' W.heap.size b (some ⟨g,0,none⟩) (2*(n:Int)) c' V.1 s' none)=>h.cellAt hp3
     have cAi:=λW=>Vp i W (by omega)
     have cAj:=λW=>Vp j W (by omega)
     have cH:=λW=>Qq7 (Zh (Qe V.1 (i*(2*n)+ac i)) (Qe V.1 (ac j*(2*n)+j))) W
     have ei:(i:Int)*(2*(n:Int))=((i*(2*n):Nat):Int):=by push_cast;rfl
     have ek:((ac j:Nat):Int)*(2*(n:Int))=((ac j*(2*n):Nat):Int):=by push_cast;rfl
     rw [<-Qz7 (hVB _) (Ka _)] at hSt;clear hVB hl2;generalize Qe V.1 (i*(2*n)+j)=x1 at*;generalize Qe V.1 (i*(2*n)+ac i)=x2 at*;generalize Qe V.1 (ac j*(2*n)+j)=x3 at*;generalize i*(2*n)=pi at*;generalize ac j*(2*n)=pj at*;generalize ac i=ai at*;generalize ac j=aj at*;have q1:(pi:Int)+(j:Int)<(V.1.length:Int):=by omega
     have q2:(pi:Int)+(ai:Int)<(V.1.length:Int):=by omega
     have q3:(pj:Int)+(j:Int)<(V.1.length:Int):=by omega
     have HJ:=Hd hSt;clear hSt;obtain ⟨T,hT⟩:∃T:Bool->World->Prop,T=λt W'=>Mx W W' W.heap.size b (some ⟨g,0,none⟩) (2*(n:Int)) c' V.1 (bif t then (V.2||Yj x2 x3) else V.2) none:=⟨_,rfl⟩
     have hT':∀t W',T t W'↔Mx W W' W.heap.size b (some ⟨g,0,none⟩) (2*(n:Int)) c' V.1 (bif t then (V.2||Yj x2 x3) else V.2) none:=λt W=>by rw [hT]
     clear hT;have l0:∀x:TW T,x.w.cell? ⟨b,1,none⟩=some (.slice (some ⟨g,0,none⟩) V.1.length c'):=λx=>((hT' _ _).1 x.h).c1
     have l2:∀x:TW T,x.w.cell? ⟨g,pi+ai,none⟩=some (.int .i64 x2):=λx=>v2 _ _ ((hT' _ _).1 x.h)
     have l3:∀x:TW T,x.w.cell? ⟨g,pj+j,none⟩=some (.int .i64 x3):=λx=>v3 _ _ ((hT' _ _).1 x.h)
     go_wp2_with fail
     haveI:Nonempty (TW T):=⟨⟨false,wr,(hT' _ _).2 hN⟩⟩
     refine Yi T 25 26 (by kernel_rfl) (by kernel_rfl) ((hT' _ _).2 (hN.go (QK _ _).drew)) ?_;simp only [ZP,ZQ,ZR,ZT]
     iterate 9 ((first|refine Jh (by decide) (by rfl) rfl ?_|refine Ji (by decide) (by rfl) rfl rfl ?_|refine Vb (by decide) (by rfl) ?_);intro K hK;go_big_quiet_op;go_big_quiet_on)
     refine Vf 19 #[.int .i64 i] (.int .i64 ai) (by kernel_rfl) (λw=>by kernel_rfl) ?_ ?_
     .intro t W' hW;refine (cAi W').mono ?_;rintro r W'' ⟨rfl,rfl⟩;refine ⟨rfl,?_⟩;rw [show (t||decide (9=25))=t by simp];exact hW
     (intro K hK;go_big_quiet_op;go_big_quiet_on)
     iterate 8 ((first|refine Jh (by decide) (by rfl) rfl ?_|refine Ji (by decide) (by rfl) rfl rfl ?_|refine Vb (by decide) (by rfl) ?_);intro K hK;go_big_quiet_op;go_big_quiet_on)
     refine Vf 19 #[.int .i64 j] (.int .i64 aj) (by kernel_rfl) (λw=>by kernel_rfl) ?_ ?_
     .intro t W' hW;refine (cAj W').mono ?_;rintro r W'' ⟨rfl,rfl⟩;refine ⟨rfl,?_⟩;rw [show (t||decide (18=25))=t by simp];exact hW
     (intro K hK;go_big_quiet_op;go_big_quiet_on)
     iterate 6 ((first|refine Jh (by decide) (by rfl) rfl ?_|refine Ji (by decide) (by rfl) rfl rfl ?_|refine Vb (by decide) (by rfl) ?_);intro K hK;go_big_quiet_op;go_big_quiet_on)
     refine Vf 99 #[.pointer (some ⟨b,0,none⟩),.int .i64 x2,.int .i64 x3] (.int .i64 (Zh x2 x3)) (by kernel_rfl) (λw=>by kernel_rfl) ?_ ?_
     .intro t W' hW;have hW:=(hT' _ _).1 hW;refine (Qf8 hW x2 x3).mono ?_;rintro r W'' ⟨rfl,hW'⟩;refine ⟨rfl,(hT' _ _).2 ?_⟩;rw [show (t||decide (25=25))=true by simp];cases t
      .exact hW'
      rw [show ((bif true then (V.2||Yj x2 x3) else V.2)||Yj x2 x3)=(V.2||Yj x2 x3) by cases V.2<;>cases Yj x2 x3<;>rfl] at hW';exact hW'
     (intro K hK;go_big_quiet_op;go_big_quiet_on)
     refine Bn ?_;intro w5 hw5;have hN5:=(hT' _ _).1 hw5;rw [show (bif true then (V.2||Yj x2 x3) else V.2)=(V.2||Yj x2 x3) from rfl] at hN5;clear hw5 hN l0 l2 l3 hT' cAi cAj v2 v3;generalize (V.2||Yj x2 x3)=s4 at*;generalize hx5:Ju (Zh x2 x3)=x5 at*;generalize Zh x2 x3=x6 at*;generalize hx4:(if x5<x1 then x5 else x1)=x4 at*;go_wp2_with fail
     refine Qu ?_;have a0:=Qz.cell hN5.c1;have a1:=Qz.cell (v1 _ _ hN5);clear hx5 q2 q3;go_wp2_with fail
     refine Qb [(23,2)] (by kernel_rfl) (by kernel_rfl) ?_;simp only [Jl,ZP,ZQ,ZR,ZT]
     repeat (go_big_quiet_step ((go_at_call 101;with_reducible exact Qw (cH _))))
     refine wpQuiet_nil ?_;intro w6 hb6;have hN6:=hN5.go hb6;have k1:=v1 _ _ hN6;have kf:=hN6.frozenAt (pi+j);have hP6:=Hd (hN6.put (pi+j) x4 hg1);clear hN5 hN6 hb6 a0 a1 cH v1;go_wp2_with fail
     refine Qu (wpQuiet_nil ?_);intro w7 hb7;have hN7:=hP6.out.go hb7;clear hP6 hb7 k1 kf;go_wp2_with fail
     go_roundw
     case rel=>exact ⟨j+1,by go_num,by omega,(_,s4),Hd HJ.out.symm,hN7⟩
     simp [intOf];omega
    obtain rfl:j=2*n:=by omega
    go_wp2_with fail
    go_roundw
    case rel=>exact ⟨i+1,by go_num,by omega,V,Hd (by rw [HVV.out,HS'.out];rfl),hN⟩
    simp [intOf];omega
   have hi':i=2*n:=by omega
   have di:decide ((i:Int)<2*(n:Int))=false:=ZA (by omega);have HF:Hid (ofP n false M=(((n:Int),false,S'.1),S'.2)):=Hd (by
    have hcm:=Qa1 (m:=2*n) (M:=M) ⟨λ_=>HO2.out,λ_=>HW2.out⟩;have h6:Mz (2*n) M 6=S':=by
     show Nt (2*n) ((Mz (2*n) M 4).1,(Xq (2*n) (Mz (2*n) M 4).1 (Mz (2*n) M 4).2).2)=S'
     rw [HA.out,<-HW.out,HS'.out,hi'];rfl
    unfold ofP Zp;rw [HC.out,ZL (by simp),ZL (by simp)];simp only [Int.toNat_natCast];rw [hcm,h6])
   clear hi' HS';obtain ⟨m0,m1,m2,r0,r1,r2,fc,fr,hB8,_⟩:=hR.go hM'.below;have:=hM'.c0;have q1:=hM'.c1;have q2:=hM'.c2;have ho:=hM'.ow;have hbl:w.heap.size+1<b:=ZI hR.lt hM'.hb;have:w.heap.size+1<W.heap.size:=hR.lt;clear hM' m1 m2;generalize S'.2=sv at*;generalize S'.1=V at*;go_wp2_with fail
   go_region
   all_goals go_wp2_with fail
   all_goals refine QL (v:=.tuple #[.agg #[.int .i64 n,.bool false,.slice A' V.length c'],.bool sv]) (by simp [results,results54,go_sem,r0,r1,r2]) rfl (Lj HF.out rfl rfl ?_ ?_)
   all_goals first
    |exact ((hB8.drew.setCell (by simp) _).setCell (by simp) _).setCell (by simp) _
    |exact (((ho.drew.low (by simp;omega) _).low (by simp;omega) _).low (by simp;omega) _).lower (by omega)
  have HF:Hid (ofP n false M=(((n:Int),true,[]),s0)):=Hd (by
   have hcm:=Ee (m:=2*n) (M:=M) ⟨λ_=>HO2.out,λh=>by omega⟩ (by rw [HA.out,<-HW.out]);unfold ofP Zp;rw [HC.out,ZL (by simp),ZL (by simp)];simp only [Int.toNat_natCast];rw [hcm];show ((((n:Int),true,[]),(Xq (2*n) (Mz (2*n) M 4).1 (Mz (2*n) M 4).2).2):(Int×Bool×List Int)×Bool)=_
   rw [HA.out,<-HW.out])
  have cE:=λW=>Hz n W
  obtain ⟨m0,m1,m2,r0,r1,r2,fc,fr,hB5,hl5⟩:=hR.go hN.below;have q2:=hN.c2;have hRr:=hR.go hN.below;clear m1 m2 hN HW HA HO2;go_wp2_with fail
  go_region_held3 (λX=>X.cell? ⟨w.heap.size,0,none⟩=some (.int .i64 n)∧X.cell? ⟨b,2,none⟩=some (.bool s0)) (first|exact ⟨m0,q2⟩|exact ⟨c0,c1⟩|go_keep) ((go_at_call 51;refine (cE _).mono ?_;rintro e w8 ⟨rfl,hb8⟩;have hb9:=(QK wr.heap.size wr).drew.trans hb8;have c1:=Qq hb9 q2;obtain ⟨c0,_,_,r0,r1,r2,fc,fr,hB,hl⟩:=hRr.go hb9))
  go_wp2_with fail
  refine QL (v:=.tuple #[.agg #[.int .i64 n,.bool true,.slice none 0 0],.bool s0]) (by simp [results,results54,go_sem,r0,r1,r2]) rfl (Lj HF.out rfl rfl (Ow.nil _ _ _ _) ?_);exact ((hB.setCell (by simp) _).setCell (by simp) _).setCell (by simp) _
 .have HF:Hid (ofP n true M=(((n:Int),true,[]),false)):=Hd (by unfold ofP Zp;rw [HC.out,ZL (by simp),ZM rfl]);have cE:=λW=>Hz n W
  clear hE0 hE1;have hRr:=hR;go_enter func54,ntmps54
  go_wp2_with fail
  rw [<-hW];clear hW;refine (cE _).mono ?_;rintro e w8 ⟨rfl,hb8⟩;clear cE m0 m1 m2 r0 r1 r2 fc fr hB1 hl1;obtain ⟨c0,_,_,r0,r1,r2,fc,fr,hB,hl⟩:=hRr.go hb8;go_wp2_with fail
  refine QL (v:=.tuple #[.agg #[.int .i64 n,.bool true,.slice none 0 0],.bool false]) (by simp [results,results54,go_sem,r0,r1,r2]) rfl (Lj HF.out rfl rfl (Ow.nil _ _ _ _) ?_);exact ((hB.setCell (by simp) _).setCell (by simp) _).setCell (by simp) _
end
section
open Gn
def Vf3 (w:World) (P:Int×Bool×List Int) (e:Ending) (w':World):Prop:=
 ∃A c,e=.returned (.agg #[.int .i64 P.1,.bool P.2.1,.slice A P.2.2.length c])∧Ow w' w.heap.size 2 .i64 A c P.2.2∧Below w.heap.size w w'
theorem Vc.res {w0 w:World} {b:Nat} {N:Int} {E:Bool} {v:Value} (h:Vc w b N E v) (hB:Below w0.heap.size w0 w) (hb:w0.heap.size≤b) (N':Int) (E':Bool) (v':Value):
 Jy (((w.setCell ⟨b,0,none⟩ (.int .i64 N')).setCell ⟨b,1,none⟩ (.bool E')).setCell ⟨b,2,none⟩ v') b N' E' v'∧Below w0.heap.size w0 (((w.setCell ⟨b,0,none⟩ (.int .i64 N')).setCell ⟨b,1,none⟩ (.bool E')).setCell ⟨b,2,none⟩ v'):=
 ⟨(h.put N' E' v').1.box,((hB.setCell hb _).setCell hb _).setCell hb _⟩
theorem Qh6 (Na:Int) (Ea:Bool) (A:Option Addr) (ca:Nat) (Ma:List Int) (Nb:Int) (Eb:Bool) (B:Option Addr) (cb:Nat) (Mb:List Int) (w:World) (ha:Vd w w.heap.size A ca Na Ma) (hb:Vd w w.heap.size B cb Nb Mb) (p:Int) (hp:Qk5 Na Ea Ma Nb Eb Mb=p):
 Calls prog 174 #[.agg #[.int .i64 Na,.bool Ea,.slice A Ma.length ca],.agg #[.int .i64 Nb,.bool Eb,.slice B Mb.length cb]] w λe w'=>e=.returned (.int .i64 p)∧Below w.heap.size w w':=by
 obtain ⟨W,hW,h1,h2,hB,_⟩:=Qw4 w 32 Na Nb Ea Eb (.slice A Ma.length ca) (.slice B Mb.length cb);have haW:=ha.go hB;have hbW:=hb.go hB;obtain ⟨k0,k1,k2⟩:=id h1;obtain ⟨l0,l1,l2⟩:=id h2;go_enter func174,ntmps174
 rw [hW] at k0 k1 k2 l0 l1 l2;go_wp2_with fail
 rw [<-hW] at k0 k1 k2 l0 l1 l2 |-
 clear hW;have:∀X:World,(Instr.index 326 (.agg #[.int .i64 Na,.bool Ea,.slice A Ma.length ca,.int .i64 Nb,.bool Eb,.slice B Mb.length cb]) (.int .i64 0)).run prog X=.ok (.agg #[.int .i64 Na,.bool Ea,.slice A Ma.length ca]) X:=λX=>by kernel_rfl
 have:∀X:World,(Instr.index 326 (.agg #[.int .i64 Na,.bool Ea,.slice A Ma.length ca,.int .i64 Nb,.bool Eb,.slice B Mb.length cb]) (.int .i64 1)).run prog X=.ok (.agg #[.int .i64 Nb,.bool Eb,.slice B Mb.length cb]) X:=λX=>by kernel_rfl
 have HP:=Hd (show p=if Je Na Ea Ma≠0 then Je Na Ea Ma else if Je Nb Eb Mb≠0 then Je Nb Eb Mb else if Na≠Nb then 140 else 0 by rw [<-hp];rfl);clear hp;have hbA:Below W.heap.size W (W.alloc (.cells #[.int .i64 Na,.bool Ea,.slice A Ma.length ca] 32)):=(QK _ _).alloc (ZH _) _;have cA:=Ul A ca Na Ea Ma _ (haW.go hbA);have cB:=λX (hX:Below W.heap.size W X)=>Ul B cb Nb Eb Mb X (hbW.go hX)
 generalize Je Na Ea Ma=x1 at*;generalize Je Nb Eb Mb=x2 at*;refine wp_loop_rounds 3 ?_;rw [QX];go_wp2_with fail
 refine cA.mono ?_;clear cA;rintro e w1 ⟨rfl,hb1⟩;have hW1:=hbA.trans (hb1.mono hbA.size);have h11:=h1.below hW1;have h21:=h2.below hW1;have hB1:=hB.trans (hW1.mono hB.size);clear hb1 hbA k0 k1 k2 l0 l1 l2;obtain ⟨k0,k1,k2⟩:=id h11;obtain ⟨l0,l1,l2⟩:=id h21;by_cases c1:x1=0
 .have d1:(x1 !=0)=false:=bne_eq_false_iff_eq.2 c1;have hp1:=HP.out;rw [ZL (λh=>h c1)] at hp1;have HP1:=Hd hp1;clear hp1 HP c1;go_wp2_with fail
  rw [QX];go_wp2_with fail
  have hbA:Below w1.heap.size w1 (w1.alloc (.cells #[.int .i64 Nb,.bool Eb,.slice B Mb.length cb] 32)):=(QK _ _).alloc (ZH _) _;refine (cB _ (hW1.trans (hbA.mono hW1.size))).mono ?_;clear cB;rintro e _ ⟨rfl,hb2⟩;have hb22:=hbA.trans (hb2.mono hbA.size);have h12:=h11.below hb22;have h22:=h21.below hb22;have hB2:=hB1.trans (hb22.mono hB1.size);clear hb2 hb22 hbA k0 k1 k2 l0 l1 l2 h11 h21;obtain ⟨k0,k1,k2⟩:=id h12;obtain ⟨l0,l1,l2⟩:=id h22;by_cases c2:x2=0
  .have d2:(x2 !=0)=false:=bne_eq_false_iff_eq.2 c2;have hp1:=HP1.out;rw [ZL (λh=>h c2)] at hp1;have HP2:=Hd hp1;clear hp1 HP1 c2;go_wp2_with fail
   rw [QX];by_cases c3:Na=Nb
   .have d3:(Na !=Nb)=false:=bne_eq_false_iff_eq.2 c3;have HP3:=Hd (show p=0 by rw [HP2.out,ZL (λh=>h c3)]);clear c3 HP2;go_wp2_with fail
    go_ret
    exact ⟨by rw [HP3.out];rfl,hB2⟩
   have d3:(Na !=Nb)=true:=bne_iff_ne.2 c3;have HP3:=Hd (show p=140 by rw [HP2.out,ZM c3]);clear c3 HP2;go_wp2_with fail
   go_ret
   exact ⟨by rw [HP3.out];rfl,hB2⟩
  have d2:(x2 !=0)=true:=bne_iff_ne.2 c2;have HP2:=Hd (show p=x2 by rw [HP1.out,ZM c2]);clear HP1 c2;go_wp2_with fail
  go_ret
  exact ⟨by rw [HP2.out];rfl,hB2⟩
 .have d1:(x1 !=0)=true:=bne_iff_ne.2 c1;have HP1:=Hd (show p=x1 by rw [HP.out,ZM c1]);clear HP c1;go_wp2_with fail
  go_ret
  exact ⟨by rw [HP1.out];rfl,hB1⟩
theorem Vr5 (N:Int) (E:Bool) (A:Option Addr) (c:Nat) (M:List Int) (w:World) (h:Vd w w.heap.size A c N M) (hM:(M.length:Int)≤17592186043904):
 Calls prog 175 #[.agg #[.int .i64 N,.bool E,.slice A M.length c]] w (Vf3 w (clo N E M)):=by
 obtain ⟨W,hW,hR,_⟩:=Me w 32 N E (.slice A M.length c);have h1:=h.go hR.below;obtain ⟨k0,k1,k2,r0,r1,r2,fc,fr,hB,hlt⟩:=id hR;have hX:Vc W (w.heap.size+1) 0 false (.slice none 0 0):=⟨⟨r0,r1,r2⟩,fr⟩;obtain ⟨Q,hQ⟩:∃Q,Q=Zp N E M:=⟨_,rfl⟩;have hcl:clo N E M=Q.1.1:=by rw [hQ];rfl
 rw [hcl];have cC:=Qa8 N E A c M W h1 hM Q hQ.symm;clear hcl hQ h h1;obtain ⟨⟨⟨Na,Ea,Ma⟩,_⟩,_⟩:=Q;go_enter func175,ntmps175
 go_wp2_with fail
 rw [<-hW];clear hW;refine cC.mono ?_;clear cC;rintro _ w1 ⟨A2,c2,rfl,ho1,hb1⟩;dsimp only at ho1 |-
 have hX1:=hX.below hb1;have hB1:=hB.trans (hb1.mono hB.size);have hl1:w.heap.size+1<w1.heap.size:=ZI hlt hb1.size;clear hX hb1 k0 k1 k2 r0 r1 r2 fc fr hR;obtain ⟨⟨r0,r1,r2⟩,fr⟩:=id hX1;have:w.heap.size<w1.heap.size:=by omega
 have hS:=Hd (hX1.res hB1 (by omega) Na Ea (.slice A2 Ma.length c2));have hO:=Hd ((((ho1.low (p:=⟨w.heap.size+1,0,none⟩) (by simp;omega) (.int .i64 Na)).low (p:=⟨w.heap.size+1,1,none⟩) (by simp;omega) (.bool Ea)).low (p:=⟨w.heap.size+1,2,none⟩) (by simp;omega) (.slice A2 Ma.length c2)));clear hX1 ho1;go_wp2_with fail
 obtain ⟨⟨_,_,_⟩,hB3⟩:=hS.out;refine QL (v:=.agg #[.int .i64 Na,.bool Ea,.slice A2 Ma.length c2]) (by simp [results,results175,go_sem,r0,r1,r2,hl1]) rfl ⟨A2,c2,rfl,?_,?_⟩
 .exact (hO.out.alloc _).lower (by omega)
 .exact hB3.alloc (by simp;omega) _
end
section
open Gn
theorem Gn.above_no {Mc Mb:List Int} {i:Nat} (hi:i<Mc.length) (h:Qe Mb i<Qe Mc i):Ei false Mc false Mb=false:=by
 unfold Ei;simp only [Bool.false_or,Bool.not_false,Bool.true_and];exact ZA (λk=>by have:=k i hi;omega)
theorem Gn.above_all {Mc Mb:List Int} (h:∀i,i<Mc.length->Qe Mc i≤Qe Mb i):Ei false Mc false Mb=true:=by
 unfold Ei;simp only [Bool.false_or,Bool.not_false,Bool.true_and];exact ZE h
theorem Qv7 (Na:Int) (Ea:Bool) (A:Option Addr) (ca:Nat) (Ma:List Int) (Nb:Int) (Eb:Bool) (B:Option Addr) (cb:Nat) (Mb:List Int) (w:World) (ha:Vd w w.heap.size A ca Na Ma) (hb:Vd w w.heap.size B cb Nb Mb) (hma:(Ma.length:Int)≤17592186043904) (p:Int) (hp:Qk5 Na Ea Ma Nb Eb Mb=p) (r:Bool) (hr:(decide (p=0)&&Qv3 Na Ea Ma Eb Mb)=r):
 Calls prog 121 #[.agg #[.int .i64 Na,.bool Ea,.slice A Ma.length ca],.agg #[.int .i64 Nb,.bool Eb,.slice B Mb.length cb]] w λe w'=>e=.returned (.tuple #[.bool r,.int .i64 p])∧Below w.heap.size w w':=by
 obtain ⟨W,hW,h1,h2,hB,_⟩:=Qw4 w 32 Na Nb Ea Eb (.slice A Ma.length ca) (.slice B Mb.length cb);have haW:=ha.go hB;have hbW:=hb.go hB;have cR:=Qh6 Na Ea A ca Ma Nb Eb B cb Mb W haW hbW p hp;have HP:=Hd hp;have HR:=Hd hr;clear hp hr;obtain ⟨k0,k1,k2⟩:=id h1;obtain ⟨l0,l1,l2⟩:=id h2;go_enter func121,ntmps121
 rw [hW] at k0 k1 k2 l0 l1 l2;go_wp2_with fail
 rw [<-hW] at k0 k1 k2 l0 l1 l2 |-
 clear hW;refine cR.mono ?_;clear cR;rintro e w1 ⟨rfl,hb1⟩;have h11:=h1.below hb1;have h21:=h2.below hb1;have ha1:=haW.go hb1;have hb11:=hbW.go hb1;have hB1:=hB.trans (hb1.mono hB.size);clear hb1 k0 k1 k2 l0 l1 l2 haW hbW ha hb h1 h2 hB;obtain ⟨k0,k1,k2⟩:=id h11;obtain ⟨l0,l1,l2⟩:=id h21;by_cases hp0:p=0
 .subst hp0;have hpp:=Zj6 HP.out;have hR2:r=Qv3 Na Ea Ma Eb Mb:=by rw [<-HR.out];simp
  obtain ⟨hc1,hc2,rfl⟩:=hpp;clear HR;have cC:=Vr5 Na Ea A ca Ma w1 ha1 hma;have hck:=Lc hc1;unfold Qv3 at hR2;obtain ⟨Q,hQ⟩:∃Q,Q=clo Na Ea Ma:=⟨_,rfl⟩;rw [<-hQ] at hR2 cC hck;clear hQ;obtain ⟨Nc,Ec,Mc⟩:=Q;dsimp only at hR2 hck;obtain ⟨rfl,hck⟩:=hck;go_wp2_with fail
  refine cC.mono ?_;clear cC;rintro e w2 ⟨A2,c2,rfl,ho2,hb2⟩;dsimp only at ho2 |-
  have h22:=h21.below hb2;have hb22:=hb11.go hb2;have hB2:=hB1.trans (hb2.mono hB1.size);clear h11 h21 ha1 hb11 hB1 hb2 k0 k1 k2 l0 l1 l2;obtain ⟨w3,hw3⟩:∃w3,w3=w2.alloc (.cells #[.int .i64 Nc,.bool Ec,.slice A2 Mc.length c2] 32):=⟨_,rfl⟩;have hP3:Jy w3 w2.heap.size Nc Ec (.slice A2 Mc.length c2):=by rw [hw3];exact Jy.box _ _ _ _ _
  have hb3:Below w2.heap.size w2 w3:=by rw [hw3];exact (QK _ _).alloc (ZH _) _
  have hX3:=(ho2.below hb3).rd;have hbx:=hb22.go hb3;have h23:=h22.below hb3;have hB3:=hB2.trans (hb3.mono hB2.size);clear h22 hb22 hB2 ho2;obtain ⟨k0,k1,k2⟩:=id hP3;obtain ⟨l0,l1,l2⟩:=id h23;rw [hw3] at k0 k1 k2 l0 l1 l2;have HR2:=Hd hR2;clear hR2;have:(Mc.length:Int)≤9223372036854775807:=by
   obtain ⟨_,_,hn,h0,h1⟩:=Zz hck;rcases Ec with _|_
   .rw [(h1 rfl).1];have:=Sc hn;omega
   rw [h0 rfl];simp
  have hBs:=hB3.size;rcases Ec with _|_
  .rcases Eb with _|_
   .have hlen:Mc.length=Mb.length:=Qg7 hck hc2;have HB3:=Hd hB3;have HX3:=Hd hX3;have HBX:=Hd hbx.rd;have HLen:=Hd hlen;clear hX3 hbx hck hc1 hc2 hlen hB3;have h23':=h23;have:w2.heap.size<w3.heap.size:=hP3.lt;go_wp2_with fail
    rw [<-hw3];clear hw3 k0 k1 k2 l0 l1 l2 hb3;generalize w2.heap.size=bC at*;go_loopw [29] (λe' wr=>∃i:Nat,e'=.int .i64 i∧i≤Mc.length∧Hid (∀k,k<i->Qe Mc k≤Qe Mb k)∧Below w3.heap.size w3 wr) (λe _=>Mc.length - (intOf e).toNat)
    case atStart=>exact ⟨0,rfl,by omega,Hd (λk hk=>absurd hk (by omega)),QK _ _⟩
    obtain ⟨i,rfl,_,HLe,hbw⟩:=hrel;obtain ⟨l0,l1,l2⟩:=id (h23'.below hbw);have hend:=Hd (HB3.out.trans (hbw.mono hBs));rcases ZJ i Mc.length with hlt|hge
    .obtain ⟨g,off,rfl,hg,hcell⟩:=HX3.out (by omega);obtain ⟨g',off',rfl,hg',hcell'⟩:=HBX.out (by rw [<-HLen.out];omega);have k1:=(hbw.cell (p:=⟨g,off+i,none⟩) hg).trans (hcell i hlt);have k2:=(hbw.cell (p:=⟨g',off'+i,none⟩) hg').trans (hcell' i (by rw [<-HLen.out];exact hlt));have q1:(i:Int)<(Mc.length:Int):=by omega
     have:(i:Int)<(Mb.length:Int):=by rw [<-HLen.out];exact q1
     have HLt:=Hd hlt;clear hcell hcell';by_cases hgt:Qe Mc i>Qe Mb i
     .have hd:decide (Qe Mc i>Qe Mb i)=true:=ZE hgt;have HF:=Hd (show r=false by rw [HR2.out];exact above_no hlt hgt);clear hgt;generalize Qe Mc i=x at*;generalize Qe Mb i=y at*;go_wp2_with fail
      exact QL (v:=.tuple #[.bool false,.int .i64 0]) (by simp [results,results121,go_sem]) rfl ⟨by rw [HF.out],hend.out⟩
     have hd:decide (Qe Mc i>Qe Mb i)=false:=ZA hgt;have HN:=Hd (show ∀k,k<i+1->Qe Mc k≤Qe Mb k from λk hk=>by
      rcases ZJ k i with h|h
      .exact HLe.out k h
      obtain rfl:k=i:=by omega
      omega)
     clear hgt;generalize Qe Mc i=x at*;generalize Qe Mb i=y at*;have HW:=Hd hbw;clear hbw;go_wp2_with fail
     go_roundw
     case rel=>exact ⟨i+1,by go_num,by have:=HLt.out;omega,Hd HN.out,HW.out⟩
     have:=HLt.out;simp [intOf];omega
    have hil:i=Mc.length:=by omega
    have HF:=Hd (show r=true by rw [HR2.out];exact above_all (λk hk=>HLe.out k (by omega)));have hd:decide ((i:Int)<(Mc.length:Int))=false:=ZA (by omega);clear hil;go_wp2_with fail
    exact QL (v:=.tuple #[.bool true,.int .i64 0]) (by simp [results,results121,go_sem]) rfl ⟨by rw [HF.out],hend.out⟩
   have HF:=Hd (show r=false by rw [HR2.out];rfl);clear hX3 hbx hck hc1 hc2;go_wp2_with fail
   rw [<-hw3];exact QL (v:=.tuple #[.bool false,.int .i64 0]) (by simp [results,results121,go_sem]) rfl ⟨by rw [HF.out],hB3⟩
  have HF:=Hd (show r=true by rw [HR2.out];rfl);clear hX3 hbx hck hc1 hc2;go_wp2_with fail
  rw [<-hw3];exact QL (v:=.tuple #[.bool true,.int .i64 0]) (by simp [results,results121,go_sem]) rfl ⟨by rw [HF.out],hB3⟩
 .have hd:(p !=0)=true:=bne_iff_ne.2 hp0;have HF:=Hd (show r=false by rw [<-HR.out,ZA hp0];rfl);clear hp0;go_wp2_with fail
  exact QL (v:=.tuple #[.bool false,.int .i64 p]) (by simp [results,results121,go_sem]) rfl ⟨by rw [HF.out],hB1⟩
end
section
open Gn
end
section
open Gn
end
section
open Gn
end
section
open Gn
def Ji6 (w:World) (P:Int×Bool×List Int) (p:Int) (e:Ending) (w':World):Prop:=
 ∃A c,e=.returned (.tuple #[.agg #[.int .i64 P.1,.bool P.2.1,.slice A P.2.2.length c],.int .i64 p])∧Ow w' w.heap.size 2 .i64 A c P.2.2∧Below w.heap.size w w'
theorem Ow.put3 {w:World} {B b:Nat} {A:Option Addr} {c:Nat} {X:List Int} (h:Ow w B 2 .i64 A c X) (hb:b<B) (u0 u1 u2:Value):Ow (((w.setCell ⟨b,0,none⟩ u0).setCell ⟨b,1,none⟩ u1).setCell ⟨b,2,none⟩ u2) B 2 .i64 A c X:=
 ((h.low (p:=⟨b,0,none⟩) hb u0).low (p:=⟨b,1,none⟩) hb u1).low (p:=⟨b,2,none⟩) hb u2
end
section
open Gn
end
section
open Gn
namespace Gn
end Gn
end
namespace Gn
theorem Ob {n:Nat} {E:Bool} {M:List Int} {v:Int} (hc:Je n E M=0) (h0:0≤v) (h1:v<n):Rt n E M v=0∧Kj n E M v=Rz n E M (λu=>decide ((u:Int)=v)):=by
 have e:Rt n E M v=0:=by unfold Rt;rw [ZL (λk=>k hc),ZL (by omega)]
 exact ⟨e,by unfold Kj;rw [ZM e]⟩
end Gn
section
namespace Gn
structure Nl (M Z:List Int):Prop where
 hl:M.length=(2*2)*(2*2)
 ok:Yo (2*2) M
 hA:Zb (2*2) M=(some Z,false)
 h8:∀a,a<4->cl 4 M a (ac a)≤8
 fin:Ko (2*2) 1125899906842624 M
def Zc (v n x y:Int):Int:=if v<0 then n else if v=0 then x else y
def Xg (d u x y:Int):Int×Int:=if d=0 then (u,y) else (x,u)
def stepV (e:Ql) (x y:Int):Option (Int×Int):=
 if e.kind=12 then (if Fe e.op (Zc e.av e.an x y) (Zc e.bv e.bn x y)=true then some (x,y) else none)
 else if e.kind=2 then some (Xg e.dst (Zc e.av e.an x y) x y)
 else if e.kind=3 then some (Xg e.dst (-(Zc e.av e.an x y)) x y)
 else if e.kind=4 then some (Xg e.dst (Zc e.av e.an x y+Zc e.bv e.bn x y) x y)
 else if e.kind=5 then some (Xg e.dst (Zc e.av e.an x y - Zc e.bv e.bn x y) x y)
 else some (x,y)
structure Arm (B:List Int) (R:Int->Int->Prop):Prop where
 hl:B.length=(2*2)*(2*2)
 ok:Yo (2*2) B
 fin:Ko (2*2) 1125899906842624 B
 un:∀ZB,Zb (2*2) B=(some ZB,false)->Un ZB
 pts:∀x y,Zr 4 B [x,y]->R x y
section
variable {M Z:List Int} {x y:Int}
theorem Nl.un (h:Nl M Z):Un Z:=Vu8 h.hl h.ok h.hA (λa ha=>by have:=h.h8 a ha;omega)
theorem Nl.c16 (h:Nl M Z):∀a,a<4->∀b,b<4->-16≤cl 4 Z a b∧cl 4 Z a b≤16:=Vz3 h.hl h.ok h.hA (λa ha=>by
 obtain ⟨c⟩:=Jw h.hA;exact Int.le_trans ((c.leZM h.hl (Zs h.hl h.ok)).2 _) (h.h8 a ha))
theorem Nl.okZ (h:Nl M Z):Yo (2*2) Z:=(Xt h.hl h.ok h.hA).1
theorem Nl.lZ (h:Nl M Z):Z.length=(2*2)*(2*2):=(Xt h.hl h.ok h.hA).2
theorem Ox {X:List Int} (hl:X.length=(2*2)*(2*2)) (ok:Yo (2*2) X):Je (2:Nat) false X=0:=Gu (by omega) (by rw [hl]) ok
theorem Nl.chkZ (h:Nl M Z):Je (2:Nat) false Z=0:=Ox h.lZ h.okZ
theorem Zy8 {X Y:List Int} {s:Bool} (hl:X.length=(2*2)*(2*2)) (ok:Yo (2*2) X) (h:Zb (2*2) X=(some Y,s)):Qo (2,false,X)=(2,false,Y):=by
 show (Zp ((2:Nat):Int) false X).1.1=_
 unfold Zp;rw [ZL (λk=>k (Ox hl ok)),ZL (by simp),show ((2:Nat):Int).toNat=2 from rfl,h];rfl
theorem Zq8 {X:List Int} {s:Bool} (hl:X.length=(2*2)*(2*2)) (ok:Yo (2*2) X) (h:Zb (2*2) X=(none,s)):Qo (2,false,X)=Vt 2:=by
 show (Zp ((2:Nat):Int) false X).1.1=_
 unfold Zp;rw [ZL (λk=>k (Ox hl ok)),ZL (by simp),show ((2:Nat):Int).toNat=2 from rfl,h];rfl
theorem Nl.clo (h:Nl M Z):Qo (2,false,M)=(2,false,Z):=Zy8 h.hl h.ok h.hA
theorem Nl.again (h:Nl M Z):Qo (2,false,Z)=(2,false,Z):=by
 obtain ⟨_,ht⟩:=Hf (n:=2) h.hl h.ok h.hA;exact Zy8 h.lZ h.okZ ht
theorem Nl.hasZ (h:Nl M Z) {p:List Int}:Zr 4 Z p↔Zr 4 M p:=Wj (n:=2) h.hl h.ok h.hA
theorem Nl.finZ (h:Nl M Z):Ko (2*2) 16 Z:=λa ha b hb=>.inr (h.c16 a ha b hb)
theorem Nl.forg (h:Nl M Z) {v:Int} (h0:0≤v) (h1:v<2):My (2,false,Z) v=(2,false,Jf 4 (λu=>decide ((u:Int)=v)) Z):=by
 show Kj ((2:Nat):Int) false Z v=_
 rw [(Ob (n:=2) h.chkZ h0 h1).2];unfold Rz;have e:Gn.clo ((2:Nat):Int) false Z=(2,false,Z):=h.again;rw [e];rfl
theorem Vg2 {X:List Int} {i j:Nat} {c:Int} (hl:X.length=(2*2)*(2*2)) (ok:Yo (2*2) X) (hi:i<4) (hj:j<4) (hij:i≠j):Yf (2,false,X) i j c=(2,false,Zq 4 X i j c):=by
 show (Up ((2:Nat):Int) false X i j c).1=_
 rw [Qs1 (n:=2) (Ox hl ok) (by unfold Hn;simp;omega) hij];rfl
theorem Jp6 {i j:Nat} {c:Int} (hi:i<4) (hj:j<4):Yf (Vt 2) i j c=Vt 2:=by
 show (Up ((2:Nat):Int) true [] i j c).1=_
 rw [Hc (n:=2) (by decide) (by unfold Hn;simp;omega)];rfl
theorem Ph:Qo (Vt 2)=Vt 2:=by decide
theorem Qr4 {B ZB:List Int} (hl:B.length=(2*2)*(2*2)) (ok:Yo (2*2) B) (hB:Zb (2*2) B=(some ZB,false)) (h:∀a,a<4->cl 4 B a (ac a)≠9223372036854775807):Un ZB:=
 Vu8 hl ok hB (λa ha=>by
  have hb:=Zl (m:=4) (X:=B) (Zs hl ok) a (ac a);have:=h a ha
  unfold Bd at hb;omega)
theorem Qb3 {N:Int} {E:Bool} {M x:List Int} (h:Ys N E M x=true):Je N E M=0∧E=false∧(x.length:Int)=N∧Zr (2*N.toNat) M x:=ZN h
theorem Ja1 {E:Bool} {D:List Int}:Qv3 2 true [] E D=true:=rfl
theorem Vg6 {B D:List Int} {R:Int->Int->Prop} {E:Bool} (h:Arm B R) (hD:Je (2:Nat) E D=0) (hR:∀x y,R x y->Ys (2:Nat) E D [x,y]=true):
 Qv3 2 (Qo (2,false,B)).2.1 (Qo (2,false,B)).2.2 (Qo (2,E,D)).2.1 (Qo (2,E,D)).2.2=true:=by
 rcases hB:Zb (2*2) B with ⟨_|ZB,s⟩
 .rw [Zq8 h.hl h.ok hB];rfl
 have hs:s=false:=by have:=Qb4 h.hl h.ok h.fin;rw [hB] at this;exact this
 subst hs;obtain ⟨hz,hzl⟩:=Xt h.hl h.ok hB;obtain ⟨_,ht⟩:=Hf (n:=2) h.hl h.ok hB;rw [Zy8 h.hl h.ok hB];have e:Gn.clo 2 false ZB=(2,false,ZB):=Zy8 hzl hz ht;unfold Qv3;rw [e];obtain ⟨x,y,hxy,_⟩:=(Va8 h.hl h.ok hB (h.un _ hB)).2 0 (by omega) 1 (by omega) (by omega);have h0:=hR x y (h.pts x y hxy);obtain ⟨_,hE,_,hM⟩:=Qb3 h0;subst hE;obtain ⟨m,_,_,_,hl2⟩:=Zz hD;obtain rfl:2=m:=by omega
 obtain ⟨hDl,hDo⟩:=hl2 rfl;have hDl:D.length=(2*2)*(2*2):=by rw [hDl]
 have hp:∀x y:Int,Zr 4 B [x,y]->Zr 4 D [x,y]:=λx y k=>(Qb3 (hR x y (h.pts x y k))).2.2.2
 rcases hDD:Zb (2*2) D with ⟨_|ZD,s'⟩
 .exact absurd hM (Zg5 hDl hDo hDD)
 rw [Zy8 hDl hDo hDD];have hk:=Vo7 h.hl h.ok h.fin (h.un _) hDl hDo hp hB hDD;unfold Ei;simp only [Bool.false_or,Bool.not_false,Bool.true_and,ZU];intro i hi;rw [hzl] at hi;have:=hk (i / 4) (by omega) (i % 4) (by omega)
 unfold cl at this;rw [show i / 4*4+i % 4=i by omega] at this;exact this
end
end Gn
end
section
namespace Gn
section
variable {M Z:List Int} {x y:Int}
theorem Nl.arm_id (h:Nl M Z):Arm M (λx y=>Zr 4 M [x,y]):=
 ⟨h.hl,h.ok,h.fin,λZB hB=>Qr4 h.hl h.ok hB (λa ha=>by have:=h.h8 a ha;omega),λ_ _ k=>k⟩
theorem Vq8 {g:Nat->Bool} {X:List Int} {a b:Nat} (ha:a<4) (hb:b<4) (h:a=b∨(g (a / 2)=false∧g (b / 2)=false)):cl 4 (Jf 4 g X) a b=cl 4 X a b:=by
 rw [Ns ha hb,ZL];rintro ⟨h1,h2⟩;rcases h with h|⟨h,h'⟩
 .exact h1 h
 rw [h,h'] at h2;cases h2
theorem Ba {X:List Int} {i j:Nat} {c:Int} (hl:X.length=(2*2)*(2*2)) (ok:Yo (2*2) X) (hi:i<4) (hj:j<4) {a b:Nat} (ha:a<4) (hb:b<4):cl 4 (Zq 4 X i j c) a b≤cl 4 X a b:=by
 rw [Xn (m:=4) hl hi hj (Qg (n:=2) hi) (Qg (n:=2) hj) hb];split
 .rename_i h
  rcases h with ⟨rfl,rfl⟩|⟨rfl,rfl⟩
  .exact Int.min_le_left _ _
  have e:cl 4 X i j=cl 4 X (ac j) (ac i):=(ok i hi j hj).2.2;rw [<-e];exact Int.min_le_left _ _
 exact Int.le_refl _
theorem Qu5 {X:List Int} {i j:Nat} {c:Int} (hl:X.length=(2*2)*(2*2)) (hi:i<4) (hj:j<4) (hc:-1125899906842624≤c∧c≤1125899906842624):cl 4 (Zq 4 X i j c) i j≠9223372036854775807:=by
 rw [Xn (m:=4) hl hi hj (Qg (n:=2) hi) (Qg (n:=2) hj) hj,ZM (.inl ⟨rfl,rfl⟩),Zi (a:=c) (by unfold Bd;omega)];have:=Int.min_le_right (cl 4 X i j) c
 omega
theorem Qk6 {X Y:List Int} {a b:Nat} (hX:Yo (2*2) X) (hY:Yo (2*2) Y) (ha:a<4) (hb:b<4) (h:cl 4 X a b≤cl 4 Y a b) (hf:cl 4 Y a b≠9223372036854775807):cl 4 X a b≠9223372036854775807:=by
 have h1:=(hY a ha b hb).1;rw [Uu] at h1;have e:cl (2*2) Y a b=cl 4 Y a b:=rfl;rw [e] at h1;unfold Bd at h1;omega
theorem Nl.arm_link (h:Nl M Z) {g:Nat->Bool} {d i j:Nat} {k:Int} (hd:d<2) (gd:g d=true) (g1:g (1 - d)=false) (hi:i<4) (hj:j<4) (hij:i≠j) (hid:i / 2=d) (hk:-1125899906842624≤k∧k≤1125899906842624):
 Arm (Zq 4 (Zq 4 (Jf 4 g Z) i j k) j i (-k)) (λx y=>Zr 4 (Zq 4 (Zq 4 (Jf 4 g Z) i j k) j i (-k)) [x,y]):=by
 have l0:(Jf 4 g Z).length=(2*2)*(2*2):=Yr _ _ _;have o0:Yo (2*2) (Jf 4 g Z):=Kw (n:=2) h.okZ;have f0:Ko (2*2) 16 (Jf 4 g Z):=Jf9 h.finZ;have l1:(Zq 4 (Jf 4 g Z) i j k).length=(2*2)*(2*2):=by rw [Xj];exact l0
 have o1:Yo (2*2) (Zq 4 (Jf 4 g Z) i j k):=Ks (n:=2) l0 o0 hi hj hij;have l2:(Zq 4 (Zq 4 (Jf 4 g Z) i j k) j i (-k)).length=(2*2)*(2*2):=by rw [Xj];exact l1
 have o2:Yo (2*2) (Zq 4 (Zq 4 (Jf 4 g Z) i j k) j i (-k)):=Ks (n:=2) l1 o1 hj hi (Ne.symm hij);have f0':Ko (2*2) 1125899906842624 (Jf 4 g Z):=λa ha b hb=>Mt (f0 a ha b hb) (by omega)
 have c1:cl 4 (Zq 4 (Zq 4 (Jf 4 g Z) i j k) j i (-k)) i j≠9223372036854775807:=Qk6 o2 o1 hi hj (Ba l1 o1 hj hi hi hj) (Qu5 l0 hi hj hk);have c2:cl 4 (Zq 4 (Zq 4 (Jf 4 g Z) i j k) j i (-k)) j i≠9223372036854775807:=Qu5 l1 hj hi (by omega);refine ⟨l2,o2,Bt l1 (Bt l0 f0' hi hj hk (by omega)) hj hi (by omega) (by omega),λZB hB=>?_,λ_ _ k=>k⟩;have hoth:∀a,a<4->a / 2≠d->cl 4 (Zq 4 (Zq 4 (Jf 4 g Z) i j k) j i (-k)) a (ac a)≠9223372036854775807:=λa ha hn=>by
  have e2:ac a / 2=a / 2:=by unfold ac;split<;>omega
  have e:cl 4 (Jf 4 g Z) a (ac a)=cl 4 Z a (ac a):=Vq8 ha (Qg (n:=2) ha) (.inr ⟨by rw [show a / 2=1 - d by omega];exact g1,by rw [e2,show a / 2=1 - d by omega];exact g1⟩);have:=h.c16 a ha (ac a) (Qg (n:=2) ha);exact Qk6 o2 o0 ha (Qg (n:=2) ha) (Int.le_trans (Ba l1 o1 hj hi ha (Qg (n:=2) ha)) (Ba l0 o0 hi hj ha (Qg (n:=2) ha))) (by rw [e];omega)
 by_cases hs:j / 2=i / 2
 .have hji:j=ac i:=by
   rcases Lw hs with e|e
   .exact absurd e.symm hij
   exact e
  subst hji;refine Qr4 l2 o2 hB (λa ha=>?_);by_cases hn:a / 2=d
  .rcases Lw (show a / 2=i / 2 by omega) with e|e
   .subst e;exact c1
   subst e;rw [Ve];exact c2
  exact hoth a ha hn
 have e2:ac j / 2=j / 2:=by unfold ac;split<;>omega
 have h4:=hoth (ac j) (Qg (n:=2) hj) (by omega);rw [Ve] at h4;exact Va6 l2 o2 hB hi hj hs c1 c2 (hoth j hj (by omega)) h4
theorem Nl.b50 (h:Nl M Z):∀a,a<4->∀b,b<4->-1125899906842624≤cl 4 Z a b∧cl 4 Z a b≤1125899906842624:=λa ha b hb=>by have:=h.c16 a ha b hb;omega
theorem Js4 {v:Nat} {k:Int} (hZ:∀a,a<4->∀b,b<4->-16≤cl 4 Z a b∧cl 4 Z a b≤16) (hk:-4398046511104≤k∧k≤4398046511104) {a b:Nat} (ha:a<4) (hb:b<4) (hab:a≠b):cl 4 (Us v k Z) a b=cl 4 Z a b+(Xr v k a - Xr v k b):=by
 have:=hZ a ha b hb;have:=Vr7 (v:=v) a hk;have:=Vr7 (v:=v) b hk;unfold Us;rw [Ra ha hb,ZM ⟨hab,by omega⟩];have e1:Jn (cl 4 Z a b)=cl 4 Z a b:=Zi (by unfold Bd;omega);have e2:Jn (Xr v k a - Xr v k b)=Xr v k a - Xr v k b:=Zi (by unfold Bd;omega);have e3:Jn (cl 4 Z a b+(Xr v k a - Xr v k b))=cl 4 Z a b+(Xr v k a - Xr v k b):=Zi (by unfold Bd;omega);unfold Zh;rw [e1,e2,ZL (by omega),e3]
theorem Nl.arm_move (h:Nl M Z) {v:Nat} {k:Int} (hk:-4398046511104≤k∧k≤4398046511104):Arm (Us v k Z) (λx y=>Zr 4 (Us v k Z) [x,y]):=by
 have l:(Us v k Z).length=(2*2)*(2*2):=Ur _ _;have o:=Qq1 (v:=v) (k:=k) h.okZ;refine ⟨l,o,λa ha b hb=>Mt (Ja4 h.finZ hk (by omega) (by omega) a ha b hb) (by omega),λZB hB=>Qr4 l o hB (λa ha=>?_),λ_ _ k=>k⟩;have hne:a≠ac a:=λe=>Zi5 a e.symm
 rw [Js4 h.c16 hk ha (Qg (n:=2) ha) hne];have:=h.c16 a ha (ac a) (Qg (n:=2) ha);have:=Vr7 (v:=v) a hk;have:=Vr7 (v:=v) (ac a) hk;omega
theorem Nl.arm_turn (h:Nl M Z) {v:Nat}:Arm (Kl v Z) (λx y=>Zr 4 (Kl v Z) [x,y]):=by
 have l:(Kl v Z).length=(2*2)*(2*2):=Ur _ _;have o:=Om (v:=v) h.okZ;refine ⟨l,o,λa ha b hb=>Mt (Jd2 h.finZ a ha b hb) (by omega),λZB hB=>Qr4 l o hB (λa ha=>?_),λ_ _ k=>k⟩;have:cl 4 (Kl v Z) a (ac a)=cl 4 Z (Zf v a) (Zf v (ac a)):=Ra ha (Qg (n:=2) ha);have:=h.c16 _ (Rj (v:=v) ha) _ (Rj (v:=v) (Qg (n:=2) ha))
 omega
end
end Gn
end
section
namespace Gn
structure Cut (Z B:List Int):Prop where
 hl:B.length=(2*2)*(2*2)
 ok:Yo (2*2) B
 fin:Ko (2*2) 1125899906842624 B
 le:∀a,a<4->∀b,b<4->cl 4 B a b≤cl 4 Z a b
def Mf (Z:List Int) (P:Zj) (R:Int->Int->Prop):Prop:=
 (P=Vt 2∧∀x y,¬R x y)∨(∃B,P=(2,false,B)∧Cut Z B∧∀x y,Zr 4 B [x,y]↔R x y)
section
variable {M Z:List Int} {x y:Int}
theorem Nl.cut (h:Nl M Z):Mf Z (2,false,Z) (λx y=>Zr 4 Z [x,y]):=.inr ⟨Z,rfl,⟨h.lZ,h.okZ,λa ha b hb=>Mt (h.finZ a ha b hb) (by omega),λ_ _ _ _=>Int.le_refl _⟩,λ_ _=>Iff.rfl⟩
theorem Mf.iff {P:Zj} {R S:Int->Int->Prop} (h:Mf Z P R) (hS:∀x y,R x y↔S x y):Mf Z P S:=by
 rcases h with ⟨h,k⟩|⟨B,h,k,l⟩
 .exact .inl ⟨h,λx y e=>k x y ((hS x y).2 e)⟩
 exact .inr ⟨B,h,k,λx y=>(l x y).trans (hS x y)⟩
theorem Mf.none {P:Zj} {R S:Int->Int->Prop} (h:Mf Z P R) (hS:∀x y,¬S x y):Mf Z (Vt P.1) S:=by
 have:P.1=2:=by rcases h with ⟨rfl,_⟩|⟨B,rfl,_⟩<;>rfl
 rw [this];exact .inl ⟨rfl,hS⟩
theorem Mf.lim {P:Zj} {R:Int->Int->Prop} (h:Mf Z P R) {i j:Nat} {c:Int} (hi:i<4) (hj:j<4) (hij:i≠j) (hc:-1125899906842624≤c∧c≤1125899906842624):
 Mf Z (Yf P i j c) (λx y=>R x y∧Qc [x,y] i j≤c):=by
 rcases h with ⟨rfl,k⟩|⟨B,rfl,k,l⟩
 .rw [Jp6 hi hj];exact .inl ⟨rfl,λx y e=>k x y e.1⟩
 rw [Vg2 k.hl k.ok hi hj hij];refine .inr ⟨_,rfl,⟨by rw [Xj];exact k.hl,Ks (n:=2) k.hl k.ok hi hj hij,Bt k.hl k.fin hi hj hc (by omega),λa ha b hb=>Int.le_trans (Ba k.hl k.ok hi hj ha hb) (k.le a ha b hb)⟩,λx y=>?_⟩;have e:=Dy (n:=2) (x:=[x,y]) (c:=c) k.hl k.ok hi hj;rw [Zi (a:=c) (by unfold Bd;omega)] at e;exact e.trans ⟨λe=>⟨(l x y).1 e.1,by omega⟩,λe=>⟨(l x y).2 e.1,.inr e.2⟩⟩
theorem Le (x y:Int) {v:Int} (h0:0≤v) (h1:v<2) (n:Int):Zo [x,y] (2*v.toNat)=Zc v n x y∧Zo [x,y] (2*v.toNat+1)=-Zc v n x y:=by
 rcases (show v=0∨v=1 by omega) with rfl|rfl<;>exact ⟨rfl,rfl⟩
theorem Mf.up {P:Zj} {R:Int->Int->Prop} (h:Mf Z P R) {v k n:Int} (h0:0≤v) (h1:v<2) (hk:-4398046511104≤k∧k≤4398046511104):
 Mf Z (Yf P (2*v) (2*v+1) (2*k)) (λx y=>R x y∧Zc v n x y≤k):=by
 have e:Yf P (2*v) (2*v+1) (2*k)=Yf P ((2*v.toNat:Nat):Int) ((2*v.toNat+1:Nat):Int) (2*k):=by
  rw [show ((2*v.toNat:Nat):Int)=2*v by omega,show ((2*v.toNat+1:Nat):Int)=2*v+1 by omega]
 rw [e];refine (h.lim (by omega) (by omega) (by omega) (by omega)).iff λx y=>?_
 obtain ⟨e1,e2⟩:=Le x y h0 h1 n;unfold Qc;rw [e1,e2];exact ⟨λ⟨a,b⟩=>⟨a,by omega⟩,λ⟨a,b⟩=>⟨a,by omega⟩⟩
theorem Mf.down {P:Zj} {R:Int->Int->Prop} (h:Mf Z P R) {v k n:Int} (h0:0≤v) (h1:v<2) (hk:-4398046511104≤k∧k≤4398046511104):
 Mf Z (Yf P (2*v+1) (2*v) (2*-k)) (λx y=>R x y∧k≤Zc v n x y):=by
 have e:Yf P (2*v+1) (2*v) (2*-k)=Yf P ((2*v.toNat+1:Nat):Int) ((2*v.toNat:Nat):Int) (2*-k):=by
  rw [show ((2*v.toNat:Nat):Int)=2*v by omega,show ((2*v.toNat+1:Nat):Int)=2*v+1 by omega]
 rw [e];refine (h.lim (by omega) (by omega) (by omega) (by omega)).iff λx y=>?_
 obtain ⟨e1,e2⟩:=Le x y h0 h1 n;unfold Qc;rw [e1,e2];exact ⟨λ⟨a,b⟩=>⟨a,by omega⟩,λ⟨a,b⟩=>⟨a,by omega⟩⟩
def Vz (n:Int):Prop:=-1099511627776≤n∧n≤1099511627776
theorem Lf:Kb false=0:=rfl
theorem Qj3:Kb true=-1:=rfl
theorem Mf.atMost {P:Zj} {R:Int->Int->Prop} (h:Mf Z P R) {av an bv bn:Int} {s:Bool} (ha:av<2) (hb:bv<2) (hab:0≤av∨0≤bv) (na:Vz an) (nb:Vz bn):
 Mf Z (Jk P av an bv bn s) (λx y=>R x y∧Zc av an x y≤Zc bv bn x y+Kb s):=by
 unfold Vz at na nb;have:Kb s=0∨Kb s=-1:=by unfold Kb;split<;>omega
 unfold Jk;by_cases h0:0≤av
 .rw [ZM h0];by_cases h1:0≤bv
  .rw [ZM h1];by_cases he:av=bv
   .subst he;rw [ZM rfl];have e:∀x y:Int,Zc av an x y=Zc av bn x y:=λx y=>by unfold Zc;rw [ZL (show ¬av<0 by omega),ZL (show ¬av<0 by omega)]
    rcases s with _|_
    .rw [ZL (by simp)];exact h.iff λx y=>⟨λk=>⟨k,by rw [e x y,Lf];omega⟩,λk=>k.1⟩
    rw [ZM rfl];exact h.none λx y k=>by have k2:=k.2;rw [e x y,Qj3] at k2;omega
   rw [ZL he];have e:Yf P (2*av) (2*bv) (Kb s)=Yf P ((2*av.toNat:Nat):Int) ((2*bv.toNat:Nat):Int) (Kb s):=by
    rw [show ((2*av.toNat:Nat):Int)=2*av by omega,show ((2*bv.toNat:Nat):Int)=2*bv by omega]
   rw [e];refine (h.lim (by omega) (by omega) (by omega) (by omega)).iff λx y=>?_
   have e1:=(Le x y h0 ha an).1;have e2:=(Le x y h1 hb bn).1;unfold Qc;rw [e1,e2];exact ⟨λ⟨a,b⟩=>⟨a,by omega⟩,λ⟨a,b⟩=>⟨a,by omega⟩⟩
  rw [ZL h1];show Mf Z (Yf P (2*av) (2*av+1) (2*(bn+Kb s))) _
  refine (h.up (n:=an) h0 ha (by omega)).iff λx y=>?_
  have e:Zc bv bn x y=bn:=by unfold Zc;rw [ZM (by omega)]
  rw [e]
 rw [ZL h0];have h1:0≤bv:=by omega
 show Mf Z (Yf P (2*bv+1) (2*bv) (2*-(an - Kb s))) _
 refine (h.down (n:=bn) h1 hb (by omega)).iff λx y=>?_
 have e:Zc av an x y=an:=by unfold Zc;rw [ZM (by omega)]
 rw [e];exact ⟨λ⟨a,b⟩=>⟨a,by omega⟩,λ⟨a,b⟩=>⟨a,by omega⟩⟩
theorem Mf.assume {R:Int->Int->Prop} {P:Zj} (h:Mf Z P R) {op av an bv bn:Int} (ha:av<2) (hb:bv<2) (hab:0≤av∨0≤bv) (ho:1≤op∧op≤6∧op≠4) (na:Vz an) (nb:Vz bn):
 ∃Q,Xc P op av an bv bn=Qo Q∧Mf Z Q (λx y=>R x y∧Fe op (Zc av an x y) (Zc bv bn x y)=true):=by
 unfold Xc;rw [ZL (by omega)];by_cases h3:op=3
 .subst h3;rw [ZM rfl];refine ⟨_,rfl,((h.atMost ha hb hab na nb).atMost hb ha hab.symm nb na).iff λx y=>?_⟩;rw [show Fe 3 (Zc av an x y) (Zc bv bn x y)=decide (Zc av an x y=Zc bv bn x y) from rfl,ZU,Lf];exact ⟨λ⟨⟨k,k1⟩,k2⟩=>⟨k,by omega⟩,λ⟨k,k1⟩=>⟨⟨k,by omega⟩,by omega⟩⟩
 rw [ZL h3];by_cases h5:op=5
 .subst h5;rw [ZM rfl];refine ⟨_,rfl,(h.atMost hb ha hab.symm nb na).iff λx y=>?_⟩;rw [show Fe 5 (Zc av an x y) (Zc bv bn x y)=decide (Zc bv bn x y<Zc av an x y) from rfl,ZU,Qj3];exact ⟨λ⟨k,k1⟩=>⟨k,by omega⟩,λ⟨k,k1⟩=>⟨k,by omega⟩⟩
 rw [ZL h5];by_cases h1:op=1
 .subst h1;rw [ZM rfl];refine ⟨_,rfl,(h.atMost ha hb hab na nb).iff λx y=>?_⟩;rw [show Fe 1 (Zc av an x y) (Zc bv bn x y)=decide (Zc av an x y<Zc bv bn x y) from rfl,ZU,Qj3];exact ⟨λ⟨k,k1⟩=>⟨k,by omega⟩,λ⟨k,k1⟩=>⟨k,by omega⟩⟩
 rw [ZL h1];by_cases h6:op=6
 .subst h6;rw [ZM rfl];refine ⟨_,rfl,(h.atMost hb ha hab.symm nb na).iff λx y=>?_⟩;rw [show Fe 6 (Zc av an x y) (Zc bv bn x y)=decide (Zc bv bn x y≤Zc av an x y) from rfl,ZU,Lf];exact ⟨λ⟨k,k1⟩=>⟨k,by omega⟩,λ⟨k,k1⟩=>⟨k,by omega⟩⟩
 rw [ZL h6];obtain rfl:op=2:=by omega
 refine ⟨_,rfl,(h.atMost ha hb hab na nb).iff λx y=>?_⟩;rw [show Fe 2 (Zc av an x y) (Zc bv bn x y)=decide (Zc av an x y≤Zc bv bn x y) from rfl,ZU,Lf];exact ⟨λ⟨k,k1⟩=>⟨k,by omega⟩,λ⟨k,k1⟩=>⟨k,by omega⟩⟩
theorem Nl.cut_arm (h:Nl M Z) {B:List Int} (k:Cut Z B):Arm B (λx y=>Zr 4 B [x,y]):=
 ⟨k.hl,k.ok,k.fin,λZB hB=>Qr4 k.hl k.ok hB (λa ha=>by
  have:=k.le a ha (ac a) (Qg (n:=2) ha);have:=h.c16 a ha (ac a) (Qg (n:=2) ha);omega),λ_ _ e=>e⟩
end
end Gn
end
section
namespace Gn
section
variable {M Z:List Int} {x y:Int}
def inO (P Q:Zj):Prop:=Qv3 2 P.2.1 P.2.2 Q.2.1 Q.2.2=true
theorem Dt (Q:Zj):inO (Vt 2) Q:=Ja1
theorem Fk {B D:List Int} {R:Int->Int->Prop} {E:Bool} (h:Arm B R) (hD:Je (2:Nat) E D=0) (hR:∀x y,R x y->Ys (2:Nat) E D [x,y]=true):inO (Qo (2,false,B)) (Qo (2,E,D)):=Vg6 h hD hR
theorem Nl.inO_id (h:Nl M Z) {D:List Int} {E:Bool} (hD:Je (2:Nat) E D=0) (hp:∀x y,Zr 4 M [x,y]->Ys (2:Nat) E D [x,y]=true):inO (2,false,Z) (Qo (2,E,D)):=by
 rw [<-h.clo];exact Fk h.arm_id hD hp
theorem Ak {v n:Int} (h:Vx v n 2 true=true):v=-1∨(0≤v∧v<2):=by
 unfold Vx Zn at h;simp at h
 omega
theorem Nl.inO_link (h:Nl M Z) {dst:Int} {i j:Nat} {k:Int} (h0:0≤dst) (h1:dst<2) (hi:i<4) (hj:j<4) (hij:i≠j) (hid:i / 2=dst.toNat) (hk:-1125899906842624≤k∧k≤1125899906842624) {D:List Int} {E:Bool} (hD:Je (2:Nat) E D=0)
 (hp:∀x y,Zr 4 (Zq 4 (Zq 4 (Jf 4 (λu=>decide ((u:Int)=dst)) Z) i j k) j i (-k)) [x,y]->Ys (2:Nat) E D [x,y]=true):inO (Wh (2,false,Z) dst i j k) (Qo (2,E,D)):=by
 have l0:(Jf 4 (λu=>decide ((u:Int)=dst)) Z).length=(2*2)*(2*2):=Yr _ _ _;have o0:Yo (2*2) (Jf 4 (λu=>decide ((u:Int)=dst)) Z):=Kw (n:=2) h.okZ;have e:Wh (2,false,Z) dst i j k=Qo (2,false,Zq 4 (Zq 4 (Jf 4 (λu=>decide ((u:Int)=dst)) Z) i j k) j i (-k)):=by
  unfold Wh;rw [h.forg h0 h1,Vg2 l0 o0 hi hj hij,Vg2 (by rw [Xj];exact l0) (Ks (n:=2) l0 o0 hi hj hij) hj hi (Ne.symm hij)]
 rw [e];exact Fk (h.arm_link (d:=dst.toNat) (by omega) (by simp;omega) (by simp;omega) hi hj hij hid hk) hD hp
theorem Nl.inO_give (h:Nl M Z) {dst k:Int} (h0:0≤dst) (h1:dst<2) (hk:-4398046511104≤k∧k≤4398046511104) {D:List Int} {E:Bool} (hD:Je (2:Nat) E D=0)
 (hp:∀x y,Zr 4 M [x,y]->Ys (2:Nat) E D [(Xg dst k x y).1,(Xg dst k x y).2]=true):inO (Kn (2,false,Z) dst (Kh k)) (Qo (2,E,D)):=by
 have e:Kn (2,false,Z) dst (Kh k)=Wh (2,false,Z) dst ((2*dst.toNat:Nat):Int) ((2*dst.toNat+1:Nat):Int) (2*k):=by
  rw [show ((2*dst.toNat:Nat):Int)=2*dst by omega,show ((2*dst.toNat+1:Nat):Int)=2*dst+1 by omega];unfold Wh;rw [show -(2*k)=2*-k by omega];rfl
 rw [e];refine h.inO_link h0 h1 (by omega) (by omega) (by omega) (by omega) (by omega) hD λx y hxy=>?_
 rcases (show dst=0∨dst=1 by omega) with rfl|rfl
 .obtain ⟨rfl,x',hx⟩:=(Vg5 h.hl h.ok h.hA h.un (g:=λu=>decide ((u:Int)=0)) rfl rfl (k:=k) (by omega)).1 hxy;exact hp x' y hx
 obtain ⟨rfl,y',hy⟩:=(Vb2 h.hl h.ok h.hA h.un (g:=λu=>decide ((u:Int)=1)) rfl rfl (k:=k) (by omega)).1 hxy;exact hp x y' hy
theorem Nl.inO_far (h:Nl M Z) {dst v k:Int} (h0:0≤dst) (h1:dst<2) (v0:0≤v) (v1:v<2) (hne:v≠dst) (n:Int) (hk:-4398046511104≤k∧k≤4398046511104) {D:List Int} {E:Bool} (hD:Je (2:Nat) E D=0)
 (hp:∀x y,Zr 4 M [x,y]->Ys (2:Nat) E D [(Xg dst (Zc v n x y+k) x y).1,(Xg dst (Zc v n x y+k) x y).2]=true):inO (Wh (2,false,Z) dst (2*dst) (2*v) k) (Qo (2,E,D)):=by
 rw [show 2*dst=((2*dst.toNat:Nat):Int) by omega,show 2*v=((2*v.toNat:Nat):Int) by omega];refine h.inO_link h0 h1 (by omega) (by omega) (by omega) (by omega) (by omega) hD λx y hxy=>?_
 rcases (show (dst=0∧v=1)∨(dst=1∧v=0) by omega) with ⟨rfl,rfl⟩|⟨rfl,rfl⟩
 .obtain ⟨rfl,x',hx⟩:=(Jh6 h.hl h.ok h.hA h.un (g:=λu=>decide ((u:Int)=0)) rfl rfl (k:=k) (by omega)).1 hxy;exact hp x' y hx
 obtain ⟨rfl,y',hy⟩:=(Je6 h.hl h.ok h.hA h.un (g:=λu=>decide ((u:Int)=1)) rfl rfl (k:=k) (by omega)).1 hxy;exact hp x y' hy
theorem Nl.inO_neg (h:Nl M Z) {dst v:Int} (h0:0≤dst) (h1:dst<2) (v0:0≤v) (v1:v<2) (hne:v≠dst) (n:Int) {D:List Int} {E:Bool} (hD:Je (2:Nat) E D=0)
 (hp:∀x y,Zr 4 M [x,y]->Ys (2:Nat) E D [(Xg dst (-Zc v n x y) x y).1,(Xg dst (-Zc v n x y) x y).2]=true):inO (Wh (2,false,Z) dst (2*dst) (2*v+1) 0) (Qo (2,E,D)):=by
 rw [show 2*dst=((2*dst.toNat:Nat):Int) by omega,show 2*v+1=((2*v.toNat+1:Nat):Int) by omega];refine h.inO_link h0 h1 (by omega) (by omega) (by omega) (by omega) (by omega) hD λx y hxy=>?_
 rcases (show (dst=0∧v=1)∨(dst=1∧v=0) by omega) with ⟨rfl,rfl⟩|⟨rfl,rfl⟩
 .obtain ⟨rfl,x',hx⟩:=(Vf1 h.hl h.ok h.hA h.un (g:=λu=>decide ((u:Int)=0)) rfl rfl).1 hxy;exact hp x' y hx
 obtain ⟨rfl,y',hy⟩:=(Vd6 h.hl h.ok h.hA h.un (g:=λu=>decide ((u:Int)=1)) rfl rfl).1 hxy;exact hp x y' hy
theorem Nl.inO_move (h:Nl M Z) {dst k:Int} (h0:0≤dst) (h1:dst<2) (n:Int) (hk:-4398046511104≤k∧k≤4398046511104) {D:List Int} {E:Bool} (hD:Je (2:Nat) E D=0)
 (hp:∀x y,Zr 4 M [x,y]->Ys (2:Nat) E D [(Xg dst (Zc dst n x y+k) x y).1,(Xg dst (Zc dst n x y+k) x y).2]=true):inO (Gz (2,false,Z) dst k) (Qo (2,E,D)):=by
 show inO (Qo (2,false,Us dst.toNat k Z)) _
 refine Fk (h.arm_move hk) hD λx y hxy=>?_
 rcases (show dst=0∨dst=1 by omega) with rfl|rfl
 .have e:=(Vd2 h.b50 (x:=x - k) (y:=y) (k:=k) (by omega)).1 (by rw [Int.sub_add_cancel];exact hxy);have:=hp (x - k) y (h.hasZ.1 e)
  rw [show (Xg 0 (Zc 0 n (x - k) y+k) (x - k) y)=(x,y) by unfold Xg Zc;simp] at this;exact this
 have e:=(Vb3 h.b50 (x:=x) (y:=y - k) (k:=k) (by omega)).1 (by rw [Int.sub_add_cancel];exact hxy);have:=hp x (y - k) (h.hasZ.1 e)
 rw [show (Xg 1 (Zc 1 n x (y - k)+k) x (y - k))=(x,y) by unfold Xg Zc;simp] at this;exact this
theorem Nl.inO_turn (h:Nl M Z) {dst:Int} (h0:0≤dst) (h1:dst<2) (n:Int) {D:List Int} {E:Bool} (hD:Je (2:Nat) E D=0)
 (hp:∀x y,Zr 4 M [x,y]->Ys (2:Nat) E D [(Xg dst (-Zc dst n x y) x y).1,(Xg dst (-Zc dst n x y) x y).2]=true):inO (Wa (2,false,Z) dst) (Qo (2,E,D)):=by
 show inO (Qo (2,false,Kl dst.toNat Z)) _
 refine Fk h.arm_turn hD λx y hxy=>?_
 rcases (show dst=0∨dst=1 by omega) with rfl|rfl
 .have e:=(Vb5 (x:=-x) (y:=y)).1 (by rw [Int.neg_neg];exact hxy);have:=hp (-x) y (h.hasZ.1 e)
  rw [show (Xg 0 (-Zc 0 n (-x) y) (-x) y)=(x,y) by unfold Xg Zc;simp] at this;exact this
 have e:=(Vd3 (x:=x) (y:=-y)).1 (by rw [Int.neg_neg];exact hxy);have:=hp x (-y) (h.hasZ.1 e)
 rw [show (Xg 1 (-Zc 1 n x (-y)) x (-y))=(x,y) by unfold Xg Zc;simp] at this;exact this
theorem Nl.inO_shift (h:Nl M Z) {dst v k:Int} (h0:0≤dst) (h1:dst<2) (v0:0≤v) (v1:v<2) (n:Int) (hk:-4398046511104≤k∧k≤4398046511104) {D:List Int} {E:Bool} (hD:Je (2:Nat) E D=0)
 (hp:∀x y,Zr 4 M [x,y]->Ys (2:Nat) E D [(Xg dst (Zc v n x y+k) x y).1,(Xg dst (Zc v n x y+k) x y).2]=true):inO (Js (2,false,Z) dst v k) (Qo (2,E,D)):=by
 unfold Js;by_cases e:v=dst
 .rw [ZM e];subst e;exact h.inO_move h0 h1 n hk hD hp
 rw [ZL e];exact h.inO_far h0 h1 v0 v1 e n hk hD hp
theorem Yh {n a:Int} {e:Ql} (h:Uv n a e=true):(1≤e.kind∧e.kind≤14)∧(Zn (kD e.kind) (decide (0≤e.dst∧e.dst<n)) (decide (e.dst=-1))=true∧Zn (kR e.kind) (decide (0≤e.arr∧e.arr<a)) (decide (e.arr=-1))=true∧
 Zn (kO e.kind) (decide (1≤e.op∧e.op≤6)) (decide (e.op=0))=true∧Vx e.av e.an n (kA e.kind)=true∧Vx e.bv e.bn n (kB e.kind)=true):=by
 unfold Uv at h;simp only [ZX,ZU] at h;exact h
theorem Jy1 (h:Nl M Z) {e:Ql} {na:Int} (hr:Uv 2 na e=true) (hx:Vm e=true) (h9:e.kind≠9) (h10:e.kind≠10) (n1:Vz e.an) (n2:Vz e.bn) {E:Bool} {D:List Int} (hD:Je (2:Nat) E D=0)
 (hp:e.kind≠14->∀x y u v,Zr 4 M [x,y]->stepV e x y=some (u,v)->Ys (2:Nat) E D [u,v]=true):inO (Xu (2,false,Z) e) (Qo (2,E,D)):=by
 obtain ⟨fr,to,kind,dst,arr,op,av,an,bv,bn⟩:=e;obtain ⟨⟨k0,k1⟩,r1,r2,r3,r4,r5⟩:=Yh hr;have u1:=n1;have u2:=n2;unfold Vz at u1 u2;dsimp only at*;rcases (show kind=1∨kind=2∨kind=3∨kind=4∨kind=5∨(kind=6∨kind=7∨kind=8)∨kind=11∨kind=12∨kind=13∨kind=14 by omega) with rfl|rfl|rfl|rfl|rfl|hk|rfl|rfl|rfl|rfl
 .exact h.inO_id hD λx y k=>hp (by decide) x y x y k rfl
 .have d0:0≤dst∧dst<2:=ZN r1;have a0:=Ak r4;show inO (Ol (2,false,Z) dst av an) _
  unfold Ol;by_cases ha:av<0
  .rw [ZM ha];exact h.inO_give d0.1 d0.2 (by omega) hD λx y k=>hp (by decide) x y _ _ k (by unfold stepV;simp [Zc,ha])
  rw [ZL ha];by_cases hd:av=dst
  .rw [ZM hd];exact h.inO_id hD λx y k=>hp (by decide) x y x y k (by
    rcases (show dst=0∨dst=1 by omega) with q|q
    .rw [q] at hd;unfold stepV;simp [Zc,Xg,hd,q]
    rw [q] at hd;unfold stepV;simp [Zc,Xg,hd,q])
  rw [ZL hd];exact h.inO_far d0.1 d0.2 (by omega) (by omega) hd an (by omega) hD λx y k=>hp (by decide) x y _ _ k (by unfold stepV;simp)
 .have d0:0≤dst∧dst<2:=ZN r1;have a0:=Ak r4;show inO (Zj5 (2,false,Z) dst av an) _
  unfold Zj5;by_cases ha:av<0
  .rw [ZM ha];exact h.inO_give d0.1 d0.2 (by omega) hD λx y k=>hp (by decide) x y _ _ k (by unfold stepV;simp [Zc,ha])
  rw [ZL ha];by_cases hd:av=dst
  .rw [ZM hd];subst hd;exact h.inO_turn d0.1 d0.2 an hD λx y k=>hp (by decide) x y _ _ k (by unfold stepV;simp)
  rw [ZL hd];exact h.inO_neg d0.1 d0.2 (by omega) (by omega) hd an hD λx y k=>hp (by decide) x y _ _ k (by unfold stepV;simp)
 .have d0:0≤dst∧dst<2:=ZN r1;have a0:=Ak r4;have b0:=Ak r5;have hx2:(0≤av)≠(0≤bv):=by
   unfold Vm at hx;simp at hx
   simpa using hx.2
  show inO (if av<0 then Js (2,false,Z) dst bv an else Js (2,false,Z) dst av bn) _
  by_cases ha:av<0
  .rw [ZM ha];have hb:0≤bv:=by
    by_cases hb:0≤bv
    .exact hb
    exact absurd (propext ⟨λk=>by omega,λk=>absurd k hb⟩) hx2
   exact h.inO_shift d0.1 d0.2 hb (by omega) bn (by omega) hD λx y k=>hp (by decide) x y _ _ k (by
    have e:Zc av an x y=an:=by unfold Zc;rw [ZM ha]
    unfold stepV;simp only;simp [e,Int.add_comm])
  rw [ZL ha];have hb:bv<0:=by
   by_cases hb:0≤bv
   .exact absurd (propext ⟨λk=>hb,λk=>by omega⟩) hx2
   omega
  exact h.inO_shift d0.1 d0.2 (by omega) (by omega) an (by omega) hD λx y k=>hp (by decide) x y _ _ k (by
   have e:Zc bv bn x y=bn:=by unfold Zc;rw [ZM hb]
   unfold stepV;simp only;simp [e])
 .have d0:0≤dst∧dst<2:=ZN r1;have a0:=Ak r4;have hx2:0≤av∧bv<0:=by
   unfold Vm at hx;simp at hx
   omega
  show inO (Js (2,false,Z) dst av (-bn)) _
  exact h.inO_shift d0.1 d0.2 (by omega) (by omega) an (by omega) hD λx y k=>hp (by decide) x y _ _ k (by
   have e:Zc bv bn x y=bn:=by unfold Zc;rw [ZM hx2.2]
   unfold stepV;simp only;simp [e,Int.sub_eq_add_neg])
 .exfalso
  unfold Vm at hx;rcases hk with rfl|rfl|rfl<;>simp at hx
 .exact h.inO_id hD λx y k=>hp (by decide) x y x y k rfl
 .have a0:=Ak r4;have b0:=Ak r5;have o0:1≤op∧op≤6:=ZN r3;show inO (Xc (2,false,Z) op av an bv bn) _
  by_cases hc:av<0∧bv<0
  .have e:∀x y:Int,Zc av an x y=an∧Zc bv bn x y=bn:=λx y=>by unfold Zc;rw [ZM hc.1,ZM hc.2];exact ⟨rfl,rfl⟩
   unfold Xc;rw [ZM hc];split
   .rename_i hcm
    exact h.inO_id hD λx y k=>hp (by decide) x y x y k (by unfold stepV;simp only;rw [(e x y).1,(e x y).2];simp [hcm])
   exact Dt _
  have hx2:op≠4:=by
   unfold Vm at hx;simp at hx
   omega
  obtain ⟨Q,hQ,hC⟩:=h.cut.assume (op:=op) (av:=av) (an:=an) (bv:=bv) (bn:=bn) (by omega) (by omega) (by omega) ⟨by omega,by omega,hx2⟩ n1 n2;rw [hQ];rcases hC with ⟨rfl,_⟩|⟨B,rfl,hB,hpt⟩
  .rw [Ph];exact Dt _
  refine Fk (h.cut_arm hB) hD λx y k=>?_
  obtain ⟨k1,k2⟩:=(hpt x y).1 k;exact hp (by decide) x y x y (h.hasZ.1 k1) (by unfold stepV;simp only;simp [k2])
 .exact h.inO_id hD λx y k=>hp (by decide) x y x y k rfl
 exact Dt _
end
end Gn
end
section
open Gn
theorem Vd.keep {w w':World} {B:Nat} {A:Option Addr} {c:Nat} {N:Int} {M:List Int} (h:Vd w B A c N M) {B':Nat} (hb:Below B' w w') (hB:B≤B') (hs:B≤w'.heap.size):Vd w' w'.heap.size A c N M:=
 (h.below (hb.mono hB)).more hs
end
section
namespace Gn
structure OV where
 N:Int
 E:Bool
 A:Option Addr
 c:Nat
 M:List Int
def OV.val (o:OV):Value:=.agg #[.int .i64 o.N,.bool o.E,.slice o.A o.M.length o.c]
end Gn
open Gn
theorem Vq9 {N:Int} {E:Bool} {M:List Int} (h:Je N E M=0):Zu N:=by
 obtain ⟨_,rfl,_,_⟩:=Zz h;unfold Zu;omega
end
