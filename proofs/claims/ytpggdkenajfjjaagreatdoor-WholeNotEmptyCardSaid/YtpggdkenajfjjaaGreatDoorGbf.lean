/- Lemmas for wholeNotEmpty; no conditions. -/
import Derived.Test.YtpggdkenajfjjaaGreatDoorGbe
import Derived.Test.YtpggdkenajfjjaaGreatDoorGat
set_option linter.all false
set_option maxRecDepth 100000
set_option maxHeartbeats 16000000
namespace Go.Proofs.YtpggdkenajfjjaaGreatDoor
open Go.RowKit Tryz
open Go.Lib renaming hid → Hd
section
namespace Gn
def Xi (up down:Int):Rg:=toR (-down) (decide (down≠9223372036854775807)) up (decide (up≠9223372036854775807))
def inB (N:Int) (xs:List Int):Bool:=xs.all λv=>decide (0≤v∧v<N)
structure Ans where
 r:Rg
 ok:Bool
 e:Int
end Gn
open Gn
theorem Zx3 (n:Int) (w:World):
 Calls prog 258 #[.int .i64 n] w λe w'=>e=.returned (.agg #[.int .i64 n,.bool (decide (n≠9223372036854775807))])∧Below w.heap.size w w':=by
 by_cases h:n=9223372036854775807
 focus
  have d:(n !=9223372036854775807)=false:=bne_eq_false_iff_eq.2 h;rw [ZA (λk=>k h)];clear h;go_enter func258,ntmps258
  go_wp2_with fail
  refine QL (v:=.agg #[.int .i64 n,.bool false]) (by simp [results,results258,go_sem]) rfl ⟨rfl,?_⟩
 rotate_left
 focus
  have d:(n !=9223372036854775807)=true:=bne_iff_ne.2 h;rw [ZE h];clear h;go_enter func258,ntmps258
  go_wp2_with fail
  refine QL (v:=.agg #[.int .i64 n,.bool true]) (by simp [results,results258,go_sem]) rfl ⟨rfl,?_⟩
 all_goals
  repeat (first|exact QK _ _|refine Below.setCell ?_ (by simp) _|refine Below.alloc ?_ (by simp) _)
theorem Zc2 (n:Int) (w:World) (hn:Bd n):
 Calls prog 257 #[.int .i64 n] w λe w'=>(∃m,e=.returned (.agg #[.int .i64 m,.bool (decide (n≠9223372036854775807))])∧(n≠9223372036854775807->m=-n))∧Below w.heap.size w w':=by
 by_cases h:n=9223372036854775807
 .have d:(n==9223372036854775807)=true:=beq_iff_eq.2 h;rw [ZA (λk=>k h)];have H:=Hd h;clear h hn;go_enter func257,ntmps257
  go_wp2_with fail
  refine QL (v:=.agg #[.int .i64 0,.bool false]) (by simp [results,results257,go_sem]) rfl ⟨⟨0,rfl,λk=>absurd H.out k⟩,?_⟩
  repeat (first|exact QK _ _|refine Below.setCell ?_ (by simp) _|refine Below.alloc ?_ (by simp) _)
 have d:(n==9223372036854775807)=false:=beq_eq_false_iff_ne.2 h;rw [ZE h];have hb:-4611686018427387904≤n∧n≤4611686018427387904:=by rcases hn with e|e;exact absurd e h;exact e
 obtain ⟨_,_⟩:=hb;clear h hn;go_enter func257,ntmps257
 go_wp2_with fail
 with_reducible refine (Zg4 (-n) _).mono ?_
 rintro e w2 ⟨rfl,hb⟩;have s0:w.heap.size<w2.heap.size:=by have:=hb.size;simp at this;omega
 have m0:=Qq (p:=⟨w.heap.size,0,none⟩) (v:=.int .i64 0) hb (by simp [QM]);have m1:=Qq (p:=⟨w.heap.size,1,none⟩) (v:=.bool false) hb (by simp [QM]);have mf:∀i,w2.frozen? ⟨w.heap.size,i,none⟩=false:=λi=>(hb.frozen (p:=⟨w.heap.size,i,none⟩) (by simp)).trans (by simp [go_sem])
 have hL:Below w.heap.size w w2:=((QK _ _).alloc (ZH _) _).trans (hb.mono (by simp));clear hb;go_wp2_with fail
 refine QL (v:=.agg #[.int .i64 (-n),.bool true]) (by simp [results,results257,go_sem,m0,m1]) rfl ⟨⟨-n,rfl,λ_=>rfl⟩,?_⟩;exact (hL.setCell (by simp) _).setCell (by simp) _
theorem Vx5 {m n:Int} {p:Bool} {k:Int} {q:Bool} (h:p=true->m=n):toR m p k q=toR n p k q:=by
 unfold toR;cases p
 .rfl
 rw [h rfl]
theorem Fs (n:Nat) (o:OV) (i j:Nat) (w:World) (h:Vd w w.heap.size o.A o.c o.N o.M) (hN:o.N=n) (hk:Je o.N o.E o.M=0) (hi:i<2*n) (hj:j<2*n) (a:Ans) (ha:(if o.E=true then ⟨Rg.none,false,0⟩ else ⟨Xi (Ju (cl (2*n) o.M i j)) (Ju (cl (2*n) o.M (ac i) (ac j))),true,0⟩)=a):
 Calls prog 200 #[.agg #[.int .i64 o.N,.bool o.E,.slice o.A o.M.length o.c],.int .i64 i,.int .i64 j,.func (.func 79) #[] #[]] w λe w'=>e=.returned (.tuple #[.agg #[.int .i64 a.r.lo,.int .i64 a.r.hi,.bool a.r.hl,.bool a.r.hh],.bool a.ok,.int .i64 a.e])∧
  Below w.heap.size w w':=by
 obtain ⟨N,E,A,c,M⟩:=o;dsimp only at*;subst hN;obtain ⟨m,hm,hn64,-⟩:=Zz hk;have:n≤64:=by omega
 clear hm hn64 m;obtain ⟨W,hW,h1,hL,hs⟩:∃W,W=(w.alloc (.cells #[.int .i64 n,.bool E,.slice A M.length c] 32)).alloc (.cells #[.int .i64 0,.int .i64 0,.bool false,.bool false] 112)∧Jy W w.heap.size n E (.slice A M.length c)∧Below w.heap.size w W∧Vr1 W (w.heap.size+1) 0 0 false false:=by
  have b1:Below w.heap.size w (w.alloc (.cells #[.int .i64 n,.bool E,.slice A M.length c] 32)):=(QK _ _).alloc (ZH _) _;have r:=Vr1.new (w.alloc (.cells #[.int .i64 n,.bool E,.slice A M.length c] 32)) 112 0 0 false false;rw [show (w.alloc (.cells #[.int .i64 n,.bool E,.slice A M.length c] 32)).heap.size=w.heap.size+1 by simp] at r;exact ⟨_,rfl,(Jy.box _ _ _ _ _).alloc _,b1.alloc (by simp) _,r⟩
 have hoW:=h.go hL;have hmi:bits .xor .i64 (i:Int) 1=(ac i:Int):=Xp (by omega);have hmj:bits .xor .i64 (j:Int) 1=(ac j:Int):=Xp (by omega);have hai:=Qg hi;have haj:=Qg hj;have:=Hd hk;obtain ⟨k0,k1,k2⟩:=id h1;obtain ⟨r0,r1,r2,r3,rf⟩:=id hs;rcases E with _|_
 rotate_left
 .have HA:Hid (a=⟨Rg.none,false,0⟩):=Hd (by rw [<-ha];rfl);clear hmi hmj ha;go_enter func200,ntmps200
  rw [hW] at k0 k1 k2 r0 r1 r2 r3 rf;clear hk;go_wp2_with fail
  rw [<-hW] at r0 r1 r2 r3 |-
  refine QL (v:=.tuple #[.agg #[.int .i64 0,.int .i64 0,.bool false,.bool false],.bool false,.int .i64 0]) (by simp [results,results200,go_sem,r0,r1,r2,r3]) rfl ⟨by rw [HA.out];rfl,?_⟩;exact hL
 .have hB:∀a b,Bd (cl (2*n) M a b):=λa b=>Zl (Qs9 hk) a b
  have g1:=Qf2 hk hi hj;have g2:=Qf2 hk hai haj;have cG:=λX (hX:Below W.heap.size W X)=>Zf4 n false A c M i j X (hoW.go hX)
  have cH:=λX (hX:Below W.heap.size W X)=>Zf4 n false A c M (ac i) (ac j) X (hoW.go hX)
  have HA:=Hd (show a=⟨Xi (Ju (cl (2*n) M i j)) (Ju (cl (2*n) M (ac i) (ac j))),true,0⟩ by rw [<-ha];rfl);clear ha;simp only [g1] at cG;simp only [g2] at cH;have b1:=hB i j;have b2:=hB (ac i) (ac j);clear g1 g2 hB hk hi hj hai haj;generalize cl (2*n) M i j=up at*;generalize cl (2*n) M (ac i) (ac j)=down at*;have cL:=λX=>Zc2 (Ju (down)) X (Ka _)
  have cU:=λX=>Zx3 (Ju (up)) X
  go_enter func200,ntmps200
  rw [hW] at k0 k1 k2;clear r0 r1 r2 r3 rf b1 b2;go_wp2_with fail
  rw [<-hW];clear hW k0 k1 k2;with_reducible refine (cG _ (QK _ _)).mono ?_
  rintro e _ ⟨rfl,hb⟩;replace h1:=h1.below hb
  have hbW:=hb;replace hs:=hs.go hb
  replace hL:=hL.trans (hb.mono hL.size)
  clear hb cG;obtain ⟨k0,k1,k2⟩:=id h1;go_wp2_with fail
  with_reducible refine (cH _ hbW).mono ?_
  rintro e _ ⟨rfl,hb⟩;replace hs:=hs.go hb
  replace hL:=hL.trans (hb.mono hL.size)
  clear hb cH h1 k0 k1 k2 hbW hmi hmj;go_wp2_with (go_at_call 79;with_reducible refine (Ts _ _).mono ?_;rintro e w' ⟨rfl,rfl⟩)
  with_reducible refine (cL _).mono ?_
  rintro e _ ⟨⟨m,rfl,hm⟩,hb⟩;replace hs:=hs.go hb
  replace hL:=hL.trans (hb.mono hL.size)
  have Hm:=Hd hm;obtain ⟨d1,hd1⟩:∃d,decide (Ju (down)≠9223372036854775807)=d:=⟨_,rfl⟩;rw [hd1];have HD:=Hd hd1;clear hb cL hm hd1;go_wp2_with (go_at_call 79;with_reducible refine (Ts _ _).mono ?_;rintro e w' ⟨rfl,rfl⟩)
  with_reducible refine (cU _).mono ?_
  rintro e w5 ⟨rfl,hb⟩;replace hs:=hs.go hb
  replace hL:=hL.trans (hb.mono hL.size)
  clear hb cU;have cT:=Jn3 m (Ju (up)) d1 (decide (Ju (up)≠9223372036854775807)) w5 (Xi (Ju (up)) (Ju (down))) (by unfold Xi;rw [HD.out];exact (Vx5 (λh=>Hm.out (ZN (HD.out.trans h)))).symm);generalize Xi (Ju (up)) (Ju (down))=R at*;generalize (decide (Ju (up)≠9223372036854775807))=d2 at*;clear Hm;go_wp2_with fail
  with_reducible refine cT.mono ?_
  rintro e _ ⟨rfl,hb⟩;replace hs:=hs.go hb
  replace hL:=hL.trans (hb.mono hL.size)
  clear hb cT;obtain ⟨r0,r1,r2,r3,rf⟩:=id hs;go_wp2_with fail
  refine QL (v:=.tuple #[.agg #[.int .i64 R.lo,.int .i64 R.hi,.bool R.hl,.bool R.hh],.bool true,.int .i64 0]) (by simp [results,results200,go_sem,r0,r1,r2,r3]) rfl ⟨by rw [HA.out],?_⟩;have q:w.heap.size≤w.heap.size+1:=by omega
  exact (((hL.setCell q _).setCell q _).setCell q _).setCell q _
end
namespace Gn
structure Zv where
 nv:Nat
 temps:Int
 sizes:List Int
 points:Int
 exit:Int
 edges:List Ql
def Zv.n (g:Zv):Int:=g.nv+g.temps
def Zf2 (a b:Ql):Bool:=decide (a.av=b.av∧a.an=b.an)&&decide (a.bv=b.bv∧a.bn=b.bn)
def Ut:List Ql->Bool
 |[]=>true
 |[a]=>decide (a.kind≠12)
 |[a,b]=>decide (a.kind=12)&&(decide (b.kind=12)&&(Zf2 a b&&decide (b.op=Ry a.op)))
 |_=>false
def Uh (es:List Ql) (p:Int):List Ql:=es.filter λe=>decide (e.fr=p)
def Xa (g:Zv) (e:Ql):Bool:=decide (0≤e.fr∧e.fr<g.points)&&(decide (0≤e.tg∧e.tg<g.points)&&(decide (e.fr≠g.exit)&&Uv g.n g.sizes.length e))
structure Vj2 (g:Zv):Prop where
 temps:0≤g.temps∧g.temps≤64
 n:g.n≤64
 points:1≤g.points∧g.points≤4096
 edges:g.edges.length≤8192
 arrays:g.sizes.length≤16
 exit:0≤g.exit∧g.exit<g.points
 sizes:∀s∈g.sizes,1≤s∧s≤1024
 right:∀e∈g.edges,Xa g e=true
 fork:∀p:Nat,(p:Int)<g.points->Ut (Uh g.edges p)=true
def noE:Ql:=⟨0,0,0,0,0,0,0,0,0,0⟩
def Qx (es:List Ql) (i:Nat):Ql:=es.getD i noE
theorem Vp9 {es:List Ql} {i:Nat} (h:i<es.length):Qx es i∈es:=by unfold Qx;simp [h]
def Vk (e:Ql) (x y:Int):Bool:=decide (e.kind≠12)||Fe e.op (Zc e.av e.an x y) (Zc e.bv e.bn x y)
def Vq (p x y:Int):List Ql->Nat->Int
 |[],_=>-1
 |e::es,k=>if e.fr=p∧Vk e x y=true then k else Vq p x y es (k+1)
theorem Qy7 (p x y:Int):∀(es:List Ql) (k i:Nat),i<es.length->(Qx es i).fr=p->Vk (Qx es i) x y=true->(∀j,j<i->¬((Qx es j).fr=p∧Vk (Qx es j) x y=true))->Vq p x y es k=((k+i:Nat):Int)
 |[],_,_,h,_,_,_=>by simp at h
 |e::es,k,0,_,h1,h2,_=>by
  have h1':e.fr=p:=h1;have h2':Vk e x y=true:=h2;unfold Vq;rw [ZM ⟨h1',h2'⟩];rfl
 |e::es,k,i+1,h,h1,h2,h3=>by
  have h0:¬(e.fr=p∧Vk e x y=true):=h3 0 (by omega);unfold Vq;rw [ZL h0,Qy7 p x y es (k+1) i (by simpa using h) h1 h2 (λj hj=>h3 (j+1) (by omega))];omega
theorem Jt7 (op a b:Int) (h:1≤op∧op≤6):Fe (Ry op) a b=!Fe op a b:=by
 rcases (show op=1∨op=2∨op=3∨op=4∨op=5∨op=6 by omega) with rfl|rfl|rfl|rfl|rfl|rfl<;>(simp [Fe,Ry];try (rw [Bool.eq_iff_iff];simp;try omega))
theorem Jf8 {es:List Ql} {p:Int} (hf:Ut (Uh es p)=true) {i j:Nat} (hij:j<i) (hi:i<es.length) (hpi:(Qx es i).fr=p) (hpj:(Qx es j).fr=p) (ho:1≤(Qx es j).op∧(Qx es j).op≤6∨(Qx es j).kind≠12) {x y:Int} (h1:Vk (Qx es i) x y=true) (h2:Vk (Qx es j) x y=true):False:=by
 have hs:[Qx es j,Qx es i].Sublist es:=by
  have e:es=es.take i++es.drop i:=(List.take_append_drop i es).symm;have hm1:[Qx es j].Sublist (es.take i):=by
   rw [List.singleton_sublist];unfold Qx;rw [List.mem_take_iff_getElem];exact ⟨j,by omega,by simp [show j<es.length by omega]⟩
  have hm2:[Qx es i].Sublist (es.drop i):=by
   rw [List.singleton_sublist,List.mem_drop_iff_getElem];exact ⟨0,by omega,by unfold Qx;simp [hi]⟩
  have:=hm1.append hm2
  rw [List.take_append_drop] at this;exact this
 have hs2:[Qx es j,Qx es i].Sublist (Uh es p):=by
  have:=hs.filter (λe=>decide (e.fr=p))
  rw [List.filter_cons_of_pos (by simpa using hpj),List.filter_cons_of_pos (by simpa using hpi)] at this;exact this
 have hlen:=hs2.length_le;generalize hF:Uh es p=F at*;match F,hlen,hf,hs2 with
 |[],hlen,_,_=>simp at hlen
 |[a],hlen,_,_=>simp at hlen
 |[a,b],_,hf,hs2=>
  have e:=hs2.eq_of_length (by simp);injection e with e1 e2;injection e2 with e2 _;subst e1 e2;unfold Ut Zf2 at hf;simp only [ZX,ZU] at hf;obtain ⟨k1,k2,⟨⟨q1,q2⟩,q3,q4⟩,k4⟩:=hf;unfold Vk at h1 h2;rw [ZA (λk=>k k1),Bool.false_or] at h2;rw [ZA (λk=>k k2),Bool.false_or,k4,<-q1,<-q2,<-q3,<-q4,Jt7 _ _ _ (by omega),h2] at h1;cases h1
 |a::b::c::l,_,hf,_=>simp [Ut] at hf
theorem Jy5 {g:Zv} (hg:Vj2 g) {i:Nat} (hi:i<g.edges.length) {x y:Int} (h:Vk (Qx g.edges i) x y=true):Vq (Qx g.edges i).fr x y g.edges 0=i:=by
 have hr:=hg.right _ (Vp9 hi);unfold Xa at hr;simp only [ZX,ZU] at hr;obtain ⟨⟨_,_⟩,_,_,_⟩:=hr;have hf:=hg.fork (Qx g.edges i).fr.toNat (by omega);rw [show (((Qx g.edges i).fr.toNat:Nat):Int)=(Qx g.edges i).fr by omega] at hf;have:=Qy7 (Qx g.edges i).fr x y g.edges 0 i hi rfl h (λj hj hh=>by
  refine Jf8 hf hj hi rfl hh.1 ?_ h hh.2;have hr2:=hg.right _ (Vp9 (show j<g.edges.length by omega));unfold Xa at hr2;simp only [ZX] at hr2;have hr3:=(Yh hr2.2.2.2).2.2.2.1;by_cases hk:(Qx g.edges j).kind=12
  .left
   rw [hk] at hr3;exact ZN hr3
  exact .inr hk)
 rw [this,Nat.zero_add]
theorem Qg9 {e:Ql} {x y u v:Int} (h:stepV e x y=some (u,v)):Vk e x y=true:=by
 unfold Vk;by_cases hk:e.kind=12
 .unfold stepV at h;rw [ZM hk] at h;split at h
  .rename_i hc;rw [hc,Bool.or_true]
  cases h
 rw [ZE hk,Bool.true_or]
def Uj (n:Nat) (M:List Int) (v x:Int):Rg:=if 0≤v then Xi (Ju (cl (2*n) M (2*v.toNat) (2*v.toNat+1))) (Ju (cl (2*n) M (2*v.toNat+1) (2*v.toNat))) else ⟨x,x,true,true⟩
def Sh (r:Rg):Int:=if r.hl=true then r.lo else -9223372036854775808
def Tg (r:Rg):Int:=if r.hh=true then r.hi else 9223372036854775807
def Wf (x:Int):Bool:=decide (-9223372036854775808≤x∧x≤9223372036854775807)
def Wi (kind:Int) (a b:Rg):Bool:=
 if Sh a>Tg a∨Sh b>Tg b then false
 else if kind=3 then decide (Sh a>-9223372036854775808)
 else if kind=4 then Wf (Sh a+Sh b)&&Wf (Tg a+Tg b)
 else if kind=5 then Wf (Sh a - Tg b)&&Wf (Tg a - Sh b)
 else false
def Oi (r:Rg) (size:Int):Bool:=r.hl&&(r.hh&&(decide (0≤r.lo)&&decide (r.hi<size)))
def Ae (P:Zj) (e:Ql) (size:Int):Bool:=
 if P.2.1=true then true
 else if e.kind=14 then false
 else if e.kind=11 then Oi (Uj P.1.toNat P.2.2 e.av e.an) size
 else if e.kind=3 then Wi 3 (Uj P.1.toNat P.2.2 e.av e.an) Rg.none
 else if e.kind=4∨e.kind=5 then Wi e.kind (Uj P.1.toNat P.2.2 e.av e.an) (Uj P.1.toNat P.2.2 e.bv e.bn)
 else true
end Gn
namespace Gn
def Cg (P:Zj):Prop:=P=Vt 2∨∃M,P=(2,false,M)∧M.length=(2*2)*(2*2)∧Yo (2*2) M∧(∀a,a<4->cl 4 M a (ac a)≤8)∧Ko (2*2) 1125899906842624 M
theorem Cg.cases {P:Zj} (h:Cg P):(∃M Z,P=(2,false,M)∧Nl M Z∧Qo P=(2,false,Z))∨Qo P=Vt 2:=by
 rcases h with rfl|⟨M,rfl,hl,ok,h8,fin⟩
 .exact .inr Ph
 rcases hB:Zb (2*2) M with ⟨_|ZB,s⟩
 .exact .inr (Zq8 hl ok hB)
 have hs:s=false:=by have:=Qb4 hl ok fin;rw [hB] at this;exact this
 subst hs;exact .inl ⟨M,ZB,rfl,⟨hl,ok,hB,h8,fin⟩,Zy8 hl ok hB⟩
theorem Cg.again {P:Zj} (h:Cg P):Qo (Qo P)=Qo P:=by
 rcases h.cases with ⟨M,Z,rfl,hs,e⟩|e
 .rw [e];exact hs.again
 rw [e];exact Ph
theorem Cg.chk {P:Zj} (h:Cg P):P.1=2∧Gn.Je (2:Nat) P.2.1 P.2.2=0:=by
 rcases h with rfl|⟨M,rfl,hl,ok,_,_⟩
 .exact ⟨rfl,by decide⟩
 exact ⟨rfl,Ox hl ok⟩
theorem Vv4 {M:List Int} (h8:∀a,a<4->cl 4 M a (ac a)≤8) {x y:Int} (h:Zr 4 M [x,y]):(-4≤x∧x≤4)∧-4≤y∧y≤4:=by
 have k:=λ(a:Nat) (ha:a<4) (hb:ac a<4)=>h a ha (ac a) hb
 have k0:=k 0 (by omega) (by decide);have k1:=k 1 (by omega) (by decide);have k2:=k 2 (by omega) (by decide);have k3:=k 3 (by omega) (by decide);have:=h8 0 (by omega);have:=h8 1 (by omega);have:=h8 2 (by omega);have:=h8 3 (by omega);unfold Cr at k0 k1 k2 k3;have s0:Qc [x,y] 0 (ac 0)=x - -x:=rfl;have s1:Qc [x,y] 1 (ac 1)=-x - x:=rfl;have s2:Qc [x,y] 2 (ac 2)=y - -y:=rfl;have s3:Qc [x,y] 3 (ac 3)=-y - y:=rfl;rw [s0] at k0;rw [s1] at k1;rw [s2] at k2;rw [s3] at k3;omega
structure Nj (g:Zv) (os:Nat->Zj) (i:Nat) (size:Int):Prop where
 ex:Vm (Qx g.edges i)=true
 h9:(Qx g.edges i).kind≠9
 h10:(Qx g.edges i).kind≠10
 n1:Vz (Qx g.edges i).an
 n2:Vz (Qx g.edges i).bn
 safe:Ae (Qo (os (Qx g.edges i).fr.toNat)) (Qx g.edges i) size=true
 pts:∀x y u v,Ys (2:Nat) (os (Qx g.edges i).fr.toNat).2.1 (os (Qx g.edges i).fr.toNat).2.2 [x,y]=true->-4≤x∧x≤4->-4≤y∧y≤4->Vq (Qx g.edges i).fr x y g.edges 0=i->
  stepV (Qx g.edges i) x y=some (u,v)->(Qx g.edges i).kind≠14->Ys (2:Nat) (os (Qx g.edges i).tg.toNat).2.1 (os (Qx g.edges i).tg.toNat).2.2 [u,v]=true
theorem Xo {g:Zv} (hg:Vj2 g) {i:Nat} (hi:i<g.edges.length):0≤(Qx g.edges i).fr∧(Qx g.edges i).fr<g.points∧0≤(Qx g.edges i).tg∧(Qx g.edges i).tg<g.points∧Uv g.n g.sizes.length (Qx g.edges i)=true:=by
 have hr:=hg.right _ (Vp9 hi);unfold Xa at hr;simp only [ZX,ZU] at hr;exact ⟨hr.1.1,hr.1.2,hr.2.1.1,hr.2.1.2,hr.2.2.2⟩
theorem Vq4 {g:Zv} (hg:Vj2 g) (hn:g.n=2) {os:Nat->Zj} (ho:∀p:Nat,(p:Int)<g.points->Cg (os p)) {i:Nat} (hi:i<g.edges.length) {size:Int} (hb:Nj g os i size):
 inO (Ym (Qo (os (Qx g.edges i).fr.toNat)) (Qx g.edges i)) (Qo (os (Qx g.edges i).tg.toNat)):=by
 obtain ⟨_,_,_,_,hr⟩:=Xo hg hi;have hF:=ho (Qx g.edges i).fr.toNat (by omega);have hT:=ho (Qx g.edges i).tg.toNat (by omega);unfold Ym;rw [hF.again];rcases hF.cases with ⟨M,Z,hM,hs,e⟩|e
 .rw [e];rw [ZL (by simp)];obtain ⟨c1,c2⟩:=hT.chk;have eT:os (Qx g.edges i).tg.toNat=(2,(os (Qx g.edges i).tg.toNat).2.1,(os (Qx g.edges i).tg.toNat).2.2):=by rw [<-c1]
  rw [hn] at hr;rw [eT];refine Jy1 hs hr hb.ex hb.h9 hb.h10 hb.n1 hb.n2 c2 λh14 x y u v hxy hst=>?_
  obtain ⟨w1,w2⟩:=Vv4 hs.h8 hxy;refine hb.pts x y u v ?_ w1 w2 (Jy5 hg hi (Qg9 hst)) hst h14;rw [hM];exact ZE ⟨Ox hs.hl hs.ok,rfl,rfl,hxy⟩
 rw [e];exact Dt _
theorem Jz6 {g:Zv} (hg:Vj2 g) {os:Nat->Zj} (ho:∀p:Nat,(p:Int)<g.points->Cg (os p)) {i:Nat} (hi:i<g.edges.length) {size:Int} (hb:Nj g os i size):
 Ae (Qo (Qo (os (Qx g.edges i).fr.toNat))) (Qx g.edges i) size=true:=by
 obtain ⟨_,_,_⟩:=Xo hg hi;rw [(ho (Qx g.edges i).fr.toNat (by omega)).again];exact hb.safe
def Hu:List Int:=List.replicate 16 0
theorem Jd7:Qo (2,false,Hu)=(2,false,Hu):=by decide+kernel
theorem Zv4 {P:Zj} (h:Cg P) (h0:Ys (2:Nat) P.2.1 P.2.2 [0,0]=true):inO (2,false,Hu) (Qo P):=by
 obtain ⟨_,hE,_,hM⟩:=Qb3 h0;rcases h with rfl|⟨M,rfl,hl,ok,h8,fin⟩
 .cases hE
 rcases hB:Zb (2*2) M with ⟨_|ZB,s⟩
 .exact absurd hM (Zg5 hl ok hB)
 have hs:s=false:=by have:=Qb4 hl ok fin;rw [hB] at this;exact this
 subst hs;have hZ:Zr 4 ZB [0,0]:=(Nl.hasZ ⟨hl,ok,hB,h8,fin⟩).2 hM;rw [Zy8 hl ok hB];show Qv3 2 false Hu false ZB=true
 unfold Qv3;rw [show clo 2 false Hu=(2,false,Hu) from Jd7];unfold Ei;simp only [Bool.false_or,Bool.not_false,Bool.true_and,ZU];intro k hk;have hk:k<16:=hk;have e:Qe Hu k=0:=by
  have:∀k,k<16->Qe Hu k=0:=by decide
  exact this k hk
 rw [e];have:=hZ (k / 4) (by omega) (k % 4) (by omega)
 unfold Cr cl at this;rw [show k / 4*4+k % 4=k by omega] at this;have ha:Qc [0,0] (k / 4) (k % 4)=0:=by
  unfold Qc Zo;rcases (show k / 4 / 2=0∨k / 4 / 2=1 by omega) with q|q<;>rcases (show k % 4 / 2=0∨k % 4 / 2=1 by omega) with r|r<;>rw [q,r]<;>(repeat' split)<;>rfl
 rw [ha] at this;omega
end Gn
section
open Gn
theorem Vr1.put {w:World} {b:Nat} {l h:Int} {p q:Bool} (k:Vr1 w b l h p q) (l' h':Int) (p' q':Bool):Vr1 ((((w.setCell ⟨b,0,none⟩ (.int .i64 l')).setCell ⟨b,1,none⟩ (.int .i64 h')).setCell ⟨b,2,none⟩ (.bool p')).setCell ⟨b,3,none⟩ (.bool q')) b l' h' p' q':=
 ⟨by simp [go_sem,k.c0,k.c1,k.c2,k.c3],by simp [go_sem,k.c0,k.c1,k.c2,k.c3],by simp [go_sem,k.c0,k.c1,k.c2,k.c3],by simp [go_sem,k.c0,k.c1,k.c2,k.c3],λi=>by simp [go_sem,k.fz]⟩
theorem Bc {w X:World} {b:Nat} (hL:Below w.heap.size w X) (hb:w.heap.size≤b) (v0 v1 v2 v3:Value):Below w.heap.size w ((((X.setCell ⟨b,0,none⟩ v0).setCell ⟨b,1,none⟩ v1).setCell ⟨b,2,none⟩ v2).setCell ⟨b,3,none⟩ v3):=
 (((hL.setCell hb _).setCell hb _).setCell hb _).setCell hb _
theorem Qm3 (hi lo:Int) (w:World) (hl:Bd lo):
 Calls prog 106 #[.int .i64 hi,.int .i64 lo] w λe w'=>e=.returned (.agg #[.int .i64 (Xi hi lo).lo,.int .i64 (Xi hi lo).hi,.bool (Xi hi lo).hl,.bool (Xi hi lo).hh])∧Below w.heap.size w w':=by
 obtain ⟨R,hR⟩:∃R,R=Xi hi lo:=⟨_,rfl⟩;rw [<-hR];unfold Xi at hR;by_cases h1:hi=9223372036854775807<;>by_cases h2:lo=9223372036854775807
 focus
  have d1:(hi !=9223372036854775807)=false:=bne_eq_false_iff_eq.2 h1;have d2:(lo !=9223372036854775807)=false:=bne_eq_false_iff_eq.2 h2;have HF:=Hd (show R=⟨0,0,false,false⟩ by rw [hR,ZA (λk=>k h2),ZA (λk=>k h1)];rfl);clear h1 h2 hR hl;go_enter func106,ntmps106
  go_wp2_with fail
  refine QL (v:=.agg #[.int .i64 0,.int .i64 0,.bool false,.bool false]) (by simp [results,results106,go_sem]) rfl ⟨Jr4 HF.out,?_⟩
 rotate_left
 focus
  have d1:(hi !=9223372036854775807)=false:=bne_eq_false_iff_eq.2 h1;have d2:(lo !=9223372036854775807)=true:=bne_iff_ne.2 h2;have HF:=Hd (show R=⟨-lo,0,true,false⟩ by rw [hR,ZE h2,ZA (λk=>k h1)];rfl);have hb:-4611686018427387904≤lo∧lo≤4611686018427387904:=by rcases hl with e|e;exact absurd e h2;exact e
  obtain ⟨b1,b2⟩:=hb;clear h1 h2 hR hl;go_enter func106,ntmps106
  go_wp2_with fail
  refine QL (v:=.agg #[.int .i64 (-lo),.int .i64 0,.bool true,.bool false]) (by simp [results,results106,go_sem]) rfl ⟨Jr4 HF.out,?_⟩
 rotate_left
 focus
  have d1:(hi !=9223372036854775807)=true:=bne_iff_ne.2 h1;have d2:(lo !=9223372036854775807)=false:=bne_eq_false_iff_eq.2 h2;have HF:=Hd (show R=⟨0,hi,false,true⟩ by rw [hR,ZA (λk=>k h2),ZE h1];rfl);clear h1 h2 hR hl;go_enter func106,ntmps106
  go_wp2_with fail
  refine QL (v:=.agg #[.int .i64 0,.int .i64 hi,.bool false,.bool true]) (by simp [results,results106,go_sem]) rfl ⟨Jr4 HF.out,?_⟩
 rotate_left
 focus
  have d1:(hi !=9223372036854775807)=true:=bne_iff_ne.2 h1;have d2:(lo !=9223372036854775807)=true:=bne_iff_ne.2 h2;have HF:=Hd (show R=⟨-lo,hi,true,true⟩ by rw [hR,ZE h2,ZE h1];rfl);have hb:-4611686018427387904≤lo∧lo≤4611686018427387904:=by rcases hl with e|e;exact absurd e h2;exact e
  obtain ⟨b1,b2⟩:=hb;clear h1 h2 hR hl;go_enter func106,ntmps106
  go_wp2_with fail
  refine QL (v:=.agg #[.int .i64 (-lo),.int .i64 hi,.bool true,.bool true]) (by simp [results,results106,go_sem]) rfl ⟨Jr4 HF.out,?_⟩
 all_goals
  repeat (first|exact QK _ _|refine Below.setCell ?_ (by simp;omega) _|refine Below.alloc ?_ (by simp;omega) _|refine Below.setCell ?_ (by simp) _|refine Below.alloc ?_ (by simp) _)
theorem Px (n:Nat) (A:Option Addr) (c:Nat) (M:List Int) (i j:Nat) (w:World) (h:Vd w w.heap.size A c n M) (hn:n≤64) (hM:M.length=(2*n)*(2*n)) (hi:i<2*n) (hj:j<2*n):
 Calls prog 107 #[.agg #[.int .i64 n,.bool false,.slice A M.length c],.int .i64 i,.int .i64 j] w λe w'=>e=.returned (.int .i64 (cl (2*n) M i j))∧Below w.heap.size w w':=by
 obtain ⟨_,hW,h1,hB,_⟩:=Cd w 32 n false (.slice A M.length c);have hoW:=h.go hB;have:M.length≤16384:=by rw [hM,Bz];exact Sc hn
 have hp:i*(2*n)+j<M.length:=by rw [hM];exact Zy hi hj
 obtain ⟨_,_,rfl,_,hcell⟩:=hoW.rd (by omega);have hcv:=hcell _ hp;have:(i:Int)*2*(n:Int)=((i*(2*n):Nat):Int):=by push_cast;rw [Int.mul_assoc]
 have hbd:cl (2*n) M i j=Qe M (i*(2*n)+j):=rfl;rw [hbd];have:i<1000:=by omega
 clear hbd hcell hM h hoW hn;generalize Qe M (i*(2*n)+j)=v at*;generalize i*(2*n)=p at*;obtain ⟨k0,k1,k2⟩:=id h1;go_enter func107,ntmps107
 rw [hW] at k0 k1 k2 hcv;have:((p:Int)+(j:Int))<(M.length:Int):=by omega
 have:(0:Int)≤(p:Int)+(j:Int):=by omega
 go_wp2_with fail
 rw [<-hW];go_ret
 exact ⟨rfl,hB⟩
theorem Ve1 (w:World) (t t':TypeId) (N:Int) (E:Bool) (v:Value):∃W,W=(w.alloc (.cells #[.int .i64 N,.bool E,v] t)).alloc (.cells #[.int .i64 0,.int .i64 0,.bool false,.bool false] t')∧Jy W w.heap.size N E v∧Below w.heap.size w W∧Vr1 W (w.heap.size+1) 0 0 false false∧W.heap.size=w.heap.size+1+1:=by
 have b1:Below w.heap.size w (w.alloc (.cells #[.int .i64 N,.bool E,v] t)):=(QK _ _).alloc (ZH _) _;have r:=Vr1.new (w.alloc (.cells #[.int .i64 N,.bool E,v] t)) t' 0 0 false false;rw [show (w.alloc (.cells #[.int .i64 N,.bool E,v] t)).heap.size=w.heap.size+1 by simp] at r;exact ⟨_,rfl,(Jy.box _ _ _ _ _).alloc _,b1.alloc (by simp) _,r,by simp⟩
theorem Zs4 (n:Nat) (A:Option Addr) (c:Nat) (M:List Int) (v:Nat) (w:World) (h:Vd w w.heap.size A c n M) (hk:Je n false M=0) (hv:v<n) (R:Rg) (hR:Xi (Ju (cl (2*n) M (2*v) (2*v+1))) (Ju (cl (2*n) M (2*v+1) (2*v)))=R):
 Calls prog 103 #[.agg #[.int .i64 n,.bool false,.slice A M.length c],.int .i64 v] w λe w'=>e=.returned (.agg #[.int .i64 R.lo,.int .i64 R.hi,.bool R.hl,.bool R.hh])∧Below w.heap.size w w':=by
 obtain ⟨m,hm,hn64,-,hl⟩:=Zz hk;obtain rfl:m=n:=by omega
 have hM:=(hl rfl).1;rw [<-Bz] at hM;obtain ⟨W,hW,h1,hL,hs,_⟩:=Ve1 w 32 112 m false (.slice A M.length c);have hoW:=h.go hL;have hBd:∀a b,Bd (cl (2*m) M a b):=λa b=>Zl (Qs9 hk) a b
 have cA:=λx:Qz W=>Px m A c M (2*v) (2*v+1) x.w (hoW.go x.below) hn64 hM (by omega) (by omega)
 have cB:=λx:Qz W=>Px m A c M (2*v+1) (2*v) x.w (hoW.go x.below) hn64 hM (by omega) (by omega)
 push_cast at cA cB
 have cS:=λX=>Qm3 (Ju (cl (2*m) M (2*v) (2*v+1))) (Ju (cl (2*m) M (2*v+1) (2*v))) X (Ka _)
 rw [hR] at cS;clear hR hBd hk hl hm;generalize cl (2*m) M (2*v) (2*v+1)=up at*;generalize cl (2*m) M (2*v+1) (2*v)=down at*;obtain ⟨k0,k1,k2⟩:=id h1;have:v<64:=by omega
 clear hM hoW h;go_enter func103,ntmps103
 rw [hW] at k0 k1 k2;go_wp2_with fail
 rw [<-hW] at k0 k1 k2 |-
 have a0:=Qz.cell k0;have a1:=Qz.cell k1;have a2:=Qz.cell k2;clear hW k0 k1 k2;refine Qb [(16,2)] (by kernel_rfl) (by kernel_rfl) ?_;simp only [Jl,ZP,ZQ,ZR,ZT]
 repeat (go_big_quiet_step (first|(go_at_call 107;with_reducible exact Qd (cA _))|(go_at_call 107;with_reducible exact Qd (cB _))|(go_at_call 101;with_reducible exact Qw (Qq7 _ _))))
 refine wpQuiet_nil ?_;intro w2 hb;replace hs:=hs.go hb
 replace hL:=hL.trans (hb.mono hL.size)
 clear hb a0 a1 a2 cA cB;go_wp2_with fail
 with_reducible refine (cS _).mono ?_
 clear cS;rintro e _ ⟨rfl,hb⟩;replace hs:=hs.go hb
 replace hL:=hL.trans (hb.mono hL.size)
 clear hb;have hP:=Hd (hs.put R.lo R.hi R.hl R.hh);have hL2:=Hd (Bc (b:=w.heap.size+1) hL (by omega) (.int .i64 R.lo) (.int .i64 R.hi) (.bool R.hl) (.bool R.hh));obtain ⟨r0,r1,r2,r3,rf⟩:=id hs;clear hs hL;go_wp2_with fail
 refine Qu (wpQuiet_nil ?_);intro w4 hb;have hP4:=hP.out.go hb;have hL4:=(Ht hL2 hb).out;clear r0 r1 r2 r3 rf hb;obtain ⟨r0,r1,r2,r3,rf⟩:=id hP4;have:=hP4.lt;go_wp2_with fail
 refine QL (v:=.agg #[.int .i64 R.lo,.int .i64 R.hi,.bool R.hl,.bool R.hh]) (by simp [results,results103,go_sem,r0,r1,r2,r3]) rfl ⟨rfl,?_⟩;exact hL4
theorem Jx9 (x:Int) (w:World):Calls prog 102 #[.int .i64 x] w λe w'=>e=.returned (.agg #[.int .i64 x,.int .i64 x,.bool true,.bool true])∧Below w.heap.size w w':=by
 go_enter func102,ntmps102
 go_wp2_with fail
 refine QL (v:=.agg #[.int .i64 x,.int .i64 x,.bool true,.bool true]) (by simp [results,results102,go_sem]) rfl ⟨rfl,?_⟩
 repeat (first|exact QK _ _|refine Below.setCell ?_ (by simp;omega) _|refine Below.alloc ?_ (by simp;omega) _|refine Below.setCell ?_ (by simp) _|refine Below.alloc ?_ (by simp) _)
theorem Zs2 (w:World) (t t1 t':TypeId) (N:Int) (E:Bool) (v:Value) (a b:Int):∃W,W=((w.alloc (.cells #[.int .i64 N,.bool E,v] t)).alloc (.cells #[.int .i64 a,.int .i64 b] t1)).alloc (.cells #[.int .i64 0,.int .i64 0,.bool false,.bool false] t')∧Jy W w.heap.size N E v∧
 W.cell? ⟨w.heap.size+1,0,none⟩=some (.int .i64 a)∧W.cell? ⟨w.heap.size+1,1,none⟩=some (.int .i64 b)∧Below w.heap.size w W∧Vr1 W (w.heap.size+1+1) 0 0 false false∧W.heap.size=w.heap.size+1+1+1:=by
 have b1:Below w.heap.size w (w.alloc (.cells #[.int .i64 N,.bool E,v] t)):=(QK _ _).alloc (ZH _) _;have b2:=b1.alloc (by simp) (.cells #[.int .i64 a,.int .i64 b] t1);have r:=Vr1.new ((w.alloc (.cells #[.int .i64 N,.bool E,v] t)).alloc (.cells #[.int .i64 a,.int .i64 b] t1)) t' 0 0 false false;rw [show ((w.alloc (.cells #[.int .i64 N,.bool E,v] t)).alloc (.cells #[.int .i64 a,.int .i64 b] t1)).heap.size=w.heap.size+1+1 by simp] at r;have e:(w.alloc (.cells #[.int .i64 N,.bool E,v] t)).heap.size=w.heap.size+1:=by simp
 have q0:((w.alloc (.cells #[.int .i64 N,.bool E,v] t)).alloc (.cells #[.int .i64 a,.int .i64 b] t1)).cell? ⟨w.heap.size+1,0,none⟩=some (.int .i64 a):=by rw [<-e];simp [QM]
 have q1:((w.alloc (.cells #[.int .i64 N,.bool E,v] t)).alloc (.cells #[.int .i64 a,.int .i64 b] t1)).cell? ⟨w.heap.size+1,1,none⟩=some (.int .i64 b):=by rw [<-e];simp [QM]
 refine ⟨_,rfl,((Jy.box _ _ _ _ _).alloc _).alloc _,?_,?_,b2.alloc (by simp;omega) _,r,by simp⟩
 .exact Qq ((QK _ _).alloc (ZH _) _) q0
 exact Qq ((QK _ _).alloc (ZH _) _) q1
theorem Dx (n:Nat) (A:Option Addr) (c:Nat) (M:List Int) (v x:Int) (w:World) (h:Vd w w.heap.size A c n M) (hk:Je n false M=0) (hv:v<n) (R:Rg)
 (hR:(if 0≤v then Xi (Ju (cl (2*n) M (2*v.toNat) (2*v.toNat+1))) (Ju (cl (2*n) M (2*v.toNat+1) (2*v.toNat))) else ⟨x,x,true,true⟩)=R):
 Calls prog 55 #[.agg #[.int .i64 n,.bool false,.slice A M.length c],.agg #[.int .i64 v,.int .i64 x]] w λe w'=>e=.returned (.agg #[.int .i64 R.lo,.int .i64 R.hi,.bool R.hl,.bool R.hh])∧Below w.heap.size w w':=by
 obtain ⟨W,hW,h1,o0,o1,hL,hs,_⟩:=Zs2 w 32 54 112 n false (.slice A M.length c) v x;have hoW:=h.go hL;have HSz:Hid (w.heap.size≤w.heap.size+1+1):=Hd (by omega);by_cases h0:0≤v
 .rw [ZM h0] at hR;obtain ⟨k,rfl⟩:=ZV h0;rw [Int.toNat_natCast] at hR;have cV:=Zs4 n A c M k W hoW hk (by omega) R hR;have q:((k:Int)<0)=False:=eq_false (by omega);obtain ⟨k0,k1,k2⟩:=id h1;obtain ⟨r0,r1,r2,r3,rf⟩:=id hs;clear hR hk hv hoW h;go_enter func55,ntmps55
  rw [hW] at k0 k1 k2 o0 o1 r0 r1 r2 r3 rf;go_wp2_with fail
  rw [<-hW];clear hW k0 k1 k2 r0 r1 r2 r3 rf o0 o1;with_reducible refine cV.mono ?_
  clear cV;rintro e w3 ⟨rfl,hb⟩;replace hs:=hs.go hb
  replace hL:=hL.trans (hb.mono hL.size)
  clear hb;obtain ⟨r0,r1,r2,r3,rf⟩:=id hs;go_wp2_with fail
  refine QL (v:=.agg #[.int .i64 R.lo,.int .i64 R.hi,.bool R.hl,.bool R.hh]) (by simp [results,results55,go_sem,r0,r1,r2,r3]) rfl ⟨rfl,?_⟩;exact Bc hL HSz.out _ _ _ _
 .rw [ZL h0] at hR;have cO:=Jx9 x W;have q:v<0:=by omega
  obtain ⟨k0,k1,k2⟩:=id h1;obtain ⟨r0,r1,r2,r3,rf⟩:=id hs;have HR:=Hd hR.symm;clear hR hk hv hoW h;go_enter func55,ntmps55
  rw [hW] at k0 k1 k2 o0 o1 r0 r1 r2 r3 rf;go_wp2_with fail
  rw [<-hW];clear hW k0 k1 k2 r0 r1 r2 r3 rf o0 o1;with_reducible refine cO.mono ?_
  clear cO;rintro e w3 ⟨rfl,hb⟩;replace hs:=hs.go hb
  replace hL:=hL.trans (hb.mono hL.size)
  clear hb;obtain ⟨r0,r1,r2,r3,rf⟩:=id hs;go_wp2_with fail
  refine QL (v:=.agg #[.int .i64 x,.int .i64 x,.bool true,.bool true]) (by simp [results,results55,go_sem,r0,r1,r2,r3]) rfl ⟨Jr4 HR.out,?_⟩;exact Bc hL HSz.out _ _ _ _
end
section
namespace Gn
structure Rp where
 A:Option Addr
 c:Nat
 x:List Int
instance :Inhabited Rp:=⟨⟨none,0,[]⟩⟩
def Yq (ls:List Rp) (i:Nat):Rp:=ls.getD i default
theorem Vs1 {ls:List Rp} {i:Nat} (h:i<ls.length):ls[i]? =some (Yq ls i):=by
 unfold Yq;rw [ZG,ZF h];rfl
theorem Jp2 {ls:List Rp} {i:Nat} (h:i<ls.length):Yq ls i∈ls:=List.mem_of_getElem? (Vs1 h)
theorem Je3 {ls:List Rp} {i:Nat} (h:i<ls.length):ls.take (i+1)=ls.take i++[Yq ls i]:=by
 have:=Vs1 h
 rw [ZF h] at this;injection this with this;rw [List.take_succ_eq_append_getElem h,this]
def Ih (N:Int) (ls:List Rp):Bool:=ls.any λr=>decide ((r.x.length:Int)≠N)
theorem Zf3 {N:Int} {ls:List Rp} {i:Nat} (h:i<ls.length) (hne:((Yq ls i).x.length:Int)≠N):Ih N ls=true:=
 List.any_eq_true.2 ⟨_,Jp2 h,ZE hne⟩
theorem Zr8 {N:Int} {ls:List Rp} (h:∀i,i<ls.length->((Yq ls i).x.length:Int)=N):Ih N ls=false:=by
 cases e:Ih N ls
 .rfl
 obtain ⟨_,hr,hn⟩:=List.any_eq_true.1 e;obtain ⟨i,hi⟩:=List.mem_iff_getElem?.1 hr;have hl:i<ls.length:=(List.getElem?_eq_some_iff.1 hi).1;rw [Vs1 hl] at hi;injection hi with hi;exact absurd (hi▸h i hl) (ZN hn)
theorem Zz9 {N:Int} {ls:List Rp} (h:Ih N ls=false) {i:Nat} (hi:i<ls.length):((Yq ls i).x.length:Int)=N:=by
 refine Decidable.byContradiction λk=>?_
 rw [Zf3 hi k] at h;cases h
def Uw (ls:List Rp) (i j:Nat):Int:=ls.foldl (λm r=>max m (Nx (Qc r.x i j))) (-4611686018427387904)
theorem Zu4 (ls:List Rp) (r:Rp) (i j:Nat):Uw (ls++[r]) i j=max (Uw ls i j) (Nx (Qc r.x i j)):=by simp [Uw]
theorem Zy9 {ls:List Rp} {k:Nat} (h:k<ls.length) (i j:Nat):Uw (ls.take (k+1)) i j=max (Uw (ls.take k) i j) (Nx (Qc (Yq ls k).x i j)):=by
 rw [Je3 h,Zu4]
def fS (m:Nat) (f:Nat->Nat->Int) (i j:Nat) (X:List Int):List Int:=X.set (i*m+j) (f i j)
def fJ (m:Nat) (f:Nat->Nat->Int) (i:Nat):Nat->List Int->List Int:=lp (fS m f i)
def fI (m:Nat) (f:Nat->Nat->Int):Nat->List Int->List Int:=lp λi=>fJ m f i m
theorem Jn8 (m:Nat) (f:Nat->Nat->Int) (i j:Nat) (X:List Int):(fS m f i j X).length=X.length:=by simp [fS]
theorem Vb7 (m:Nat) (f:Nat->Nat->Int) (i j:Nat) (X:List Int):(fJ m f i j X).length=X.length:=Vn _ (λZ:List Int=>Z.length=X.length) _ _ rfl λi S h=>by rw [Jn8,h]
theorem Vd7 (m:Nat) (f:Nat->Nat->Int) (i:Nat) (X:List Int):(fI m f i X).length=X.length:=Vn _ (λZ:List Int=>Z.length=X.length) _ _ rfl λi S h=>by rw [Vb7,h]
def Qe3 (m:Nat) (f:Nat->Nat->Int):List Int:=(List.range (m*m)).map λk=>f (k / m) (k % m)
theorem Ji4 (m:Nat) (f:Nat->Nat->Int):(Qe3 m f).length=m*m:=by simp [Qe3]
theorem Vk8 {m:Nat} {f:Nat->Nat->Int} {a b:Nat} (ha:a<m) (hb:b<m):cl m (Qe3 m f) a b=f a b:=by
 have h:=Zy ha hb;have e1:(a*m+b) / m=a:=by rw [Nat.mul_comm,Nat.mul_add_div (by omega),Nat.div_eq_of_lt hb,Nat.add_zero]
 have e2:(a*m+b) % m=b:=by rw [Nat.mul_comm,Nat.mul_add_mod,Nat.mod_eq_of_lt hb]
 unfold cl;have:Qe (Qe3 m f) (a*m+b)=(λk=>f (k / m) (k % m)) (a*m+b):=by simp [Qe3,Qe,h]
 rw [this];dsimp only;rw [e1,e2]
theorem Ve6 {m:Nat} {f:Nat->Nat->Int} {X:List Int} (hl:X.length=m*m):fI m f m X=Qe3 m f:=by
 have key:=Mg (λi j=>fS m f i j) (λi j Z=>Z.length=m*m∧∀a,a<m->∀b,b<m->(a<i∨(a=i∧b<j))->cl m Z a b=f a b) m X ⟨hl,λa _ b _ h=>by omega⟩ ?_ ?_
 .refine Cu ((Vd7 _ _ _ _).trans hl) (Ji4 _ _) λa ha b hb=>?_
  rw [Vk8 ha hb];exact key.2 a ha b hb (.inl ha)
 .rintro i hi j hj Z ⟨h1,h2⟩;refine ⟨by rw [Jn8,h1],λa ha b hb hab=>?_⟩;unfold fS;rw [Rf h1 hi hj hb];by_cases e:a=i∧b=j
  .rw [ZM e,e.1,e.2]
  rw [ZL e];exact h2 a ha b hb (by omega)
 rintro i hi Z ⟨h1,h2⟩;exact ⟨h1,λa ha b hb hab=>h2 a ha b hb (by omega)⟩
def Lb (n:Nat) (ls:List Rp):Int×Bool×List Int:=if ls.length=0 then (n,true,[]) else (n,false,Qe3 (2*n) (Uw ls))
def Sb (N:Int) (ls:List Rp):Int:=if (N<0∨64<N)∨Ih N ls=true then 120 else 0
def To (N:Int) (ls:List Rp):Int×Bool×List Int:=if Sb N ls=0 then Lb N.toNat ls else (0,false,[])
end Gn
open Gn
def Wv (w:World) (B:Nat) (A:Option Addr) (ls:List Rp):Prop:=
 0<ls.length->∃b off,A=some ⟨b,off,none⟩∧b<B∧∀i,i<ls.length->w.cell? ⟨b,off+i,none⟩=some (.slice (Yq ls i).A (Yq ls i).x.length (Yq ls i).c)∧
  Rd w B .i64 (Yq ls i).A (Yq ls i).x.length (Qe (Yq ls i).x)∧(∀u∈(Yq ls i).x,Zu u)∧((Yq ls i).x.length:Int)≤9223372036854775807
theorem Wv.below {w w':World} {B:Nat} {A:Option Addr} {ls:List Rp} (h:Wv w B A ls) (hb:Below B w w'):Wv w' B A ls:=λhn=>by
 obtain ⟨b,off,rfl,hlt,hx⟩:=h hn;refine ⟨b,off,rfl,hlt,λi hi=>?_⟩;obtain ⟨h1,h2,h3,h4⟩:=hx i hi;exact ⟨(hb.cell (p:=⟨b,off+i,none⟩) hlt).trans h1,h2.below hb,h3,h4⟩
end
