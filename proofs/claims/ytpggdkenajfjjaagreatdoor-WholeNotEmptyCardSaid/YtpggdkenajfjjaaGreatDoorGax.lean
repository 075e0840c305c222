/- Lemmas for wholeNotEmpty; no conditions. -/
import Derived.Test.YtpggdkenajfjjaaGreatDoorGas
import Derived.Deep.DeepCutAuto
import Derived.Test.YtpggdkenajfjjaaGreatDoorGau
import Derived.Laws.StructEq
set_option linter.all false
set_option maxRecDepth 100000
set_option maxHeartbeats 16000000
namespace Go.Proofs.YtpggdkenajfjjaaGreatDoor
open Go.RowKit Tryz
open Go.Lib renaming hid → Hd
section
open Gn
theorem Zj7 (n:Int) (w:World):Calls prog 158 #[.int .i64 n] w λe w'=>e=.returned (.bool (decide (0≤n∧n≤64)))∧w=w':=by
 go_enter func158,ntmps158
 by_cases h0:0≤n
 .by_cases h1:n≤64
  .go_wp2_with fail
   go_ret
   simp [h0,h1]
  go_wp2_with fail
  go_ret
  simp [h1]
 go_wp2_with fail
 go_ret
 simp;omega
theorem Eh {b c:Bool} (h:b=c):Ending.returned (.bool b)=.returned (.bool c):=by rw [h]
structure Re (w:World) (b:Nat) (i j:Int):Prop where
 c0:w.cell? ⟨b,0,none⟩=some (.int .i64 i)
 c1:w.cell? ⟨b,1,none⟩=some (.int .i64 j)
 fz:∀k,w.frozen? ⟨b,k,none⟩=false
theorem Re.new (w:World) (t:TypeId) (i j:Int):Re (w.alloc (.cells #[.int .i64 i,.int .i64 j] t)) w.heap.size i j:=
 ⟨by simp [QM],by simp [QM],λk=>by simp [go_sem]⟩
theorem Re.lt {w:World} {b:Nat} {i j:Int} (h:Re w b i j):b<w.heap.size:=QO w ⟨b,0,none⟩ h.c0
theorem Re.go {w w':World} {b:Nat} {i j:Int} (h:Re w b i j) (hb:Below w.heap.size w w'):Re w' b i j:=
 ⟨Qq hb h.c0,Qq hb h.c1,λk=>(hb.frozen (p:=⟨b,k,none⟩) h.lt).trans (h.fz k)⟩
theorem Hp (i j:Nat) (w:World) (hi:i<256) (hj:j<256):
 Calls prog 234 #[.agg #[.int .i64 i,.int .i64 j]] w λe w'=>e=.returned (.agg #[.int .i64 (ac j),.int .i64 (ac i)])∧Below w.heap.size w w':=by
 have:=Xp hi;have:=Xp hj;generalize ac i=ai at*;generalize ac j=aj at*;go_enter func234,ntmps234
 go_wp2_with fail
 exact QL (v:=.agg #[.int .i64 aj,.int .i64 ai]) (by simp [results,results234,go_sem]) rfl ⟨rfl,((QK _ _).alloc (ZH _) _).alloc (by simp) _⟩
theorem Jd9 {i j:Nat}:(decide ((ac j:Int)<i)||(decide ((i:Int)=(ac j:Int))&&decide ((ac i:Int)<j)))=!Vw4 i j:=by
 unfold Vw4;rw [Bool.eq_iff_iff];simp
 omega
theorem Qt2 (i j:Nat) (w:World) (hi:i<256) (hj:j<256):
 Calls prog 160 #[.agg #[.int .i64 i,.int .i64 j]] w λe w'=>e=.returned (.bool (!Vw4 i j))∧Below w.heap.size w w':=by
 have cM:=λW=>Hp i j W hi hj
 have HN:=Hd (@Jd9 i j);obtain ⟨x,hx⟩:∃x:Bool,x=!Vw4 i j:=⟨_,rfl⟩;rw [<-hx] at HN |-
 clear hx;generalize ((ac i:Nat):Int)=a at*;generalize ((ac j:Nat):Int)=b at*;clear hi hj;generalize (i:Int)=I at*;generalize (j:Int)=J at*;obtain ⟨W,hW,hB⟩:∃W,W=w.alloc (.cells #[.int .i64 I,.int .i64 J] 248)∧Below w.heap.size w W:=⟨_,rfl,(QK _ _).alloc (ZH _) _⟩;have h1:Re W w.heap.size I J:=by rw [hW];exact Re.new _ _ _ _
 obtain ⟨k0,k1,kf⟩:=id h1;go_enter func160,ntmps160
 rw [hW] at k0 k1;go_wp2_with fail
 rw [<-hW];with_reducible refine (cM _).mono ?_
 clear cM k0 k1 kf hW;rintro e w2 ⟨rfl,hb⟩;replace h1:=h1.go hb
 replace hB:=hB.trans (hb.mono hB.size)
 clear hb;obtain ⟨w3,hw3⟩:∃X,X=w2.alloc (.cells #[.int .i64 b,.int .i64 a] 248):=⟨_,rfl⟩;have hb3:Below w2.heap.size w2 w3:=by rw [hw3];exact (QK _ _).alloc (ZH _) _
 have h2:Re w3 w2.heap.size b a:=by rw [hw3];exact Re.new _ _ _ _
 replace h1:=h1.go hb3
 have hend:=Hd (hB.trans (hb3.mono hB.size));clear hb3 hB;obtain ⟨k0,k1,kf⟩:=id h1;obtain ⟨_,_,lf⟩:=id h2;go_upto_region 2 with fail
 rw [<-hw3];clear hw3 h1 h2 kf lf;rcases q1:(decide (b<I)) with _|_
 .rcases q2:(decide (I=b)) with _|_
  .have q2':(I==b)=false:=beq_eq_false_iff_ne.2 (of_decide_eq_false q2);have HF:=Hd (show x=false by rw [<-HN.out,q1,q2];rfl);clear HN q2;go_wp2_with fail
   go_ret
   exact ⟨Eh HF.out.symm,hend.out⟩
  have q2':(I==b)=true:=beq_iff_eq.2 (ZN q2);rcases q3:(decide (a<J)) with _|_
  .have HF:=Hd (show x=false by rw [<-HN.out,q1,q2,q3];rfl);clear HN q2;go_wp2_with fail
   go_ret
   exact ⟨Eh HF.out.symm,hend.out⟩
  have HF:=Hd (show x=true by rw [<-HN.out,q1,q2,q3];rfl);clear HN q2;go_wp2_with fail
  go_ret
  exact ⟨Eh HF.out.symm,hend.out⟩
 have HF:=Hd (show x=true by rw [<-HN.out,q1];rfl);clear HN;go_wp2_with fail
 go_ret
 exact ⟨Eh HF.out.symm,hend.out⟩
structure Ni (P:Program) (t e:TypeId) (z:Value) (size bytes:Nat):Prop where
 ht:P.underlying t=some (.slice e)
 info:(P.info? e).map (λi=>(i.zero,i.size,i.bytes))=some (some z,size,bytes)
 hz:z.cells.size=size
 hb:0<bytes
 hs:0<size
theorem Bq {P:Program} {e:TypeId} {z:Value} {size bytes:Nat} (h:(P.info? e).map (λi=>(i.zero,i.size,i.bytes))=some (some z,size,bytes)):∃i,P.info? e=some i∧i.zero=some z∧i.size=size∧i.bytes=bytes:=by
 cases hi:P.info? e with
 |none=>rw [hi] at h;cases h
 |some i=>
  rw [hi] at h;simp only [Option.map_some,Option.some.injEq,Prod.mk.injEq] at h;exact ⟨i,rfl,h.1,h.2.1,h.2.2⟩
theorem Qp4 {P:Program} {t e:TypeId} {z:Value} {size bytes:Nat} (E:Ni P t e z size bytes) {ops:Array Oper} {rest:List Oper} {o:Oper} {a:Act} {Q:Exit->Act->World->Prop} (W:World) (hgd:o.guard=none) (s x:Operand)
 (ho:o.op=.call {callee:=.builtin .append,args:=#[s,x],argTypes:=#[t,t]})
 (base:Nat) (A:Option Addr) (c n:Nat) (vs:List Value) (hs:a.eval s=.slice A n c) (hown:W.ownsRow base e size (.slice A n c) n vs)
 (news:List Value) (g:Nat) (hx:a.eval x=.slice (some ⟨g,0,none⟩) 1 1) (hl:news.length=size) (hnews:∀j u,news[j]? =some u->W.cell? ((⟨g,0,none⟩:Addr).add j)=some u) (h1:∀u∈news,u.oneCell'=true)
 (hn:(n+1)*bytes≤140737488355328) (hbase:base≤W.heap.size)
 (h:∀A' c' w',w'.ownsRow base e size (.slice A' (n+1) c') (n+1) (vs++news)->Below base W w'->wpList P ops Q rest (a.put o.dst (.slice A' (n+1) c')) w'):
 wpList P ops Q (o::rest) a W:=by
 obtain ⟨i0,hi,hz0,hz1,hz2⟩:=Bq E.info;have:n+1≤(n+1)*bytes:=Nat.le_mul_of_pos_right _ E.hb;refine wpList_append_own W hgd s x t ho base e i0 z size bytes E.ht hi hz0 hz1 hz2 E.hz E.hs _ _ _ hs hown ⟨g,0,none⟩ 1 1 news hx (by rw [hl,Nat.one_mul]) hnews h1 (by unfold maxLen;omega) hn hbase ?_;intro v' w1 hown' hgrow _;have hB:Below base W w1:=(QK _ _).grown hgrow hbase (λj hj=>(hown.lt j hj).1);rcases hown'.2 with ⟨rfl,h0⟩|⟨g',cap,cur,rfl,_⟩
 .omega
 exact h _ _ _ hown' hB
theorem Yx {w w':World} {base:Nat} {e:TypeId} {size n c:Nat} {A:Option Addr} {vs:List Value} (h:w.ownsRow base e size (.slice A n c) n vs) (hb:Below w.heap.size w w'):w'.ownsRow base e size (.slice A n c) n vs:=
 World.ownsRow.kept (row:=none) h ⟨hb.os,hb.tape,hb.output,hb.size,λi hi _=>hb.block i hi⟩ (by
  cases A<;>simp [Value.ownBlock])
theorem Cj {w:World} {base b':Nat} {e:TypeId} {size n:Nat} {v:Value} {vs:List Value} (h:w.ownsRow base e size v n vs) (hb:b'≤base):w.ownsRow b' e size v n vs:=by
 refine ⟨h.1,?_⟩;rcases h.2 with h0|⟨g,cap,cur,hv,hb0,hr⟩
 .exact .inl h0
 exact .inr ⟨g,cap,cur,hv,by omega,hr⟩
def pv (ps:List (Nat×Nat)):List Value:=ps.flatMap λp=>[.int .i64 (p.1:Int),.int .i64 (p.2:Int)]
theorem Vw8 (ps:List (Nat×Nat)) (p:Nat×Nat):pv (ps++[p])=pv ps++[.int .i64 (p.1:Int),.int .i64 (p.2:Int)]:=by unfold pv;rw [List.flatMap_append];simp
theorem Jy7:∀(ps:List (Nat×Nat)) (i:Nat),i<ps.length->(pv ps)[i*2]? =some (.int .i64 (Tz ps i:Int))∧(pv ps)[i*2+1]? =some (.int .i64 (Tw ps i:Int))
 |p::ps,0,_=>by constructor<;>rfl
 |p::ps,i+1,h=>by
  have:=Jy7 ps i (by simpa using h)
  rw [show (i+1)*2=i*2+2 by omega,show i*2+2+1=i*2+1+2 by omega];exact this
def RdP (w:World) (B:Nat) (A:Option Addr) (ps:List (Nat×Nat)):Prop:=
 0<ps.length->∃b off,A=some ⟨b,off,none⟩∧b<B∧∀i,i<ps.length->w.cell? ⟨b,off+i*2,none⟩=some (.int .i64 (Tz ps i:Int))∧w.cell? ⟨b,off+i*2+1,none⟩=some (.int .i64 (Tw ps i:Int))
theorem RdP.go {w w':World} {A:Option Addr} {ps:List (Nat×Nat)} (h:RdP w w.heap.size A ps) (hb:Below w.heap.size w w'):RdP w' w'.heap.size A ps:=λhn=>by
 obtain ⟨b,off,e,hlt,hc⟩:=h hn;exact ⟨b,off,e,ZI hlt hb.size,λi hi=>⟨Qq hb (hc i hi).1,Qq hb (hc i hi).2⟩⟩
theorem Zh1 {w:World} {base:Nat} {e:TypeId} {c:Nat} {A:Option Addr} {ps:List (Nat×Nat)} (h:w.ownsRow base e 2 (.slice A ps.length c) ps.length (pv ps)):RdP w w.heap.size A ps:=λhn=>by
 rcases h.2 with ⟨hv,h0⟩|⟨g,cap,cur,hv,hb,hh,hnc,hcm,hcs,hx⟩
 .omega
 .injection hv with h1 h2 h3;subst h1;have hlt:=(h.lt g rfl).2;have key:∀j u,(pv ps)[j]? =some u->w.cell? ⟨g,j,none⟩=some u:=λj u hu=>by
   have:=h.cells (g:=g) rfl j u hu
   rwa [show (⟨g,0,none⟩:Addr).add j=⟨g,j,none⟩ by unfold Addr.add;split<;>simp_all] at this
  exact ⟨g,0,rfl,hlt,λi hi=>by
   obtain ⟨p1,p2⟩:=Jy7 ps i hi;rw [Nat.zero_add];exact ⟨key _ _ p1,key _ _ p2⟩⟩
theorem elPair:Ni prog 165 248 (.agg #[.int .i64 0,.int .i64 0]) 2 16:=⟨underlying165,by kernel_rfl,rfl,by decide,by decide⟩
theorem Zw9 {A:Option Addr} {m n c:Nat} (h:m=n):Value.slice A m c=.slice A n c:=by rw [h]
theorem Zd8 {A:Option Addr} {m n c:Nat} (h:m=n):Ending.returned (.slice A m c)=.returned (.slice A n c):=by rw [h]
theorem Ik (n:Nat) (w:World) (hn:n≤64):
 Calls prog 96 #[.int .i64 n] w λe w'=>∃A c,e=.returned (.slice A (Ze n).length c)∧w'.ownsRow w.heap.size 248 2 (.slice A (Ze n).length c) (Ze n).length (pv (Ze n))∧Below w.heap.size w w':=by
 have hE:=elPair;have hq:(2*n)*(2*n)≤128*128:=QA (by omega) (by omega);have HQ:=Hd hq;clear hq;go_enter func96,ntmps96
 go_wp2_with fail
 go_loopw [3,9] (λs3 s9 wr=>∃i:Nat,s9=.int .i64 i∧i≤2*n∧∃A c,∃ps:List (Nat×Nat),Hid (ps=Mi n i)∧s3=.slice A ps.length c∧wr.ownsRow w.heap.size 248 2 (.slice A ps.length c) ps.length (pv ps)∧Below w.heap.size w wr) (λ_ s _=>2*n - (intOf s).toNat)
 case atStart=>exact ⟨0,rfl,by omega,none,0,[],Hd rfl,rfl,QV _ _ _ _,QK _ _⟩
 case round=>
  obtain ⟨i,rfl,hi,A,c,ps,HP,rfl,hown,hB⟩:=hrel;rcases ZJ i (2*n) with hlt|hge
  .have hdi:decide ((i:Int)<2*(n:Int))=true:=ZE (by omega);have hps:ps.length≤i*(2*n):=by rw [HP.out];exact Bf n i
   have HPS:=Hd hps;clear hps;go_wp2_with fail
   go_loopw [3,14] (λs3 s14 wr=>∃j:Nat,s14=.int .i64 j∧j≤2*n∧∃A c,∃qs:List (Nat×Nat),Hid (qs=ps++Ey i j)∧s3=.slice A qs.length c∧wr.ownsRow w.heap.size 248 2 (.slice A qs.length c) qs.length (pv qs)∧Below w.heap.size w wr) (λ_ s _=>2*n - (intOf s).toNat)
   case atStart=>exact ⟨0,rfl,by omega,A,c,ps,Hd (by rw [Jj6,List.append_nil]),rfl,hown,hB⟩
   clear hown hB;obtain ⟨j,rfl,_,A,c,qs,HQS,rfl,hown,hB⟩:=hrel;rcases ZJ j (2*n) with hjl|hjg
   .have hdj:decide ((j:Int)<2*(n:Int))=true:=ZE (by omega);have hql:qs.length≤i*(2*n)+j:=by
     have:=Qo5 i j
     have:=HPS.out
     rw [HQS.out,ZC];omega
    have hix:i*(2*n)+j<(2*n)*(2*n):=Zy hlt hjl;have hsz:(qs.length+1)*16≤140737488355328:=by have:=HQ.out;omega
    clear hql hix;have cP:=λW=>Qt2 i j W (by omega) (by omega)
    have hb1:Below wr.heap.size wr (wr.alloc (.cells #[.int .i64 i,.int .i64 j] 248)):=(QK _ _).alloc (ZH _) _;have hBox:=Re.new wr 248 i j;obtain ⟨w1,hw1⟩:∃w1,w1=wr.alloc (.cells #[.int .i64 i,.int .i64 j] 248):=⟨_,rfl⟩;rw [<-hw1] at hb1 hBox;replace hown:=Yx hown hb1
    replace hB:=hB.trans (hb1.mono hB.size)
    clear hb1;go_upto_region 9 with fail
    rw [<-hw1];clear hw1;generalize wr.heap.size=bp at*;by_cases hij:i=j
    .have q0:((i:Int)!=(j:Int))=false:=bne_eq_false_iff_eq.2 (by omega);have HN:=Hd (show qs=ps++Ey i (j+1) by rw [HQS.out,Gt,ZL (by unfold isP;rw [ZA (λh=>h hij)];simp)]);clear hij;have HO:=Hd hown;have HB:=Hd hB;clear hown hB;go_wp2_with fail
     go_roundw
     case rel=>exact ⟨j+1,by go_num,by omega,A,c,qs,HN,rfl,HO.out,HB.out⟩
     simp [intOf];omega
    have q0:((i:Int)!=(j:Int))=true:=bne_iff_ne.2 (by omega);have HF:Hid (isP i j=Vw4 i j):=Hd (by unfold isP;rw [ZE hij];rfl);clear hij;obtain ⟨f,hf⟩:∃f,f=Vw4 i j:=⟨_,rfl⟩;rw [<-hf] at cP HF;clear hf;obtain ⟨k0,k1,kf⟩:=id hBox;rcases f with _|_
    .have HN:=Hd (show qs=ps++Ey i (j+1) by rw [HQS.out,Gt,ZL (by rw [HF.out];simp)]);go_wp2_with fail
     with_reducible refine (cP _).mono ?_
     clear cP;rintro e w2 ⟨rfl,hb⟩;have HO:=Hd (Yx hown hb);have HB:=Hd (hB.trans (hb.mono hB.size));clear hown hB hb k0 k1 kf hBox;go_wp2_with fail
     go_roundw
     case rel=>exact ⟨j+1,by go_num,by omega,A,c,qs,HN,rfl,HO.out,HB.out⟩
     simp [intOf];omega
    have HN:=Hd (show qs++[(i,j)]=ps++Ey i (j+1) by rw [HQS.out,Gt,ZM HF.out,List.append_assoc]);go_wp2_with fail
    with_reducible refine (cP _).mono ?_
    clear cP;rintro e w2 ⟨rfl,hb⟩;obtain ⟨k0,k1,kf⟩:=id (hBox.go hb);have hB2:=hB.trans (hb.mono hB.size);have hown2:=(Yx hown hb).alloc (.cells #[.int .i64 i,.int .i64 j] 248);have hB3:=hB2.alloc hB2.size (.cells #[.int .i64 i,.int .i64 j] 248);have hbs:=hB3.size;clear hown hB hb hBox hB2;go_wp2_with (at_builtin;refine Qp4 hE (w2.alloc (.cells #[.int .i64 i,.int .i64 j] 248)) rfl _ _ rfl w.heap.size A c qs.length _ rfl hown2 [.int .i64 i,.int .i64 j] w2.heap.size rfl rfl (World.news_of_block (heap_alloc_new w2 _)) (by simp [Value.oneCell']) hsz hbs ?_;intro A' c' w3 ho hb)
    have HB:=Hd (hB3.trans hb);have HO:=Hd ho;clear ho hb hB3 hown2 hbs;go_roundw
    case rel=>exact ⟨j+1,by go_num,by omega,A',c',qs++[(i,j)],HN,Zw9 (by simp),by rw [Vw8,ZC];exact HO.out,HB.out⟩
    simp [intOf];omega
   obtain rfl:j=2*n:=by omega
   have HN:=Hd (show qs=Mi n (i+1) by rw [HQS.out,HP.out,El]);have HO:=Hd hown;have HB:=Hd hB;clear hown hB;go_wp2_with fail
   go_roundw
   case rel=>exact ⟨i+1,by go_num,by omega,A,c,qs,HN,rfl,HO.out,HB.out⟩
   simp [intOf];omega
  obtain rfl:i=2*n:=by omega
  have HF:=Hd (show ps=Ze n from HP.out);have HO:=Hd hown;have HB:=Hd hB;clear hown hB hge hi;go_wp2_with fail
  go_ret
  exact ⟨A,c,Zd8 (by rw [HF.out]),by rw [<-HF.out];exact HO.out,HB.out⟩
namespace Gn
structure OC where
 n:Int
 e:Bool
 m:List Int
def Yt (os:List OC) (i:Nat):OC:=os.getD i ⟨0,false,[]⟩
def Dq (N:Int) (o:OC):Prop:=o.n=N∧Je o.n o.e o.m=0
instance (N:Int) (o:OC):Decidable (Dq N o):=by unfold Dq;infer_instance
def Kr (N:Int) (L:Nat):Prop:=(0≤N∧N≤64)∧1≤L∧L≤4096∧4*N*N*(L:Int)≤4194304
instance (N:Int) (L:Nat):Decidable (Kr N L):=by unfold Kr;infer_instance
def Sz (N:Int) (os:List OC) (k:Nat):Prop:=∀i,i<k->Dq N (Yt os i)
instance (N:Int) (os:List OC) (k:Nat):Decidable (Sz N os k):=by unfold Sz;infer_instance
def Ro (N:Int) (os:List OC):Int:=if Kr N os.length∧Sz N os os.length then 0 else 190
theorem Vz4 {N:Int} {os:List OC} (h:Kr N os.length) (h':Sz N os os.length):Ro N os=0:=by unfold Ro;rw [ZM ⟨h,h'⟩]
theorem Zr3 {N:Int} {os:List OC} (h:¬Kr N os.length):Ro N os=190:=by unfold Ro;rw [ZL (λx=>h x.1)]
theorem Jd6 {N:Int} {os:List OC} {i:Nat} (hi:i<os.length) (h:¬Dq N (Yt os i)):Ro N os=190:=by unfold Ro;rw [ZL (λx=>h (x.2 i hi))]
theorem Jw1 {N:Int} {os:List OC} (h:Ro N os=0):Kr N os.length∧Sz N os os.length:=by
 unfold Ro at h;split at h
 .assumption
 omega
theorem Zz2 {N:Int} {L:Nat} (h:0≤N∧N≤64) (h2:L≤4096):(0≤4*N∧4*N≤256)∧(0≤4*N*N∧4*N*N≤16384)∧(0≤4*N*N*(L:Int)∧4*N*N*(L:Int)≤67108864):=by
 obtain ⟨n,rfl⟩:=ZV h.1;have a:4*n≤256:=by omega
 have b:4*n*n≤256*64:=QA a (by omega);have:4*n*n*L≤(256*64)*4096:=QA b h2;have:(4:Int)*n=((4*n:Nat):Int):=by push_cast;rfl
 have e2:(4:Int)*n*n=((4*n*n:Nat):Int):=by push_cast;rfl
 have e3:(4:Int)*n*n*L=((4*n*n*L:Nat):Int):=by push_cast;rfl
 rw [e3,e2];omega
end Gn
def Ud (w:World) (A:Option Addr) (os:List OC):Prop:=
 0<os.length->∃b off,A=some ⟨b,off,none⟩∧b<w.heap.size∧∀i,i<os.length->∃Ai ci,
  w.cell? ⟨b,off+i*3,none⟩=some (.int .i64 (Yt os i).n)∧w.cell? ⟨b,off+i*3+1,none⟩=some (.bool (Yt os i).e)∧w.cell? ⟨b,off+i*3+2,none⟩=some (.slice Ai (Yt os i).m.length ci)∧
  Vd w w.heap.size Ai ci (Yt os i).n (Yt os i).m
theorem Ud.go {w w':World} {A:Option Addr} {os:List OC} (h:Ud w A os) (hb:Below w.heap.size w w'):Ud w' A os:=λhn=>by
 obtain ⟨b,off,e,hlt,hc⟩:=h hn;refine ⟨b,off,e,ZI hlt hb.size,λi hi=>?_⟩;obtain ⟨Ai,ci,h0,h1,h2,ho⟩:=hc i hi;exact ⟨Ai,ci,Qq hb h0,Qq hb h1,Qq hb h2,ho.go hb⟩
structure Dd (w:World) (b:Nat) (D N:Int) (v:Value):Prop where
 c0:w.cell? ⟨b,0,none⟩=some (.int .u64 D)
 c1:w.cell? ⟨b,1,none⟩=some (.int .i64 N)
 c2:w.cell? ⟨b,2,none⟩=some v
theorem Dd.lt {w:World} {b:Nat} {D N:Int} {v:Value} (h:Dd w b D N v):b<w.heap.size:=QO w ⟨b,0,none⟩ h.c0
theorem Dd.go {w w':World} {b:Nat} {D N:Int} {v:Value} (h:Dd w b D N v) (hb:Below w.heap.size w w'):Dd w' b D N v:=⟨Qq hb h.c0,Qq hb h.c1,Qq hb h.c2⟩
theorem Qr6 (w:World) (t:TypeId) (D N:Int) (v:Value):∃W,W=w.alloc (.cells #[.int .u64 D,.int .i64 N,v] t)∧Dd W w.heap.size D N v∧Below w.heap.size w W∧W.heap.size=w.heap.size+1:=
 ⟨_,rfl,⟨by simp [QM],by simp [QM],by simp [QM]⟩,(QK _ _).alloc (ZH _) _,by simp⟩
theorem Zw4 (D N:Int) (A:Option Addr) (c:Nat) (os:List OC) (w:World) (h:Ud w A os) (hN:Zu N) (hcm:(os.length:Int)≤9223372036854775807):
 Calls prog 93 #[.agg #[.int .u64 D,.int .i64 N,.slice A os.length c]] w λe w'=>e=.returned (.int .i64 (Ro N os))∧Below w.heap.size w w':=by
 obtain ⟨W,hW,h1,hB,hs⟩:=Qr6 w 96 D N (.slice A os.length c);have h2:=h.go hB;have cR:=Zj7 N W;have HB:=Hd hB;have HH:Hid ((Kr N os.length->Sz N os os.length->Ro N os=0)∧(¬Kr N os.length->Ro N os=190)∧(∀i,i<os.length->¬Dq N (Yt os i)->Ro N os=190)):=Hd ⟨Vz4,Zr3,λi hi h=>Jd6 hi h⟩;obtain ⟨L,hL⟩:∃L,L=os.length:=⟨_,rfl⟩;rw [<-hL] at h1 hW hcm HH |-
 have HL:=Hd hL;clear hL h hs hB;obtain ⟨r,hr⟩:∃r,r=Ro N os:=⟨_,rfl⟩;rw [<-hr] at HH |-
 clear hr;have hlt:=h1.lt;obtain ⟨k0,k1,k2⟩:=h1;by_cases hn:0≤N∧N≤64
 .rw [ZE hn] at cR;by_cases hl1:(L:Int)<1
  .obtain rfl:L=0:=by omega
   have HR:=Hd (HH.out.2.1 (λx=>by unfold Kr at x;omega));clear HH hl1;go_enter func93,ntmps93
   go_wp2_with fail
   rw [<-hW];clear hW
   (with_reducible refine cR.mono ?_)
   rintro e w' ⟨rfl,rfl⟩;clear cR;go_wp2_with fail
   go_ret
   rw [HR.out];exact ⟨rfl,HB.out⟩
  have q1:decide ((L:Int)<1)=false:=ZA hl1;by_cases hl2:4096<(L:Int)
  .have q2:decide (4096<(L:Int))=true:=ZE hl2;have HR:=Hd (HH.out.2.1 (λx=>by unfold Kr at x;omega));clear HH hn;go_enter func93,ntmps93
   go_wp2_with fail
   rw [<-hW];clear hW
   (with_reducible refine cR.mono ?_)
   rintro e w' ⟨rfl,rfl⟩;clear cR;go_wp2_with fail
   go_ret
   rw [HR.out];exact ⟨rfl,HB.out⟩
  have q2:decide (4096<(L:Int))=false:=ZA hl2;obtain ⟨⟨b1,b2⟩,⟨b3,b4⟩,b5,b6⟩:=Zz2 hn (show L≤4096 by omega);obtain ⟨hn0,hn1⟩:=hn;by_cases hm:4194304<4*N*N*(L:Int)
  .have q3:decide (4194304<4*N*N*(L:Int))=true:=ZE hm;have HR:=Hd (HH.out.2.1 (λx=>by unfold Kr at x;omega));clear HH hl1 hl2 hm;go_enter func93,ntmps93
   go_wp2_with fail
   rw [<-hW];clear hW
   (with_reducible refine cR.mono ?_)
   rintro e w' ⟨rfl,rfl⟩;clear cR;go_wp2_with fail
   go_ret
   rw [HR.out];exact ⟨rfl,HB.out⟩
  have q3:decide (4194304<4*N*N*(L:Int))=false:=ZA hm;have HK:=Hd (show Kr N L by unfold Kr;omega);clear hl1 hl2 hm;go_enter func93,ntmps93
  go_wp2_with fail
  rw [<-hW];clear hW
  (with_reducible refine cR.mono ?_)
  rintro e w' ⟨rfl,rfl⟩;clear cR;go_wp2_with fail
  clear b1 b2 b3 b4 b5 b6 q1 q2 q3;go_loopw [37] (λs wr=>∃k:Nat,s=.int .i64 k∧k≤L∧Hid (Sz N os k)∧Below W.heap.size W wr) (λs _=>L - (intOf s).toNat)
  case atStart=>exact ⟨0,rfl,by omega,Hd (λi hi=>absurd hi (by omega)),QK _ _⟩
  obtain ⟨k,rfl,hk,HG,hBr⟩:=hrel;rename_i wr _
  rcases ZJ k L with hlk|hge
  .have q0:decide (k<L)=true:=ZE hlk;have m1:=Qq hBr k1;have h3:=h2.go hBr;obtain ⟨b,off,rfl,hlb,hcell⟩:=h3 (by rw [<-HL.out];omega);obtain ⟨Ai,ci,e0,e1,e2,hoct⟩:=hcell k (by rw [<-HL.out];omega);clear hcell h3;have HS:Hid (∀i,i<k->Dq N (Yt os i)):=HG;have HGK:Hid (Dq N (Yt os k)↔(Yt os k).n=N∧Je (Yt os k).n (Yt os k).e (Yt os k).m=0):=Hd Iff.rfl;have HBad:Hid (¬Dq N (Yt os k)->r=190):=Hd (HH.out.2.2 k hlk);have HGood:Hid (Dq N (Yt os k)->Sz N os (k+1)):=Hd (λg i hi=>by
    rcases ZJ i k with h|h
    .exact HS.out i h
    obtain rfl:i=k:=by omega
    exact g)
   generalize Dq N (Yt os k)=G at*;obtain ⟨o,ho⟩:∃o,o=Yt os k:=⟨_,rfl⟩;rw [<-ho] at e0 e1 e2 hoct HGK;clear ho;obtain ⟨on,oe,om⟩:=o;dsimp only at e0 e1 e2 hoct HGK;clear HS;obtain ⟨W3,hW3,hb3,hB3,hs3⟩:=Cd wr 32 on oe (.slice Ai om.length ci);have hoct3:=hoct.go hB3;have cC:=Ul Ai ci on oe om W3 hoct3;have n1:=Qq hB3 m1;obtain ⟨l0,l1,l2⟩:=id hb3;have hbw:Below W.heap.size W W3:=hBr.trans (hB3.mono hBr.size);clear hs3 hoct hoct3 h2;by_cases he:on=N
   .have q4:(on !=N)=false:=bne_eq_false_iff_eq.2 he;by_cases hv:Je on oe om=0
    .have HX:=Hd (HGood.out (HGK.out.2 ⟨he,hv⟩));rw [hv] at cC;have HBW:=Hd hbw;clear he hv hbw;rw [hW3] at l0 l1 l2 n1;go_wp2_with fail
     rw [<-hW3];rw [<-hW3] at l0 l1 l2 n1;clear hW3
     (with_reducible refine cC.mono ?_)
     rintro e w5 ⟨rfl,hb5⟩;have HB5:=Ht HBW hb5;clear hb5 cC hB3 hBr;go_wp2_with fail
     go_roundw
     case rel=>exact ⟨k+1,by go_num,by omega,HX,HB5.out⟩
     simp [intOf];omega
    have HX:=Hd (HBad.out (λg=>hv (HGK.out.1 g).2));have q5:(Je on oe om !=0)=true:=bne_iff_ne.2 hv;have HBW:=Hd hbw;clear he hv hbw;generalize Je on oe om=cc at*;rw [hW3] at l0 l1 l2 n1;go_wp2_with fail
    rw [<-hW3];rw [<-hW3] at l0 l1 l2 n1;clear hW3
    (with_reducible refine cC.mono ?_)
    rintro e w5 ⟨rfl,hb5⟩;have HB5:=Ht HBW hb5;clear hb5 cC hB3 hBr;go_wp2_with fail
    go_ret
    rw [HX.out];exact ⟨rfl,HB.out.trans (HB5.out.mono HB.out.size)⟩
   have q4:(on !=N)=true:=bne_iff_ne.2 he;have HX:=Hd (HBad.out (λg=>he (HGK.out.1 g).1));have HBW:=Hd hbw;clear he hbw cC;rw [hW3] at l0 l1 l2 n1;go_wp2_with fail
   rw [<-hW3];go_ret
   rw [HX.out];exact ⟨rfl,HB.out.trans (HBW.out.mono HB.out.size)⟩
  obtain rfl:k=L:=by omega
  have q0:decide (k<k)=false:=by simp
  have HR:=Hd (HH.out.1 HK.out HG.out);clear hge hk;go_wp2_with fail
  go_ret
  rw [HR.out];exact ⟨rfl,(Ht HB hBr).out⟩
 .rw [ZA hn] at cR;have HR:=Hd (HH.out.2.1 (λx=>hn x.1));clear HH hn;go_enter func93,ntmps93
  go_wp2_with fail
  rw [<-hW];clear hW
  (with_reducible refine cR.mono ?_)
  rintro e w' ⟨rfl,rfl⟩;clear cR;go_wp2_with fail
  go_ret
  rw [HR.out];exact ⟨rfl,HB.out⟩
end
section
open Gn
section
variable {P:Program} {t e:TypeId} {z:Value} {size bytes:Nat}
theorem Qh3 (E:Ni P t e z size bytes) {o:Oper} {a:Act} {K:Act->World->Prop} {Q:Exit->Act->World->Prop} (W:World) (s x:Operand)
 (ho:o.op=.call {callee:=.builtin .append,args:=#[s,x],argTypes:=#[t,t]})
 (base:Nat) (A:Option Addr) (c n:Nat) (vs:List Value) (hs:a.eval s=.slice A n c) (hown:W.ownsRow base e size (.slice A n c) n vs)
 (news:List Value) (g:Nat) (hx:a.eval x=.slice (some ⟨g,0,none⟩) 1 1) (hl:news.length=size) (hnews:∀j u,news[j]? =some u->W.cell? ((⟨g,0,none⟩:Addr).add j)=some u) (h1:∀u∈news,u.oneCell'=true)
 (hn:(n+1)*bytes≤140737488355328) (hbase:base≤W.heap.size)
 (h:∀A' c' w',w'.ownsRow base e size (.slice A' (n+1) c') (n+1) (vs++news)->Below base W w'->W.grownBy w' (Value.slice A n c).ownBlock->K (a.put o.dst (.slice A' (n+1) c')) w'):
 o.wp P a W K Q:=by
 obtain ⟨i0,hi,hz0,hz1,hz2⟩:=Bq E.info;have:n+1≤(n+1)*bytes:=Nat.le_mul_of_pos_right _ E.hb;refine wp_append_own W s x t ho base e i0 z size bytes E.ht hi hz0 hz1 hz2 E.hz E.hs _ _ _ hs hown ⟨g,0,none⟩ 1 1 news hx (by rw [hl,Nat.one_mul]) hnews h1 (by unfold maxLen;omega) hn hbase ?_;intro v' w1 hown' hgrow _;have hB:Below base W w1:=(QK _ _).grown hgrow hbase (λj hj=>(hown.lt j hj).1);rcases hown'.2 with ⟨rfl,h0⟩|⟨g',cap,cur,rfl,_⟩
 .omega
 exact h _ _ _ hown' hB hgrow
theorem Ku (E:Ni P t e z size bytes) {ops:Array Oper} {rest:List Oper} {o:Oper} {a:Act} {Q:Exit->Act->World->Prop} (W:World) (hgd:o.guard=none) (s x:Operand)
 (ho:o.op=.call {callee:=.builtin .append,args:=#[s,x],argTypes:=#[t,t]})
 (base:Nat) (A:Option Addr) (c n:Nat) (vs:List Value) (hs:a.eval s=.slice A n c) (hown:W.ownsRow base e size (.slice A n c) n vs)
 (news:List Value) (g:Nat) (hx:a.eval x=.slice (some ⟨g,0,none⟩) 1 1) (hl:news.length=size) (hnews:∀j u,news[j]? =some u->W.cell? ((⟨g,0,none⟩:Addr).add j)=some u) (h1:∀u∈news,u.oneCell'=true)
 (hn:(n+1)*bytes≤140737488355328) (hbase:base≤W.heap.size)
 (h:∀A' c' w',w'.ownsRow base e size (.slice A' (n+1) c') (n+1) (vs++news)->Below base W w'->W.grownBy w' (Value.slice A n c).ownBlock->wpList P ops Q rest (a.put o.dst (.slice A' (n+1) c')) w'):
 wpList P ops Q (o::rest) a W:=
 wpList_plain hgd λ_ hK=>Qh3 E W s x ho base A c n vs hs hown news g hx hl hnews h1 hn hbase λA' c' w' h1 h2 h3=>hK _ _ (h A' c' w' h1 h2 h3)
theorem Ye (E:Ni P t e z size bytes) {ops:Array Oper} {o:Oper} {a:Act} {K:Act->World->Prop} {Q:Exit->Act->World->Prop} {N:Prop} (W:World) (hgd:o.guard=none) (s x:Operand)
 (ho:o.op=.call {callee:=.builtin .append,args:=#[s,x],argTypes:=#[t,t]})
 (base:Nat) (A:Option Addr) (c n:Nat) (vs:List Value) (hs:a.eval s=.slice A n c) (hown:W.ownsRow base e size (.slice A n c) n vs)
 (news:List Value) (g:Nat) (hx:a.eval x=.slice (some ⟨g,0,none⟩) 1 1) (hl:news.length=size) (hnews:∀j u,news[j]? =some u->W.cell? ((⟨g,0,none⟩:Addr).add j)=some u) (h1:∀u∈news,u.oneCell'=true)
 (hn:(n+1)*bytes≤140737488355328) (hbase:base≤W.heap.size)
 (h:∀A' c' w',w'.ownsRow base e size (.slice A' (n+1) c') (n+1) (vs++news)->Below base W w'->W.grownBy w' (Value.slice A n c).ownBlock->K (a.put o.dst (.slice A' (n+1) c')) w'):
 if Region.wanted o (yielded ops a.tmps)=true then Oper.wp P o a W K Q else N:=by
 have hw:Region.wanted o (yielded ops a.tmps)=true:=by simp [Region.wanted,hgd]
 rw [ZM hw];exact Qh3 E W s x ho base A c n vs hs hown news g hx hl hnews h1 hn hbase h
end
structure OR where
 n:Int
 e:Bool
 a:Option Addr
 c:Nat
 m:List Int
def OR.oc (r:OR):OC:=⟨r.n,r.e,r.m⟩
def OR.cells (r:OR):List Value:=[.int .i64 r.n,.bool r.e,.slice r.a r.m.length r.c]
def ov (rs:List OR):List Value:=rs.flatMap OR.cells
theorem Vz8 (rs:List OR) (r:OR):ov (rs++[r])=ov rs++r.cells:=by unfold ov;rw [List.flatMap_append];simp
def Tc (rs:List OR) (i:Nat):OR:=rs.getD i ⟨0,false,none,0,[]⟩
theorem Qb5:∀(rs:List OR) (i:Nat),i<rs.length->(ov rs)[i*3]? =some (.int .i64 (Tc rs i).n)∧(ov rs)[i*3+1]? =some (.bool (Tc rs i).e)∧(ov rs)[i*3+2]? =some (.slice (Tc rs i).a (Tc rs i).m.length (Tc rs i).c)
 |r::rs,0,_=>⟨rfl,rfl,rfl⟩
 |r::rs,i+1,h=>by
  have:=Qb5 rs i (by simpa using h)
  rw [show (i+1)*3=i*3+3 by omega,show i*3+3+1=i*3+1+3 by omega,show i*3+3+2=i*3+2+3 by omega];exact this
theorem Fz {rs:List OR} {i:Nat} (h:i<rs.length):Tc rs i∈rs:=by
 unfold Tc;rw [ZG,ZF h];exact List.getElem_mem h
theorem Jb4 {rs:List OR} {i:Nat} (h:i<rs.length):Yt (rs.map OR.oc) i=(Tc rs i).oc:=by
 unfold Yt Tc;rw [ZG,ZG,List.getElem?_map,ZF h];rfl
structure Yw (w:World) (base:Nat) (A:Option Addr) (c:Nat) (rs:List OR):Prop where
 row:w.ownsRow base 32 3 (.slice A rs.length c) rs.length (ov rs)
 each:∀r∈rs,Zu r.n∧(∀x∈r.m,Zu x)∧Ow w base 2 .i64 r.a r.c r.m
theorem Yw.nil (w:World) (base:Nat):Yw w base none 0 []:=⟨QV _ _ _ _,λr hr=>by cases hr⟩
theorem Yw.go {w w':World} {base:Nat} {A:Option Addr} {c:Nat} {rs:List OR} (h:Yw w base A c rs) (hb:Below w.heap.size w w'):Yw w' base A c rs:=
 ⟨Yx h.row hb,λr hr=>⟨(h.each r hr).1,(h.each r hr).2.1,(h.each r hr).2.2.below hb⟩⟩
theorem Yw.lower {w:World} {base base':Nat} {A:Option Addr} {c:Nat} {rs:List OR} (h:Yw w base A c rs) (hb:base'≤base):Yw w base' A c rs:=
 ⟨Cj h.row hb,λr hr=>⟨(h.each r hr).1,(h.each r hr).2.1,(h.each r hr).2.2.lower hb⟩⟩
theorem Qu8 {w:World} {base c:Nat} {e:TypeId} {k:IntKind} {A:Option Addr} {xs:List Int} (h:Ow w base e k A c xs):w.ownsRow base e 1 (.slice A xs.length c) xs.length (xs.map (Value.int k)):=h
theorem Ow.beside {w w':World} {base base' size n c:Nat} {e e':TypeId} {k:IntKind} {A:Option Addr} {v':Value} {vs':List Value} {xs:List Int} (h:Ow w base e k A c xs) (h':w.ownsRow base' e' size v' n vs') (hne:e≠e') (hg:w.grownBy w' v'.ownBlock):Ow w' base e k A c xs:=
 Dh (Qu8 h) h' hne hg
theorem Yw.snoc {w w':World} {base:Nat} {A A':Option Addr} {c c':Nat} {rs:List OR} {r:OR} (h:Yw w base A c rs) (hr:Zu r.n∧(∀x∈r.m,Zu x)∧Ow w base 2 .i64 r.a r.c r.m)
 (hrow:w'.ownsRow base 32 3 (.slice A' (rs.length+1) c') (rs.length+1) (ov rs++r.cells)) (hg:w.grownBy w' (Value.slice A rs.length c).ownBlock):Yw w' base A' c' (rs++[r]):=by
 refine ⟨by rw [Vz8,ZC];exact hrow,λx hx=>?_⟩;have key:∀y:OR,Zu y.n∧(∀x∈y.m,Zu x)∧Ow w base 2 .i64 y.a y.c y.m->Zu y.n∧(∀x∈y.m,Zu x)∧Ow w' base 2 .i64 y.a y.c y.m:=
  λy ⟨a,b,c⟩=>⟨a,b,c.beside h.row (by decide) hg⟩
 simp only [List.mem_append,List.mem_cons,List.not_mem_nil,or_false] at hx;rcases hx with hx|rfl
 .exact key x (h.each x hx)
 exact key x hr
theorem Yw.octs {w:World} {base:Nat} {A:Option Addr} {c:Nat} {rs:List OR} (h:Yw w base A c rs):Ud w A (rs.map OR.oc):=λhn=>by
 rw [List.length_map] at hn;rcases h.row.2 with ⟨hv,h0⟩|⟨g,cap,cur,hv,hb,hh,_⟩
 .omega
 .injection hv with h1 h2 h3;subst h1;have hlt:=(h.row.lt g rfl).2;have key:∀j u,(ov rs)[j]? =some u->w.cell? ⟨g,j,none⟩=some u:=λj u hu=>by
   have:=h.row.cells (g:=g) rfl j u hu
   rwa [show (⟨g,0,none⟩:Addr).add j=⟨g,j,none⟩ by unfold Addr.add;split<;>simp_all] at this
  refine ⟨g,0,rfl,hlt,λi hi=>?_⟩;rw [List.length_map] at hi;obtain ⟨p0,p1,p2⟩:=Qb5 rs i hi;obtain ⟨e0,e1,e2⟩:=h.each _ (Fz hi);rw [Jb4 hi,Nat.zero_add];exact ⟨_,_,key _ _ p0,key _ _ p1,key _ _ p2,⟨e0,e2.rd,e1,e2.cap,e2.capMax⟩⟩
theorem elOct:Ni prog 27 32 (.agg #[.int .i64 0,.bool false,.slice none 0 0]) 3 40:=⟨underlying27,by kernel_rfl,rfl,by decide,by decide⟩
theorem Oh (w:World) (t:TypeId) (r:OR):∀j u,r.cells[j]? =some u->(w.alloc (.cells #[.int .i64 r.n,.bool r.e,.slice r.a r.m.length r.c] t)).cell? ((⟨w.heap.size,0,none⟩:Addr).add j)=some u:=
 World.news_of_block (heap_alloc_new w _)
structure Jb (w:World) (b:Nat) (D N:Int) (v:Value):Prop where
 at':Dd w b D N v
 fz:∀i,w.frozen? ⟨b,i,none⟩=false
theorem Jb.go {w w':World} {b:Nat} {D N:Int} {v:Value} (h:Jb w b D N v) (hb:Below w.heap.size w w'):Jb w' b D N v:=⟨h.at'.go hb,λi=>(hb.frozen (p:=⟨b,i,none⟩) h.at'.lt).trans (h.fz i)⟩
theorem Jb.low {w w':World} {b base:Nat} {D N:Int} {v:Value} (h:Jb w b D N v) (hb:Below base w w') (hl:b<base):Jb w' b D N v:=
 ⟨⟨(hb.cell (p:=⟨b,0,none⟩) hl).trans h.at'.c0,(hb.cell (p:=⟨b,1,none⟩) hl).trans h.at'.c1,(hb.cell (p:=⟨b,2,none⟩) hl).trans h.at'.c2⟩,λi=>(hb.frozen (p:=⟨b,i,none⟩) hl).trans (h.fz i)⟩
theorem Jb.new (w:World) (t:TypeId) (D N:Int) (v:Value):Jb (w.alloc (.cells #[.int .u64 D,.int .i64 N,v] t)) w.heap.size D N v:=
 ⟨⟨by simp [QM],by simp [QM],by simp [QM]⟩,λi=>by simp [go_sem]⟩
theorem Jb.set {w:World} {b:Nat} {D N:Int} {v:Value} (h:Jb w b D N v) (v':Value):Jb (w.setCell ⟨b,2,none⟩ v') b D N v':=by
 obtain ⟨⟨c0,c1,c2⟩,fz⟩:=h;exact ⟨⟨by simp [go_sem,c0],by simp [go_sem,c1],by simp [go_sem,c2]⟩,λi=>by simp [go_sem,fz]⟩
theorem Eg {w:World} {base size n:Nat} {e:TypeId} {v:Value} {vs:List Value} (h:w.ownsRow base e size v n vs) {p:Addr} (hp:p.block<base) (u:Value):(w.setCell p u).ownsRow base e size v n vs:=
 ownsRow_setCell_other h (λe0=>by have:=(h.lt _ e0).1;omega) u
theorem Yw.low {w:World} {base:Nat} {A:Option Addr} {c:Nat} {rs:List OR} (h:Yw w base A c rs) {p:Addr} (hp:p.block<base) (u:Value):Yw (w.setCell p u) base A c rs:=
 ⟨Eg h.row hp u,λr hr=>⟨(h.each r hr).1,(h.each r hr).2.1,(h.each r hr).2.2.low hp u⟩⟩
end
section
open Gn
namespace Gn
theorem Su {n:Nat} (hn:n≤64):(Ze n).length≤16384:=ZO (Jx1 n) (QA (show 2*n≤128 by omega) (show 2*n≤128 by omega))
theorem Qn1 {m:Nat} {M:List Int} {ps:List (Nat×Nat)} {k:Nat} {s:ES} (h:cl m M (Tz ps k) (Tw ps k)=9223372036854775807):Sa m M ps k s=s:=by unfold Sa;rw [ZM h]
theorem Qr8 {m:Nat} {M:List Int} {ps:List (Nat×Nat)} {k:Nat} {s:ES} (h:cl m M (Tz ps k) (Tw ps k)≠9223372036854775807):
 Sa m M ps k s=⟨s.l++[k - s.nxt,(Te (cl m M (Tz ps k) (Tw ps k))).toNat],k+1,s.cnt+1⟩:=by unfold Sa;rw [ZL h]
theorem Js2 {M:List Int} (h:∀x∈M,Zu x) (p:Nat):Zu (Qe M p):=by
 by_cases hp:p<M.length
 .exact h _ (Ub hp)
 have:Qe M p=0:=by unfold Qe;rw [ZG,List.getElem?_eq_none (by omega)];rfl
 rw [this];unfold Zu;omega
structure Vl9 (s:ES) (k:Nat):Prop where
 nxt:s.nxt≤k
 cnt:s.cnt≤k
 len:s.l.length=2*s.cnt
 rng:∀x∈s.l,(x:Int)≤18446744073709551615
theorem Qo3 {m:Nat} {M:List Int} {ps:List (Nat×Nat)} (h:∀x∈M,Zu x) {k:Nat} (hk:k≤16384):Vl9 (Kf m M ps k) k:=by
 obtain ⟨a,b,c,d⟩:=Jk9 m M ps (λk=>Js2 h _) k (by omega);exact ⟨a,b,c,d⟩
end Gn
theorem Ju1 (l:List Nat) (a b:Nat) {x y:Int} (hx:x=a) (hy:y=b):Qv8 l++[x,y]=Qv8 (l++[a,b]):=by subst hx hy;simp [Qv8]
def Zw6 (w:World) (xs:List Int) (e:Ending) (w':World):Prop:=∃A c,e=.returned (.slice A xs.length c)∧Ow w' w.heap.size 5 .u8 A c xs∧Below w.heap.size w w'
theorem Qa2 (n:Nat) (E:Bool) (A:Option Addr) (c:Nat) (M:List Int) (Ap:Option Addr) (cp:Nat) (w:World) (h:Vd w w.heap.size A c n M) (hk:Je n E M=0) (hn:n≤64) (hp:RdP w w.heap.size Ap (Ze n)):
 Calls prog 97 #[.agg #[.int .i64 n,.bool E,.slice A M.length c],.slice Ap (Ze n).length cp] w (Zw6 w (Il n E M)):=by
 obtain ⟨W,hW,h1,hB,hs⟩:=Cd w 32 n E (.slice A M.length c);have hU8:=elU8;have hU64:=elU64;rcases E with _|_
 .obtain ⟨_,hnn,_,hE1,hE0⟩:=Zz hk;obtain rfl:n=_:=by exact_mod_cast hnn
  obtain ⟨hl,hok⟩:=hE0 rfl;have hlen:M.length=(2*n)*(2*n):=by rw [hl,Bz]
  have HL:=Hd hlen;have HI:Hid (∀k,k≤16384->Vl9 (Kf (2*n) M (Ze n) k) k):=Hd (λk hk=>Qo3 h.i64 hk);have HI64:Hid (∀p,Zu (Qe M p)):=Hd (Js2 h.i64);have hpl:=Su hn;have HM:Hid (∀k,k<(Ze n).length->Tz (Ze n) k<2*n∧Tw (Ze n) k<2*n):=Hd (λk hk=>by
   have:=Qw2.1 (Qi4 hk)
   exact ⟨this.1,this.2.1⟩)
  have HS:Hid (∀k,Kf (2*n) M (Ze n) (k+1)=Sa (2*n) M (Ze n) k (Kf (2*n) M (Ze n) k)):=Hd (λk=>rfl);have HR:Hid (Il n false M=[1]++Aq (Kf (2*n) M (Ze n) (Ze n).length).cnt++Jp (Kf (2*n) M (Ze n) (Ze n).length).l):=Hd rfl;have hM:(M.length:Int)≤9223372036854775807:=h.len;have hrd:=(h.go hB).rd;have hp1:=hp.go hB;clear hlen hl hok hE0 hE1 hnn h hp hk;obtain ⟨ps,hps⟩:∃ps,ps=Ze n:=⟨_,rfl⟩;rw [<-hps] at HI HM HS HR hpl hp1 |-
  clear hps;obtain ⟨r,hr⟩:∃r,r=Il n false M:=⟨_,rfl⟩;rw [<-hr] at HR |-
  clear hr;obtain ⟨enc,henc⟩:∃enc,enc=Kf (2*n) M ps:=⟨_,rfl⟩;rw [<-henc] at HI HS HR;have HZ:Hid (enc 0=⟨[],0,0⟩):=Hd (by rw [henc];rfl);clear henc;obtain ⟨k0,k1,k2⟩:=id h1;go_enter func97,ntmps97
  go_wp2_with fail
  rw [<-hW];clear hW;go_loopw [5,6,7,16] (λs5 s6 s7 s16 wr=>∃k:Nat,s16=.int .i64 k∧k≤ps.length∧∃A1 c1,∃l:List Nat,∃nx ct:Nat,Hid (enc k=⟨l,nx,ct⟩)∧∃xs:List Int,Hid (xs=Qv8 l)∧s5=.slice A1 xs.length c1∧s6=.int .i64 ((nx:Int) - 1)∧s7=.int .i64 ct∧Ow wr W.heap.size 94 .u64 A1 c1 xs∧Below W.heap.size W wr) (λ_ _ _ s _=>ps.length - (intOf s).toNat)
  case atStart=>exact ⟨0,rfl,by omega,none,0,[],0,0,HZ,[],Hd rfl,rfl,rfl,rfl,Ow.nil _ _ _ _,QK _ _⟩
  obtain ⟨k,rfl,hk,A1,c1,l,nx,ct,HE,xs,HXS,rfl,rfl,rfl,hown,hBr⟩:=hrel;rename_i wr _
  have hinv:=HI.out k (by omega);rw [HE.out] at hinv;obtain ⟨i1,i2,i3,i4⟩:=hinv;dsimp only at i1 i2 i3 i4;have hxl:xs.length=2*ct:=by rw [HXS.out,Qj4];exact i3
  rcases ZJ k ps.length with hlt|hge
  .have q0:decide (k<ps.length)=true:=ZE hlt;have q3:(0:Int)≤(k:Int):=by omega
   have q4:(k:Int)<(ps.length:Int):=by omega
   have m0:=Qq hBr k0;have m2:=Qq hBr k2;obtain ⟨g,off,rfl,hg,hc⟩:=(hp1.go hBr) (by omega);obtain ⟨p0,p1⟩:=hc k hlt;obtain ⟨b1,b2⟩:=HM.out k hlt;have HST:=Hd (HS.out k);clear hc;have HPF:Hid (Tz ps k=Tz ps k∧Tw ps k=Tw ps k):=Hd ⟨rfl,rfl⟩;obtain ⟨i,hi⟩:∃i,i=Tz ps k:=⟨_,rfl⟩;obtain ⟨j,hj⟩:∃j,j=Tw ps k:=⟨_,rfl⟩;rw [<-hi] at p0 b1;rw [<-hj] at p1 b2;have HV:Hid (Qe M (i*(2*n)+j)=cl (2*n) M (Tz ps k) (Tw ps k)):=Hd (by rw [hi,hj];rfl);clear hi hj HPF;have hpx:i*(2*n)+j<M.length:=by rw [HL.out];exact Zy b1 b2
   obtain ⟨gm,om,hA,hgm,hcm⟩:=hrd (by omega);have n0:=(hBr.cell (p:=⟨gm,om+(i*(2*n)+j),none⟩) hgm).trans (hcm _ hpx);have hvi:=HI64.out (i*(2*n)+j);have ei:2*(n:Int)*(i:Int)=((i*(2*n):Nat):Int):=by push_cast;rw [Int.mul_comm]
   have hq:=QA (show i≤128 by omega) (show 2*n≤128 by omega);subst hA;clear hcm hrd;generalize Qe M (i*(2*n)+j)=v at*;generalize i*(2*n)=pp at*;have hb3:Below wr.heap.size wr (wr.alloc (.cells #[.int .i64 i,.int .i64 j] 248)):=(QK _ _).alloc (ZH _) _;have hX:=Re.new wr 248 i j;obtain ⟨W3,hW3⟩:∃W3,W3=wr.alloc (.cells #[.int .i64 i,.int .i64 j] 248):=⟨_,rfl⟩;rw [<-hW3] at hb3 hX;obtain ⟨l0,l1,_⟩:=id hX;have m0':=Qq hb3 m0;have m2':=Qq hb3 m2;have n0':=Qq hb3 n0;have hown3:=hown.below hb3;have hB3:=hBr.trans (hb3.mono hBr.size);have HB3:=Hd hB3;have HO3:=Hd hown3;clear hBr hB3 hb3 hown hown3 m0 m2 n0 hp1;rw [hW3] at l0 l1 m0' m2' n0';by_cases hv:v=9223372036854775807
   .have q5:(v==9223372036854775807)=true:=beq_iff_eq.2 hv;have HN:Hid (enc (k+1)=⟨l,nx,ct⟩):=Hd (by rw [HST.out,Qn1 (by rw [<-HV.out];exact hv)];exact HE.out);clear hv hvi;go_wp2_with fail
    rw [<-hW3];clear l0 l1 m0' m2' n0' hW3;go_roundw
    case rel=>exact ⟨k+1,by go_num,by omega,A1,c1,l,nx,ct,HN,xs,HXS,rfl,rfl,rfl,HO3.out,HB3.out⟩
    simp [intOf];omega
   have q5:(v==9223372036854775807)=false:=beq_eq_false_iff_ne.2 hv;have hf:=Qi1 hvi;have HN:Hid (enc (k+1)=⟨l++[k - nx,(Te v).toNat],k+1,ct+1⟩):=Hd (by rw [HST.out,Qr8 (by rw [<-HV.out];exact hv),HE.out,<-HV.out]);have cF:=λW=>Jy9 v W hvi
   clear hv hvi;have hsz:(xs.length+2)*8≤140737488355328:=by omega
   have HXL:=Hd hxl;have HI3:=Hd i3;clear hxl i3;have q6:0≤(k:Int) - ((nx:Int) - 1) - 1:=by omega
   go_wp2_with fail
   rw [<-hW3];rw [<-hW3] at l0 l1 m0' m2' n0';clear hW3
   (with_reducible refine (cF _).mono ?_)
   rintro e w' ⟨rfl,rfl⟩;clear cF l0 l1 m0' m2' n0';have hlit:Ow (W3.alloc (.cells #[.int .u64 ((k:Int) - ((nx:Int) - 1) - 1),.int .u64 (Te v)] 94)) W3.heap.size 94 .u64 (some ⟨W3.heap.size,0,none⟩) 2 [(k:Int) - ((nx:Int) - 1) - 1,Te v]:=Ow.lit W3 W3.heap.size 94 .u64 [(k:Int) - ((nx:Int) - 1) - 1,Te v] (ZH _) (by unfold maxLen;simp);have hown4:=HO3.out.alloc (.cells #[.int .u64 ((k:Int) - ((nx:Int) - 1) - 1),.int .u64 (Te v)] 94);have hB4:=HB3.out.alloc HB3.out.size (.cells #[.int .u64 ((k:Int) - ((nx:Int) - 1) - 1),.int .u64 (Te v)] 94);have hr4:=hlit.rd;have hbs4:=hB4.size;generalize hF:Te v=fv at*;clear hF;go_wp2_with (at_builtin;refine Yu hU64 (W3.alloc (.cells #[.int .u64 ((k:Int) - ((nx:Int) - 1) - 1),.int .u64 fv] 94)) rfl _ _ rfl W.heap.size .u64 A1 c1 xs rfl hown4 _ (some ⟨W3.heap.size,0,none⟩) 2 [(k:Int) - ((nx:Int) - 1) - 1,fv] rfl hr4 hsz hbs4 ?_;intro A2 c2 w5 ho5 hb5)
   have HO5:=Hd ho5;have HB5:=Hd (hB4.trans hb5);clear ho5 hb5 hB4 hown4 hlit hr4 hbs4;go_roundw
   case rel=>exact ⟨k+1,by go_num,by omega,A2,c2,l++[k - nx,fv.toNat],k+1,ct+1,HN,xs++[(k:Int) - ((nx:Int) - 1) - 1,fv],Hd (by rw [HXS.out];exact Ju1 l (k - nx) fv.toNat (by omega) (by omega)),Cx (by simp),by congr 1;push_cast;omega,by go_num,HO5.out,HB5.out⟩
   simp [intOf];omega
  obtain rfl:k=ps.length:=by omega
  have q0:decide (ps.length<ps.length)=false:=by simp
  have cP:=λW=>Qn3 ct W (by omega)
  have hpt:=Sr (n:=ct) (by omega);have cA:∀A c (W:World),Rd W W.heap.size .u64 A xs.length (Qe xs)->Calls prog 95 #[.slice A xs.length c] W λe w'=>∃A' c',e=.returned (.slice A' (Jp l).length c')∧Ow w' W.heap.size 5 .u8 A' c' (Jp l)∧Below W.heap.size W w':=λA c W hr=>by
   have hx2:xs.length=l.length:=by rw [HXS.out,Qj4]
   rw [hx2] at hr |-
   rw [HXS.out] at hr;exact Hk A c l W i4 hr (by omega)
  have hpa:=Md l i4;have hxl2:xs.length=l.length:=by rw [HXS.out,Qj4]
  have HXL2:=Hd hxl2;have HRR:=Hd (show r=[1]++Aq ct++Jp l by rw [HR.out,HE.out]);have HB1:=Hd hB;have HI3:=Hd i3;clear hge hk hxl hxl2 hB i3 i4;have hlit:Ow (wr.alloc (.cells #[.int .u8 1] 5)) wr.heap.size 5 .u8 (some ⟨wr.heap.size,0,none⟩) 1 [1]:=Ow.lit wr wr.heap.size 5 .u8 [1] (ZH _) (by unfold maxLen;simp);have hb4:Below wr.heap.size wr (wr.alloc (.cells #[.int .u8 1] 5)):=(QK _ _).alloc (ZH _) _;obtain ⟨W4,hW4⟩:∃W4,W4=wr.alloc (.cells #[.int .u8 1] 5):=⟨_,rfl⟩;rw [<-hW4] at hlit hb4;have HB4:=Hd hb4;have HBR:=Hd hBr;have HLI:=Hd hlit;have HOW:=Hd hown;clear hlit hb4 hBr hown;go_wp2_with fail
  rw [<-hW4];clear hW4
  (with_reducible refine (cP _).mono ?_)
  rintro e w5 ⟨A5,c5,rfl,ho5,hb5⟩;have hr5:=ho5.rd;have hli5:=HLI.out.below hb5;have HB5:=Ht HB4 hb5;have hbs5:=HB5.out.size;have hsz5:(([1]:List Int).length+(Aq ct).length)*1≤140737488355328:=by simp;omega
  have hpt2:(([1]:List Int)++Aq ct).length≤11:=by simp;omega
  clear hb5 ho5 cP;obtain ⟨pc,hpc⟩:∃pc,pc=Aq ct:=⟨_,rfl⟩;rw [<-hpc] at hr5 hsz5 hpt2 HRR |-
  clear hpc hpt;go_wp2_with (at_builtin;refine Yu hU8 w5 rfl _ _ rfl wr.heap.size .u8 (some ⟨wr.heap.size,0,none⟩) 1 [1] rfl hli5 _ A5 c5 pc rfl hr5 hsz5 hbs5 ?_;intro A6 c6 w6 ho6 hb6)
  have HB6:=Hd (HB5.out.trans hb6);have hr6:=(HOW.out.below HB6.out).rd;have HO6:=Hd ho6;clear hb6 ho6 hr5 hli5 hsz5 hbs5
  (with_reducible refine (cA _ _ _ hr6).mono ?_)
  rintro e w7 ⟨A7,c7,rfl,ho7,hb7⟩;have hr7:=ho7.rd;have hli7:=HO6.out.below hb7;have HB7:=Ht HB6 hb7;have hbs7:=HB7.out.size;have hsz7:(([1]++pc:List Int).length+(Jp l).length)*1≤140737488355328:=by have:=HI3.out;omega
  clear hb7 ho7 cA hr6;obtain ⟨bs,hbs⟩:∃bs,bs=([1]:List Int)++pc:=⟨_,rfl⟩;have hpl:([1]:List Int).length+pc.length=bs.length:=by rw [hbs,ZC]
  rw [<-hbs] at hli7 hsz7 HRR hpt2;have hpl2:1+pc.length=bs.length:=by rw [<-hpl];rfl
  first|rw [hpl]|rw [hpl2]
  clear hbs hpl hpl2;go_wp2_with (at_builtin;refine Yu hU8 w7 rfl _ _ rfl wr.heap.size .u8 A6 c6 bs rfl hli7 _ A7 c7 (Jp l) rfl hr7 hsz7 hbs7 ?_;intro A8 c8 w8 ho8 hb8)
  have HB8:=Hd (HB1.out.trans ((HBR.out.trans ((HB7.out.trans hb8).mono HBR.out.size)).mono HB1.out.size));have HO8:=Hd ho8;have HW:=Hd (ZO HB1.out.size HBR.out.size);clear hb8 ho8 hr7 hli7 hsz7 hbs7;go_ret
  rw [HRR.out];exact ⟨A8,c8,Qw8 (by simp),HO8.out.lower HW.out,HB8.out⟩
 .have HR:Hid (Il n true M=[0]):=Hd rfl;obtain ⟨r,hr⟩:∃r,r=Il n true M:=⟨_,rfl⟩;rw [<-hr] at HR |-
  clear hr h hk hp;obtain ⟨k0,k1,k2⟩:=id h1;have hlit:Ow (W.alloc (.cells #[.int .u8 0] 5)) W.heap.size 5 .u8 (some ⟨W.heap.size,0,none⟩) 1 [0]:=Ow.lit W W.heap.size 5 .u8 [0] (ZH _) (by unfold maxLen;simp);have hb4:Below W.heap.size W (W.alloc (.cells #[.int .u8 0] 5)):=(QK _ _).alloc (ZH _) _;obtain ⟨W4,hW4⟩:∃W4,W4=W.alloc (.cells #[.int .u8 0] 5):=⟨_,rfl⟩;rw [<-hW4] at hlit hb4;have HB4:=Hd (hB.trans (hb4.mono hB.size));have HLI:=Hd (hlit.lower hB.size);clear hlit hb4 hB;go_enter func97,ntmps97
  rw [hW] at k0 k1 k2;go_wp2_with fail
  rw [<-hW];rw [<-hW4];clear hW hW4;go_ret
  rw [HR.out];exact ⟨_,_,rfl,by rw [<-hs];exact HLI.out,HB4.out⟩
namespace Gn
def Vu3 (D:Int) (i:Nat):Int:=D / 2 ^ (8*(7 - i)) % 256
def Qz3 (D:Int) (k:Nat):List Int:=(List.range k).map (Vu3 D)
theorem Zv6 (D:Int) (k:Nat):Qz3 D (k+1)=Qz3 D k++[Vu3 D k]:=by unfold Qz3;rw [List.range_succ,List.map_append];rfl
theorem Qk4 (D:Int) (k:Nat):(Qz3 D k).length=k:=by simp [Qz3]
def Bw (D:Int) (n L:Nat):List Int:=([103,110,109,49]++Qz3 D 8)++Jp [n,L]
def Pm (n:Nat) (os:List OC) (k:Nat):List Int:=(List.range k).flatMap λi=>Il n (Yt os i).e (Yt os i).m
theorem Qs5 (n:Nat) (os:List OC) (k:Nat):Pm n os (k+1)=Pm n os k++Il n (Yt os k).e (Yt os k).m:=by unfold Pm;rw [List.range_succ,List.flatMap_append];simp
def Xf (D:Int) (n:Nat) (os:List OC) (k:Nat):List Int:=Bw D n os.length++Pm n os k
theorem Ef (D:Int) (n:Nat) (os:List OC) (k:Nat):Xf D n os (k+1)=Xf D n os k++Il n (Yt os k).e (Yt os k).m:=by unfold Xf;rw [Qs5,List.append_assoc]
theorem Em (D:Int) (n:Nat) (os:List OC):∀(k j:Nat),(Xf D n os k).length≤(Xf D n os (k+j)).length
 |k,0=>ZH _
 |k,j+1=>by
  rw [<-Nat.add_assoc,Ef,ZC];exact ZO (Em D n os k j) (Nat.le_add_right _ _)
def Mj (D N:Int) (os:List OC):List Int×Int:=
 if Ro N os≠0 then ([],Ro N os) else if 4194304<(Xf D N.toNat os os.length).length then ([],196) else (Xf D N.toNat os os.length,0)
theorem Jc7 {D N:Int} {os:List OC} (h:Ro N os≠0):Mj D N os=([],Ro N os):=by unfold Mj;rw [ZM h]
theorem Zs7 {D:Int} {n:Nat} {os:List OC} {k:Nat} (h:Ro n os=0) (hk:k≤os.length) (hl:4194304<(Xf D n os k).length):Mj D n os=([],196):=by
 unfold Mj;rw [ZL (by omega),ZM];have:=Em D n os k (os.length - k)
 rw [show k+(os.length - k)=os.length by omega] at this;rw [Int.toNat_natCast];omega
theorem Vv5 {D:Int} {n:Nat} {os:List OC} (h:Ro n os=0) (hl:¬4194304<(Xf D n os os.length).length):Mj D n os=(Xf D n os os.length,0):=by
 unfold Mj;rw [ZL (by omega),Int.toNat_natCast,ZL hl]
theorem Je7 {n:Nat} (hn:n≤64) (E:Bool) {M:List Int} (h:∀x∈M,Zu x):(Il n E M).length≤400000:=by
 unfold Il;split
 .simp
 have hk:=Su hn;obtain ⟨_,_,_,d⟩:=Qo3 (m:=2*n) (ps:=Ze n) h hk;have:=Md _ d;have:=Sr (n:=(Kf (2*n) M (Ze n) (Ze n).length).cnt) (by omega);unfold Zc4;simp only [ZC,QI,List.length_nil];omega
end Gn
theorem Vc8 {w:World} {base c:Nat} {e:TypeId} {k:IntKind} {A:Option Addr} {xs:List Int} (h:Ow w base e k A c xs):w.ownsRow base e 1 (.slice A xs.length c) xs.length (xs.map (Value.int k)):=h
def Pc (w:World) (P:List Int×Int) (e:Ending) (w':World):Prop:=∃A c,e=.returned (.tuple #[.slice A P.1.length c,.int .i64 P.2])∧Ow w' w.heap.size 5 .u8 A c P.1∧Below w.heap.size w w'
theorem Qj9 {w w':World} {P:List Int×Int} {xs:List Int} {x:Int} {A:Option Addr} {l c:Nat} {e:Ending} (hP:P=(xs,x)) (hl:l=xs.length) (he:e=.returned (.tuple #[.slice A l c,.int .i64 x])) (ho:Ow w' w.heap.size 5 .u8 A c xs) (hb:Below w.heap.size w w'):Pc w P e w':=by
 subst hP hl;exact ⟨A,c,he,ho,hb⟩
theorem De (w:World):Calls prog 94 #[] w λe w'=>e=.returned (.slice (some ⟨w.heap.size,0,none⟩) 4 4)∧w'=w.alloc (.cells #[.int .u8 103,.int .u8 110,.int .u8 109,.int .u8 49] 5):=by
 go_enter func94,ntmps94
 go_wp2_with fail
 go_ret
 exact ⟨rfl,rfl⟩
theorem Zq5 (D N:Int) (A:Option Addr) (c:Nat) (os:List OC) (w:World) (h:Ud w A os) (hD:0≤D∧D≤18446744073709551615) (hN:Zu N) (hcm:(os.length:Int)≤9223372036854775807):
 Calls prog 47 #[.agg #[.int .u64 D,.int .i64 N,.slice A os.length c]] w (Pc w (Mj D N os)):=by
 obtain ⟨W,hW,h1,hB,hs⟩:=Qr6 w 96 D N (.slice A os.length c);have cC:=Zw4 D N A c os W (h.go hB) hN hcm;have h2:=h.go hB;have hU8:=elU8;obtain ⟨k0,k1,k2⟩:=id h1;go_enter func47,ntmps47
 rw [hW] at k0 k1 k2;go_wp2_with fail
 rw [<-hW];rw [<-hW] at k0 k1 k2;clear hW
 (with_reducible refine cC.mono ?_)
 rintro e w1 ⟨rfl,hb1⟩;clear cC h;have HB1:=Hd (hB.trans (hb1.mono hB.size));have h3:=h2.go hb1;have m0:=Qq hb1 k0;have m1:=Qq hb1 k1;have m2:=Qq hb1 k2;clear k0 k1 k2 h1 h2 hb1 hB hs;by_cases hc:Ro N os=0
 .obtain ⟨hh,hg⟩:=Jw1 hc;obtain ⟨⟨hn0,hn1⟩,hL1,hL2,_⟩:=hh;obtain ⟨n,rfl⟩:=ZV hn0;have HC:=Hd hc;rw [hc];clear hc;have hlen0:Hid (∀i,i<os.length->(Il n (Yt os i).e (Yt os i).m).length≤400000):=Hd (λi hi=>by
   obtain ⟨b,off,_,_,hcell⟩:=h3 (by omega);obtain ⟨Ai,ci,_,_,_,ho⟩:=hcell i hi;exact Je7 (by omega) _ ho.i64)
  have HG:=Hd hg;clear hg;go_wp2_with fail
  (with_reducible refine (De _).mono ?_)
  rintro e w2 ⟨rfl,hw2⟩;have hlit:Ow w2 w1.heap.size 5 .u8 (some ⟨w1.heap.size,0,none⟩) 4 [103,110,109,49]:=by rw [hw2];exact Ow.lit w1 w1.heap.size 5 .u8 [103,110,109,49] (ZH _) (by unfold maxLen;simp)
  have hb2:Below w1.heap.size w1 w2:=by rw [hw2];exact (QK _ _).alloc (ZH _) _
  clear hw2;go_wp2_with fail
  go_loopw [5,16] (λs5 s16 wr=>∃k:Nat,s16=.int .i64 k∧k≤8∧∃A1 c1,∃xs:List Int,Hid (xs=[103,110,109,49]++Qz3 D k)∧s5=.slice A1 xs.length c1∧Ow wr w1.heap.size 5 .u8 A1 c1 xs∧Below w1.heap.size w1 wr) (λ_ s _=>8 - (intOf s).toNat)
  case atStart=>exact ⟨0,rfl,by omega,_,_,_,Hd rfl,rfl,hlit,hb2⟩
  clear hlit hb2;obtain ⟨k,rfl,hk,A1,c1,xs,HX,rfl,hown,hBr⟩:=hrel;rename_i wr _
  have n0:=Qq hBr m0;rcases ZJ k 8 with hlt|hge
  .have q0:decide ((k:Int)<8)=true:=ZE (by omega);have hxl:Hid (xs.length=4+k):=Hd (by rw [HX.out,ZC,Qk4];rfl);have hsz:(xs.length+1)*1≤140737488355328:=by have:=hxl.out;omega
   obtain ⟨hd0,hd1⟩:=hD;have hbs:=hBr.size;go_wp2_with (at_builtin;refine Nh hU8 wr rfl _ _ rfl w1.heap.size .u8 A1 c1 xs rfl hown (D / 2 ^ (8*(7 - k)) % 256) rfl hsz hbs ?_;intro A2 c2 w5 ho5 hb5)
   have HO5:=Hd ho5;have HB5:=Hd (hBr.trans hb5);clear ho5 hb5 hown hBr hbs;go_roundw
   case rel=>exact ⟨k+1,by go_num,by omega,A2,c2,xs++[D / 2 ^ (8*(7 - k)) % 256],Hd (by rw [HX.out,Zv6,List.append_assoc];rfl),Cx (by simp),HO5.out,HB5.out⟩
   simp [intOf];omega
  obtain rfl:k=8:=by omega
  have q0:decide ((8:Int)<8)=false:=by simp
  have n1:=Qq hBr m1;have n2:=Qq hBr m2;have HOW:=Hd hown;have HBR:=Hd hBr;have h4:=h3.go hBr;have hlit:Ow (wr.alloc (.cells #[.int .u64 n,.int .u64 os.length] 94)) wr.heap.size 94 .u64 (some ⟨wr.heap.size,0,none⟩) 2 (Qv8 [n,os.length]):=Ow.lit wr wr.heap.size 94 .u64 [n,os.length] (ZH _) (by unfold maxLen;simp);have hb5:Below wr.heap.size wr (wr.alloc (.cells #[.int .u64 n,.int .u64 os.length] 94)):=(QK _ _).alloc (ZH _) _;obtain ⟨W4,hW4⟩:∃W4,W4=wr.alloc (.cells #[.int .u64 n,.int .u64 os.length] 94):=⟨_,rfl⟩;rw [<-hW4] at hlit hb5;have h2l:∀x∈[n,os.length],(x:Int)≤18446744073709551615:=by
   intro x hx;simp only [List.mem_cons,List.not_mem_nil,or_false] at hx;omega
  have cA:Calls prog 95 #[.slice (some ⟨wr.heap.size,0,none⟩) 2 2] W4 (λe w'=>∃A' c',e=.returned (.slice A' (Jp [n,os.length]).length c')∧Ow w' W4.heap.size 5 .u8 A' c' (Jp [n,os.length])∧Below W4.heap.size W4 w'):=Hk _ 2 [n,os.length] W4 h2l hlit.rd (by simp);have hpa:=Md [n,os.length] h2l;have hxl:xs.length=12:=by rw [HX.out,ZC,Qk4];rfl
  have HXL:=Hd hxl;have hsz5:(xs.length+(Jp [n,os.length]).length)*1≤140737488355328:=by simp only [QI,List.length_nil] at hpa;omega
  have hbl:(xs++Jp [n,os.length]).length≤4194304:=by rw [ZC];simp only [QI,List.length_nil] at hpa;omega
  have HHD:=Hd (show xs++Jp [n,os.length]=Xf D n os 0 by rw [HX.out];unfold Xf Pm;rw [List.range_zero,List.flatMap_nil,List.append_nil];rfl);clear hown hBr hge hk q0 h2l hpa hxl hlit;go_wp2_with fail
  rw [<-hW4];clear hW4
  (with_reducible refine cA.mono ?_)
  rintro e w5 ⟨A5,c5,rfl,ho5,hb6⟩;have hr5:=ho5.rd;have hbw:=hb5.trans (hb6.mono hb5.size);have hown5:=HOW.out.below hbw;have hB5:=(Ht HBR hbw).out;have hbs5:=hB5.size;have j1:=Qq hbw n1;have j2:=Qq hbw n2;have h5:=h4.go hbw;clear ho5 hb6 cA hb5 hbw n1 n2 h4;generalize Jp [n,os.length]=ys at*;obtain ⟨zs,hzs⟩:∃zs,zs=xs++ys:=⟨_,rfl⟩;have hzl:xs.length+ys.length=zs.length:=by rw [hzs,ZC]
  rw [<-hzs] at hbl HHD;have HZ:=Hd hzs;have HZL:=Hd hzl;clear hzs hzl;go_wp2_with (at_builtin;refine Yu hU8 w5 rfl _ _ rfl w1.heap.size .u8 A1 c1 xs rfl hown5 _ A5 c5 ys rfl hr5 hsz5 hbs5 ?_;rw [HZL.out];intro A6 c6 w6 ho6 hb6;have s1:=Qq (hB5.trans hb6) m1)
  (with_reducible refine (Ik n _ (by omega)).mono ?_)
  rintro e w7 ⟨Ap,cp,rfl,hop,hb7⟩;have ho7:Ow w7 w1.heap.size 5 .u8 A6 c6 zs:=by
   have:=ho6
   rw [<-HZ.out] at this;exact this.below hb7
  have hB6:=hB5.trans hb6;have hop7:=Cj hop hB6.size;have hB7:=hB6.trans (hb7.mono hB6.size);have s2:=Qq hB7 m2;clear s1 ho6 hb6 hop hb7 hr5 hown5 hB5 hbs5 hsz5 j1 j2 h5 hB6 HOW HBR;go_wp2_with fail
  have hpl:=Su (n:=n) (by omega);have HC0:=Hd (λi (hi:i<os.length)=>HG.out i hi);go_loopw [5,47] (λs5 s47 wr=>∃k:Nat,s47=.int .i64 k∧k≤os.length∧∃A1 c1,∃xs:List Int,Hid (xs=Xf D n os k)∧s5=.slice A1 xs.length c1∧Hid (xs.length≤4194304)∧Ow wr w1.heap.size 5 .u8 A1 c1 xs∧wr.ownsRow w1.heap.size 248 2 (.slice Ap (Ze n).length cp) (Ze n).length (pv (Ze n))∧Below w1.heap.size w1 wr) (λ_ s _=>os.length - (intOf s).toNat)
  case atStart=>exact ⟨0,rfl,by omega,_,_,_,HHD,rfl,Hd hbl,ho7,hop7,hB7⟩
  clear ho7 hop7 hB7 s2;obtain ⟨k,rfl,hk,A1,c1,xs,HX,rfl,HXL,hown,hop,hBr⟩:=hrel;rename_i wr _
  rcases ZJ k os.length with hlt|hge
  .have q0:decide (k<os.length)=true:=ZE hlt;obtain ⟨b,off,rfl,hlb,hcell⟩:=(h3.go hBr) (by omega);obtain ⟨Ai,ci,e0,e1,e2,hoct⟩:=hcell k hlt;clear hcell;obtain ⟨go1,go2⟩:=HC0.out k hlt;have HNX:=Hd (Ef D n os k);have hol:=hlen0.out k hlt;obtain ⟨o,ho⟩:∃o,o=Yt os k:=⟨_,rfl⟩;rw [<-ho] at e0 e1 e2 hoct go1 go2 HNX hol;clear ho;obtain ⟨on,oe,om⟩:=o;dsimp only at e0 e1 e2 hoct go1 go2 HNX hol;subst go1;obtain ⟨W3,hW3,hb3,hB3,hs3⟩:=Cd wr 32 n oe (.slice Ai om.length ci);have hoct3:=hoct.go hB3;have hop3:=Yx hop hB3;have cO:=Qa2 n oe Ai ci om Ap cp W3 hoct3 go2 (by omega) (Zh1 hop3);have hown3:=hown.below hB3;have hbw:=hBr.trans (hB3.mono hBr.size);obtain ⟨l0,l1,l2⟩:=id hb3;clear hoct hoct3 hop hown hB3 hBr hs3;rw [hW3] at l0 l1 l2;go_wp2_with fail
   rw [<-hW3];clear hW3 l0 l1 l2 hb3
   (with_reducible refine cO.mono ?_)
   rintro e w8 ⟨A8,c8,rfl,ho8,hb8⟩;have hr8:=ho8.rd;have hown8:=hown3.below hb8;have hop8:=Yx hop3 hb8;have hB8:=hbw.trans (hb8.mono hbw.size);have hbs8:=hB8.size;clear hb8 ho8 cO hown3 hop3 hbw;generalize Il n oe om=bs at*;have hsz8:(xs.length+bs.length)*1≤140737488355328:=by have:=HXL.out;omega
   obtain ⟨vs,hvs⟩:∃vs,vs=xs++bs:=⟨_,rfl⟩;have hvl:xs.length+bs.length=vs.length:=by rw [hvs,ZC]
   have HN:Hid (vs=Xf D n os (k+1)):=Hd (by rw [HNX.out,hvs,HX.out]);have HV:=Hd hvs;have HVL:=Hd hvl;clear hvs hvl hol HNX;by_cases hlong:4194304<(vs.length:Int)
   .have q1:decide (4194304<(vs.length:Int))=true:=ZE hlong;have HE:=Hd (Zs7 HC.out (show k+1≤os.length by omega) (by rw [<-HN.out];omega));go_wp2_with (at_builtin;refine Kz hU8 w8 rfl _ _ rfl w1.heap.size .u8 A1 c1 xs rfl hown8 _ A8 c8 bs rfl hr8 hsz8 hbs8 ?_;rw [HVL.out];intro A9 c9 w9 ho9 hb9 hg9)
    go_ret2
    exact Qj9 HE.out rfl rfl (Ow.nil _ _ _ _) (HB1.out.trans ((hB8.trans hb9).mono HB1.out.size))
   have q1:decide (4194304<(vs.length:Int))=false:=ZA hlong;have HL2:=Hd (show vs.length≤4194304 by omega);clear hlong;go_wp2_with (at_builtin;refine Kz hU8 w8 rfl _ _ rfl w1.heap.size .u8 A1 c1 xs rfl hown8 _ A8 c8 bs rfl hr8 hsz8 hbs8 ?_;rw [HVL.out];intro A9 c9 w9 ho9 hb9 hg9)
   have HO9:=Hd ho9;have HP9:=Hd (Dh hop8 (Vc8 hown8) (by decide) hg9);have HB9:=Hd (hB8.trans hb9);clear ho9 hb9 hg9 hown8 hop8 hB8 hbs8 hr8;go_roundw
   case rel=>exact ⟨k+1,by go_num,by omega,A9,c9,vs,HN,rfl,HL2,by rw [HV.out];exact HO9.out,HP9.out,HB9.out⟩
   simp [intOf];omega
  obtain rfl:k=os.length:=by omega
  have q0:decide (os.length<os.length)=false:=by simp
  have HE:=Hd (Vv5 (D:=D) HC.out (by rw [<-HX.out];have:=HXL.out;omega));have HO:=Hd hown;have HB:=Ht HB1 hBr;clear hown hop hBr hge hk;go_wp2_with fail
  go_ret2
  refine Qj9 HE.out (by rw [HX.out]) rfl ?_ HB.out;rw [<-HX.out];exact HO.out.lower HB1.out.size
 .have HE:=Hd (Jc7 (D:=D) hc);have hc':(Ro N os !=0)=true:=bne_iff_ne.2 hc;clear hc;generalize Ro N os=cc at*;go_wp2_with fail
  go_ret2
  exact Qj9 HE.out rfl rfl (Ow.nil _ _ _ _) HB1.out
end
section
namespace Gn
inductive PR (α:Type) where
 |bad (e:Int):PR α
 |ok (v:α) (r:List Int):PR α
def Yc (b:List Int):PR Nat:=if (Uo b).2.2=180 then .bad 192 else if (Uo b).2.2=181 then .bad 193 else .ok (Uo b).1 (b.drop (Uo b).2.1)
def Uq (lo hi:Int) (b:List Int):PR Nat:=
 match Yc b with
 |.bad e=>.bad e
 |.ok n r=>if hi<lo∨(n:Int)<lo∨hi<(n:Int) then .bad 194 else .ok n r
def Zb5 (m:Nat) (M:List Int) (i j:Nat) (v:Int):List Int:=(M.set (i*m+j) v).set (ac j*m+ac i) v
def Kt (n:Nat) (ps:List (Nat×Nat)) (nxt:Nat) (M:List Int) (b:List Int):PR (Nat×List Int):=
 match Uq 0 ((ps.length:Int) - (nxt:Int) - 1) b with
 |.bad e=>.bad e
 |.ok g r=>
  match Yc r with
  |.bad e=>.bad e
  |.ok v r=>if Xx v=9223372036854775807∨¬Hl (Xx v) then .bad 194 else .ok (nxt+g+1,Zb5 (2*n) M (Tz ps (nxt+g)) (Tw ps (nxt+g)) (Xx v)) r
def Ua (n:Nat) (ps:List (Nat×Nat)):Nat->Nat->List Int->List Int->PR (Nat×List Int)
 |0,nxt,M,b=>.ok (nxt,M) b
 |k+1,nxt,M,b=>
  match Kt n ps nxt M b with
  |.bad e=>.bad e
  |.ok s r=>Ua n ps k s.1 s.2 r
def Tp (n:Nat) (ps:List (Nat×Nat)) (b:List Int):PR OC:=
 match b with
 |[]=>.bad 192
 |x::r=>
  if 1<x then .bad 194 else if x=0 then .ok ⟨n,true,[]⟩ r else
   match Uq 0 (ps.length:Int) r with
   |.bad e=>.bad e
   |.ok k r=>
    match Ua n ps k 0 (Gj (2*n)) r with
    |.bad e=>.bad e
    |.ok s r=>.ok ⟨n,false,s.2⟩ r
def Ju3 (n:Nat):PR (Nat×List Int)->PR OC
 |.bad e=>.bad e
 |.ok s r=>.ok ⟨n,false,s.2⟩ r
def Pe (n:Nat) (ps:List (Nat×Nat)) (k:Nat):PR (Nat×List Int)->PR (Nat×List Int)
 |.bad e=>.bad e
 |.ok s r=>Ua n ps k s.1 s.2 r
theorem Jj5 {n:Nat} {ps:List (Nat×Nat)} {x:Int} {r:List Int} (h:1<x):Tp n ps (x::r)=.bad 194:=by unfold Tp;exact ZM h
theorem Zd4 (n:Nat) (ps:List (Nat×Nat)) (r:List Int):Tp n ps (0::r)=.ok ⟨n,true,[]⟩ r:=by unfold Tp;simp
theorem Qc6 {n:Nat} {ps:List (Nat×Nat)} {r:List Int} {x:Int} (h:Uq 0 (ps.length:Int) r=.bad x):Tp n ps (1::r)=.bad x:=by unfold Tp;simp only;rw [ZL (by omega),ZL (by omega),h]
theorem Qn9 {n:Nat} {ps:List (Nat×Nat)} {r r':List Int} {k:Nat} (h:Uq 0 (ps.length:Int) r=.ok k r'):Tp n ps (1::r)=Ju3 n (Ua n ps k 0 (Gj (2*n)) r'):=by
 unfold Tp;simp only
 rw [ZL (by omega),ZL (by omega),h];simp only
 cases Ua n ps k 0 (Gj (2*n)) r'<;>rfl
theorem Qg4 (n:Nat) (ps:List (Nat×Nat)) (k nx:Nat) (M b:List Int):Ua n ps (k+1) nx M b=Pe n ps k (Kt n ps nx M b):=by
 show (match Kt n ps nx M b with|.bad e=>_|.ok s r=>_)=_
 cases Kt n ps nx M b<;>rfl
section
variable {n:Nat} {ps:List (Nat×Nat)} {nx g v:Nat} {M b r r':List Int} {x:Int}
theorem Ql1 (h:Uq 0 ((ps.length:Int) - (nx:Int) - 1) b=.bad x):Kt n ps nx M b=.bad x:=by unfold Kt;rw [h]
theorem Qn6 (h:Uq 0 ((ps.length:Int) - (nx:Int) - 1) b=.ok g r) (h2:Yc r=.bad x):Kt n ps nx M b=.bad x:=by unfold Kt;rw [h];simp only;rw [h2]
theorem Iu (h:Uq 0 ((ps.length:Int) - (nx:Int) - 1) b=.ok g r) (h2:Yc r=.ok v r') (h3:Xx v=9223372036854775807∨¬Hl (Xx v)):Kt n ps nx M b=.bad 194:=by
 unfold Kt;rw [h];simp only;rw [h2];exact ZM h3
theorem Zp3 (h:Uq 0 ((ps.length:Int) - (nx:Int) - 1) b=.ok g r) (h2:Yc r=.ok v r') (h3:¬(Xx v=9223372036854775807∨¬Hl (Xx v))):
 Kt n ps nx M b=.ok (nx+g+1,Zb5 (2*n) M (Tz ps (nx+g)) (Tw ps (nx+g)) (Xx v)) r':=by
 unfold Kt;rw [h];simp only;rw [h2];exact ZL h3
end
theorem Vg9 {n:Nat} {ps:List (Nat×Nat)} {b r:List Int} {o:OC} (h:Tp n ps b=.ok o r):o.n=n:=by
 unfold Tp at h;split at h
 .cases h
 split at h
 .cases h
 split at h
 .injection h with h1 h2;subst h1;rfl
 split at h
 .cases h
 split at h
 .cases h
 injection h with h1 h2;subst h1;rfl
def Ss (n:Nat) (ps:List (Nat×Nat)):Nat->List OC->List Int->PR (List OC)
 |0,os,b=>.ok os b
 |k+1,os,b=>
  match Tp n ps b with
  |.bad e=>.bad e
  |.ok o r=>Ss n ps k (os++[o]) r
theorem Zp4 {n:Nat} {ps:List (Nat×Nat)} {k:Nat} {os:List OC} {b:List Int} {x:Int} (h:Tp n ps b=.bad x):Ss n ps (k+1) os b=.bad x:=by unfold Ss;rw [h]
theorem Jh2 {n:Nat} {ps:List (Nat×Nat)} {k:Nat} {os:List OC} {b r:List Int} {o:OC} (h:Tp n ps b=.ok o r):Ss n ps (k+1) os b=Ss n ps k (os++[o]) r:=by
 show (match Tp n ps b with|.bad e=>_|.ok o r=>_)=_
 rw [h]
theorem Zc6 (n:Nat) (ps:List (Nat×Nat)) (os:List OC) (b:List Int):Ss n ps 0 os b=.ok os b:=rfl
def Ws (b:List Int):Int:=b.foldl (λd x=>d*256+x) 0
def Iz (D:Int) (b:List Int):PR (Int×Int×List OC):=
 match Uq 0 64 b with
 |.bad e=>.bad e
 |.ok n r=>
  match Uq 1 4096 r with
  |.bad e=>.bad e
  |.ok k r=>
   if 4194304<4*(n:Int)*n*k then .bad 194 else
    match Ss n (Ze n) k [] r with
    |.bad e=>.bad e
    |.ok os r=>if 0<r.length then .bad 195 else .ok (D,n,os) r
def Vr6 (b:List Int):PR (Int×Int×List OC):=
 if b.length<4 then .bad 192
 else if b.take 4≠[103,110,109,49] then .bad 191
 else if (b.drop 4).length<8 then .bad 192
 else Iz (Ws ((b.drop 4).take 8)) ((b.drop 4).drop 8)
end Gn
end
section
open Gn
namespace Gn
end Gn
theorem RdP.more {w:World} {B B':Nat} {A:Option Addr} {ps:List (Nat×Nat)} (h:RdP w B A ps) (hB:B≤B'):RdP w B' A ps:=λhn=>by
 obtain ⟨b,off,e,_,hc⟩:=h hn;exact ⟨b,off,e,by omega,hc⟩
theorem RdP.below {w w':World} {B:Nat} {A:Option Addr} {ps:List (Nat×Nat)} (h:RdP w B A ps) (hb:Below B w w'):RdP w' B A ps:=λhn=>by
 obtain ⟨b,off,e,hlt,hc⟩:=h hn;exact ⟨b,off,e,hlt,λi hi=>⟨(hb.cell (p:=⟨b,off+i*2,none⟩) hlt).trans (hc i hi).1,(hb.cell (p:=⟨b,off+i*2+1,none⟩) hlt).trans (hc i hi).2⟩⟩
theorem Re.set {w:World} {b:Nat} {i j:Int} (h:Re w b i j) (i' j':Int):Re ((w.setCell ⟨b,0,none⟩ (.int .i64 i')).setCell ⟨b,1,none⟩ (.int .i64 j')) b i' j':=by
 obtain ⟨c0,c1,fz⟩:=h;refine ⟨?_,?_,λk=>?_⟩
 .simp [go_sem,c0,c1]
 .simp [go_sem,c0,c1]
 simp [go_sem,fz]
end
