/- Lemmas for wholeNotEmpty; no conditions. -/
import Derived.Test.YtpggdkenajfjjaaGreatDoorGbt
import Derived.Test.YtpggdkenajfjjaaGreatDoorGbn
import Derived.Test.YtpggdkenajfjjaaGreatDoorGby
set_option linter.all false
set_option maxRecDepth 100000
set_option maxHeartbeats 16000000
namespace Go.Proofs.YtpggdkenajfjjaaGreatDoor
open Go.RowKit Tryz
open Go.Lib renaming hid → Hd
section
open Gn
def evC (es:List Ql):List Value:=es.flatMap Qj
theorem Js1 (es:List Ql) (e:Ql):evC (es++[e])=evC es++Qj e:=by unfold evC;rw [List.flatMap_append];simp
theorem Zl6 (es:List Ql):(evC es).length=es.length*10:=by
 unfold evC;induction es with
 |nil=>rfl
 |cons e es ih=>rw [List.flatMap_cons,ZC,ih];simp [Qj];omega
theorem Qy4 {w:World} {base c:Nat} {A:Option Addr} {es:List Ql} (h:w.ownsRow base 56 10 (.slice A es.length c) es.length (evC es)) (hl:0<es.length):∃g,A=some ⟨g,0,none⟩∧g<w.heap.size∧∀q u,(evC es)[q]? =some u->w.cell? ⟨g,q,none⟩=some u:=by
 rcases h.2 with ⟨hv,h0⟩|⟨g,cap,cur,hv,hb,hh,_⟩
 .omega
 injection hv with h1 h2 h3;subst h1;refine ⟨g,rfl,(h.lt g rfl).2,λq u hu=>?_⟩;have:=h.cells (g:=g) rfl q u hu
 rwa [show (⟨g,0,none⟩:Addr).add q=⟨g,q,none⟩ by unfold Addr.add;split<;>simp_all] at this
theorem Ju8 (base c:Nat) (A:Option Addr) (es:List Ql) (hf:Ut es=true) (w:World) (h:w.ownsRow base 56 10 (.slice A es.length c) es.length (evC es)):
 Calls prog 64 #[.slice A es.length c] w λe w'=>e=.returned (.bool true)∧Below w.heap.size w w':=by
 match es,hf,h with
 |[],_,_=>
  go_enter func64,ntmps64
  go_wp2_with fail
  go_ret
  exact ⟨rfl,QK _ _⟩
 |[a],hf,h=>
  obtain ⟨g,hA,hg,hc⟩:=Qy4 h (by simp);have k:=hc 2 (.int .i64 a.kind) rfl;have q0:(a.kind !=12)=true:=by
   have:decide (a.kind≠12)=true:=hf
   simpa using this
  subst hA;clear h hc hf;go_enter func64,ntmps64
  go_wp2_with fail
  go_ret
  exact ⟨rfl,QK _ _⟩
 |[a,b],hf,h=>
  obtain ⟨g,hA,hg,hc⟩:=Qy4 h (by simp);have hf:(decide (a.kind=12)&&(decide (b.kind=12)&&(Zf2 a b&&decide (b.op=Ry a.op))))=true:=hf;unfold Zf2 at hf;simp only [ZX,ZU] at hf;obtain ⟨ka,kb,⟨hav,han⟩,ho⟩:=hf;have a0:=hc 0 (.int .i64 a.fr) rfl;have a1:=hc 1 (.int .i64 a.tg) rfl;have a2:=hc 2 (.int .i64 a.kind) rfl;have a3:=hc 3 (.int .i64 a.dst) rfl;have a4:=hc 4 (.int .i64 a.arr) rfl;have a5:=hc 5 (.int .i64 a.op) rfl;have a6:=hc 6 (.int .i64 a.av) rfl;have a7:=hc 7 (.int .i64 a.an) rfl;have a8:=hc 8 (.int .i64 a.bv) rfl;have a9:=hc 9 (.int .i64 a.bn) rfl;have b0:=hc 10 (.int .i64 b.fr) rfl;have b1:=hc 11 (.int .i64 b.tg) rfl;have b2:=hc 12 (.int .i64 b.kind) rfl;have b3:=hc 13 (.int .i64 b.dst) rfl;have b4:=hc 14 (.int .i64 b.arr) rfl;have b5:=hc 15 (.int .i64 b.op) rfl;have b6:=hc 16 (.int .i64 b.av) rfl;have b7:=hc 17 (.int .i64 b.an) rfl;have b8:=hc 18 (.int .i64 b.bv) rfl;have b9:=hc 19 (.int .i64 b.bn) rfl;subst hA;have cN:=λW=>Vq7 a.op W
  have cA:=λW=>Nn a.av a.an b.av b.an W
  have cB:=λW=>Nn a.bv a.bn b.bv b.bn W
  rw [ZE hav] at cA;rw [ZE han] at cB;have q0:(a.kind==12)=true:=by simp [ka]
  have q1:(b.kind==12)=true:=by simp [kb]
  have q2:(b.op==Ry a.op)=true:=by simp [ho]
  clear h hc hav han ho ka kb;go_enter func64,ntmps64
  go_upto_region 7 with fail
  go_cut [3,4] (λs3 s4 wx=>∃x3 x4,s3=.pointer (some ⟨x3,0,none⟩)∧s4=.pointer (some ⟨x4,0,none⟩)∧Bx wx x3 (Qj a)∧Bx wx x4 (Qj b)∧Below w.heap.size w wx)
  case first=>
   clear cN cA cB q0 q1 q2;go_region
   all_goals
    go_wp2_with fail
    go_meet
   all_goals
    case rel=>
     first
     |(obtain ⟨V,hV,h1,h2,hb,_⟩:=Vu w (Qj a) 56 (Qj b) 56
       unfold Qj at hV;exact ⟨_,_,rfl,rfl,(by rw [<-hV];exact h1.bx.drew),(by rw [<-hV];exact h2.bx.drew),(by rw [<-hV];exact hb.drew)⟩)
     |(obtain ⟨V,hV,h1,h2,hb,_⟩:=Vu w (Qj b) 56 (Qj a) 56
       unfold Qj at hV;exact ⟨_,_,rfl,rfl,(by rw [<-hV];exact h2.bx.drew),(by rw [<-hV];exact h1.bx.drew),(by rw [<-hV];exact hb.drew)⟩)
  obtain ⟨x3,x4,rfl,rfl,h3,h4,hb⟩:=hcut;clear a0 a1 a2 a3 a4 a5 a6 a7 a8 a9 b0 b1 b2 b3 b4 b5 b6 b7 b8 b9;have a2:=Qz.cell (h3.cell 2 _ rfl);have a5:=Qz.cell (h3.cell 5 _ rfl);have a6:=Qz.cell (h3.cell 6 _ rfl);have a7:=Qz.cell (h3.cell 7 _ rfl);have a8:=Qz.cell (h3.cell 8 _ rfl);have a9:=Qz.cell (h3.cell 9 _ rfl);have b2:=Qz.cell (h4.cell 2 _ rfl);have b5:=Qz.cell (h4.cell 5 _ rfl);have b6:=Qz.cell (h4.cell 6 _ rfl);have b7:=Qz.cell (h4.cell 7 _ rfl);have b8:=Qz.cell (h4.cell 8 _ rfl);have b9:=Qz.cell (h4.cell 9 _ rfl);have HB:=Hd hb;clear h3 h4 hb;go_upto_region 8 with fail
  refine Qk (by kernel_rfl) (by kernel_rfl) ?_
  repeat (go_big_quiet_step ((go_at_call 118;with_reducible exact Qw (cN _))))
  refine wpQuiet_nil ?_;intro w5 hb5;go_wp2_with fail
  go_ret
  exact ⟨rfl,(Ht HB hb5).out⟩
 |a::b::c::l,hf,_=>simp [Ut] at hf
def GNm (w:World) (m:GM) (g:Zv):Prop:=0<g.sizes.length->∃b off,m.aa=some ⟨b,off,none⟩∧b<w.heap.size∧∀i,i<g.sizes.length->∃s,w.cell? ⟨b,off+i*2,none⟩=some (.string s)
theorem GNm.go {w w':World} {m:GM} {g:Zv} (h:GNm w m g) (hb:Below w.heap.size w w'):GNm w' m g:=λhn=>by
 obtain ⟨b,off,e,hl,hc⟩:=h hn;exact ⟨b,off,e,ZI hl hb.size,λi hi=>by
  obtain ⟨s,hs⟩:=hc i hi;exact ⟨s,Qq hb hs⟩⟩
def Ke (es:List Ql) (k:Nat) (p:Int):List Ql:=(es.take k).filter λe=>decide (e.fr=p)
theorem Zo5 (es:List Ql) (p:Int):Ke es es.length p=Uh es p:=by unfold Ke Uh;rw [List.take_length]
theorem Zx6 {es:List Ql} {k:Nat} {p:Int} (hk:k<es.length) (h:(Qx es k).fr=p):Ke es (k+1) p=Ke es k p++[Qx es k]:=by
 have e:Qx es k=es[k]:=by unfold Qx;simp [hk]
 unfold Ke;rw [List.take_succ_eq_append_getElem hk,List.filter_append,<-e];simp [h]
theorem Qp9 {es:List Ql} {k:Nat} {p:Int} (hk:k<es.length) (h:(Qx es k).fr≠p):Ke es (k+1) p=Ke es k p:=by
 have e:Qx es k=es[k]:=by unfold Qx;simp [hk]
 unfold Ke;rw [List.take_succ_eq_append_getElem hk,List.filter_append,<-e];simp [h]
theorem Jz5 (es:List Ql) (k:Nat) (p:Int):(Ke es k p).length≤k:=by
 unfold Ke;exact ZO (List.length_filter_le _ _) (by rw [List.length_take];omega)
theorem Jv5 (w:World) (t:TypeId) (e:Ql):∀i u,(Qj e)[i]? =some u->(w.alloc (.cells (Qj e).toArray t)).cell? ((⟨w.heap.size,0,none⟩:Addr).add i)=some u:=by
 intro i u h;rw [show ((⟨w.heap.size,0,none⟩:Addr).add i)=⟨w.heap.size,i,none⟩ by unfold Addr.add;split<;>simp_all,QM];simpa using h
theorem Jc8 (e:Ql):∀u∈Qj e,u.oneCell'=true:=by simp [Qj,Value.oneCell']
theorem Zp7 {w:World} {base size n:Nat} {e:TypeId} {v:Value} {vs:List Value} (h:w.ownsRow base e size v n vs):∃A c,v=.slice A n c:=by
 rcases h.2 with ⟨hv,h0⟩|⟨g,cap,cur,hv,_⟩
 .exact ⟨_,_,by rw [hv,h0]⟩
 exact ⟨_,_,hv⟩
theorem Jk4 (m:GM) (g:Zv) (w:World) (hG:Hg w m g) (hNm:GNm w m g) (hg:Gn.Vj2 g):Calls prog 27 #[Jm m g] w λe w'=>e=.returned (.int .i64 0)∧Below w.heap.size w w':=by
 obtain ⟨va,vc,aa,ac,ea,ec⟩:=m;obtain ⟨W,hW,hX,hB⟩:=Qh w (Qt ⟨va,vc,aa,ac,ea,ec⟩ g) 26;have hs:W.heap.size=w.heap.size+1:=by rw [hW];simp
 obtain ⟨x0,x1,x2,x3⟩:=hX.c3;have x5:=hX.cell 5 _ rfl;have hlt:=hX.lt;obtain ⟨t0,t1⟩:=hg.temps;obtain ⟨t4,t5⟩:=hg.points;have t3:=hg.n;have t6:=hg.edges;have t7:=hg.arrays;have t2:(g.nv:Int)≤64:=by unfold Zv.n at t3;omega
 have e0:IntKind.i64.wrap ((g.nv:Int)+g.temps)=g.n:=by
  rw [show (g.nv:Int)+g.temps=g.n from rfl];exact QQ _ (by unfold Zv.n at*;omega)
 have q0:decide (g.temps<0)=false:=ZA (by omega);have q1:decide (g.temps>64)=false:=ZA (by omega);have q3:decide (g.n>64)=false:=ZA (by omega);have q4:decide (g.points<1)=false:=ZA (by omega);have q5:decide (g.points>4096)=false:=ZA (by omega);have q6:decide ((g.edges.length:Int)>8192)=false:=ZA (by omega);have q7:decide ((g.sizes.length:Int)>16)=false:=ZA (by omega);obtain ⟨pn,hpn⟩:=ZV (show 0≤g.points by omega);have hpl:pn≤4096:=by omega
 have hmk:=λW=>run_make_row' (P:=prog) 125 24 (.slice none 0 0) 24 underlying125 (by kernel_rfl) rfl .i64 .i64 pn (by omega) (by omega) W
 obtain ⟨SL,hSL⟩:∃SL,SL=g.sizes.length:=⟨_,rfl⟩;obtain ⟨EL,hEL⟩:∃EL,EL=g.edges.length:=⟨_,rfl⟩;have hSLm:SL≤16:=by omega
 have hELm:EL≤8192:=by omega
 have HSL:=Hd hSL;have HEL:=Hd hEL;have HpN:=Hd hpn;have HG0:=Hd hG;have HN0:=Hd hNm;have HGd:=Hd hg;have HX:=Hd hX;have HB:=Hd hB;have HT:=Hd (show 0≤g.temps∧g.temps≤64∧g.nv≤64 by omega);rw [<-hSL] at q7;rw [<-hEL] at q6;clear t0 t1 t2 t3 t4 t5 t6 t7 hG hNm hg hX hB;unfold Jm Qt at*;dsimp only at*;rw [hpn] at q4 q5 x3 hW |-
 rw [<-hSL] at x2 hW |-
 rw [<-hEL] at x5 hW |-
 clear hpn hSL hEL;have HWs:=Hd hs;clear hs;go_enter func27,ntmps27
 go_upto_region 1 with fail
 rw [<-hW];clear hW;go_upto_region 8 with fail
 clear x0 x1 x2 x3 x5 hlt q0 q1 q3 q4 q5 q6 q7 e0;go_loopw [51] (λs wr=>∃i:Nat,s=.int .i64 i∧i≤SL∧Below W.heap.size W wr) (λs _=>SL - (Go.RowKit.intOf s).toNat)
 case atStart=>exact ⟨0,rfl,by omega,QK _ _⟩
 obtain ⟨i,rfl,hi,hbr⟩:=hrel;rcases ZJ i SL with hlt|hge
 .have d0:decide ((i:Int)<(SL:Int))=true:=ZE (by omega);have p0:(0:Int)≤(i:Int):=by omega
  have p1:(i:Int)<(SL:Int):=by omega
  have hwr:=(Ht HB hbr).out;obtain ⟨ab,ao,ha,hal,hac⟩:=HG0.out.arrs (by rw [<-HSL.out];omega);obtain ⟨_,_,ha2,hal2,hac2⟩:=HN0.out (by rw [<-HSL.out];omega);have ha:aa=some ⟨ab,ao,none⟩:=ha;subst ha;injection ha2 with ha2;injection ha2 with h1 h2;subst h1 h2;obtain ⟨_,hsn⟩:=hac2 i (by rw [<-HSL.out];exact hlt);have k0:=(hwr.cell (p:=⟨ab,ao+i*2,none⟩) hal).trans hsn;have k1:=(hwr.cell (p:=⟨ab,ao+i*2+1,none⟩) hal).trans (hac i (by rw [<-HSL.out];exact hlt));have hal1:ab<wr.heap.size:=ZI hal hwr.size;obtain ⟨z1,z2⟩:=HGd.out.sizes _ (Ub (xs:=g.sizes) (i:=i) (by rw [<-HSL.out];exact hlt));generalize Qe g.sizes i=sz at*;have r0:decide (sz<1)=false:=ZA (by omega);have r1:decide (sz>1024)=false:=ZA (by omega);have HBR:=Hd hbr;have HLT:=Hd hlt;clear hsn hac hac2 hal hal2 z1 z2 hbr hwr hlt hi;go_wp2_with fail
  go_roundw
  case rel=>exact ⟨i+1,by go_num,by have:=HLT.out;omega,HBR.out.alloc HBR.out.size _⟩
  have:=HLT.out;simp [Go.RowKit.intOf];omega
 obtain rfl:i=SL:=by omega
 have d0:decide ((i:Int)<(i:Int))=false:=by simp
 have HXr:=Hd (HX.out.under hbr (by have:=HWs.out;omega));have HBr:=Ht HB hbr;clear hbr HX HB hge hi;obtain ⟨_,hW5,hX5,hB5⟩:=Qh wr (Qt ⟨va,vc,aa,ac,ea,ec⟩ g) 123;have HX6:=Hd (HXr.out.below hB5);have HB6:=Ht HBr hB5;have HG6:=Hd hX5;have HS6:=Hd (show w.heap.size<wr.heap.size from HXr.out.lt);obtain ⟨x0,x1,x2,x3,x4,x5⟩:=HXr.out.c5;have hlt:=HXr.out.lt;unfold Qt at hW5;dsimp only at x2 x3 x5 hW5;rw [HpN.out] at x3 hW5;rw [<-HSL.out] at x2 hW5;rw [<-HEL.out] at x5 hW5;clear hX5 hB5;go_upto_region 14 with fail
 rw [<-hW5];clear hW5 x0 x1 x2 x3 x4 x5 hlt;obtain ⟨g0,g1,g2,g3,g4,g5⟩:=HG6.out.c5;have gl:=HG6.out.lt;have x4:=HX6.out.cell 4 _ rfl;have hlt:=HX6.out.lt;dsimp only at g2 g3 g5;rw [HpN.out] at g3;rw [<-HSL.out] at g2;rw [<-HEL.out] at g5;have cP:=λW=>Gg ⟨va,vc,aa,ac,ea,ec⟩ g g.exit true (ZE HGd.out.exit) W
 unfold Jm Qt at cP;dsimp only at cP;rw [HpN.out,<-HSL.out,<-HEL.out] at cP;go_upto_region 16 with (go_at_call 62;(with_reducible refine (cP _).mono ?_);rintro e1 w7 ⟨rfl,hb7⟩;have HX7:=Hd (HX6.out.below hb7);have HG7:=Hd (HG6.out.below hb7);have HB7:=Ht HB6 hb7;have hs7:=hb7.size;clear hb7)
 clear g0 g1 g2 g3 g4 g5 gl x4 hlt cP HX6 HG6 HB6;have x3:=HX7.out.cell 3 _ rfl;have x5:=HX7.out.cell 5 _ rfl;have hlt:=HX7.out.lt;rw [HpN.out] at x3;rw [<-HEL.out] at x5;obtain ⟨W8,hW8,hT8,hB8⟩:∃W8,W8=w7.alloc (.cells (madeCells #[.slice none 0 0] pn) 24)∧Tb W8 (w7.heap.size+1) (w7.heap.size+1) w7.heap.size pn 56 10 (λ_=>[])∧Below w7.heap.size w7 W8:=⟨_,rfl,Tb.made w7 pn _ _ _,(QK _ _).alloc (ZH _) _⟩;have HX8:=Hd (HX7.out.below hB8);have HG8:=Hd (HG7.out.below hB8);have HB8:=Ht HB7 hB8;have HT8:=Hd hT8;have hTw:wr.heap.size<w7.heap.size:=HG7.out.lt;have HTw:=Hd hTw;clear hT8 hB8 HX7 HG7 HB7;go_upto_region 17 with fail
 rw [<-hW8];clear hW8;have x5:=HX8.out.cell 5 _ rfl;have hlt:=HX8.out.lt;rw [<-HEL.out] at x5;clear x3;generalize hTe:w7.heap.size=T at*;generalize hge5:wr.heap.size=b5 at*;have HT0:=Hd hTe;clear hTe hge5 hs7;go_upto_region 18 with fail
 clear x5 hlt;go_loopw [77] (λs wx=>∃k:Nat,s=.int .i64 k∧k≤EL∧∃hi,Tb wx (T+1) hi T pn 56 10 (λp=>evC (Ke g.edges k (p:Int)))∧Bx wx w.heap.size (Qt ⟨va,vc,aa,ac,ea,ec⟩ g)∧Bx wx b5 (Qt ⟨va,vc,aa,ac,ea,ec⟩ g)∧Below w.heap.size w wx) (λs _=>EL - (Go.RowKit.intOf s).toNat)
 case atStart=>exact ⟨0,rfl,by omega,_,HT8.out,HX8.out,HG8.out,HB8.out⟩
 clear HT8 HX8 HG8 HB8;obtain ⟨k,rfl,hk,hi,hTb,hXr,hGr,hBr⟩:=hrel;rcases ZJ k EL with hkt|hge
 .have dk:decide ((k:Int)<(EL:Int))=true:=ZE (by omega);have d1:(0:Int)≤(k:Int):=by omega
  have d0:(k:Int)<(EL:Int):=by omega
  obtain ⟨eb,eo,he,_,hE⟩:=(HG0.out.go hBr).edge (i:=k) (by rw [<-HEL.out];exact hkt);have he:ea=some ⟨eb,eo,none⟩:=he;subst he;have hkl:k<g.edges.length:=by rw [<-HEL.out];exact hkt
  have HEB:=Hd (HGd.out.right _ (Vp9 hkl));have HFr:=Hd (show ∀p:Nat,(Qx g.edges k).fr=(p:Int)->∀q:Nat,evC (Ke g.edges (k+1) (q:Int))=upd (λq:Nat=>evC (Ke g.edges k (q:Int))) p (evC (Ke g.edges k (p:Int))++Qj (Qx g.edges k)) q from λp hp q=>by
   unfold upd;by_cases hq:q=p
   .subst hq;rw [ZM rfl,Zx6 hkl hp,Js1]
   rw [ZL hq,Qp9 hkl (λh=>hq (by omega))])
  obtain ⟨⟨fr0,fr1⟩,_⟩:(0≤(Qx g.edges k).fr∧(Qx g.edges k).fr<g.points)∧True:=by
   have:=HEB.out
   unfold Xa at this;simp only [ZX,ZU] at this;exact ⟨this.1,trivial⟩
  rw [HpN.out] at fr1;have HKT:=Hd hkt;have HXr:=Hd hXr;have HGr:=Hd hGr;have HBr:=Hd hBr;have HTb:=Hd hTb;clear hXr hGr hBr hTb hkl hkt hk;generalize Qx g.edges k=ed at*;obtain ⟨e0,e1,e2,e3,e4,e5,e6,e7,e8,e9⟩:=hE;obtain ⟨_,hV,hXe,hBe⟩:=Qh wr (Qj ed) 56;have HXe:=Hd hXe;have HX1:=Hd (HXr.out.below hBe);have HG1:=Hd (HGr.out.below hBe);have HB1:=Ht HBr hBe;have HT1:=Hd (HTb.out.below hBe);have hhi:=HTb.out.hib;have hTbase:=HTb.out.lt;unfold Qj at hV;clear hXe hBe HXr HGr HBr;go_upto_region 20 with fail
  rw [<-hV];clear hV e0 e1 e2 e3 e4 e5 e6 e7 e8 e9;obtain ⟨g0,g1,g2,g3,g4,g5⟩:=HG1.out.c5;have gl:=HG1.out.lt;rw [HpN.out] at g3;rw [<-HSL.out] at g2;rw [<-HEL.out] at g5;obtain ⟨x0,x1,x2,x3,x4,x5,x6,x7,x8,x9⟩:=HXe.out.c9;have xl:=HXe.out.lt;have cR:=λW=>Jq6 ⟨va,vc,aa,ac,some ⟨eb,eo,none⟩,ec⟩ g ed HT.out.1 HT.out.2.1 HT.out.2.2 HEB.out W
  unfold Jm Qt Qj at cR;dsimp only at cR;rw [HpN.out,<-HSL.out,<-HEL.out] at cR;go_upto_region 22 with (go_at_call 63;(with_reducible refine (cR _).mono ?_);rintro e1 w9 ⟨rfl,hb7⟩;have HX9:=Hd (HX1.out.below hb7);have HG9:=Hd (HG1.out.below hb7);have HB9:=Ht HB1 hb7;have HT9:=Hd (HT1.out.below hb7);have HE9:=Hd (HXe.out.below hb7);have hs9:=Hd hb7.size;clear hb7)
  clear g0 g1 g2 g3 g4 g5 gl x0 x1 x2 x3 x4 x5 x6 x7 x8 x9 xl cR HX1 HG1 HB1 HT1 HXe;obtain ⟨fr,tg,kd,ds,ar,op,av,an,bv,bn⟩:=ed;dsimp only at fr0 fr1;obtain ⟨p,hp⟩:=ZV fr0;subst hp;have hpl2:p<pn:=by omega
  have HF2:=Hd (HFr.out p rfl);obtain ⟨v,l,hc,hown,hoff,hbd⟩:=HT9.out.get hpl2;have hfT:=HT9.out.fr p;have hlT:=HT9.out.lt;have d2:(p:Int)<(pn:Int):=by omega
  have d3:(0:Int)≤(p:Int):=by omega
  have hln:Hid (∀l:Nat,(evC (Ke g.edges k (p:Int))).length=l*10->(l+1)*80≤140737488355328):=Hd (λl hl=>by
   have:=Jz5 g.edges k p
   rw [Zl6] at hl;have:=HKT.out
   omega)
  obtain ⟨x0,x1,x2,x3,x4,x5,x6,x7,x8,x9⟩:=HE9.out.c9;have xl:=HE9.out.lt;have hBd:Below w9.heap.size w9 ((w9.alloc (.cells #[.int .i64 (p:Int),.int .i64 tg,.int .i64 kd,.int .i64 ds,.int .i64 ar,.int .i64 op,.int .i64 av,.int .i64 an,.int .i64 bv,.int .i64 bn] 56)).drew):=((QK _ w9).alloc (ZH _) _).drew;have HBd:=Hd hBd;have HTd:=Hd (HT9.out.below hBd);have HCd:=Hd (Qq hBd hc);have HEd:=Hd (Qq hBd x0);have HFd:=Hd ((hBd.frozen (p:=⟨T,p,none⟩) hlT).trans hfT);have HLd:=Hd (show T<((w9.alloc (.cells #[.int .i64 (p:Int),.int .i64 tg,.int .i64 kd,.int .i64 ds,.int .i64 ar,.int .i64 op,.int .i64 av,.int .i64 an,.int .i64 bv,.int .i64 bn] 56)).drew).heap.size by simp;omega);have hhi2:=Hd hhi;clear hBd hown hoff hbd HFr fr0 fr1 hhi;dsimp only [Qj] at x0 x1 x2 x3 x4 x5 x6 x7 x8 x9;go_region_law (refine Zl2 underlying24 (z:=.agg #[.int .i64 0,.int .i64 0,.int .i64 0,.int .i64 0,.int .i64 0,.int .i64 0,.int .i64 0,.int .i64 0,.int .i64 0,.int .i64 0]) (size:=10) (bytes:=80) (by kernel_rfl) rfl (by decide) (by decide) _ rfl (.tmp 92) (.tmp 94) rfl (T+1) hi T pn _ HTd.out p hpl2 v HCd.out rfl [.int .i64 (p:Int),.int .i64 tg,.int .i64 kd,.int .i64 ds,.int .i64 ar,.int .i64 op,.int .i64 av,.int .i64 an,.int .i64 bv,.int .i64 bn] w9.heap.size rfl rfl (Jv5 w9 56 ⟨p,tg,kd,ds,ar,op,av,an,bv,bn⟩) (Jc8 ⟨p,tg,kd,ds,ar,op,av,an,bv,bn⟩) hln.out HLd.out ?_;intro A9 n9 c9 wz hTz hbz;have k0:=hbz.cell (p:=⟨wr.heap.size,0,none⟩) HEd.out (.inr hhi2.out);have k1:=hbz.cell (p:=⟨T,p,none⟩) HCd.out (.inl (Nat.lt_succ_self T));have k2:=(hbz.frozen (p:=⟨T,p,none⟩) HLd.out (.inl (Nat.lt_succ_self T))).trans HFd.out;have k3:=ZI HLd.out hbz.size;have HTz:=Hd hTz;have HBz:=Hd hbz;clear hTz hbz)
  all_goals
   obtain ⟨hi',z1,z2,z3⟩:=Zy4 HX9.out HB9.out (Nat.lt_trans HS6.out HTw.out) HBd.out HBz.out HTz.out;obtain ⟨_,_,z4,_⟩:=Zy4 HG9.out (QK _ _) HTw.out HBd.out HBz.out HTz.out;have z1:=Hd (z1.congr λq _=>(HF2.out q).symm);have z2:=Hd z2;have z3:=Hd z3;have z4:=Hd z4;clear k0 k1 k2 k3 x0 x1 x2 x3 x4 x5 x6 x7 x8 x9 xl hc hfT hlT;go_wp2_with fail
   go_roundw
   case rel=>exact ⟨k+1,by go_num,by have:=HKT.out;omega,hi',z1.out,z2.out,z4.out,z3.out⟩
   case measure=>have:=HKT.out;simp [Go.RowKit.intOf];omega
 obtain rfl:k=EL:=by omega
 have dk:decide ((k:Int)<(k:Int))=false:=by simp
 have HXr:=Hd hXr;have HBr:=Hd hBr;have HTb:=Hd hTb;have x3:=hXr.cell 3 _ rfl;have hlt:=hXr.lt;rw [HpN.out] at x3;clear hXr hBr hTb hGr;go_upto_region 25 with fail
 clear x3 hlt;go_loopw [100] (λs wx=>∃q:Nat,s=.int .i64 q∧q≤pn∧Tb wx (T+1) hi T pn 56 10 (λp=>evC (Ke g.edges k (p:Int)))∧Below w.heap.size w wx) (λs _=>pn - (Go.RowKit.intOf s).toNat)
 case atStart=>exact ⟨0,rfl,by omega,HTb.out,HBr.out⟩
 obtain ⟨q,rfl,hq,hTb,hBr⟩:=hrel;clear HXr HBr HTb;rcases ZJ q pn with hqt|hge2
 .have dq:decide ((q:Int)<(pn:Int))=true:=ZE (by omega);have d2:(q:Int)<(pn:Int):=by omega
  have d3:(0:Int)≤(q:Int):=by omega
  obtain ⟨v,l,hc,hown,_,_⟩:=hTb.get hqt;have hlen:(evC (Ke g.edges k (q:Int))).length=l*10:=hown.1;rw [Zl6] at hlen;obtain ⟨A,c,rfl⟩:=Zp7 hown;have hes:Ke g.edges k (q:Int)=Uh g.edges q:=by rw [HEL.out];exact Zo5 _ _
  rw [hes] at hown hlen;obtain rfl:l=(Uh g.edges q).length:=by omega
  have cF:=Ju8 (T+1) c A (Uh g.edges q) (HGd.out.fork q (by rw [HpN.out];omega)) wr hown;have HTb:=Hd hTb;have HBr:=Hd hBr;have HQT:=Hd hqt;have hTl:=hTb.lt;clear hTb hBr hown hlen hes hqt;generalize (Uh g.edges q).length=ll at*;go_wp2_with (go_at_call 64;(with_reducible refine cF.mono ?_);rintro e1 w9 ⟨rfl,hb7⟩;have HT9:=Hd (HTb.out.below hb7);have HB9:=Ht HBr hb7;clear hb7)
  go_roundw
  case rel=>exact ⟨q+1,by go_num,by have:=HQT.out;omega,HT9.out,HB9.out⟩
  have:=HQT.out;simp [Go.RowKit.intOf];omega
 obtain rfl:q=pn:=by omega
 have dq:decide ((q:Int)<(q:Int))=false:=by simp
 have HBr:=Hd hBr;clear hBr hTb;go_wp2_with fail
 go_ret
 exact ⟨rfl,HBr.out⟩
end
section
open Go.RowKit Go.WideShapes Go.ChangeShapes Go.WideMaps Go.WideElems Go.Joins Go.Deep Gn
section
variable {H:Type} {enc:TypeId×Value->H} {P:Program} {w:World} {base fuel:Nat} {spare:Nat->Bool} {held:Bool} {t:TypeId} {fs:Array Field} {cs:List Value} {x:DataW H×List MemPlace}
theorem Fh (ht:P.underlying t=some (.struct fs)) (h:DataW.trod enc P w base spare held fuel t cs=some x) (i:Nat) (ty:TypeId) (off:Nat) {f:Field} (hf:fs[i]? =some f) (hy:f.type=ty) (ho:f.offset=off):
 ∃y n,DataW.trod enc P w base spare held n ty ((cs.drop off).take (P.cellsOf ty))=some y:=by
 subst hy ho;obtain ⟨_,n,_,_,_,_,k⟩:=DataW.trod_struct ht h;have:i<fs.size:=(Array.getElem?_eq_some_iff.1 hf).1;exact ⟨_,n,(k i f hf).trans (ZF (by omega))⟩
theorem Pj (ht:P.underlying t=some (.struct fs)) (h:DataW.trod enc P w base spare held fuel t cs=some x) (i:Nat) (ty:TypeId) (off:Nat) {f:Field} (hf:fs[i]? =some f) (hy:f.type=ty) (ho:f.offset=off) (hc:P.cellsOf ty=1)
 {v:Value} (hv:(cs.drop off).take 1=[v]):∃y n,DataW.trod enc P w base spare held n ty [v]=some y:=by
 obtain ⟨y,n,t0⟩:=Fh ht h i ty off hf hy ho;rw [hc,hv] at t0;exact ⟨y,n,t0⟩
theorem Kc (ht:P.underlying t=some (.struct fs)) (h:DataW.trod enc P w base spare held fuel t cs=some x) (i:Nat) (ty:TypeId) (off:Nat) {f:Field} (hf:fs[i]? =some f) (hy:f.type=ty) (ho:f.offset=off) (hu:P.underlying ty=some (.int .i64)) (hc:P.cellsOf ty=1)
 {v:Value} (hv:(cs.drop off).take 1=[v]):∃z,v=.int .i64 z∧Zu z:=by
 obtain ⟨_,_,t0⟩:=Pj ht h i ty off hf hy ho hc hv;obtain ⟨z,e0,_,w0⟩:=DataW.trod_int hu t0;simp only [List.cons.injEq,and_true] at e0;exact ⟨z,e0,Gn.Vp3 w0⟩
theorem Zb4 (h:DataW.trod enc prog w base spare held fuel 56 cs=some x):∃e:Ql,cs=Qj e∧∀(j:Nat) (n:Int),(Qj e)[j]? =some (Value.int .i64 n)->Zu n:=by
 have hs:=underlying56;have ho:=underlying54;have ci:prog.cellsOf 3=1:=by kernel_rfl
 have cl:prog.cellsOf 2=1:=by kernel_rfl
 have co:prog.cellsOf 54=2:=by kernel_rfl
 have ui:=underlying3;have ul:=underlying2;obtain ⟨_,_,_,_,hl,_⟩:=DataW.trod_struct hs h;have hl:cs.length=10:=hl.trans (by kernel_rfl);match cs,hl with
 |[v0,v1,v2,v3,v4,v5,v6,v7,v8,v9],_=>
  obtain ⟨z0,rfl,_⟩:=Kc hs h 0 3 0 rfl rfl rfl ui ci (v:=v0) rfl;obtain ⟨z1,rfl,_⟩:=Kc hs h 1 3 1 rfl rfl rfl ui ci (v:=v1) rfl;obtain ⟨z2,rfl,_⟩:=Kc hs h 2 3 2 rfl rfl rfl ui ci (v:=v2) rfl;obtain ⟨z3,rfl,_⟩:=Kc hs h 3 3 3 rfl rfl rfl ui ci (v:=v3) rfl;obtain ⟨z4,rfl,_⟩:=Kc hs h 4 3 4 rfl rfl rfl ui ci (v:=v4) rfl;obtain ⟨z5,rfl,_⟩:=Kc hs h 5 3 5 rfl rfl rfl ui ci (v:=v5) rfl;obtain ⟨y6,n6,t6⟩:=Fh hs h 6 54 6 rfl rfl rfl;obtain ⟨y7,n7,t7⟩:=Fh hs h 7 54 8 rfl rfl rfl;have t6:DataW.trod enc prog w base spare held n6 54 [v6,v7]=some y6:=by rw [co] at t6;exact t6
  have t7:DataW.trod enc prog w base spare held n7 54 [v8,v9]=some y7:=by rw [co] at t7;exact t7
  obtain ⟨z6,rfl,_⟩:=Kc ho t6 0 3 0 rfl rfl rfl ui ci (v:=v6) rfl;obtain ⟨z7,rfl,_⟩:=Kc ho t6 1 2 1 rfl rfl rfl ul cl (v:=v7) rfl;obtain ⟨z8,rfl,_⟩:=Kc ho t7 0 3 0 rfl rfl rfl ui ci (v:=v8) rfl;obtain ⟨z9,rfl,_⟩:=Kc ho t7 1 2 1 rfl rfl rfl ul cl (v:=v9) rfl;refine ⟨⟨z0,z1,z2,z3,z4,z5,z6,z7,z8,z9⟩,rfl,λj n hj=>?_⟩;have:j<10:=by
   have:=(List.getElem?_eq_some_iff.1 hj).1
   exact this
  rcases (show j=0∨j=1∨j=2∨j=3∨j=4∨j=5∨j=6∨j=7∨j=8∨j=9 by omega) with rfl|rfl|rfl|rfl|rfl|rfl|rfl|rfl|rfl|rfl<;>(injection hj with hj;injection hj with _ hj;subst hj;assumption)
theorem Jc4 {e:TypeId} (ht:P.underlying t=some (.slice e)) {v:Value} (h:DataW.trod enc P w base spare held fuel t [v]=some x):∃A n c,v=.slice A n c∧n≤c∧c≤maxLen:=by
 rcases open_slice ht h with ⟨hcs,rfl⟩|⟨a,len,cap,m,n',D,Pl,hcs,hb,hl,hm,hmm,rfl,hx⟩
 .simp only [List.cons.injEq,and_true] at hcs;subst hcs;exact ⟨none,0,0,rfl,by simp,by simp⟩
 simp only [List.cons.injEq,and_true] at hcs;subst hcs;exact ⟨some a,len,cap,rfl,hl,hm⟩
theorem Zy3 {v:Value} (h:DataW.trod enc prog w base (λ_=>true) held fuel 24 [v]=some x):
 ∃A c,∃es:List Ql,v=.slice A es.length c∧(0<es.length->∃b off,A=some ⟨b,off,none⟩∧b<w.heap.size∧∀i,i<es.length->∀j u,(Qj (Qx es i))[j]? =some u->w.cell? ⟨b,off+i*10+j,none⟩=some u)∧
  es.length≤c∧c≤maxLen∧∀i,i<es.length->∀(j:Nat) (n:Int),(Qj (Qx es i))[j]? =some (Value.int .i64 n)->Zu n:=by
 have hC:prog.cellsOf 56=10:=by kernel_rfl
 rcases open_slice underlying24 h with ⟨hcs,rfl⟩|⟨a,len,cap,m,n',D,Pl,hcs,hb,hl,hm,hmm,rfl,hx⟩
 .simp only [List.cons.injEq,and_true] at hcs;subst hcs;exact ⟨none,0,[],rfl,λhn=>absurd hn (by simp),by simp,by simp,λi hi=>absurd hi (by simp)⟩
 .simp only [List.cons.injEq,and_true] at hcs;subst hcs;have hmc:m=cap:=by rw [hmm];simp
  have each:∀i,i<len->∃e:Ql,(∀j u,(Qj e)[j]? =some u->w.cell? (a.add (i*10+j))=some u)∧∀(j:Nat) (n:Int),(Qj e)[j]? =some (Value.int .i64 n)->Zu n:=by
   intro i hi;obtain ⟨_,k1,k2⟩:=hx i (by omega);rw [hC] at k1;obtain ⟨_,_,hcell⟩:=World.cells?_some k1;obtain ⟨e,rfl,hw⟩:=Zb4 k2;refine ⟨e,λj u hu=>?_,hw⟩;have hj:j<10:=(List.getElem?_eq_some_iff.1 hu).1;have e0:=hcell j hj;rw [add_add] at e0;exact e0.trans hu
  have:Inhabited Ql:=⟨noE⟩
  obtain ⟨q,hq⟩:=choose_lt each;have hlo:((List.range len).map q).length=len:=by simp
  have hat:∀i,i<len->Qx ((List.range len).map q) i=q i:=λi hi=>by
   unfold Qx;rw [ZG,ZF (by simpa using hi)];simp
  refine ⟨some a,cap,(List.range len).map q,by rw [hlo],?_,by rw [hlo];exact hl,hm,λi hi=>?_⟩
  .intro hn;rw [hlo] at hn;obtain ⟨b,off,spot⟩:=a;have h0:=(hq 0 hn).1 0 _ rfl;have hspot:spot=none:=by simpa [Addr.add] using World.cell?_spot h0
   subst hspot;refine ⟨b,off,rfl,?_,λi hi j u hu=>?_⟩
   .rw [Go.WideShapes.add_plain] at h0;exact block_lt_of_cell h0
   rw [hlo] at hi;rw [hat i hi] at hu;have:=(hq i hi).1 j u hu
   rw [Go.WideShapes.add_plain,<-Nat.add_assoc] at this;exact this
  rw [hlo] at hi;rw [hat i hi];exact (hq i hi).2
theorem Zk1 {v:Value} (h:DataW.trod enc prog w base (λ_=>true) held fuel 23 [v]=some x):
 ∃A c,∃ss:List Int,v=.slice A ss.length c∧(0<ss.length->∃b off,A=some ⟨b,off,none⟩∧b<w.heap.size∧∀i,i<ss.length->(∃s,w.cell? ⟨b,off+i*2,none⟩=some (.string s))∧w.cell? ⟨b,off+i*2+1,none⟩=some (.int .i64 (Qe ss i)))∧
  ss.length≤c∧c≤maxLen∧∀i,i<ss.length->Zu (Qe ss i):=by
 have hC:prog.cellsOf 51=2:=by kernel_rfl
 have ci:prog.cellsOf 3=1:=by kernel_rfl
 have cs1:prog.cellsOf 9=1:=by kernel_rfl
 have hs:=underlying51;rcases open_slice underlying23 h with ⟨hcs,rfl⟩|⟨a,len,cap,m,n',D,Pl,hcs,hb,hl,hm,hmm,rfl,hx⟩
 .simp only [List.cons.injEq,and_true] at hcs;subst hcs;exact ⟨none,0,[],rfl,λhn=>absurd hn (by simp),by simp,by simp,λi hi=>absurd hi (by simp)⟩
 .simp only [List.cons.injEq,and_true] at hcs;subst hcs;have:m=cap:=by rw [hmm];simp
  have each:∀i,i<len->∃z:Int,(∃s,w.cell? (a.add (i*2))=some (.string s))∧w.cell? (a.add (i*2+1))=some (.int .i64 z)∧Zu z:=by
   intro i hi;obtain ⟨cs',k1,k2⟩:=hx i (by omega);rw [hC] at k1;obtain ⟨_,hlen,hcell⟩:=World.cells?_some k1;match cs',hlen with
   |[v0,v1],_=>
    have e0:=hcell 0 (by omega);have e1:=hcell 1 (by omega);rw [add_add] at e0 e1;obtain ⟨z,rfl,wz⟩:=Kc hs k2 1 3 1 rfl rfl rfl underlying3 ci (v:=v1) rfl;obtain ⟨_,_,t0⟩:=Pj hs k2 0 9 0 rfl rfl rfl cs1 (v:=v0) rfl;obtain ⟨s,e2,_⟩:=DataW.trod_string underlying9 t0;simp only [List.cons.injEq,and_true] at e2;subst e2;exact ⟨z,⟨s,by simpa using e0⟩,by simpa using e1,wz⟩
  obtain ⟨q,hq⟩:=choose_lt each;have hlo:((List.range len).map q).length=len:=by simp
  have hat:∀i,i<len->Qe ((List.range len).map q) i=q i:=λi hi=>by simp [Qe,hi]
  refine ⟨some a,cap,(List.range len).map q,by rw [hlo],?_,by rw [hlo];exact hl,hm,λi hi=>?_⟩
  .intro hn;rw [hlo] at hn;obtain ⟨b,off,spot⟩:=a;obtain ⟨_,h0⟩:=(hq 0 hn).1;have hspot:spot=none:=by simpa [Addr.add] using World.cell?_spot h0
   subst hspot;refine ⟨b,off,rfl,?_,λi hi=>?_⟩
   .rw [Go.WideShapes.add_plain] at h0;exact block_lt_of_cell h0
   rw [hlo] at hi;rw [hat i hi];obtain ⟨⟨s,k1⟩,k2,_⟩:=hq i hi;rw [Go.WideShapes.add_plain] at k1 k2;exact ⟨⟨s,k1⟩,k2⟩
  rw [hlo] at hi;rw [hat i hi];exact (hq i hi).2.2
theorem Jr6 {r:Reach} {b0:Nat} {v:Value} {d:DataW H} {ps:List MemPlace} (hval:Value.okWide prog w r b0 26 v) (h:DataW.Trod enc prog w base (λ_=>true) held 26 v d ps):
 ∃m g,v=Jm m g∧Hg w m g∧GNm w m g:=by
 have hs:=underlying26;have ci:prog.cellsOf 3=1:=by kernel_rfl
 have c22:prog.cellsOf 22=1:=by kernel_rfl
 have c23:prog.cellsOf 23=1:=by kernel_rfl
 have c24:prog.cellsOf 24=1:=by kernel_rfl
 have ui:=underlying3;obtain ⟨cs,rfl,hsz⟩:=okWide_struct hs hval;have hsz:cs.size=6:=hsz.trans (by kernel_rfl);obtain ⟨fuel,hf⟩:=h;obtain ⟨l⟩:=cs;match l,hsz with
 |[v0,v1,v2,v3,v4,v5],_=>
  have hf:DataW.trod enc prog w base (λ_=>true) held fuel 26 [v0,v1,v2,v3,v4,v5]=some (d,ps):=hf;obtain ⟨_,_,t0⟩:=Pj hs hf 0 22 0 rfl rfl rfl c22 (v:=v0) rfl;obtain ⟨z1,rfl,w1⟩:=Kc hs hf 1 3 1 rfl rfl rfl ui ci (v:=v1) rfl;obtain ⟨_,_,t2⟩:=Pj hs hf 2 23 2 rfl rfl rfl c23 (v:=v2) rfl;obtain ⟨z3,rfl,w3⟩:=Kc hs hf 3 3 3 rfl rfl rfl ui ci (v:=v3) rfl;obtain ⟨z4,rfl,w4⟩:=Kc hs hf 4 3 4 rfl rfl rfl ui ci (v:=v4) rfl;obtain ⟨_,_,t5⟩:=Pj hs hf 5 24 5 rfl rfl rfl c24 (v:=v5) rfl;obtain ⟨va,nv,vc,rfl,l0,m0⟩:=Jc4 underlying22 t0;obtain ⟨aa,ac,ss,rfl,hA,l2,m2,is⟩:=Zk1 t2;obtain ⟨ea,ec,es,rfl,hE,l5,m5,ie⟩:=Zy3 t5;refine ⟨⟨va,vc,aa,ac,ea,ec⟩,⟨nv,z1,ss,z3,z4,es⟩,rfl,⟨hE,λhn=>?_,⟨l5,m5⟩,⟨l2,m2⟩,⟨l0,m0⟩,w1,w3,w4,ie,is⟩,λhn=>?_⟩
  .obtain ⟨b,off,e,hl,hc⟩:=hA hn;exact ⟨b,off,e,hl,λi hi=>(hc i hi).2⟩
  obtain ⟨b,off,e,hl,hc⟩:=hA hn;exact ⟨b,off,e,hl,λi hi=>(hc i hi).1⟩
end
end
section
open Gn
theorem Qf9 (g c:Nat) (a0 b0 a1 b1:Int) (w:World) (h:Cl w g [.int .i64 a0,.int .i64 b0,.int .i64 a1,.int .i64 b1]) (i0:Zu a0∧Zu b0∧Zu (a0+b0)) (i1:Zu a1∧Zu b1∧Zu (a1+b1)):
 Calls prog 195 #[.func (.func 196) #[] #[],.slice (some ⟨g,0,none⟩) 2 c] w λe w'=>e=.returned (.bool true)∧Below w.heap.size w w':=by
 have c0:=λW=>Zi6 a0 b0 W i0.1 i0.2.1
 have c1:=λW=>Zi6 a1 b1 W i1.1 i1.2.1
 rw [show Xy (a0+b0)=0 by unfold Xy;rw [ZM i0.2.2]] at c0;rw [show Xy (a1+b1)=0 by unfold Xy;rw [ZM i1.2.2]] at c1;have H:=Hd h;clear h i0 i1;go_enter func195,ntmps195
 go_upto_region 2 with fail
 go_loopw [11] (λs wr=>∃i:Nat,s=.int .i64 i∧i≤2∧Below w.heap.size w wr) (λs _=>2 - (Go.RowKit.intOf s).toNat)
 case atStart=>exact ⟨0,rfl,by omega,QK _ _⟩
 case round=>
  obtain ⟨i,rfl,_,hb⟩:=hrel;have hC:=H.out.go hb;have:=hC.2 0 _ rfl;have:=hC.2 1 _ rfl;have:=hC.2 2 _ rfl;have:=hC.2 3 _ rfl;have:=hC.1;have HB:=Hd hb;clear hC hb;rcases (show i=0∨i=1∨i=2 by omega) with rfl|rfl|rfl
  .go_wp2_with (go_at_call 196;(with_reducible refine (c0 _).mono ?_);rintro e1 _ ⟨rfl,rfl⟩)
   go_roundw
   case rel=>exact ⟨1,by go_num,by omega,HB.out.alloc HB.out.size _⟩
   simp [Go.RowKit.intOf]
  .go_wp2_with (go_at_call 196;(with_reducible refine (c1 _).mono ?_);rintro e1 _ ⟨rfl,rfl⟩)
   go_roundw
   case rel=>exact ⟨2,by go_num,by omega,HB.out.alloc HB.out.size _⟩
   simp [Go.RowKit.intOf]
  go_wp2_with fail
  go_ret
  exact ⟨rfl,HB.out⟩
theorem Qc4 (g c:Nat) (a0 b0 a1 b1:Int) (w:World) (h:Cl w g [.int .i64 a0,.int .i64 b0,.int .i64 a1,.int .i64 b1]) (i0:Zu a0∧Zu b0∧Zu (a0 - b0)) (i1:Zu a1∧Zu b1∧Zu (a1 - b1)):
 Calls prog 195 #[.func (.func 197) #[] #[],.slice (some ⟨g,0,none⟩) 2 c] w λe w'=>e=.returned (.bool true)∧Below w.heap.size w w':=by
 have c0:=λW=>Qb1 a0 b0 W i0.1 i0.2.1
 have c1:=λW=>Qb1 a1 b1 W i1.1 i1.2.1
 rw [show Xy (a0 - b0)=0 by unfold Xy;rw [ZM i0.2.2]] at c0;rw [show Xy (a1 - b1)=0 by unfold Xy;rw [ZM i1.2.2]] at c1;have H:=Hd h;clear h i0 i1;go_enter func195,ntmps195
 go_upto_region 2 with fail
 go_loopw [11] (λs wr=>∃i:Nat,s=.int .i64 i∧i≤2∧Below w.heap.size w wr) (λs _=>2 - (Go.RowKit.intOf s).toNat)
 case atStart=>exact ⟨0,rfl,by omega,QK _ _⟩
 case round=>
  obtain ⟨i,rfl,_,hb⟩:=hrel;have hC:=H.out.go hb;have:=hC.2 0 _ rfl;have:=hC.2 1 _ rfl;have:=hC.2 2 _ rfl;have:=hC.2 3 _ rfl;have:=hC.1;have HB:=Hd hb;clear hC hb;rcases (show i=0∨i=1∨i=2 by omega) with rfl|rfl|rfl
  .go_wp2_with (go_at_call 197;(with_reducible refine (c0 _).mono ?_);rintro e1 _ ⟨rfl,rfl⟩)
   go_roundw
   case rel=>exact ⟨1,by go_num,by omega,HB.out.alloc HB.out.size _⟩
   simp [Go.RowKit.intOf]
  .go_wp2_with (go_at_call 197;(with_reducible refine (c1 _).mono ?_);rintro e1 _ ⟨rfl,rfl⟩)
   go_roundw
   case rel=>exact ⟨2,by go_num,by omega,HB.out.alloc HB.out.size _⟩
   simp [Go.RowKit.intOf]
  go_wp2_with fail
  go_ret
  exact ⟨rfl,HB.out⟩
def EnB (w:World) (x7 x8:Nat) (a b:Rg):Prop:=Bx w x7 (enC a)∧Bx w x8 (enC b)
theorem Xb.only2 {w w':World} {g b:Nat} {vs:List Value} (h:Xb w g vs) (hg:w.grownBy w' (some b)) (hne:g≠b):Xb w' g vs:=
 ⟨h.bx.only hg hne,λi hi=>(QR (a:=⟨g,i,Option.none⟩) (hg.block g h.bx.lt (by intro e;injection e with e;exact hne e))).trans (h.end_ i hi)⟩
theorem Gb (kind:Int) (a b:Rg) (w:World) (h:Wi kind a b=true) (ia:Zu a.lo∧Zu a.hi) (ib:Zu b.lo∧Zu b.hi):
 Calls prog 128 #[.int .i64 kind,Kx a,Kx b] w λe w'=>e=.returned (.bool true)∧Below w.heap.size w w':=by
 obtain ⟨W,hW,hX,hY,hB,hs⟩:=Vu w (Xm a) 112 (Xm b) 112;obtain ⟨y0,y1,y2,y3⟩:=hX.bx.c3;obtain ⟨z0,z1,z2,z3⟩:=hY.bx.c3;have HB:=Hd hB;have HH:=Hd h;have HI:=Hd (And.intro ia ib);unfold Xm at hW;unfold Kx;clear hX hY hB h ia ib hs;go_enter func128,ntmps128
 go_upto_region 1 with fail
 rw [<-hW];clear hW;go_cut [7,8] (λs7 s8 wx=>∃x7 x8,s7=.pointer (some ⟨x7,0,none⟩)∧s8=.pointer (some ⟨x8,0,none⟩)∧EnB wx x7 x8 a b∧Below w.heap.size w wx)
 case first=>
  refine Xk 6 (λi=>match i with|0=>9|1=>10|2=>11|3=>12|4=>7|_=>8) (λi v w=>Hid (match i with|0=>v=.agg #[.int .i64 a.lo,.int .i64 a.hi,.bool a.hl,.bool a.hh]|1=>v=enV a|2=>v=.agg #[.int .i64 b.lo,.int .i64 b.hi,.bool b.hl,.bool b.hh]|3=>v=enV b|4=>∃x,v=.pointer (some ⟨x,0,none⟩)∧W.heap.size≤x∧Xb w x [.int .i64 0,.int .i64 0]|5=>∃x,v=.pointer (some ⟨x,0,none⟩)∧W.heap.size≤x∧Xb w x [.int .i64 0,.int .i64 0]|_=>True)) (dfS [4,5]) #[true,true,true,true,true,true,false,false] ?hm ?hB ?hR ?hd ?hi ?hop ?hend
  case hm=>kernel_rfl
  case hB=>kernel_rfl
  case hR=>
   intro i v X X1 hh hb;have hh:=hh.out;refine Hd ?_;match i,hh with
   |0,hh=>exact hh
   |1,hh=>exact hh
   |2,hh=>exact hh
   |3,hh=>exact hh
   |4,hh=>(obtain ⟨x,e,hl,hx⟩:=hh;exact ⟨x,e,hl,hx.go hb⟩)
   |5,hh=>(obtain ⟨x,e,hl,hx⟩:=hh;exact ⟨x,e,hl,hx.go hb⟩)
   |i+6,_=>exact trivial
  case hd=>intro i hi;rcases (show i=0∨i=1∨i=2∨i=3∨i=4∨i=5 by omega) with rfl|rfl|rfl|rfl|rfl|rfl<;>simp
  case hi=>
   intro i j hi hj hij h;rcases (show i=0∨i=1∨i=2∨i=3∨i=4∨i=5 by omega) with rfl|rfl|rfl|rfl|rfl|rfl<;>rcases (show j=0∨j=1∨j=2∨j=3∨j=4∨j=5 by omega) with rfl|rfl|rfl|rfl|rfl|rfl<;>first|exact absurd rfl hij|exact absurd h (by decide)
  case hop=>
   intro i o hi ho;rcases (show i=0∨i=1∨i=2∨i=3∨i=4∨i=5 by omega) with rfl|rfl|rfl|rfl|rfl|rfl
   .injection ho with ho;subst ho;refine ⟨λ_=>rfl,λa' X hX hsz hdf hrest hdep=>?_⟩;have ep:a'.tmps[4]? =some (.pointer (some ⟨w.heap.size,0,none⟩)):=hrest 4 (by decide);have m0:=Qq hX y0;have m1:=Qq hX y1;have m2:=Qq hX y2;have m3:=Qq hX y3;simp [Oper.wp,execOp,Act.eval,ep,go_sem,m0,m1,m2,m3]
    exact ⟨_,rfl,QK _ _,Hd (rfl),λ_ _ _ _ _=>⟨Mv (by decide),Mw (by decide)⟩⟩
   .injection ho with ho;subst ho;refine ⟨λ_=>rfl,λa' X hX hsz hdf hrest hdep=>?_⟩;obtain ⟨v0,et0,hv0⟩:=hdep ⟨0,Ground.data⟩ (by simp) rfl;have et0:a'.tmps[9]? =some v0:=et0;have hv0:v0=.agg #[.int .i64 a.lo,.int .i64 a.hi,.bool a.hl,.bool a.hh]:=hv0.out;subst hv0;simp [Oper.wp,execOp,Act.eval,go_sem,et0]
    refine (Hh a X).mono ?_;rintro e X1 ⟨rfl,hb⟩;exact ⟨_,rfl,hb,Hd (rfl),λ_ _ _ _ _=>⟨Mv (by decide),Mw (by decide)⟩⟩
   .injection ho with ho;subst ho;refine ⟨λ_=>rfl,λa' X hX hsz hdf hrest hdep=>?_⟩;have ep:a'.tmps[5]? =some (.pointer (some ⟨w.heap.size+1,0,none⟩)):=hrest 5 (by decide);have m0:=Qq hX z0;have m1:=Qq hX z1;have m2:=Qq hX z2;have m3:=Qq hX z3;simp [Oper.wp,execOp,Act.eval,ep,go_sem,m0,m1,m2,m3]
    exact ⟨_,rfl,QK _ _,Hd (rfl),λ_ _ _ _ _=>⟨Mv (by decide),Mw (by decide)⟩⟩
   .injection ho with ho;subst ho;refine ⟨λ_=>rfl,λa' X hX hsz hdf hrest hdep=>?_⟩;obtain ⟨v0,et0,hv0⟩:=hdep ⟨2,Ground.data⟩ (by simp) rfl;have et0:a'.tmps[11]? =some v0:=et0;have hv0:v0=.agg #[.int .i64 b.lo,.int .i64 b.hi,.bool b.hl,.bool b.hh]:=hv0.out;subst hv0;simp [Oper.wp,execOp,Act.eval,go_sem,et0]
    refine (Hh b X).mono ?_;rintro e X1 ⟨rfl,hb⟩;exact ⟨_,rfl,hb,Hd (rfl),λ_ _ _ _ _=>⟨Mv (by decide),Mw (by decide)⟩⟩
   .injection ho with ho;subst ho;refine ⟨λ_=>rfl,λa' X hX hsz hdf hrest hdep=>?_⟩;simp [Oper.wp,execOp,Act.eval,go_sem,]
    refine ⟨_,rfl,(QK _ _).alloc (ZH _) _,Hd (⟨X.heap.size,rfl,hX.size,(by obtain ⟨Wn,hWn,hXn,_⟩:=Zk X [.int .i64 0,.int .i64 0] 274;rw [<-hWn];exact hXn)⟩),λj u _ hne hu=>?_⟩;by_cases hj:j=5
    .subst hj;obtain ⟨b1,e1,hl1,hx1⟩:=hu.out;exact Fc rfl e1 hx1.bx.lt
    have hnot:j ∉ [4,5]:=λh=>by
     rcases (by simpa using h:j=4∨j=5) with h|h
     .exact absurd h (by assumption)
     exact absurd h (by assumption)
    exact ⟨Mw hnot,Mv hnot⟩
   injection ho with ho;subst ho;refine ⟨λ_=>rfl,λa' X hX hsz hdf hrest hdep=>?_⟩;simp [Oper.wp,execOp,Act.eval,go_sem,]
   refine ⟨_,rfl,(QK _ _).alloc (ZH _) _,Hd (⟨X.heap.size,rfl,hX.size,(by obtain ⟨Wn,hWn,hXn,_⟩:=Zk X [.int .i64 0,.int .i64 0] 274;rw [<-hWn];exact hXn)⟩),λj u _ hne hu=>?_⟩;by_cases hj:j=4
   .subst hj;obtain ⟨b1,e1,hl1,hx1⟩:=hu.out;exact Fc rfl e1 hx1.bx.lt
   have hnot:j ∉ [4,5]:=λh=>by
    rcases (by simpa using h:j=4∨j=5) with h|h
    .exact absurd h (by assumption)
    exact absurd h (by assumption)
   exact ⟨Mw hnot,Mv hnot⟩
  case hend=>
   intro vs X hX hv hsp;obtain ⟨x7,e4,hl7,hx7⟩:∃x,vs 4=.pointer (some ⟨x,0,none⟩)∧W.heap.size≤x∧Xb X x [.int .i64 0,.int .i64 0]:=(hv 4 (by decide)).out;obtain ⟨x8,e5,hl8,hx8⟩:∃x,vs 5=.pointer (some ⟨x,0,none⟩)∧W.heap.size≤x∧Xb X x [.int .i64 0,.int .i64 0]:=(hv 5 (by decide)).out;have hne:x7≠x8:=hsp 4 5 (by decide) (by decide) (by decide) (by decide) (by decide) x7 x8 e4 e5;have hne2:x8≠x7:=Ne.symm hne;have e0:vs 0=.agg #[.int .i64 a.lo,.int .i64 a.hi,.bool a.hl,.bool a.hh]:=(hv 0 (by decide)).out;have e1:vs 1=enV a:=(hv 1 (by decide)).out;have e2:vs 2=.agg #[.int .i64 b.lo,.int .i64 b.hi,.bool b.hl,.bool b.hh]:=(hv 2 (by decide)).out;have e3:vs 3=enV b:=(hv 3 (by decide)).out;unfold enV at e1 e3;obtain ⟨u0,u1⟩:=hx7.bx.c1;have:=hx7.bx.fr;have ul:=hx7.bx.lt;obtain ⟨v0,v1⟩:=hx8.bx.c1;have:=hx8.bx.fr;have vl:=hx8.bx.lt;have k7:=hx7.put (vs:=enC a) rfl;have g7:=Za X x7 (enC a) 0;have k8:=(hx8.only2 g7 hne2).put (vs:=enC b) rfl;have g8:=Za (Qm X x7 0 (enC a)) x8 (enC b) 0;have k7':=k7.only2 g8 hne;have hB2:=Qn (g:=x8) (by omega) (enC b) 0 _ (Qn (g:=x7) (by omega) (enC a) 0 _ (hX.mono (B:=W.heap.size) (ZH _)));have hBf:=(Ht HB hB2).out;have HF:=Hd (And.intro k7'.bx (And.intro k8.bx hBf))
   simp only [Qm,enC] at HF;simp only [Wr,Act.put,e0,e1,e2,e3,e4,e5,ZR,ZT,List.setIfInBounds_toArray,List.set_cons_zero,List.set_cons_succ];clear e0 e1 e2 e3 e4 e5 hx7 hx8 k7 g7 k8 g8 k7' hB2 hBf hv hsp hX y0 y1 y2 y3 z0 z1 z2 z3 hl7 hl8;go_wp2_with fail
   refine Qu ?_;go_wp2_with fail
   go_meet
   obtain ⟨k1,k2,k3⟩:=HF.out;exact ⟨x7,x8,rfl,rfl,⟨k1,k2⟩,k3⟩
 case rest=>
  obtain ⟨x7,x8,rfl,rfl,⟨h7,h8⟩,hb⟩:=hcut;obtain ⟨u0,u1⟩:=h7.c1;have ul:=h7.lt;obtain ⟨v0,v1⟩:=h8.c1;have vl:=h8.lt;have HB2:=Hd hb;clear h7 h8 hb y0 y1 y2 y3 z0 z1 z2 z3 HB;have hh:=HH.out;unfold Wi at hh;obtain ⟨⟨ia0,ia1⟩,ib0,ib1⟩:=HI.out;have ea0:Zu (Sh a):=by unfold Sh;split;exact ia0;unfold Zu;omega
  have ea1:Zu (Tg a):=by unfold Tg;split;exact ia1;unfold Zu;omega
  have eb0:Zu (Sh b):=by unfold Sh;split;exact ib0;unfold Zu;omega
  have eb1:Zu (Tg b):=by unfold Tg;split;exact ib1;unfold Zu;omega
  clear ia0 ia1 ib0 ib1;generalize Sh a=la at*;generalize Tg a=ha at*;generalize Sh b=lb at*;generalize Tg b=hb at*;by_cases h1:la>ha∨lb>hb
  .rw [ZM h1] at hh;cases hh
  rw [ZL h1] at hh;have:decide (la>ha)=false:=ZA (by omega);have:decide (lb>hb)=false:=ZA (by omega);by_cases hk3:kind=3
  .subst hk3;rw [ZM rfl] at hh;have:decide (la>-9223372036854775808)=true:=hh;clear h1 ea0 ea1 eb0 eb1 HI HH hh;go_wp2_with fail
   go_ret
   exact ⟨rfl,HB2.out⟩
  rw [ZL hk3] at hh;by_cases hk4:kind=4
  .subst hk4;rw [ZM rfl] at hh;simp only [ZX] at hh;have d0:Zu (la+lb):=ZN hh.1;have d1:Zu (ha+hb):=ZN hh.2;obtain ⟨V,hV,hC⟩:∃V,V=wc.alloc (.cells #[.int .i64 la,.int .i64 lb,.int .i64 ha,.int .i64 hb] 274)∧Below wc.heap.size wc V∧Cl V wc.heap.size [.int .i64 la,.int .i64 lb,.int .i64 ha,.int .i64 hb]:=by
    obtain ⟨V,hV,hX,hBV,_⟩:=Zk wc [.int .i64 la,.int .i64 lb,.int .i64 ha,.int .i64 hb] 274;exact ⟨V,hV,hBV,hX.bx.lt,hX.bx.cell⟩
   have cF:=Qf9 wc.heap.size 2 la lb ha hb V hC.2 ⟨ea0,eb0,d0⟩ ⟨ea1,eb1,d1⟩;have HV:=Hd hC.1;clear hC h1 ea0 ea1 eb0 eb1 HI HH hh hk3 d0 d1;go_wp2_with (go_at_call 195;rw [<-hV];(with_reducible refine cF.mono ?_);rintro e1 w9 ⟨rfl,hb9⟩;have HB9:=Hd ((HB2.out.trans (HV.out.mono HB2.out.size)).trans (hb9.mono (HB2.out.trans (HV.out.mono HB2.out.size)).size));clear hb9)
   go_ret
   exact ⟨rfl,HB9.out⟩
  rw [ZL hk4] at hh;by_cases hk5:kind=5
  .subst hk5;rw [ZM rfl] at hh;simp only [ZX] at hh;have d0:Zu (la - hb):=ZN hh.1;have d1:Zu (ha - lb):=ZN hh.2;obtain ⟨V,hV,hC⟩:∃V,V=wc.alloc (.cells #[.int .i64 la,.int .i64 hb,.int .i64 ha,.int .i64 lb] 274)∧Below wc.heap.size wc V∧Cl V wc.heap.size [.int .i64 la,.int .i64 hb,.int .i64 ha,.int .i64 lb]:=by
    obtain ⟨V,hV,hX,hBV,_⟩:=Zk wc [.int .i64 la,.int .i64 hb,.int .i64 ha,.int .i64 lb] 274;exact ⟨V,hV,hBV,hX.bx.lt,hX.bx.cell⟩
   have cF:=Qc4 wc.heap.size 2 la hb ha lb V hC.2 ⟨ea0,eb1,d0⟩ ⟨ea1,eb0,d1⟩;have HV:=Hd hC.1;clear hC h1 ea0 ea1 eb0 eb1 HI HH hh hk3 hk4 d0 d1;go_wp2_with (go_at_call 195;rw [<-hV];(with_reducible refine cF.mono ?_);rintro e1 w9 ⟨rfl,hb9⟩;have HB9:=Hd ((HB2.out.trans (HV.out.mono HB2.out.size)).trans (hb9.mono (HB2.out.trans (HV.out.mono HB2.out.size)).size));clear hb9)
   go_ret
   exact ⟨rfl,HB9.out⟩
  rw [ZL hk5] at hh;cases hh
theorem Zk6 {n:Nat} {M:List Int} {v x:Int} (h:Je (n:Int) false M=0) (hx:Zu x):Zu (Uj n M v x).lo∧Zu (Uj n M v x).hi:=by
 unfold Uj;split
 .have h1:=Ka (cl (2*n) M (2*v.toNat) (2*v.toNat+1));have h2:=Ka (cl (2*n) M (2*v.toNat+1) (2*v.toNat));unfold Xi toR;dsimp only;unfold Bd at h1 h2;unfold Zu;constructor
  .split
   .rename_i h;have:=ZN h;omega
   omega
  split
  .rename_i h;have:=ZN h;omega
  omega
 exact ⟨hx,hx⟩
def Nw (k:Int):Prop:=k=1∨k=2∨k=3∨k=4∨k=5∨k=11∨k=12∨k=13∨k=14
theorem Ps (n:Nat) (hn:n≤64) (P:Zj) (hPn:P.1=n) (A:Option Addr) (c:Nat) (e:Ql) (size:Int) (w:World) (h:Qi w A c P) (hk:Nw e.kind) (hav:e.av<n) (hbv:e.bv<n) (ian:Zu e.an) (ibn:Zu e.bn) (hsf:Ae (Qo P) e size=true)
 (hT:∀w1,Qi w1 A c P->Calls prog 69 #[Qf P A c,.agg (Qj e).toArray] w1 (Sq w1 (Ym P e))):
 Calls prog 70 #[Qf P A c,.agg (Qj e).toArray,.int .i64 size] w λr w'=>r=.returned (.tuple #[.bool true,.int .i64 0])∧Below w.heap.size w w':=by
 obtain ⟨W,hW,hX,hY,hB,hs⟩:=Vu w (Qp P A c) 32 (Qj e) 56;have hP:=h.go hB;have cT:=hT W hP;have cC:=λ(w1:World) (hw:Qi w1 A c P)=>Nd P.1 P.2.1 A c P.2.2 w1 hw.oi hw.len
 obtain ⟨hc1,hc2⟩:=Sx h.ok;rw [hPn] at hc1;have hce:(Zp P.1 P.2.1 P.2.2).2=0:=Wc h.ok;have hQ:(Zp P.1 P.2.1 P.2.2).1.1=Qo P:=rfl;unfold Ww at cC;rw [hce,hQ] at cC;clear hce hQ hT;generalize Qo P=Q at*;obtain ⟨_,qe,M⟩:=Q;dsimp only at*;subst hc1;obtain ⟨T,hTT⟩:∃T:Zj,Hid (Ym P e=T):=⟨_,Hd rfl⟩;rw [hTT.out] at cT;have HC2:=Hd hc2;have HSF:=Hd hsf;obtain ⟨x0,x1,x2,x3,x4,x5,x6,x7,x8,x9⟩:=hY.bx.c9;obtain ⟨y0,y1,y2⟩:=hX.bx.c2;have yl:=hX.bx.lt;have xl:=hY.bx.lt;have HX:=Hd hX;have HY:=Hd hY;have HB:=Hd hB;have HP:=Hd hP;unfold Qf at cT |-
 unfold Qp Qj at hW;unfold Qj at cT |-
 clear h hX hY hB hP hPn hc2 hsf hTT hs;go_enter func70,ntmps70
 go_upto_region 1 with fail
 rw [<-hW];clear hW;go_upto_region 4 with (go_at_call 69;(with_reducible refine cT.mono ?_);rintro e1 w1 ⟨A1,c1,he,hO1,hb1⟩;unfold Qf at he;subst he;obtain ⟨W3,hW3,hX3,hB3,hs3⟩:=Zk w1 (Qp T A1 c1) 32;have HX1:=Hd ((HX.out.go hb1).go hB3);have HY1:=Hd ((HY.out.go hb1).go hB3);have HP1:=Hd ((HP.out.go hb1).go hB3);have HB1:=Hd (((Ht HB hb1).out).trans (hB3.mono ((Ht HB hb1).out).size));unfold Qp at hW3;clear hb1 hX3 hB3 hO1 hs3)
 rw [<-hW3];clear hW3 x0 x1 x2 x3 x4 x5 x6 x7 x8 x9 y0 y1 y2 yl xl HX HY HP HB cT;obtain ⟨y0,y1,y2⟩:=HX1.out.bx.c2;have yl:=HX1.out.bx.lt;have cC1:=cC W3 HP1.out;clear cC;go_upto_region 5 with (go_at_call 12;(with_reducible refine cC1.mono ?_);rintro e1 w3 ⟨A2,c2,rfl,hOw,hb1⟩;obtain ⟨W4,hW4,hX4,hB4,hs4⟩:=Zk w3 (Qp ((n:Int),qe,M) A2 c2) 32;have HX4:=Hd hX4;have HY4:=Hd ((HY1.out.go hb1).go hB4);have HO4:=Hd ((Sd (P:=((n:Int),qe,M)) hOw HC2.out).go hB4);have HB4:=Hd (((Ht HB1 hb1).out).trans (hB4.mono ((Ht HB1 hb1).out).size));unfold Qp at hW4;clear hb1 hX4 hB4 hOw hs4)
 rw [<-hW4];clear hW4 y0 y1 y2 yl HX1 HY1 HP1 HB1 cC1;obtain ⟨y0,y1,y2⟩:=HX4.out.bx.c2;have yl:=HX4.out.bx.lt;have x2:=HY4.out.bx.cell 2 _ rfl;have xl:=HY4.out.bx.lt;dsimp only at y0 y1 y2;cases qe with
 |true=>
  clear HSF HC2 HO4;go_wp2_with fail
  exact QL (v:=.tuple #[.bool true,.int .i64 0]) (by simp [results,results70,go_sem]) rfl ⟨rfl,HB4.out⟩
 |false=>
  have hsf:=HSF.out;unfold Ae at hsf;dsimp only at hsf;rw [ZL (by simp),show ((n:Int)).toNat=n by omega] at hsf;clear HSF;obtain ⟨ra,hra⟩:∃ra,Hid (Uj n M e.av e.an=ra):=⟨_,Hd rfl⟩;obtain ⟨rb,hrb⟩:∃rb,Hid (Uj n M e.bv e.bn=rb):=⟨_,Hd rfl⟩;have ira:=Zk6 (v:=e.av) HC2.out ian;have irb:=Zk6 (v:=e.bv) HC2.out ibn;rw [hra.out] at hsf ira;rw [hrb.out] at hsf irb;have HSF:=Hd hsf;have HIR:=Hd (And.intro ira irb);have cA:=λ(w1:World) (hw:Qi w1 A2 c2 ((n:Int),false,M))=>Fv n A2 c2 M e.av e.an w1 hw hav hn ra hra.out
  have cB:=λ(w1:World) (hw:Qi w1 A2 c2 ((n:Int),false,M))=>Fv n A2 c2 M e.bv e.bn w1 hw hbv hn rb hrb.out
  unfold Qf Um at cA cB;dsimp only at cA cB;clear hsf ira irb hra hrb ian ibn HC2;rcases (show (e.kind=1∨e.kind=2∨e.kind=12∨e.kind=13)∨e.kind=14∨(e.kind=3∨e.kind=4∨e.kind=5∨e.kind=11) by unfold Nw at hk;omega) with hk|hk|hk
  .clear HSF HIR cA cB HO4;rcases hk with hk|hk|hk|hk<;>rw [hk] at x2
   all_goals
    as_aux_lemma=>
     go_wp2_with fail
     exact QL (v:=.tuple #[.bool true,.int .i64 0]) (by simp [results,results70,go_sem]) rfl ⟨rfl,HB4.out⟩
  .have:=HSF.out
   rw [hk,ZM rfl] at this;cases this
  have key:∀kd:Int,(kd=3∨kd=4∨kd=5∨kd=11)->e.kind=kd->(W4.cell? ⟨w.heap.size+1,2,none⟩=some (.int .i64 kd)):=λkd _ h=>by rw [<-h];exact x2
  obtain ⟨kd,hkd,hke⟩:∃kd,(kd=3∨kd=4∨kd=5∨kd=11)∧e.kind=kd:=⟨_,hk,rfl⟩;rw [hke] at HSF x2;have HKE:=Hd hke;clear key hk hke;have x6:=HY4.out.bx.cell 6 _ rfl;have x7:=HY4.out.bx.cell 7 _ rfl;have x8:=HY4.out.bx.cell 8 _ rfl;have x9:=HY4.out.bx.cell 9 _ rfl;obtain ⟨W5,hW5,hX5,hB5,hs5⟩:=Zk W4 (Qp ((n:Int),false,M) A2 c2) 198;have HX5:=Hd hX5;have HY5:=Hd (HY4.out.go hB5);have HO5:=Hd (HO4.out.go hB5);have HB5:=Ht HB4 hB5;have HZ5:=Hd (HX4.out.go hB5);unfold Qp at hW5;dsimp only at hW5;obtain ⟨s5,hs5'⟩:∃s5,s5=W4.heap.size:=⟨_,rfl⟩;have HS5:=Hd (show w.heap.size+1<s5∧s5<W5.heap.size by rw [hs5'];exact ⟨HY4.out.bx.lt,by omega⟩);rw [<-hs5'] at HX5;clear hX5 hB5 hs5;have hsw:W4.heap.size=s5:=hs5'.symm;clear hs5';rcases hkd with rfl|rfl|rfl|rfl
  all_goals
   go_upto_region 17 with fail
   rw [<-hW5];clear hW5;go_cut [14,15] (λs14 s15 wx=>∃x14 x15,s14=.pointer (some ⟨x14,0,none⟩)∧s15=.pointer (some ⟨x15,0,none⟩)∧Bx wx x14 (Xm ra)∧Bx wx x15 (Xm rb)∧x14≠x15∧Bx wx (w.heap.size+1) (Qj e)∧w.heap.size+1<x15∧Below w.heap.size w wx)
   case first=>
    obtain ⟨i0,i1,i2⟩:=HX5.out.bx.c2;have x6:=HY5.out.bx.cell 6 _ rfl;have x7:=HY5.out.bx.cell 7 _ rfl;have x8:=HY5.out.bx.cell 8 _ rfl;have x9:=HY5.out.bx.cell 9 _ rfl;dsimp only at i0 i1 i2;refine Xk 10 (λi=>match i with|0=>46|1=>47|2=>48|3=>49|4=>50|5=>51|6=>52|7=>53|8=>14|_=>15) (λi v wz=>Hid (match i with|0=>v=.agg #[.int .i64 n,.bool false,.slice A2 M.length c2]|1=>v=.pointer (some ⟨w.heap.size+1,6,none⟩)|2=>v=.agg #[.int .i64 e.av,.int .i64 e.an]|3=>v=Kx ra|4=>v=.agg #[.int .i64 n,.bool false,.slice A2 M.length c2]|5=>v=.pointer (some ⟨w.heap.size+1,8,none⟩)|6=>v=.agg #[.int .i64 e.bv,.int .i64 e.bn]|7=>v=Kx rb|8=>∃x,v=.pointer (some ⟨x,0,none⟩)∧W5.heap.size≤x∧Xb wz x noR|9=>∃x,v=.pointer (some ⟨x,0,none⟩)∧W5.heap.size≤x∧Xb wz x noR|_=>True)) (dfS [8,9]) #[true,true,true,true,true,true,true,true,true,true,false,false] ?hm ?hB ?hR ?hd ?hi ?hop ?hend
    case hm=>kernel_rfl
    case hB=>kernel_rfl
    case hR=>
     intro i v X X1 hh hb;have hh:=hh.out;refine Hd ?_;match i,hh with
     |0,hh=>exact hh
     |1,hh=>exact hh
     |2,hh=>exact hh
     |3,hh=>exact hh
     |4,hh=>exact hh
     |5,hh=>exact hh
     |6,hh=>exact hh
     |7,hh=>exact hh
     |8,hh=>(obtain ⟨x,e,hl,hx⟩:=hh;exact ⟨x,e,hl,hx.go hb⟩)
     |9,hh=>(obtain ⟨x,e,hl,hx⟩:=hh;exact ⟨x,e,hl,hx.go hb⟩)
     |i+10,_=>exact trivial
    case hd=>intro i hi;rcases (show i=0∨i=1∨i=2∨i=3∨i=4∨i=5∨i=6∨i=7∨i=8∨i=9 by omega) with rfl|rfl|rfl|rfl|rfl|rfl|rfl|rfl|rfl|rfl<;>simp
    case hi=>
     intro i j hi hj hij h;rcases (show i=0∨i=1∨i=2∨i=3∨i=4∨i=5∨i=6∨i=7∨i=8∨i=9 by omega) with rfl|rfl|rfl|rfl|rfl|rfl|rfl|rfl|rfl|rfl<;>rcases (show j=0∨j=1∨j=2∨j=3∨j=4∨j=5∨j=6∨j=7∨j=8∨j=9 by omega) with rfl|rfl|rfl|rfl|rfl|rfl|rfl|rfl|rfl|rfl<;>first|exact absurd rfl hij|exact absurd h (by decide)
    case hop=>
     intro i o hi ho;rcases (show i=0∨i=1∨i=2∨i=3∨i=4∨i=5∨i=6∨i=7∨i=8∨i=9 by omega) with rfl|rfl|rfl|rfl|rfl|rfl|rfl|rfl|rfl|rfl
     .injection ho with ho;subst ho;refine ⟨λ_=>rfl,λa' X hX hsz hdf hrest hdep=>?_⟩;have ep:a'.tmps[13]? =some (.pointer (some ⟨s5,0,none⟩)):=hrest 13 (by decide);have m0:=Qq hX i0;have m1:=Qq hX i1;have m2:=Qq hX i2;simp [Oper.wp,execOp,Act.eval,ep,go_sem,m0,m1,m2]
      exact ⟨_,rfl,QK _ _,Hd (rfl),λ_ _ _ _ _=>⟨Mv (by decide),Mw (by decide)⟩⟩
     .injection ho with ho;subst ho;refine ⟨λ_=>rfl,λa' X hX hsz hdf hrest hdep=>?_⟩;have es0:a'.tmps[4]? =some (.pointer (some ⟨w.heap.size+1,0,none⟩)):=hrest 4 (by decide);simp [Oper.wp,execOp,Act.eval,go_sem,es0]
      exact ⟨_,rfl,QK _ _,Hd (rfl),λ_ _ _ _ _=>⟨Mv (by decide),Mw (by decide)⟩⟩
     .injection ho with ho;subst ho;refine ⟨λ_=>rfl,λa' X hX hsz hdf hrest hdep=>?_⟩;obtain ⟨v0,et0,hv0⟩:=hdep ⟨1,Ground.data⟩ (by simp) rfl;have et0:a'.tmps[47]? =some v0:=et0;have hv0:v0=.pointer (some ⟨w.heap.size+1,6,none⟩):=hv0.out;subst hv0;have m0:=Qq hX x6;have m1:=Qq hX x7;simp [Oper.wp,execOp,Act.eval,go_sem,et0,m0,m1]
      exact ⟨_,rfl,QK _ _,Hd (rfl),λ_ _ _ _ _=>⟨Mv (by decide),Mw (by decide)⟩⟩
     .injection ho with ho;subst ho;refine ⟨λ_=>rfl,λa' X hX hsz hdf hrest hdep=>?_⟩;obtain ⟨v0,et0,hv0⟩:=hdep ⟨0,Ground.data⟩ (by simp) rfl;have et0:a'.tmps[46]? =some v0:=et0;have hv0:v0=.agg #[.int .i64 n,.bool false,.slice A2 M.length c2]:=hv0.out;subst hv0;obtain ⟨v1,et1,hv1⟩:=hdep ⟨2,Ground.data⟩ (by simp) rfl;have et1:a'.tmps[48]? =some v1:=et1;have hv1:v1=.agg #[.int .i64 e.av,.int .i64 e.an]:=hv1.out;subst hv1;simp [Oper.wp,execOp,Act.eval,go_sem,et0,et1]
      refine (cA X (HO5.out.go hX)).mono ?_;rintro e X1 ⟨rfl,hb⟩;exact ⟨_,rfl,hb,Hd (rfl),λ_ _ _ _ _=>⟨Mv (by decide),Mw (by decide)⟩⟩
     .injection ho with ho;subst ho;refine ⟨λ_=>rfl,λa' X hX hsz hdf hrest hdep=>?_⟩;have ep:a'.tmps[13]? =some (.pointer (some ⟨s5,0,none⟩)):=hrest 13 (by decide);have m0:=Qq hX i0;have m1:=Qq hX i1;have m2:=Qq hX i2;simp [Oper.wp,execOp,Act.eval,ep,go_sem,m0,m1,m2]
      exact ⟨_,rfl,QK _ _,Hd (rfl),λ_ _ _ _ _=>⟨Mv (by decide),Mw (by decide)⟩⟩
     .injection ho with ho;subst ho;refine ⟨λ_=>rfl,λa' X hX hsz hdf hrest hdep=>?_⟩;have es0:a'.tmps[4]? =some (.pointer (some ⟨w.heap.size+1,0,none⟩)):=hrest 4 (by decide);simp [Oper.wp,execOp,Act.eval,go_sem,es0]
      exact ⟨_,rfl,QK _ _,Hd (rfl),λ_ _ _ _ _=>⟨Mv (by decide),Mw (by decide)⟩⟩
     .injection ho with ho;subst ho;refine ⟨λ_=>rfl,λa' X hX hsz hdf hrest hdep=>?_⟩;obtain ⟨v0,et0,hv0⟩:=hdep ⟨5,Ground.data⟩ (by simp) rfl;have et0:a'.tmps[51]? =some v0:=et0;have hv0:v0=.pointer (some ⟨w.heap.size+1,8,none⟩):=hv0.out;subst hv0;have m0:=Qq hX x8;have m1:=Qq hX x9;simp [Oper.wp,execOp,Act.eval,go_sem,et0,m0,m1]
      exact ⟨_,rfl,QK _ _,Hd (rfl),λ_ _ _ _ _=>⟨Mv (by decide),Mw (by decide)⟩⟩
     .injection ho with ho;subst ho;refine ⟨λ_=>rfl,λa' X hX hsz hdf hrest hdep=>?_⟩;obtain ⟨v0,et0,hv0⟩:=hdep ⟨4,Ground.data⟩ (by simp) rfl;have et0:a'.tmps[50]? =some v0:=et0;have hv0:v0=.agg #[.int .i64 n,.bool false,.slice A2 M.length c2]:=hv0.out;subst hv0;obtain ⟨v1,et1,hv1⟩:=hdep ⟨6,Ground.data⟩ (by simp) rfl;have et1:a'.tmps[52]? =some v1:=et1;have hv1:v1=.agg #[.int .i64 e.bv,.int .i64 e.bn]:=hv1.out;subst hv1;simp [Oper.wp,execOp,Act.eval,go_sem,et0,et1]
      refine (cB X (HO5.out.go hX)).mono ?_;rintro e X1 ⟨rfl,hb⟩;exact ⟨_,rfl,hb,Hd (rfl),λ_ _ _ _ _=>⟨Mv (by decide),Mw (by decide)⟩⟩
     .injection ho with ho;subst ho;refine ⟨λ_=>rfl,λa' X hX hsz hdf hrest hdep=>?_⟩;simp [Oper.wp,execOp,Act.eval,go_sem,]
      refine ⟨_,rfl,(QK _ _).alloc (ZH _) _,Hd (⟨X.heap.size,rfl,hX.size,(by obtain ⟨Wn,hWn,hXn,_⟩:=Zk X noR 112;unfold noR Xm at hWn;rw [<-hWn];exact hXn)⟩),λj u _ hne hu=>?_⟩;by_cases hj:j=9
      .subst hj;obtain ⟨b1,e1,hl1,hx1⟩:=hu.out;exact Fc rfl e1 hx1.bx.lt
      have hnot:j ∉ [8,9]:=λh=>by
       rcases (by simpa using h:j=8∨j=9) with h|h
       .exact absurd h (by assumption)
       exact absurd h (by assumption)
      exact ⟨Mw hnot,Mv hnot⟩
     injection ho with ho;subst ho;refine ⟨λ_=>rfl,λa' X hX hsz hdf hrest hdep=>?_⟩;simp [Oper.wp,execOp,Act.eval,go_sem,]
     refine ⟨_,rfl,(QK _ _).alloc (ZH _) _,Hd (⟨X.heap.size,rfl,hX.size,(by obtain ⟨Wn,hWn,hXn,_⟩:=Zk X noR 112;unfold noR Xm at hWn;rw [<-hWn];exact hXn)⟩),λj u _ hne hu=>?_⟩;by_cases hj:j=8
     .subst hj;obtain ⟨b1,e1,hl1,hx1⟩:=hu.out;exact Fc rfl e1 hx1.bx.lt
     have hnot:j ∉ [8,9]:=λh=>by
      rcases (by simpa using h:j=8∨j=9) with h|h
      .exact absurd h (by assumption)
      exact absurd h (by assumption)
     exact ⟨Mw hnot,Mv hnot⟩
    case hend=>
     intro vs X hX hv hsp;obtain ⟨x14,e8,hl8,hx8⟩:∃x,vs 8=.pointer (some ⟨x,0,none⟩)∧W5.heap.size≤x∧Xb X x noR:=(hv 8 (by decide)).out;obtain ⟨x15,e9,hl9,hx9⟩:∃x,vs 9=.pointer (some ⟨x,0,none⟩)∧W5.heap.size≤x∧Xb X x noR:=(hv 9 (by decide)).out;have hne:x14≠x15:=hsp 8 9 (by decide) (by decide) (by decide) (by decide) (by decide) x14 x15 e8 e9;have hne2:x15≠x14:=Ne.symm hne;have e0:vs 0=.agg #[.int .i64 n,.bool false,.slice A2 M.length c2]:=(hv 0 (by decide)).out;have e1:vs 1=.pointer (some ⟨w.heap.size+1,6,none⟩):=(hv 1 (by decide)).out;have e2:vs 2=.agg #[.int .i64 e.av,.int .i64 e.an]:=(hv 2 (by decide)).out;have e3:vs 3=Kx ra:=(hv 3 (by decide)).out;have e4:vs 4=.agg #[.int .i64 n,.bool false,.slice A2 M.length c2]:=(hv 4 (by decide)).out;have e5:vs 5=.pointer (some ⟨w.heap.size+1,8,none⟩):=(hv 5 (by decide)).out;have e6:vs 6=.agg #[.int .i64 e.bv,.int .i64 e.bn]:=(hv 6 (by decide)).out;have e7:vs 7=Kx rb:=(hv 7 (by decide)).out;unfold Kx at e3 e7;obtain ⟨u0,u1,u2,u3⟩:=hx8.bx.c3;have uf:=hx8.bx.fr;have ul:=hx8.bx.lt;obtain ⟨v0,v1,v2,v3⟩:=hx9.bx.c3;have vf:=hx9.bx.fr;have vl:=hx9.bx.lt;have k7:=hx8.put (vs:=Xm ra) rfl;have g7:=Za X x14 (Xm ra) 0;have k8:=(hx9.only2 g7 hne2).put (vs:=Xm rb) rfl
     have g8:=Za (Qm X x14 0 (Xm ra)) x15 (Xm rb) 0;have k7':=k7.only2 g8 hne;have hY6:=((HY5.out.go hX).only2 g7 (by have:=HS5.out;omega)).only2 g8 (by have:=HS5.out;omega);have hB2:=Qn (g:=x15) (by omega) (Xm rb) 0 _ (Qn (g:=x14) (by omega) (Xm ra) 0 _ (hX.mono (B:=W5.heap.size) (ZH _)));have hBf:=(Ht HB5 hB2).out;have hl15:w.heap.size+1<x15:=by have:=HS5.out;omega
     have HF:=Hd (And.intro k7'.bx (And.intro k8.bx (And.intro hY6.bx hBf)));simp only [Qm,Xm] at HF;simp only [Wr,Act.put,e0,e1,e2,e3,e4,e5,e6,e7,e8,e9,ZR,ZT,List.setIfInBounds_toArray,List.set_cons_zero,List.set_cons_succ];clear e0 e1 e2 e3 e4 e5 e6 e7 e8 e9 hx8 hx9 k7 g7 k8 g8 k7' hB2 hBf hv hsp hX i0 i1 i2 x6 x7 x8 x9 hl8 hl9 hY6;go_wp2_with fail
     refine Qu ?_;go_wp2_with fail
     go_meet
     obtain ⟨k1,k2,k3,k4⟩:=HF.out;exact ⟨x14,x15,rfl,rfl,k1,k2,hne,k3,hl15,k4⟩
   case rest=>
    obtain ⟨x14,x15,rfl,rfl,h14,h15,hne,hYc,hl15,hBc⟩:=hcut;have hne2:x15≠x14:=Ne.symm hne;obtain ⟨u0,u1,u2,u3⟩:=h14.c3;have ul:=h14.lt;obtain ⟨v0,v1,v2,v3⟩:=h15.c3;have vf:=h15.fr;have vl:=h15.lt;have x2:=hYc.cell 2 _ rfl;have xl:=hYc.lt;have hne3:w.heap.size+1≠x15:=by omega
    have hne4:x15≠w.heap.size+1:=by omega
    rw [HKE.out] at x2;have HBc:=Hd hBc;have HH:=Hd (And.intro h14 (And.intro h15 hYc));clear h14 h15 hYc hBc x6 x7 x8 x9 y0 y1 y2 yl cA cB HO4 HO5 HX4 HX5 HY4 HY5 HZ5 HB4 HB5;obtain ⟨⟨ia1,ia2⟩,ib1,ib2⟩:=HIR.out;have hsf:=HSF.out;clear HSF HIR
    first
    |(have hs2:Wi 4 ra rb=true:=hsf
      have cF:=λW=>Gb 4 ra rb W hs2 ⟨ia1,ia2⟩ ⟨ib1,ib2⟩
      unfold Kx at cF;clear hsf hs2 ia1 ia2 ib1 ib2;go_wp2_with (go_at_call 128;(with_reducible refine (cF _).mono ?_);rintro e1 w9 ⟨rfl,hb9⟩;have HB9:=Ht HBc hb9;clear hb9)
      exact QL (v:=.tuple #[.bool true,.int .i64 0]) (by simp [results,results70,go_sem]) rfl ⟨rfl,HB9.out⟩)
    |(have hs2:Wi 5 ra rb=true:=hsf
      have cF:=λW=>Gb 5 ra rb W hs2 ⟨ia1,ia2⟩ ⟨ib1,ib2⟩
      unfold Kx at cF;clear hsf hs2 ia1 ia2 ib1 ib2;go_wp2_with (go_at_call 128;(with_reducible refine (cF _).mono ?_);rintro e1 w9 ⟨rfl,hb9⟩;have HB9:=Ht HBc hb9;clear hb9)
      exact QL (v:=.tuple #[.bool true,.int .i64 0]) (by simp [results,results70,go_sem]) rfl ⟨rfl,HB9.out⟩)
    |(have hs2:Wi 3 ra Rg.none=true:=hsf
      have cF:=λW=>Gb 3 ra Rg.none W hs2 ⟨ia1,ia2⟩ ⟨by unfold Rg.none Zu;simp,by unfold Rg.none Zu;simp⟩
      unfold Kx Rg.none at cF;dsimp only at cF;have hB9:=Qn (g:=x15) (by omega) (Xm Rg.none) 0 _ HBc.out;have HB8:=Hd hB9;simp only [Qm,Xm,Rg.none] at HB8;clear hsf hs2 ia1 ia2 ib1 ib2 hB9;go_wp2_with (go_at_call 128;(with_reducible refine (cF _).mono ?_);rintro e1 w9 ⟨rfl,hb9⟩;have HB9:=Ht HB8 hb9;clear hb9)
      exact QL (v:=.tuple #[.bool true,.int .i64 0]) (by simp [results,results70,go_sem]) rfl ⟨rfl,HB9.out⟩)
    |(have hs2:Oi ra size=true:=hsf
      unfold Oi at hs2;simp only [ZX,ZU] at hs2;obtain ⟨t1,t2,t3,t4⟩:=hs2;have cF:=λW=>Zx7 ra W
      unfold Kx at cF;rw [t1,t2] at cF;rw [t1] at u2;rw [t2] at u3;simp only [Bool.and_self] at cF;have r0:decide (ra.lo≥0)=true:=ZE t3;have r1:decide (ra.hi<size)=true:=ZE t4;clear hsf ia1 ia2 ib1 ib2 t3 t4;go_wp2_with (go_at_call 126;(with_reducible refine (cF _).mono ?_);rintro e1 w9 ⟨rfl,hb9⟩;have HB9:=Ht HBc hb9;have h9:=HH.out.1.below hb9;have u0:=h9.cell 0 _ rfl;have u1:=h9.cell 1 _ rfl;have ul:=h9.lt;clear hb9 h9)
      exact QL (v:=.tuple #[.bool true,.int .i64 0]) (by simp [results,results70,go_sem]) rfl ⟨rfl,HB9.out⟩)
def Zh2 (P:Ql) (b gv cv base:Nat) (x y:Int) (w:World) (e:Ending) (w':World):Prop:=∃z u v,e=.returned (.int .i64 z)∧Below gv w w'∧base≤w'.heap.size∧w'.cell? ⟨b,0,none⟩=some (.slice (some ⟨gv,0,none⟩) 2 cv)∧Ow w' gv 2 .i64 (some ⟨gv,0,none⟩) cv [u,v]∧(z=0->P.kind≠14∧stepV P x y=some (u,v))
theorem Zl9 {v n x y:Int} (h1:Zu n) (h2:Zu x) (h3:Zu y):Zu (Zc v n x y):=by
 unfold Zc;split
 .exact h1
 split<;>assumption
theorem Vv3 {d u x y:Int} (h0:0≤d) (h1:d<2):[x,y].set d.toNat u=[(Xg d u x y).1,(Xg d u x y).2]:=by
 rcases (show d=0∨d=1 by omega) with rfl|rfl<;>rfl
theorem Pk {x:Int} (h:Xy x=0):Kd x=x:=by
 unfold Xy at h;unfold Kd;split at h
 .rename_i k;rw [ZM k]
 cases h
theorem Io.setv {w:World} {b gv cv base:Nat} {Aa:Option Addr} {ca:Nat} {rs:List LR} {x y:Int} (h:Io w b gv cv base Aa ca rs x y) {d u:Int} (h0:0≤d) (h1:d<2) (p:Nat) (hp:(p:Int)=d):
 Below gv w (w.setCell ⟨gv,p,none⟩ (.int .i64 u))∧base≤(w.setCell ⟨gv,p,none⟩ (.int .i64 u)).heap.size∧(w.setCell ⟨gv,p,none⟩ (.int .i64 u)).cell? ⟨b,0,none⟩=some (.slice (some ⟨gv,0,none⟩) 2 cv)∧
  Ow (w.setCell ⟨gv,p,none⟩ (.int .i64 u)) gv 2 .i64 (some ⟨gv,0,none⟩) cv [(Xg d u x y).1,(Xg d u x y).2]:=by
 refine ⟨(QK gv w).setCell (p:=⟨gv,p,none⟩) (ZH gv) _,by rw [World.size_setCell];exact h.hb,?_,?_⟩
 .have hl:=h.lv;exact Qy (Qv (p:=⟨gv,p,none⟩) (QN w (some gv)) (.inl rfl) (.int .i64 u)) (h.bx.cell 0 _ rfl) (by show b≠gv;omega)
 have:=h.vs.set' p u
 rw [<-Vv3 h0 h1,show d.toNat=p by omega];exact this
theorem Io.seta {w:World} {b gv cv base:Nat} {Aa:Option Addr} {ca:Nat} {rs:List LR} {x y:Int} (h:Io w b gv cv base Aa ca rs x y) {g:Nat} (hg:base≤g) (p:Nat) (u:Value):
 Below gv w (w.setCell ⟨g,p,none⟩ u)∧base≤(w.setCell ⟨g,p,none⟩ u).heap.size∧(w.setCell ⟨g,p,none⟩ u).cell? ⟨b,0,none⟩=some (.slice (some ⟨gv,0,none⟩) 2 cv)∧
  Ow (w.setCell ⟨g,p,none⟩ u) gv 2 .i64 (some ⟨gv,0,none⟩) cv [x,y]:=by
 have:=h.lv;have:=h.lb;have hgr:=Qv (p:=⟨g,p,none⟩) (QN w (some g)) (.inl rfl) u;exact ⟨(QK gv w).setCell (p:=⟨g,p,none⟩) (by show gv≤g;omega) _,by rw [World.size_setCell];exact h.hb,Qy hgr (h.bx.cell 0 _ rfl) (by show b≠g;omega),h.vs.other' hgr (by omega)⟩
theorem Io.same {w:World} {b gv cv base:Nat} {Aa:Option Addr} {ca:Nat} {rs:List LR} {x y:Int} (h:Io w b gv cv base Aa ca rs x y):
 Below gv w w∧base≤w.heap.size∧w.cell? ⟨b,0,none⟩=some (.slice (some ⟨gv,0,none⟩) 2 cv)∧Ow w gv 2 .i64 (some ⟨gv,0,none⟩) cv [x,y]:=⟨QK _ _,h.hb,h.bx.cell 0 _ rfl,h.vs⟩
theorem Km {w w1 w4 w5:World} {b gv cv base:Nat} {u v:Int} (hl:gv≤w.heap.size) (hb:Below w.heap.size w w1)
 (hs:Below gv w1 w4∧base≤w4.heap.size∧w4.cell? ⟨b,0,none⟩=some (.slice (some ⟨gv,0,none⟩) 2 cv)∧Ow w4 gv 2 .i64 (some ⟨gv,0,none⟩) cv [u,v]) (h5:Below w4.heap.size w4 w5):
 Below gv w w5∧base≤w5.heap.size∧w5.cell? ⟨b,0,none⟩=some (.slice (some ⟨gv,0,none⟩) 2 cv)∧Ow w5 gv 2 .i64 (some ⟨gv,0,none⟩) cv [u,v]:=by
 obtain ⟨s1,s2,s3,s4⟩:=hs;have h1:Below gv w w1:=hb.mono hl;have:=hb.size;have:=s1.size;exact ⟨(h1.trans s1).trans (h5.mono (by omega)),ZO s2 h5.size,Qq h5 s3,s4.below h5⟩
theorem It {d:Int} (h0:0≤d) (h1:d<2):∃p:Nat,(p:Int)=d∧p<2:=⟨d.toNat,by omega,by omega⟩
theorem Vj8 (P:Ql) (b gv cv base:Nat) (Aa:Option Addr) (ca:Nat) (rs:List LR) (x y:Int) (w:World) (h:Io w b gv cv base Aa ca rs x y) (hk:Nw P.kind) (hr:Uv 2 rs.length P=true) (hg:Vk P x y=true) (ix:Zu x) (iy:Zu y) (ian:Zu P.an) (ibn:Zu P.bn):
 Calls prog 61 #[.pointer (some ⟨b,0,none⟩),.agg (Qj P).toArray,.int .i64 0] w (Zh2 P b gv cv base x y w):=by
 obtain ⟨W,hW,hX,hB⟩:=Qh w (Qj P) 56;have hh:=h.go hB;have hlv:gv≤w.heap.size:=by have:=h.lv;have:=h.lb;have:=h.hb;omega
 obtain ⟨_,r1,r2,r3,r4,r5⟩:=Yh hr;have hvA:P.av<2:=by
  unfold Vx Zn at r4;revert r4
  split<;>intro r4<;>simp at r4<;>omega
 have hvB:P.bv<2:=by
  unfold Vx Zn at r5;revert r5
  split<;>intro r5<;>simp at r5<;>omega
 have cA:=λ(W:World) (k:Io W b gv cv base Aa ca rs x y)=>Vr4 P.av P.an hvA b gv cv base Aa ca rs x y W k
 have cB:=λ(W:World) (k:Io W b gv cv base Aa ca rs x y)=>Vr4 P.bv P.bn hvB b gv cv base Aa ca rs x y W k
 have HIA:=Hd (Zl9 (v:=P.av) ian ix iy);have HIB:=Hd (Zl9 (v:=P.bv) ibn ix iy);have HG:=Hd hg;have HR1:=Hd r1;have HR2:=Hd r2;obtain ⟨fr,tg,kind,dst,arr,op,av,an,bv,bn⟩:=P;dsimp only at*;have HSt:Hid (stepV ⟨fr,tg,kind,dst,arr,op,av,an,bv,bn⟩ x y=if kind=12 then (if Fe op (Zc av an x y) (Zc bv bn x y)=true then some (x,y) else none) else if kind=2 then some (Xg dst (Zc av an x y) x y) else if kind=3 then some (Xg dst (-(Zc av an x y)) x y) else if kind=4 then some (Xg dst (Zc av an x y+Zc bv bn x y) x y) else if kind=5 then some (Xg dst (Zc av an x y - Zc bv bn x y) x y) else some (x,y)):=Hd rfl;have HGo:Hid (kind=12->Fe op (Zc av an x y) (Zc bv bn x y)=true):=Hd (λk=>by unfold Vk at hg;subst k;simpa using hg);generalize Zc av an x y=va at*;generalize Zc bv bn x y=vb at*;unfold Qj at hX hW |-
 have x2:=hX.cell 2 _ rfl;have x3:=hX.cell 3 _ rfl;have x4:=hX.cell 4 _ rfl;have x6:=hX.cell 6 _ rfl;have x7:=hX.cell 7 _ rfl;have x8:=hX.cell 8 _ rfl;have x9:=hX.cell 9 _ rfl;have xl:=hX.lt;have a6:=Qz.cell x6;have a7:=Qz.cell x7;have a8:=Qz.cell x8;have a9:=Qz.cell x9;have HX:=Hd hX;have HH:=Hd hh;have HB:=Hd hB;clear hX hh hB h hr r1 r2 r3 r4 r5 hvA hvB hg ix iy ian ibn HG;go_enter func61,ntmps61
 go_upto_region 1 with fail
 rw [<-hW];clear hW;refine Qk (by kernel_rfl) (by kernel_rfl) ?_
 repeat (go_big_quiet_step (first|(go_at_call 109;with_reducible exact Qd (cA _ (HH.out.go (Qz.below _))))|(go_at_call 109;with_reducible exact Qd (cB _ (HH.out.go (Qz.below _))))))
 refine wpQuiet_nil ?_;intro w1 hb1;have HX1:=Hd (HX.out.below hb1);have HH1:=Hd (HH.out.go hb1);have HB1:=Ht HB hb1;clear hb1 x2 x3 x4 x6 x7 x8 x9 xl a6 a7 a8 a9 HX HH HB cA cB;have x2:=HX1.out.cell 2 _ rfl;have x3:=HX1.out.cell 3 _ rfl;have x4:=HX1.out.cell 4 _ rfl;have xl:=HX1.out.lt;have HLv:=Hd hlv;clear hlv;unfold Nw at hk;rcases hk with rfl|rfl|rfl|rfl|rfl|rfl|rfl|rfl|rfl
 .have HE:=Hd (Km HLv.out HB1.out HH1.out.same (QK _ _));go_wp2_with fail
  go_ret
  obtain ⟨e1,e2,e3,e4⟩:=HE.out;exact ⟨0,x,y,rfl,e1,e2,e3,e4,λ_=>⟨by simp,HSt.out⟩⟩
 .have HD:=Hd (show 0≤dst∧dst<2 from ZN HR1.out);obtain ⟨p,hp,hp2⟩:=It HD.out.1 HD.out.2;rw [<-hp] at x3;have HP:=Hd hp;clear hp;have y0:=HH1.out.bx.cell 0 _ rfl;have yl:=HH1.out.bx.lt;have q0:(0:Int)≤p:=by omega
  have q1:(p:Int)<((2:Nat):Int):=by omega
  have q2:(p:Int)<2:=by omega
  go_upto_region 4 with fail
  have a0:=Qz.cell y0;have a3:=Qz.cell x3;refine Qb [(8,1)] (by kernel_rfl) (by kernel_rfl) ?_;simp only [Jl,ZP,ZQ,ZR,ZT]
  repeat (go_big_quiet_step (fail))
  refine wpQuiet_nil ?_;intro w4 hb4;have HH4:=Hd (HH1.out.go hb4);have HB4:=Ht HB1 hb4;have m0:∃z,w4.cell? ⟨gv,p,none⟩=some z:=by
   rcases (show p=0∨p=1 by omega) with rfl|rfl
   .exact ⟨_,HH4.out.vs.cellAt (i:=0) (by simp)⟩
   exact ⟨_,HH4.out.vs.cellAt (i:=1) (by simp)⟩
  obtain ⟨z0,m0⟩:=m0;have mf:=HH4.out.vs.frozenAt p;have HS:=Hd (HH4.out.setv (u:=va) HD.out.1 HD.out.2 p HP.out);clear hb4 a0 a3 y0 yl x2 x3 x4 xl;go_wp2_with fail
  refine Qu (wpQuiet_nil ?_);intro w5 hb5;have HE:=Hd (Km HLv.out HB4.out HS.out hb5);clear hb5 HS m0 mf;go_wp2_with fail
  go_ret
  obtain ⟨e1,e2,e3,e4⟩:=HE.out;exact ⟨0,_,_,rfl,e1,e2,e3,e4,λ_=>⟨by simp,HSt.out⟩⟩
 .have HD:=Hd (show 0≤dst∧dst<2 from ZN HR1.out);have cD:=λW=>Ir 5 va vb W (by omega) HIA.out HIB.out
  have HU:Hid (doR 5 va vb=-va):=Hd rfl;rw [HU.out] at cD;generalize hu:-va=u at cD HU HSt;clear hu;have HF:Hid (Xy u=0->Kd u=u):=Hd Pk;generalize Xy u=fw at*;generalize Kd u=fv at*;go_upto_region 14 with (go_at_call 110;with_reducible refine (cD _).mono ?_;rintro e1 w2 ⟨rfl,rfl⟩)
  by_cases hf:fw=0
  .subst hf;have HFu:=Hd (HF.out rfl);obtain ⟨p,hp,hp2⟩:=It HD.out.1 HD.out.2;rw [<-hp] at x3;have HP:=Hd hp;clear hp;have y0:=HH1.out.bx.cell 0 _ rfl;have yl:=HH1.out.bx.lt;have q0:(0:Int)≤p:=by omega
   have q1:(p:Int)<((2:Nat):Int):=by omega
   have q2:(p:Int)<2:=by omega
   go_upto_region 16 with fail
   have a0:=Qz.cell y0;have a3:=Qz.cell x3;refine Qb [(8,1)] (by kernel_rfl) (by kernel_rfl) ?_;simp only [Jl,ZP,ZQ,ZR,ZT]
   repeat (go_big_quiet_step (fail))
   refine wpQuiet_nil ?_;intro w4 hb4;have HH4:=Hd (HH1.out.go hb4);have HB4:=Ht HB1 hb4;have m0:∃z,w4.cell? ⟨gv,p,none⟩=some z:=by
    rcases (show p=0∨p=1 by omega) with rfl|rfl
    .exact ⟨_,HH4.out.vs.cellAt (i:=0) (by simp)⟩
    exact ⟨_,HH4.out.vs.cellAt (i:=1) (by simp)⟩
   obtain ⟨z0,m0⟩:=m0;have mf:=HH4.out.vs.frozenAt p;have HS:=Hd (HH4.out.setv (u:=fv) HD.out.1 HD.out.2 p HP.out);clear hb4 a0 a3 y0 yl x2 x3 x4 xl;go_wp2_with fail
   refine Qu (wpQuiet_nil ?_);intro w5 hb5;have HE:=Hd (Km HLv.out HB4.out HS.out hb5);clear hb5 HS m0 mf;go_wp2_with fail
   go_ret
   obtain ⟨e1,e2,e3,e4⟩:=HE.out;exact ⟨0,_,_,rfl,e1,e2,e3,e4,λ_=>⟨by simp,by rw [HSt.out,HFu.out];rfl⟩⟩
  have q0:(fw==0)=false:=beq_eq_false_iff_ne.2 hf;have HE:=Hd (Km HLv.out HB1.out HH1.out.same (QK _ _));have HN:=Hd hf;clear hf;go_wp2_with fail
  go_ret
  obtain ⟨e1,e2,e3,e4⟩:=HE.out;exact ⟨fw,x,y,rfl,e1,e2,e3,e4,λh=>absurd h HN.out⟩
 .have HD:=Hd (show 0≤dst∧dst<2 from ZN HR1.out);have cD:=λW=>Ir 6 va vb W (by omega) HIA.out HIB.out
  have HU:Hid (doR 6 va vb=va+vb):=Hd rfl;rw [HU.out] at cD;generalize hu:va+vb=u at cD HU HSt;clear hu;have HF:Hid (Xy u=0->Kd u=u):=Hd Pk;generalize Xy u=fw at*;generalize Kd u=fv at*;go_upto_region 14 with (go_at_call 110;with_reducible refine (cD _).mono ?_;rintro e1 w2 ⟨rfl,rfl⟩)
  by_cases hf:fw=0
  .subst hf;have HFu:=Hd (HF.out rfl);obtain ⟨p,hp,hp2⟩:=It HD.out.1 HD.out.2;rw [<-hp] at x3;have HP:=Hd hp;clear hp;have y0:=HH1.out.bx.cell 0 _ rfl;have yl:=HH1.out.bx.lt;have q0:(0:Int)≤p:=by omega
   have q1:(p:Int)<((2:Nat):Int):=by omega
   have q2:(p:Int)<2:=by omega
   go_upto_region 16 with fail
   have a0:=Qz.cell y0;have a3:=Qz.cell x3;refine Qb [(8,1)] (by kernel_rfl) (by kernel_rfl) ?_;simp only [Jl,ZP,ZQ,ZR,ZT]
   repeat (go_big_quiet_step (fail))
   refine wpQuiet_nil ?_;intro w4 hb4;have HH4:=Hd (HH1.out.go hb4);have HB4:=Ht HB1 hb4;have m0:∃z,w4.cell? ⟨gv,p,none⟩=some z:=by
    rcases (show p=0∨p=1 by omega) with rfl|rfl
    .exact ⟨_,HH4.out.vs.cellAt (i:=0) (by simp)⟩
    exact ⟨_,HH4.out.vs.cellAt (i:=1) (by simp)⟩
   obtain ⟨z0,m0⟩:=m0;have mf:=HH4.out.vs.frozenAt p;have HS:=Hd (HH4.out.setv (u:=fv) HD.out.1 HD.out.2 p HP.out);clear hb4 a0 a3 y0 yl x2 x3 x4 xl;go_wp2_with fail
   refine Qu (wpQuiet_nil ?_);intro w5 hb5;have HE:=Hd (Km HLv.out HB4.out HS.out hb5);clear hb5 HS m0 mf;go_wp2_with fail
   go_ret
   obtain ⟨e1,e2,e3,e4⟩:=HE.out;exact ⟨0,_,_,rfl,e1,e2,e3,e4,λ_=>⟨by simp,by rw [HSt.out,HFu.out];rfl⟩⟩
  have q0:(fw==0)=false:=beq_eq_false_iff_ne.2 hf;have HE:=Hd (Km HLv.out HB1.out HH1.out.same (QK _ _));have HN:=Hd hf;clear hf;go_wp2_with fail
  go_ret
  obtain ⟨e1,e2,e3,e4⟩:=HE.out;exact ⟨fw,x,y,rfl,e1,e2,e3,e4,λh=>absurd h HN.out⟩
 .have HD:=Hd (show 0≤dst∧dst<2 from ZN HR1.out);have cD:=λW=>Ir 7 va vb W (by omega) HIA.out HIB.out
  have HU:Hid (doR 7 va vb=va - vb):=Hd rfl;rw [HU.out] at cD;generalize hu:va - vb=u at cD HU HSt;clear hu;have HF:Hid (Xy u=0->Kd u=u):=Hd Pk;generalize Xy u=fw at*;generalize Kd u=fv at*;go_upto_region 14 with (go_at_call 110;with_reducible refine (cD _).mono ?_;rintro e1 w2 ⟨rfl,rfl⟩)
  by_cases hf:fw=0
  .subst hf;have HFu:=Hd (HF.out rfl);obtain ⟨p,hp,hp2⟩:=It HD.out.1 HD.out.2;rw [<-hp] at x3;have HP:=Hd hp;clear hp;have y0:=HH1.out.bx.cell 0 _ rfl;have yl:=HH1.out.bx.lt;have q0:(0:Int)≤p:=by omega
   have q1:(p:Int)<((2:Nat):Int):=by omega
   have q2:(p:Int)<2:=by omega
   go_upto_region 16 with fail
   have a0:=Qz.cell y0;have a3:=Qz.cell x3;refine Qb [(8,1)] (by kernel_rfl) (by kernel_rfl) ?_;simp only [Jl,ZP,ZQ,ZR,ZT]
   repeat (go_big_quiet_step (fail))
   refine wpQuiet_nil ?_;intro w4 hb4;have HH4:=Hd (HH1.out.go hb4);have HB4:=Ht HB1 hb4;have m0:∃z,w4.cell? ⟨gv,p,none⟩=some z:=by
    rcases (show p=0∨p=1 by omega) with rfl|rfl
    .exact ⟨_,HH4.out.vs.cellAt (i:=0) (by simp)⟩
    exact ⟨_,HH4.out.vs.cellAt (i:=1) (by simp)⟩
   obtain ⟨z0,m0⟩:=m0;have mf:=HH4.out.vs.frozenAt p;have HS:=Hd (HH4.out.setv (u:=fv) HD.out.1 HD.out.2 p HP.out);clear hb4 a0 a3 y0 yl x2 x3 x4 xl;go_wp2_with fail
   refine Qu (wpQuiet_nil ?_);intro w5 hb5;have HE:=Hd (Km HLv.out HB4.out HS.out hb5);clear hb5 HS m0 mf;go_wp2_with fail
   go_ret
   obtain ⟨e1,e2,e3,e4⟩:=HE.out;exact ⟨0,_,_,rfl,e1,e2,e3,e4,λ_=>⟨by simp,by rw [HSt.out,HFu.out];rfl⟩⟩
  have q0:(fw==0)=false:=beq_eq_false_iff_ne.2 hf;have HE:=Hd (Km HLv.out HB1.out HH1.out.same (QK _ _));have HN:=Hd hf;clear hf;go_wp2_with fail
  go_ret
  obtain ⟨e1,e2,e3,e4⟩:=HE.out;exact ⟨fw,x,y,rfl,e1,e2,e3,e4,λh=>absurd h HN.out⟩
 .have hra:0≤arr∧arr<rs.length:=ZN HR2.out;obtain ⟨i,rfl⟩:=ZV hra.1;have hi:i<rs.length:=by omega
  have cP:=λ(W:World) (k:Io W b gv cv base Aa ca rs x y)=>Jb3 i va b gv cv base Aa ca rs x y hi W k
  have HI:=Hd hi;clear hra hi;generalize hbb:(decide (0≤va)&&decide (va<(Mh rs i).xs.length))=bb at cP;have HBB:=Hd hbb;clear hbb;cases bb
  .go_wp2_with (go_at_call 111;with_reducible refine (cP _ HH1.out).mono ?_;rintro e1 w2 ⟨rfl,hb2⟩;have HE:=Hd (Km HLv.out ((Ht HB1 hb2).out) (HH1.out.go hb2).same (QK _ _));clear hb2)
   go_ret
   obtain ⟨e1,e2,e3,e4⟩:=HE.out;exact ⟨3,x,y,rfl,e1,e2,e3,e4,λh=>absurd h (by decide)⟩
  go_upto_region 24 with (go_at_call 111;with_reducible refine (cP _ HH1.out).mono ?_;rintro e1 w2 ⟨rfl,hb2⟩;have HH2:=Hd (HH1.out.go hb2);have HX2:=Hd (HX1.out.below hb2);have HB2:=Ht HB1 hb2;clear hb2)
  clear x2 x3 x4 xl HX1 HH1 HB1 cP;have hbt:=HBB.out;simp only [ZX,ZU] at hbt;obtain ⟨p,rfl⟩:=ZV hbt.1;have hp:p<(Mh rs i).xs.length:=by omega
  obtain ⟨_,hga,_,gc⟩:=HH2.out.ar.cell HI.out;subst hga;have hOr:=HH2.out.ar.each _ (Fb HI.out);obtain ⟨_,hgr,hgb,_⟩:=hOr.blockOf (by omega);unfold LR.val at gc;generalize hr':Mh rs i=r at*;obtain ⟨_,_,rx⟩:=r;dsimp only at hgr hOr gc hp;subst hgr;have x4:=HX2.out.cell 4 _ rfl;have xl:=HX2.out.lt;have y1:=HH2.out.bx.cell 1 _ rfl;have yl:=HH2.out.bx.lt;have a1:=Qz.cell y1;have a2:=Qz.cell gc;have a4:=Qz.cell x4;have q0:(0:Int)≤(i:Int):=by omega
  have q1:(i:Int)<(rs.length:Int):=by have:=HI.out;omega
  have q2:(0:Int)≤(p:Int):=by omega
  have:(p:Int)<(rx.length:Int):=by omega
  have HOr:=Hd hOr;have HGb:=Hd hgb;have HPp:=Hd hp;clear hbt hr' hOr hgb hp;refine Qb [(11,1)] (by kernel_rfl) (by kernel_rfl) ?_;simp only [Jl,ZP,ZQ,ZR,ZT]
  repeat (go_big_quiet_step (fail))
  refine wpQuiet_nil ?_;intro w4 hb4;have HH4:=Hd (HH2.out.go hb4);have HB4:=Ht HB2 hb4;have ho4:=HOr.out.below hb4;have m0:=ho4.cellAt HPp.out;have mf:=ho4.frozenAt p;have HS:=Hd (HH4.out.seta HGb.out p (.int .i64 vb));clear hb4 a1 a2 a4 y1 yl x4 xl ho4 gc;go_wp2_with fail
  refine Qu (wpQuiet_nil ?_);intro w5 hb5;have HE:=Hd (Km HLv.out HB4.out HS.out hb5);clear hb5 HS m0 mf;go_wp2_with fail
  go_ret
  obtain ⟨e1,e2,e3,e4⟩:=HE.out;exact ⟨0,x,y,rfl,e1,e2,e3,e4,λ_=>⟨by simp,HSt.out⟩⟩
 .have HE:=Hd (Km HLv.out HB1.out HH1.out.same (QK _ _));go_wp2_with fail
  go_ret
  obtain ⟨e1,e2,e3,e4⟩:=HE.out;exact ⟨0,x,y,rfl,e1,e2,e3,e4,λ_=>⟨by simp,by rw [HSt.out,ZM trivial,ZM (HGo.out trivial)]⟩⟩
 .have HE:=Hd (Km HLv.out HB1.out HH1.out.same (QK _ _));go_wp2_with fail
  go_ret
  obtain ⟨e1,e2,e3,e4⟩:=HE.out;exact ⟨0,x,y,rfl,e1,e2,e3,e4,λ_=>⟨by simp,HSt.out⟩⟩
 .have HE:=Hd (Km HLv.out HB1.out HH1.out.same (QK _ _));go_wp2_with fail
  go_ret
  obtain ⟨e1,e2,e3,e4⟩:=HE.out;exact ⟨4,x,y,rfl,e1,e2,e3,e4,λh=>absurd h (by decide)⟩
theorem Qq2 (p x y:Int):∀(es:List Ql) (k:Nat),Vq p x y es k=-1∨∃i,i<es.length∧Vq p x y es k=((k+i:Nat):Int)∧(Qx es i).fr=p∧Vk (Qx es i) x y=true
 |[],_=>.inl rfl
 |e::es,k=>by
  by_cases h:e.fr=p∧Vk e x y=true
  .refine .inr ⟨0,by simp,?_,h.1,h.2⟩;unfold Vq;rw [ZM h];rfl
  have e1:Vq p x y (e::es) k=Vq p x y es (k+1):=by conv=>lhs;unfold Vq;rw [ZL h]
  rcases Qq2 p x y es (k+1) with h2|⟨i,h3,h4,h5,h6⟩
  .exact .inl (by rw [e1,h2])
  exact .inr ⟨i+1,by simpa using h3,by rw [e1,h4,show k+1+i=k+(i+1) by omega],h5,h6⟩
theorem Ow.raise {w:World} {base:Nat} {e:TypeId} {k:IntKind} {g c:Nat} {xs:List Int} (h:Ow w base e k (some ⟨g,0,none⟩) c xs):Ow w g e k (some ⟨g,0,none⟩) c xs:=by
 rcases h.2 with ⟨hv,_⟩|⟨g',cap,cur,hv,hb,rest⟩
 .cases hv
 injection hv with h1 h2 h3;injection h1 with h1;injection h1 with h1;subst h1;exact ⟨h.1,.inr ⟨g,cap,cur,by rw [h2,h3],ZH _,rest⟩⟩
theorem Qd4 (w:World) (v:Value) (t:TypeId) (hv:v.oneCell'=true):(∀j u,([v]:List Value)[j]? =some u->(w.alloc (.cells #[v] t)).cell? ((⟨w.heap.size,0,none⟩:Addr).add j)=some u)∧∀u∈([v]:List Value),u.oneCell'=true:=by
 refine ⟨λj u hu=>?_,λu hu=>by simp only [List.mem_cons,List.not_mem_nil,or_false] at hu;rw [hu];exact hv⟩;have hj:j=0:=by
  rcases Nat.eq_zero_or_pos j with h|h
  .exact h
  rw [List.getElem?_eq_none (show ([v]:List Value).length≤j from h)] at hu;cases hu
 subst hj;rw [show (⟨w.heap.size,0,none⟩:Addr).add 0=⟨w.heap.size,0,none⟩ by unfold Addr.add;split<;>simp_all];exact (Bx.new w [v] t).cell 0 u hu
theorem Vi8 {g:Zv} (hg:Gn.Vj2 g) (hn:g.n=2) {k:Nat} (hk:k<g.edges.length):(Qx g.edges k).av<2∧(Qx g.edges k).bv<2:=by
 have hr:=(Xo hg hk).2.2.2.2;rw [hn] at hr;obtain ⟨_,_,_,_,r4,r5⟩:=Yh hr;constructor
 .unfold Vx Zn at r4;revert r4
  split<;>intro r4<;>simp at r4<;>omega
 unfold Vx Zn at r5;revert r5
 split<;>intro r5<;>simp at r5<;>omega
theorem Io.more {w5 w9 w10:World} {b gv cv:Nat} {Aa A9 A10:Option Addr} {ca c9 c10:Nat} {rs:List LR} {rx:List Int} {x y:Int} {t:TypeId} (h:Io w5 b gv cv (b+1) Aa ca rs x y) (hb9:Below w5.heap.size w5 w9) (ho9:Ow w9 w5.heap.size 2 .i64 A9 c9 rx)
 (hr10:w10.ownsRow (b+1) 30 1 (.slice A10 (rs.length+1) c10) (rs.length+1) (rs.map LR.val++[.slice A9 rx.length c9])) (hb10:Below (b+1) (w9.alloc (.cells #[.slice A9 rx.length c9] t)) w10) (hg10:(w9.alloc (.cells #[.slice A9 rx.length c9] t)).grownBy w10 (Value.slice Aa rs.length ca).ownBlock) {B:Nat} (hB:B≤gv):
 Io (w10.setCell ⟨b,1,none⟩ (.slice A10 (rs.length+1) c10)) b gv cv (b+1) A10 c10 (rs++[⟨A9,c9,rx⟩]) x y∧Below B w5 (w10.setCell ⟨b,1,none⟩ (.slice A10 (rs.length+1) c10)):=by
 have hba:=(QK w9.heap.size w9).alloc (ZH _) (.cells #[.slice A9 rx.length c9] t);have hlv:=h.lv;have hlb:=h.hb;have:=hb9.size;have:=hba.size;have:=hb10.size;have bx10:=((h.bx.below hb9).below hba).under hb10 (Nat.lt_succ_self b);have hgs:=Qv (p:=⟨b,1,none⟩) (QN w10 (some b)) (.inl rfl) (.slice A10 (rs.length+1) c10);have hne:(Value.slice Aa rs.length ca).ownBlock≠some gv:=by
  intro e;have:=(h.ar.row.lt gv e).1
  omega
 have hv10:Ow w10 gv 2 .i64 (some ⟨gv,0,none⟩) cv [x,y]:=((h.vs.below hb9).below hba).other hg10 hne;have hl10:Ff w10 (b+1) A10 c10 (rs++[⟨A9,c9,rx⟩]):=((h.ar.go hb9).go hba).snoc ((ho9.below hba).lower hlb) hr10 hg10;refine ⟨⟨?_,hv10.other' hgs (by omega),?_,hlv,Nat.lt_succ_self b,by rw [World.size_setCell];omega⟩,?_⟩
 .have k:=bx10.set (i:=1) (by simp) (.slice A10 (rs.length+1) c10);simpa using k
 .exact hl10.only hgs (Nat.lt_succ_self b)
 exact (((hb9.mono (by omega)).trans (hba.mono (by omega))).trans (hb10.mono (by omega))).setCell (p:=⟨b,1,none⟩) (by show B≤b;omega) _
def Qv1 (g:Zv) (p:Nat) (x y:Int) (w:World) (e:Ending) (w':World):Prop:=∃n z A c u v,e=.returned (.tuple #[.int .i64 n,.int .i64 z,.slice A 2 c,.int .i64 0])∧Ow w' w.heap.size 2 .i64 A c [u,v]∧Below w.heap.size w w'∧n=Vq p x y g.edges 0∧
 (0≤n->z=0->(Qx g.edges n.toNat).kind≠14∧stepV (Qx g.edges n.toNat) x y=some (u,v))
theorem Jv2 (m:GM) (g:Zv) (p:Nat) (x y:Int) (A0:Option Addr) (c0:Nat) (As:Option Addr) (cs:Nat) (ds:List LR) (base:Nat) (w:World) (hG:Hg w m g) (hg:Gn.Vj2 g) (hn:g.n=2) (hp:(p:Int)<g.points)
 (hx:Rd w w.heap.size .i64 A0 2 (Qe [x,y])) (ix:Zu x) (iy:Zu y) (hd:Ff w base As cs ds) (hdl:ds.length=g.sizes.length) (hds:∀i,i<ds.length->((Mh ds i).xs.length:Int)=Qe g.sizes i)
 (hK:∀i,i<g.edges.length->(Qx g.edges i).fr=(p:Int)->Vk (Qx g.edges i) x y=true->Nw (Qx g.edges i).kind):
 Calls prog 26 #[Jm m g,.slice A0 2 c0,.slice As ds.length cs,.int .i64 0,.int .i64 p] w (Qv1 g p x y w):=by
 have hE8:=elI64;obtain ⟨W,hW,hX,hB⟩:=Qh w (Qt m g) 26;have hG1:=hG.go hB;have cK:=λ(W:World) (h:Hg W m g)=>Pw m g W h
 have cAll:=λW=>Ep m g hg.temps.1 hg.temps.2 (by have:=hg.n;have:=hg.temps;unfold Zv.n at*;omega) W
 rw [hn] at cAll;have HG:=Hd hG1;have HX:=Hd hX;have HB:=Hd hB;have HGd:=Hd hg;have HR:=Hd ((hx.below hB).more hB.size);have HD:=Hd (hd.go hB);have HDs:=Hd hds;have HK:=Hd hK;have HDL:=Hd hdl;have HIx:=Hd (And.intro ix iy);have HN2:=Hd hn;have x3:=hX.cell 3 _ rfl;have x2:=hX.cell 2 _ rfl;obtain ⟨x0,x1⟩:=hX.c1;have x4:=hX.cell 4 _ rfl;have x5:=hX.cell 5 _ rfl;have xl:=hX.lt;rw [hdl];obtain ⟨NA,hNA⟩:∃NA,NA=g.sizes.length:=⟨_,rfl⟩;have HNA:=Hd hNA;have hNm:NA≤16:=by rw [hNA];exact hg.arrays
 have qp0:decide ((p:Int)<0)=false:=ZA (by omega);have qp1:decide ((p:Int)≥g.points)=false:=ZA (by omega);unfold Jm Qt at*;rw [<-hNA] at hW x2 cAll cK |-
 clear hG hg hx hd hdl hds hK hX hB hG1 hn ix iy hNA hp;go_enter func26,ntmps26
 go_upto_region 1 with fail
 rw [<-hW];clear hW;have cK1:=cK W HG.out;unfold Ek at cK1;go_upto_region 2 with (go_at_call 5;(with_reducible refine cK1.mono ?_);rintro e1 _ ⟨z,rfl,hz,hb1⟩;obtain rfl:=hz.2 HGd.out;have HX1:=Hd (HX.out.below hb1);have HG1:=Hd (HG.out.go hb1);have HR1:=Hd ((HR.out.below hb1).more hb1.size);have HD1:=Hd (HD.out.go hb1);have HB1:=Ht HB hb1;clear hb1 hz)
 clear x0 x1 x2 x3 x4 x5 xl HX HG HR HD HB cK cK1;obtain ⟨x0,x1,x2,x3,x4,x5⟩:=HX1.out.c5;have xl:=HX1.out.lt;rw [<-HNA.out] at x2;go_upto_region 6 with (go_at_call 6;(with_reducible refine (cAll _).mono ?_);rintro e1 w2 ⟨rfl,hb1⟩;have HX2:=Hd (HX1.out.below hb1);have y2:=Qq hb1 x2;have yl:w.heap.size<w2.heap.size:=ZI xl hb1.size;have HG2:=Hd (HG1.out.go hb1);have HR2:=Hd ((HR1.out.below hb1).more hb1.size);have HD2:=Hd (HD1.out.go hb1);have HB2:=Ht HB1 hb1;clear hb1)
 clear x0 x1 x2 x3 x4 x5 xl HX1 HG1 HR1 HD1 HB1 cAll;have hr2:=HR2.out;have hsz:(([]:List Int).length+[x,y].length)*8≤140737488355328:=by simp
 go_upto_region 7 with (at_builtin;refine Yu hE8 _ rfl _ _ rfl _ .i64 none 0 [] rfl (Ow.nil _ w2.heap.size _ _) _ A0 c0 [x,y] rfl hr2 hsz (ZH _) ?_;intro A1 c1 w3 ho3 hb3)
 obtain ⟨gv,rfl,hgv,hgl⟩:=ho3.blockOf (by simp);obtain ⟨W4,hW4,hX4,hB4⟩:=Qh w3 [.slice (some ⟨gv,0,none⟩) 2 c1,.slice none 0 0] 118;have hs4:W4.heap.size=w3.heap.size+1:=by rw [hW4];simp
 have HS4:Hid (Io W4 w3.heap.size gv c1 (w3.heap.size+1) none 0 [] x y):=Hd ⟨hX4,(Ow.raise ho3).below hB4,Ff.nil _ _,hgl,Nat.lt_succ_self _,by omega⟩;have HB4:Hid (Below w2.heap.size w2 W4):=Hd (hb3.trans (hB4.mono hb3.size));have HGv:=Hd hgv;rw [<-hW4];clear hW4 hX4 hB4 ho3 hb3 hgl hgv hr2 hsz y2 yl;go_wp2_with fail
 generalize hb':w3.heap.size=b at*;have HB3:Hid (w3.heap.size=b):=Hd hb';clear hb' hs4;go_loopw [16] (λs wr=>∃(i:Nat) (Aa:Option Addr) (ca:Nat) (rs:List LR),s=.int .i64 i∧i≤NA∧rs.length=i∧Io wr b gv c1 (b+1) Aa ca rs x y∧Below w2.heap.size w2 wr) (λs _=>NA - (Go.RowKit.intOf s).toNat)
 case atStart=>exact ⟨0,none,0,[],rfl,Nat.zero_le _,rfl,HS4.out,HB4.out⟩
 case round=>
  clear HS4 HB4;obtain ⟨i,Aa,ca,rs,rfl,hi,hrs,hS,hb⟩:=hrel;have e1:IntKind.i64.wrap ((i:Int)+1)=i+1:=QQ _ (by omega);have HSr:=Hd hS;have HBr:=Hd hb;have HRs:=Hd hrs;have hxr:=HX2.out.below hb;have x2:=hxr.cell 2 _ rfl;have xl:=hxr.lt;rw [<-HNA.out] at x2;rcases ZJ i NA with hlt|hge
  .have hid:i<ds.length:=by rw [HDL.out,<-HNA.out];exact hlt
   obtain ⟨ga2,hAs2,hgl2,_⟩:=HD2.out.cell hid;obtain ⟨ga,hAs,hgl,hgc⟩:=(HD2.out.go hb).cell hid;obtain rfl:ga2=ga:=by rw [hAs2] at hAs;injection hAs with h;injection h
   have hgab:ga2<b:=by have:=HGv.out;have:=hS.lv;omega
   clear hAs2 hgl2;have hEach:=Hd ((HD2.out.go hb).each _ (Fb hid));obtain ⟨_,_,hab,habl,habc⟩:=(HG2.out.go hb).arrs (by rw [<-HNA.out];omega);have hsi:=habc i (by rw [<-HNA.out];exact hlt);have hdsi:=HDs.out i hid;have hrx:(Mh ds i).xs.length≤1024:=by
    have:=HGd.out.sizes (Qe g.sizes i) (by have:i<g.sizes.length:=by rw [<-HNA.out];exact hlt
                                           unfold Qe;simp [this])
    omega
   rw [<-hdsi] at hsi;rw [hab] at x2;subst hAs;unfold LR.val at hgc;generalize Mh ds i=ri at*;obtain ⟨ra,rc,rx⟩:=ri;dsimp only at hgc hsi hEach hrx;have q0:(i:Int)<(NA:Int):=by omega
   have q1:(0:Int)≤(i:Int):=by omega
   have y1:=hS.bx.cell 1 _ rfl;have yl:=hS.bx.lt;have HLt:=Hd hlt;have a0:=Qz.cell hgc;have a1:=Qz.cell hsi;have a2:=Qz.cell x2;clear hxr habc hdsi hab hid hlt hS hb hrs;go_upto_region 10 with fail
   refine Qk (by kernel_rfl) (by kernel_rfl) ?_
   repeat (go_big_quiet_step (fail))
   refine wpQuiet_nil ?_;intro w5 hb5;have HS5:=Hd (HSr.out.go hb5);have HB5:=Ht HBr hb5;have HE5:=Hd (hEach.out.below hb5);have hgc5:=Qq hb5 hgc;have hgl5:ga2<w5.heap.size:=ZI hgl hb5.size;clear hb5 a0 a1 a2 y1 yl x2 xl hgc hsi habl hgl HSr HBr hEach;have y1:=HS5.out.bx.cell 1 _ rfl;have yl:=HS5.out.bx.lt;go_upto_region 12 with fail
   have a0:=Qz.cell hgc5;have a1:=Qz.cell y1;have hE5:Rd w5.drew w5.heap.size .i64 ra rx.length (Qe rx):=(HE5.out.below (QK _ _).drew).rd;have hszr:(([]:List Int).length+rx.length)*8≤140737488355328:=by have:=hrx;simp;omega
   have hll:=HS5.out.ar;have hrl:(rs.length+1)*24≤140737488355328:=by have:=HRs.out;omega
   have hbase5:w5.heap.size≤w5.drew.heap.size:=ZH _;go_region_law (first|(refine Jq4 hE8 w5.drew rfl (.const (.slice none 0 0)) (.tmp 76) rfl w5.heap.size .i64 none 0 [] rfl (Ow.nil _ _ _ _) w5.heap.size ra rc rx rfl hE5 hszr hbase5 ?_;intro A9 c9 w9 ho9 hb9;rw [List.nil_append] at ho9;replace hb9:Below w5.heap.size w5 w9:=(QK w5.heap.size w5).drew.trans hb9;have k9:w9.cell? ⟨b,1,none⟩=some (.slice Aa rs.length ca)∧w9.cell? ⟨ga2,i,none⟩=some (.slice ra rx.length rc):=⟨Qq hb9 y1,Qq hb9 hgc5⟩;have hba:=(QK w9.heap.size w9).alloc (ZH _) (.cells #[.slice A9 rx.length c9] 30);have hrow9:=((hll.go hb9).go hba).row;have hnw:=Qd4 w9 (.slice A9 rx.length c9) 30 rfl;have k11:(w9.alloc (.cells #[.slice A9 rx.length c9] 30)).cell? ⟨b,1,none⟩=some (.slice Aa rs.length ca)∧(w9.alloc (.cells #[.slice A9 rx.length c9] 30)).cell? ⟨ga2,i,none⟩=some (.slice ra rx.length rc):=⟨Qq hba k9.1,Qq hba k9.2⟩;have k9a:=k9.1;have k11a:=k11.1;have hbs9:b+1≤(w9.alloc (.cells #[.slice A9 rx.length c9] 30)).heap.size:=ZO (ZO HS5.out.hb hb9.size) hba.size)|(refine Ye elLL (w9.alloc (.cells #[.slice A9 rx.length c9] 30)) rfl (.tmp 72) (.tmp 78) rfl (b+1) Aa ca rs.length (rs.map LR.val) rfl hrow9 [.slice A9 rx.length c9] w9.heap.size rfl rfl hnw.1 hnw.2 hrl hbs9 ?_;intro A10 c10 w10 hr10 hb10 hg10;have k10:w10.cell? ⟨b,1,none⟩=some (.slice Aa rs.length ca)∧w10.cell? ⟨ga2,i,none⟩=some (.slice ra rx.length rc):=⟨(hb10.cell (p:=⟨b,1,none⟩) (Nat.lt_succ_self b)).trans k11.1,(hb10.cell (p:=⟨ga2,i,none⟩) (Nat.lt_succ_of_lt hgab)).trans k11.2⟩;have bx10:=((HS5.out.bx.below hb9).below hba).under hb10 (Nat.lt_succ_self b);have f10:=bx10.fr 1;have l10:=bx10.lt;have k10a:=bx10.cell 1 _ rfl))
   all_goals
    have HN:=Hd (HS5.out.more hb9 ho9 hr10 hb10 hg10 HGv.out);have hi1:Hid ((rs++[(⟨A9,c9,rx⟩:LR)]).length=i+1):=Hd (by rw [ZC,HRs.out];rfl);have hl1:Hid ((rs++[(⟨A9,c9,rx⟩:LR)]).length=rs.length+1):=Hd (by rw [ZC];rfl);clear hb9 ho9 hr10 hb10 hg10 k9 k11 k10 bx10 f10 l10 k10a k9a k11a hba hrow9 hnw hbs9 hE5 hszr hll hrl hbase5 y1 yl a0 a1;go_wp2_with fail
    go_roundw
    case rel=>exact ⟨i+1,A10,c10,rs++[⟨A9,c9,rx⟩],by go_num,by have:=HLt.out;omega,hi1.out,HN.out.1,HB5.out.trans HN.out.2⟩
    case measure=>have:=HLt.out;simp [Go.RowKit.intOf];omega
  obtain rfl:NA=i:=by omega
  have q0:decide ((NA:Int)<(NA:Int))=false:=ZA (by omega);have HGr:=Hd (HG2.out.go hb);have HBW:=Ht HB2 hb;have hEm:g.edges.length≤8192:=HGd.out.edges;have cO:=λ(X:World) (h:Hg X m g)=>Jo2 m g p X h hEm
  have cT:=λ(A1:Option Addr) (c1':Nat) (X:World) (h:Hg X m g) (hA:Rd X X.heap.size .i64 A1 (Qa4 g p).length (Qe (Dn (Qa4 g p)))) (hs:Io X b gv c1 (b+1) Aa ca rs x y)=>Jm1 m g b gv c1 (b+1) Aa ca rs x y A1 c1' (Qa4 g p) (λk hk=>Ja2 hk) (ZO (Qg2 _ _ _) hEm) (λk hk=>Vi8 (HGd.out) (HN2.out) hk) X h hA hs
  rw [Cq] at cO;rw [Vz1] at cT;obtain ⟨x0,x1⟩:=hxr.c1;have x3:=hxr.cell 3 _ rfl;have x4:=hxr.cell 4 _ rfl;have x5:=hxr.cell 5 _ rfl;generalize Qa4 g p=ol at*;obtain ⟨ix1,hix1⟩:∃z,Hid (Dn ol=z):=⟨_,Hd rfl⟩;rw [hix1.out] at cO cT;generalize hLL:ol.length=LL at*;have HLL:=Hd hLL;clear hLL;unfold Jm Qt at cO cT;rw [<-HNA.out] at cO cT;clear hge hS hb hrs;go_upto_region 13 with fail
  refine Xk 5 (λi=>match i with|0=>82|1=>83|2=>84|3=>85|_=>86) (λi v wx=>Hid (match i with|0=>v=.agg #[.slice m.va g.nv m.vc,.int .i64 g.temps,.slice m.aa NA m.ac,.int .i64 g.points,.int .i64 g.exit,.slice m.ea g.edges.length m.ec]|1=>v=.pointer (some ⟨b,0,none⟩)|2=>v=.agg #[.slice m.va g.nv m.vc,.int .i64 g.temps,.slice m.aa NA m.ac,.int .i64 g.points,.int .i64 g.exit,.slice m.ea g.edges.length m.ec]|3=>v=.int .i64 p|4=>∃A1 c1,v=.slice A1 LL c1∧Rd wx wx.heap.size .i64 A1 LL (Qe ix1)|_=>True)) (λ_ _ _ _=>Hid True) #[true,true,true,true,true,false,false] ?hm ?hB ?hR ?hd ?hi ?hop ?hend
  case hm=>kernel_rfl
  case hB=>kernel_rfl
  case hR=>
   intro i v X X1 hh hb;have hh:=hh.out;refine Hd ?_;match i,hh with
   |0,hh=>exact hh
   |1,hh=>exact hh
   |2,hh=>exact hh
   |3,hh=>exact hh
   |4,hh=>(obtain ⟨A1,c1,e,hr⟩:=hh;exact ⟨A1,c1,e,(hr.below hb).more hb.size⟩)
   |i+5,_=>exact trivial
  case hd=>intro i hi;rcases (show i=0∨i=1∨i=2∨i=3∨i=4 by omega) with rfl|rfl|rfl|rfl|rfl<;>simp
  case hi=>
   intro i j hi hj hij h;rcases (show i=0∨i=1∨i=2∨i=3∨i=4 by omega) with rfl|rfl|rfl|rfl|rfl<;>rcases (show j=0∨j=1∨j=2∨j=3∨j=4 by omega) with rfl|rfl|rfl|rfl|rfl<;>first|exact absurd rfl hij|exact absurd h (by decide)
  case hop=>
   intro i o hi ho;rcases (show i=0∨i=1∨i=2∨i=3∨i=4 by omega) with rfl|rfl|rfl|rfl|rfl
   .injection ho with ho;subst ho;refine ⟨λ_=>rfl,λa' X hX hsz hdf hrest hdep=>?_⟩;have ep:a'.tmps[5]? =some (.pointer (some ⟨w.heap.size,0,none⟩)):=hrest 5 (by decide);have m0:=Qq hX x0;have m1:=Qq hX x1;have m2:=Qq hX x2;have m3:=Qq hX x3;have m4:=Qq hX x4;have m5:=Qq hX x5;simp [Oper.wp,execOp,Act.eval,ep,go_sem,m0,m1,m2,m3,m4,m5]
    exact ⟨_,rfl,QK _ _,Hd (rfl),λ_ _ _ _ _=>Hd trivial⟩
   .injection ho with ho;subst ho;refine ⟨λ_=>rfl,λa' X hX hsz hdf hrest hdep=>?_⟩;have ep:a'.tmps[15]? =some (.pointer (some ⟨b,0,none⟩)):=hrest 15 (by decide);simp [Oper.wp,execOp,Act.eval,ep,go_sem]
    exact ⟨_,rfl,QK _ _,rfl,λ_ _ _ _ _=>Hd trivial⟩
   .injection ho with ho;subst ho;refine ⟨λ_=>rfl,λa' X hX hsz hdf hrest hdep=>?_⟩;have ep:a'.tmps[5]? =some (.pointer (some ⟨w.heap.size,0,none⟩)):=hrest 5 (by decide);have m0:=Qq hX x0;have m1:=Qq hX x1;have m2:=Qq hX x2;have m3:=Qq hX x3;have m4:=Qq hX x4;have m5:=Qq hX x5;simp [Oper.wp,execOp,Act.eval,ep,go_sem,m0,m1,m2,m3,m4,m5]
    exact ⟨_,rfl,QK _ _,Hd (rfl),λ_ _ _ _ _=>Hd trivial⟩
   .injection ho with ho;subst ho;refine ⟨λ_=>rfl,λa' X hX hsz hdf hrest hdep=>?_⟩;have ep:a'.tmps[4]? =some (.int .i64 p):=hrest 4 (by decide);simp [Oper.wp,execOp,Act.eval,ep,go_sem]
    exact ⟨_,rfl,QK _ _,rfl,λ_ _ _ _ _=>Hd trivial⟩
   injection ho with ho;subst ho;refine ⟨λ_=>rfl,λa' X hX hsz hdf hrest hdep=>?_⟩;obtain ⟨v0,et0,hv0⟩:=hdep ⟨2,Ground.data⟩ (by simp) rfl;have et0:a'.tmps[84]? =some v0:=et0;have hv0:v0=.agg #[.slice m.va g.nv m.vc,.int .i64 g.temps,.slice m.aa NA m.ac,.int .i64 g.points,.int .i64 g.exit,.slice m.ea g.edges.length m.ec]:=hv0.out;subst hv0;obtain ⟨v1,et1,hv1⟩:=hdep ⟨3,Ground.data⟩ (by simp) rfl;have et1:a'.tmps[85]? =some v1:=et1;have hv1:v1=.int .i64 p:=hv1.out;subst hv1;simp [Oper.wp,execOp,Act.eval,go_sem,et0,et1]
   refine (cO X (HGr.out.go hX)).mono ?_;rintro e X1 ⟨A1,c1,rfl,ho,hb⟩;exact ⟨_,rfl,hb,Hd (⟨A1,⟨c1,rfl⟩,(by have:=ho.rd;rw [<-hix1.out,Cq,HLL.out] at this;rw [<-hix1.out];exact this)⟩),λ_ _ _ _ _=>Hd trivial⟩
  case hend=>
   intro vs X hX hv hsp;have e0:vs 0=.agg #[.slice m.va g.nv m.vc,.int .i64 g.temps,.slice m.aa NA m.ac,.int .i64 g.points,.int .i64 g.exit,.slice m.ea g.edges.length m.ec]:=(hv 0 (by decide)).out;have e1:vs 1=.pointer (some ⟨b,0,none⟩):=(hv 1 (by decide)).out;have e2:vs 2=.agg #[.slice m.va g.nv m.vc,.int .i64 g.temps,.slice m.aa NA m.ac,.int .i64 g.points,.int .i64 g.exit,.slice m.ea g.edges.length m.ec]:=(hv 2 (by decide)).out;have e3:vs 3=.int .i64 p:=(hv 3 (by decide)).out;obtain ⟨A1,c1',e4,hr4⟩:∃A1 c1,vs 4=.slice A1 LL c1∧Rd X X.heap.size .i64 A1 LL (Qe ix1):=(hv 4 (by decide)).out;have cT1:=cT A1 c1' X (HGr.out.go hX) hr4 (HSr.out.go hX);have HSx:=Hd (HSr.out.go hX);have HBx:=Ht HBW hX;have HGx:=Hd (HGr.out.go hX);have HXx:=Hd (hxr.below hX);have HBe:=Hd (ZO HBW.out.size hX.size);simp only [Wr,Act.put,e0,e1,e2,e3,e4,ZR,ZT,List.setIfInBounds_toArray,List.set_cons_zero,List.set_cons_succ];clear e0 e1 e2 e3 e4 hv hsp hr4 x0 x1 x2 x3 x4 x5 xl HGr HSr HBW hxr hX cO cT;go_wp2_with fail
   with_reducible refine cT1.mono ?_
   rintro e1 w6 ⟨rfl,hb6⟩;have HS6:=Hd (HSx.out.go hb6);have HB6:=Ht HBx hb6;have HG6:=Hd (HGx.out.go hb6);have HX6:=Hd (HXx.out.below hb6);have HLw:Hid (w.heap.size≤gv):=Hd (ZO HB2.out.size HGv.out);clear hb6 cT1 HSx HBx HGx HXx;rcases Qq2 (p:Int) x y g.edges 0 with hN|⟨k,hk,hN,hfr,hgo⟩
   .rw [hN];have HN:=Hd hN;have y0:=HS6.out.bx.cell 0 _ rfl;have yl:=HS6.out.bx.lt;have a0:=Qz.cell y0;clear hN;go_wp2_with fail
    refine Qu ?_;go_upto_region 15 with fail
    refine Qk (by kernel_rfl) (by kernel_rfl) ?_
    repeat (go_big_quiet_step (fail))
    refine wpQuiet_nil ?_;intro w7 hb7;have HS7:=Hd (HS6.out.go hb7);have HB7:=Ht HB6 hb7;clear hb7 a0 y0 yl;go_wp2_with fail
    exact QL (v:=.tuple #[.int .i64 (-1),.int .i64 0,.slice (some ⟨gv,0,none⟩) 2 c1,.int .i64 0]) (by simp [results,results26,go_sem]) rfl ⟨-1,0,_,_,x,y,rfl,HS7.out.vs.lower HLw.out,HB7.out,HN.out.symm,λh=>absurd h (by decide)⟩
   rw [Nat.zero_add] at hN;rw [hN];have HN:=Hd hN;have hki:=HK.out k hk hfr hgo;have hri:=(Xo HGd.out hk).2.2.2.2;rw [HN2.out,<-HNA.out,<-HRs.out] at hri;have cD:=λ(X:World) (hs:Io X b gv c1 (b+1) Aa ca rs x y)=>Vj8 (Qx g.edges k) b gv c1 (b+1) Aa ca rs x y X hs hki hri hgo HIx.out.1 HIx.out.2 (HG6.out.ie k hk 7 _ rfl) (HG6.out.ie k hk 9 _ rfl)
   obtain ⟨_,_,he,_,hE⟩:=HG6.out.edge hk;have x5:=HX6.out.cell 5 _ rfl;have xl:=HX6.out.lt;rw [he] at x5;have y0:=HS6.out.bx.cell 0 _ rfl;have yl:=HS6.out.bx.lt;have q0:(k:Int)<(g.edges.length:Int):=by omega
   have q1:(0:Int)≤(k:Int):=by omega
   have q2:decide ((k:Int)<0)=false:=ZA (by omega);have HEd:Hid (Qx g.edges ((k:Int)).toNat=Qx g.edges k):=Hd rfl;unfold Zh2 at cD;unfold Qj at cD;generalize Qx g.edges k=ed at*;obtain ⟨e0,_,e2,e3,e4,_,_,_,_,_⟩:=hE;have hcD:=cD w6.drew (HS6.out.go (QK _ _).drew);have hdr:=Hd (HB6.out.trans ((QK w6.heap.size w6).drew.mono HB6.out.size));clear hki hri hN hfr hgo hk he cD;go_wp2_with fail
   refine Qu ?_;go_upto_region 16 with fail
   go_region_with (go_at_call 61;(with_reducible refine hcD.mono ?_);rintro e1 w7 ⟨z,u,v,rfl,hbg,hbs,_,hO,hz⟩;have hbl:b<w7.heap.size:=ZI (Nat.lt_succ_self b) hbs)
   all_goals
    go_wp2_with fail
    have HZ:=Hd hz;have HO:=Hd hO;have HB7:=Hd (hdr.out.trans (hbg.mono HLw.out));clear hz hO hbg;exact QL (v:=.tuple #[.int .i64 k,.int .i64 z,.slice (some ⟨gv,0,none⟩) 2 c1,.int .i64 0]) (by simp [results,results26,go_sem,Act.put]) rfl ⟨k,z,_,_,u,v,rfl,HO.out.lower HLw.out,HB7.out,HN.out.symm,λ_ h=>by rw [HEd.out];exact HZ.out h⟩
def ptK (k:Nat):List Int:=[((k / 9:Nat):Int) - 4,((k % 9:Nat):Int) - 4]
def Sp (P:Zj) (k:Nat):List (List Int):=((List.range k).filter λk=>Ys P.1 P.2.1 P.2.2 (ptK k)).map ptK
theorem Jo4 {P:Zj} {k:Nat} (h:Ys P.1 P.2.1 P.2.2 (ptK k)=true):Sp P (k+1)=Sp P k++[ptK k]:=by
 unfold Sp;rw [List.range_succ,List.filter_append];simp [h]
theorem Vy7 {P:Zj} {k:Nat} (h:Ys P.1 P.2.1 P.2.2 (ptK k)=false):Sp P (k+1)=Sp P k:=by
 unfold Sp;rw [List.range_succ,List.filter_append];simp [h]
theorem Zq9 (P:Zj) (k:Nat):(Sp P k).length≤k:=by
 unfold Sp;rw [List.length_map];have:=List.length_filter_le (λk=>Ys P.1 P.2.1 P.2.2 (ptK k)) (List.range k)
 simpa using this
theorem Jb1 {P:Zj} {x y:Int} (hx:-4≤x∧x≤4) (hy:-4≤y∧y≤4) (h:Ys P.1 P.2.1 P.2.2 [x,y]=true):[x,y]∈Sp P 81:=by
 have e:ptK (9*(x+4).toNat+(y+4).toNat)=[x,y]:=by
  unfold ptK;have h1:(9*(x+4).toNat+(y+4).toNat) / 9=(x+4).toNat:=by omega
  have h2:(9*(x+4).toNat+(y+4).toNat) % 9=(y+4).toNat:=by omega
  rw [h1,h2,show (((x+4).toNat:Nat):Int) - 4=x by omega,show (((y+4).toNat:Nat):Int) - 4=y by omega]
 unfold Sp;rw [List.mem_map];exact ⟨_,List.mem_filter.2 ⟨List.mem_range.2 (by omega),by rw [e];exact h⟩,e⟩
theorem Jr8 {P:Zj} {k:Nat} {p:List Int} (h:p∈Sp P k):∃x y,p=[x,y]∧(k≤81->(-4≤x∧x≤4)∧-4≤y∧y≤4)∧Ys P.1 P.2.1 P.2.2 [x,y]=true:=by
 unfold Sp at h;rw [List.mem_map] at h;obtain ⟨_,hj,rfl⟩:=h;obtain ⟨h1,h2⟩:=List.mem_filter.1 hj;have:=List.mem_range.1 h1
 exact ⟨_,_,rfl,λhk=>by omega,h2⟩
theorem Jm6 (w:World) (x y:Int):∃V,V=w.alloc (.cells #[.int .i64 x,.int .i64 y] 2)∧Ow V w.heap.size 2 .i64 (some ⟨w.heap.size,0,none⟩) 2 [x,y]∧Below w.heap.size w V:=
 ⟨_,rfl,⟨rfl,.inr ⟨w.heap.size,2,#[.int .i64 x,.int .i64 y],rfl,ZH _,heap_alloc_new _ _,ZH _,by unfold maxLen;omega,rfl,rfl⟩⟩,(QK _ _).alloc (ZH _) _⟩
def Zf8 (P:Zj) (w:World) (e:Ending) (w':World):Prop:=∃A c rs,e=.returned (.slice A rs.length c)∧Ff w' w.heap.size A c rs∧rs.map LR.xs=Sp P 81∧Below w.heap.size w w'
theorem Zx5 (P:Zj) (hN:P.1=2) (A0:Option Addr) (c0:Nat) (w:World) (h:Qi w A0 c0 P):Calls prog 25 #[Qf P A0 c0] w (Zf8 P w):=by
 obtain ⟨W,hW,hX,hB,hs⟩:=Zk w (Qp P A0 c0) 32;have HP:=Hd (h.go hB);have HX:=Hd hX;have HB:=Hd hB;unfold Qf;unfold Qp at hW;have cH:∀(X:World) (hp:Qi X A0 c0 P) (A:Option Addr) (c:Nat) (u v:Int) (hr:Rd X X.heap.size .i64 A 2 (Qe [u,v])) (hu:Zu u) (hv:Zu v),Calls prog 9 #[.agg #[.int .i64 P.1,.bool P.2.1,.slice A0 P.2.2.length c0],.slice A 2 c] X (λe w'=>e=.returned (.bool (Ys P.1 P.2.1 P.2.2 [u,v]))∧Below X.heap.size X w'):=λX hp A c u v hr hu hv=>Qb7 P.1 P.2.1 A0 c0 P.2.2 A c [u,v] X hp.oi hr (by intro z hz;simp at hz;rcases hz with rfl|rfl<;>assumption) (by simp)
 clear hX hB hs h hN;go_enter func25,ntmps25
 go_upto_region 1 with fail
 rw [<-hW];clear hW;go_wp2_with fail
 go_loopw [3,4] (λs3 s4 wr=>∃(i:Nat) (A:Option Addr) (c:Nat) (rs:List LR),s4=.int .i64 ((i:Int) - 4)∧i≤9∧s3=.slice A rs.length c∧Ff wr W.heap.size A c rs∧Hid (rs.map LR.xs=Sp P (9*i))∧Below W.heap.size W wr) (λ_ s _=>9 - ((Go.RowKit.intOf s)+4).toNat)
 case atStart=>exact ⟨0,none,0,[],rfl,by omega,rfl,Ff.nil _ _,Hd rfl,QK _ _⟩
 obtain ⟨i,A,c,rs,rfl,hi,rfl,hL,hPs,hb⟩:=hrel;have HL:=Hd hL;have HBr:=Hd hb;clear hL hb;by_cases hi9:i<9
 .have q0:decide ((i:Int) - 4≤4)=true:=ZE (by omega);have:IntKind.i64.wrap ((i:Int) - 4+1)=(i:Int) - 4+1:=QQ _ (by omega);have HI:=Hd hi9;clear hi9 hi;go_wp2_with fail
  go_loopw [3,5] (λs3 s5 wi=>∃(j:Nat) (A:Option Addr) (c:Nat) (rs:List LR),s5=.int .i64 ((j:Int) - 4)∧j≤9∧s3=.slice A rs.length c∧Ff wi W.heap.size A c rs∧Hid (rs.map LR.xs=Sp P (9*i+j))∧Below W.heap.size W wi) (λ_ s _=>9 - ((Go.RowKit.intOf s)+4).toNat)
  case atStart=>exact ⟨0,A,c,rs,rfl,by omega,rfl,HL.out,hPs,HBr.out⟩
  clear HL HBr hPs;obtain ⟨j,A,c,rs,rfl,_,rfl,hL,hPs,hb⟩:=hrel;have HL:=Hd hL;have HBr:=Hd hb;clear hL hb;by_cases hj9:j<9
  .have q1:decide ((j:Int) - 4≤4)=true:=ZE (by omega);have w2:IntKind.i64.wrap ((j:Int) - 4+1)=(j:Int) - 4+1:=QQ _ (by omega);have HJ:=Hd hj9;obtain ⟨W1,hW1,hX1,hB1⟩:=Qh wr [.int .i64 ((i:Int) - 4),.int .i64 ((j:Int) - 4)] 2;have hx:=HX.out.go HBr.out;obtain ⟨x0,x1,x2⟩:=hx.bx.c2;have xl:=hx.bx.lt;have hr1:Rd W1 W1.heap.size .i64 (some ⟨wr.heap.size,0,none⟩) 2 (Qe [(i:Int) - 4,(j:Int) - 4]):=λ_=>⟨wr.heap.size,0,rfl,hX1.lt,λq hq=>by
    rcases (show q=0∨q=1 by omega) with rfl|rfl
    .exact hX1.cell 0 _ rfl
    exact hX1.cell 1 _ rfl⟩
   have cH1:=cH W1 ((HP.out.go HBr.out).go hB1) _ 2 _ _ hr1 (by unfold Zu;have:=HI.out;omega) (by unfold Zu;omega);have hpt:ptK (9*i+j)=[(i:Int) - 4,(j:Int) - 4]:=by
    unfold ptK;rw [show (9*i+j) / 9=i by omega,show (9*i+j) % 9=j by omega]
   have HYes:Hid (Ys P.1 P.2.1 P.2.2 [(i:Int) - 4,(j:Int) - 4]=true->Sp P (9*i+(j+1))=Sp P (9*i+j)++[[(i:Int) - 4,(j:Int) - 4]]):=Hd (λh=>by rw [<-hpt] at h |-;exact Jo4 h);have HNo:Hid (Ys P.1 P.2.1 P.2.2 [(i:Int) - 4,(j:Int) - 4]=false->Sp P (9*i+(j+1))=Sp P (9*i+j)):=Hd (λh=>by rw [<-hpt] at h;exact Vy7 h);have HLen:Hid (rs.length≤9*i+j):=Hd (by
    have h1:=congrArg List.length hPs.out;rw [List.length_map] at h1;rw [h1];exact Zq9 _ _)
   generalize Ys P.1 P.2.1 P.2.2 [(i:Int) - 4,(j:Int) - 4]=hh at*;have HB1:=Hd hB1;clear hj9 hr1 hpt hX1 hx hB1;go_wp2_with fail
   rw [<-hW1];clear hW1 x0 x1 x2 xl;with_reducible refine cH1.mono ?_
   rintro _ w2 ⟨rfl,hb2⟩;have HB2:=Ht HB1 hb2;clear hb2 cH1;cases hh
   .go_wp2_with fail
    go_roundw
    case rel=>exact ⟨j+1,A,c,rs,by simp;omega,by have:=HJ.out;omega,rfl,HL.out.go HB2.out,Hd (by rw [HNo.out (by first|rfl|trivial)];exact hPs.out),HBr.out.trans (HB2.out.mono HBr.out.size)⟩
    have:=HJ.out;simp [Go.RowKit.intOf];omega
   have hX9:=(Bx.new w2 [.int .i64 ((i:Int) - 4),.int .i64 ((j:Int) - 4)] 2);obtain ⟨W3,hW3,ho3,hB3⟩:=Jm6 w2 ((i:Int) - 4) ((j:Int) - 4);have hba:=(QK W3.heap.size W3).alloc (ZH _) (.cells #[.slice (some ⟨w2.heap.size,0,none⟩) 2 2] 30);have hL3:=(HL.out.go HB2.out).go hB3;have hrow:=(hL3.go hba).row;have hnw:=Qd4 W3 (.slice (some ⟨w2.heap.size,0,none⟩) 2 2) 30 rfl;have hrl:(rs.length+1)*24≤140737488355328:=by have:=HLen.out;have:=HI.out;have:=HJ.out;omega
   have hbs:W.heap.size≤(W3.alloc (.cells #[.slice (some ⟨w2.heap.size,0,none⟩) 2 2] 30)).heap.size:=ZO HBr.out.size (ZO HB2.out.size (ZO hB3.size hba.size));have HL3:=Hd hL3;have HO3:=Hd ho3;have HB3:=Hd hB3;have HBA:=Hd hba;clear hX9 hL3 ho3 hB3 hba;have hs3:W3.heap.size=w2.heap.size+1:=by rw [hW3];simp
   rw [hs3] at hnw;have HYs:=Hd (HYes.out (by first|rfl|trivial));clear HYes HNo hs3;go_wp2_with (at_builtin;rw [<-hW3];refine Ku elLL (W3.alloc (.cells #[.slice (some ⟨w2.heap.size,0,none⟩) 2 2] 30)) rfl _ _ rfl W.heap.size A c rs.length (rs.map LR.val) rfl hrow [.slice (some ⟨w2.heap.size,0,none⟩) 2 2] (w2.heap.size+1) rfl rfl hnw.1 hnw.2 hrl hbs ?_;intro A10 c10 w10 hr10 hb10 hg10)
   have hle:W.heap.size≤w2.heap.size:=ZO HBr.out.size HB2.out.size;have HNew:Hid (Ff w10 W.heap.size A10 c10 (rs++[⟨some ⟨w2.heap.size,0,none⟩,2,[(i:Int) - 4,(j:Int) - 4]⟩])):=Hd ((HL3.out.go HBA.out).snoc ((HO3.out.below HBA.out).lower hle) hr10 hg10);have HBn:Hid (Below W.heap.size W w10):=Hd ((((HBr.out.trans (HB2.out.mono HBr.out.size)).trans (HB3.out.mono hle)).trans (HBA.out.mono (ZO hle HB3.out.size))).trans hb10);clear hr10 hb10 hg10 hrow hnw hrl hbs;go_roundw
   case rel=>exact ⟨j+1,A10,c10,rs++[⟨some ⟨w2.heap.size,0,none⟩,2,[(i:Int) - 4,(j:Int) - 4]⟩],by simp;omega,by have:=HJ.out;omega,by simp,HNew.out,Hd (by rw [HYs.out,List.map_append,hPs.out];rfl),HBn.out⟩
   have:=HJ.out;simp [Go.RowKit.intOf];omega
  obtain rfl:j=9:=by omega
  have q1:decide (((9:Nat):Int) - 4≤4)=false:=rfl;go_wp2_with fail
  go_roundw
  case rel=>exact ⟨i+1,A,c,rs,by simp;omega,by have:=HI.out;omega,rfl,HL.out,Hd (by rw [show 9*(i+1)=9*i+9 by omega];exact hPs.out),HBr.out⟩
  have:=HI.out;simp [Go.RowKit.intOf];omega
 obtain rfl:i=9:=by omega
 have q0:decide (((9:Nat):Int) - 4≤4)=false:=rfl;clear hi9 hi;go_wp2_with fail
 go_ret
 exact ⟨A,c,rs,rfl,HL.out.lower HB.out.size,hPs.out,HB.out.trans (HBr.out.mono HB.out.size)⟩
def Zl7 (Q:Zj) (P:Ql) (size:Int) (w:World) (e:Ending) (w':World):Prop:=∃z,e=.returned (.bool z)∧Below w.heap.size w w'∧(z=true->Ae Q P size=true)
theorem Ze5 {n:Nat} {M:List Int} {v x:Int} (h:Je (n:Int) false M=0) (hx:Zu x):Zu (Sh (Uj n M v x))∧Zu (Tg (Uj n M v x)):=by
 obtain ⟨_,_⟩:=Zk6 (v:=v) h hx;unfold Sh Tg;constructor<;>split<;>first|assumption|(unfold Zu;omega)
theorem Zb1 (n:Nat) (hn:n≤64) (P:Zj) (hPn:P.1=n) (A:Option Addr) (c:Nat) (e:Ql) (size:Int) (w:World) (h:Qi w A c P) (hk:Nw e.kind) (hav:e.av<n) (hbv:e.bv<n) (ian:Zu e.an) (ibn:Zu e.bn) (hab:e.kind=4∨e.kind=5->¬(0≤e.av∧0≤e.bv)):
 Calls prog 24 #[Qf P A c,.agg (Qj e).toArray,.int .i64 size] w (Zl7 (Qo P) e size w):=by
 obtain ⟨W,hW,hX,hY,hB,hs⟩:=Vu w (Qp P A c) 32 (Qj e) 56;have hP:=h.go hB;obtain ⟨hc1,hc2⟩:=Sx h.ok;have cO:Calls prog 54 #[Qf P A c] W (Ip W (ofP P.1 P.2.1 P.2.2)):=by
  obtain ⟨p0,p1,p2⟩:=P;dsimp only at hPn;subst hPn;exact Ve9 n p1 A c p2 W hP.oi h.len h.ok
 have hQ:(ofP P.1 P.2.1 P.2.2).1=Qo P:=rfl;unfold Ip at cO;generalize hS:(ofP P.1 P.2.1 P.2.2).2=Yj at cO;rw [hQ] at cO;rw [hPn] at hc1;clear hQ hS;generalize Qo P=Q at*;obtain ⟨qn,qe,M⟩:=Q;dsimp only at*;subst hc1;have HC2:=Hd hc2;have x2:=hY.bx.cell 2 _ rfl;have x6:=hY.bx.cell 6 _ rfl;have x7:=hY.bx.cell 7 _ rfl;have x8:=hY.bx.cell 8 _ rfl;have x9:=hY.bx.cell 9 _ rfl;obtain ⟨y0,y1,y2⟩:=hX.bx.c2;have yl:=hX.bx.lt;have xl:=hY.bx.lt;have HY:=Hd hY;have HB:=Hd hB;have HI:=Hd (And.intro ian ibn);have HV:=Hd (And.intro hav hbv);have HAB:=Hd hab;unfold Qf at cO |-
 unfold Qp Qj at hW;unfold Qj;clear hX hY hB hs hP h hPn hc2 ian ibn hav hbv hab;go_enter func24,ntmps24
 go_upto_region 1 with fail
 rw [<-hW];clear hW;go_upto_region 2 with (go_at_call 54;(with_reducible refine cO.mono ?_);rintro e1 w1 ⟨A1,c1,rfl,ho1,hb1⟩;obtain ⟨W1,hW1,hZ1,hB1,_⟩:=Zk w1 [.int .i64 n,.bool qe,.slice A1 M.length c1] 32;have HZ1:=Hd hZ1;have HY1:=Hd ((HY.out.go hb1).go hB1);have HO1:Hid (qe=false->Vd W1 W1.heap.size A1 c1 n M):=Hd (λe=>by subst e;exact ((Sd (P:=((n:Int),false,M)) ho1 HC2.out).go hB1).oi);have HB1:=Hd (((Ht HB hb1).out).trans (hB1.mono ((Ht HB hb1).out).size));clear hb1 hZ1 hB1 ho1)
 rw [<-hW1];clear hW1 x2 x6 x7 x8 x9 y0 y1 y2 yl xl HY HB cO;obtain ⟨z0,z1,z2⟩:=HZ1.out.bx.c2;have zl:=HZ1.out.bx.lt;have x2:=HY1.out.bx.cell 2 _ rfl;have x6:=HY1.out.bx.cell 6 _ rfl;have x7:=HY1.out.bx.cell 7 _ rfl;have x8:=HY1.out.bx.cell 8 _ rfl;have x9:=HY1.out.bx.cell 9 _ rfl;have xl:=HY1.out.bx.lt;cases qe
 case true=>
  clear x2 x6 x7 x8 x9 xl hk;go_wp2_with fail
  go_ret
  exact ⟨true,rfl,HB1.out,λ_=>rfl⟩
 have hO:=HO1.out rfl;have cA:=λ(W:World) (hw:Vd W W.heap.size A1 c1 n M)=>Dx n A1 c1 M e.av e.an W hw HC2.out HV.out.1 (Uj n M e.av e.an) rfl
 have cB:=λ(W:World) (hw:Vd W W.heap.size A1 c1 n M)=>Dx n A1 c1 M e.bv e.bn W hw HC2.out HV.out.2 (Uj n M e.bv e.bn) rfl
 have HO:=Hd hO;clear hO HO1;have HSf:Hid (∀s:Bool,(((e.kind=14->s=false)∧(e.kind=11->s=true->Oi (Uj n M e.av e.an) size=true)∧(e.kind=3->s=true->Wi 3 (Uj n M e.av e.an) Rg.none=true)∧(e.kind=4∨e.kind=5->s=true->Wi e.kind (Uj n M e.av e.an) (Uj n M e.bv e.bn)=true)))->s=true->Ae ((n:Int),false,M) e size=true):=Hd (λs ⟨h14,h11,h3,h45⟩ hs=>by
  unfold Ae;rw [ZL (by simp)];split
  .rename_i k;rw [h14 k] at hs;cases hs
  split
  .rename_i k;exact h11 k hs
  split
  .rename_i k;exact h3 k hs
  split
  .rename_i k;exact h45 k hs
  rfl)
 have HrA:=Hd (Ze5 (v:=e.av) HC2.out HI.out.1);have HrB:=Hd (Ze5 (v:=e.bv) HC2.out HI.out.2);generalize Uj n M e.av e.an=ra at*;generalize Uj n M e.bv e.bn=rb at*;generalize hKK:e.kind=k at x2 HSf hk HAB;have HKK:=Hd hKK;clear hKK;rcases hk with rfl|rfl|rfl|rfl|rfl|rfl|rfl|rfl|rfl
 .clear x6 x7 x8 x9;go_wp2_with fail
  go_ret
  exact ⟨true,rfl,HB1.out,HSf.out true (by refine ⟨?_,?_,?_,?_⟩<;>intro k<;>omega)⟩
 .clear x6 x7 x8 x9;go_wp2_with fail
  go_ret
  exact ⟨true,rfl,HB1.out,HSf.out true (by refine ⟨?_,?_,?_,?_⟩<;>intro k<;>omega)⟩
 .have cF:=λW=>Dl 3 (.inl rfl) ra Rg.none W HrA.out ⟨by unfold Sh Rg.none Zu;simp,by unfold Tg Rg.none Zu;simp⟩
  unfold Kx Rg.none at cF;dsimp only at cF;go_upto_region 12 with fail
  have a0:=Qz.cell z0;have a1:=Qz.cell z1;have a2:=Qz.cell z2;have a3:=Qz.cell x2;have a6:=Qz.cell x6;have a7:=Qz.cell x7;refine Qb [(7,2)] (by kernel_rfl) (by kernel_rfl) ?_;simp only [Jl,ZP,ZQ,ZR,ZT]
  repeat (go_big_quiet_step ((go_at_call 55;with_reducible exact Qd (cA _ (HO.out.go (Qz.below _))))))
  refine wpQuiet_nil ?_;intro w3 hb3;have HB3:=Ht HB1 hb3;clear hb3 a0 a1 a2 a3 a6 a7 z0 z1 z2 zl x2 x6 x7 x8 x9 xl;go_wp2_with fail
  with_reducible refine (cF _).mono ?_
  rintro e1 w4 ⟨z,rfl,hb4,hz⟩;have HB4:=Ht HB3 hb4;have HZ:=Hd hz;clear hb4 hz;go_wp2_with fail
  refine Qu (wpQuiet_nil ?_);intro w5 hb5;have HB5:=Ht HB4 hb5;clear hb5;go_wp2_with fail
  go_ret
  exact ⟨z,rfl,HB5.out,HSf.out _ ⟨λk=>by omega,λk=>by omega,λ_=>HZ.out,λk=>by omega⟩⟩
 .have cF:=λW=>Dl 4 (by omega) ra rb W HrA.out HrB.out
  unfold Kx at cF;have hab2:=HAB.out (by omega);rcases (show (0≤e.av∧¬0≤e.bv)∨¬0≤e.av by omega) with ⟨hq0,hq1⟩|hq0
  rotate_right
  focus
   have q0:decide (0≤e.av)=false:=ZA hq0;clear hq0 hab2
  rotate_right
  focus
   have q0:decide (0≤e.av)=true:=ZE hq0;have q1:decide (0≤e.bv)=false:=ZA hq1;clear hq0 hq1 hab2
  all_goals
   go_upto_region 24 with fail
   have a0:=Qz.cell z0;have a1:=Qz.cell z1;have a2:=Qz.cell z2;have a3:=Qz.cell x2;have a6:=Qz.cell x6;have a7:=Qz.cell x7;have a8:=Qz.cell x8;have a9:=Qz.cell x9;refine Qb [(10,2)] (by kernel_rfl) (by kernel_rfl) ?_;simp only [Jl,ZP,ZQ,ZR,ZT]
   repeat (go_big_quiet_step (first|(go_at_call 55;with_reducible exact Qd (cA _ (HO.out.go (Qz.below _))))|(go_at_call 55;with_reducible exact Qd (cB _ (HO.out.go (Qz.below _))))))
   refine wpQuiet_nil ?_;intro w3 hb3;have HB3:=Ht HB1 hb3;clear hb3 a0 a1 a2 a3 a6 a7 a8 a9 z0 z1 z2 zl x2 x6 x7 x8 x9 xl;go_wp2_with fail
   with_reducible refine (cF _).mono ?_
   rintro e1 w4 ⟨z,rfl,hb4,hz⟩;have HB4:=Ht HB3 hb4;have HZ:=Hd hz;clear hb4 hz;go_wp2_with fail
   refine Qu (wpQuiet_nil ?_);intro w5 hb5;have HB5:=Ht HB4 hb5;clear hb5;go_wp2_with fail
   go_ret
   exact ⟨z,rfl,HB5.out,HSf.out _ ⟨λk=>by omega,λk=>by omega,λk=>by omega,λ_=>HZ.out⟩⟩
 .have cF:=λW=>Dl 5 (by omega) ra rb W HrA.out HrB.out
  unfold Kx at cF;have hab2:=HAB.out (by omega);rcases (show (0≤e.av∧¬0≤e.bv)∨¬0≤e.av by omega) with ⟨hq0,hq1⟩|hq0
  rotate_right
  focus
   have q0:decide (0≤e.av)=false:=ZA hq0;clear hq0 hab2
  rotate_right
  focus
   have q0:decide (0≤e.av)=true:=ZE hq0;have q1:decide (0≤e.bv)=false:=ZA hq1;clear hq0 hq1 hab2
  all_goals
   go_upto_region 24 with fail
   have a0:=Qz.cell z0;have a1:=Qz.cell z1;have a2:=Qz.cell z2;have a3:=Qz.cell x2;have a6:=Qz.cell x6;have a7:=Qz.cell x7;have a8:=Qz.cell x8;have a9:=Qz.cell x9;refine Qb [(10,2)] (by kernel_rfl) (by kernel_rfl) ?_;simp only [Jl,ZP,ZQ,ZR,ZT]
   repeat (go_big_quiet_step (first|(go_at_call 55;with_reducible exact Qd (cA _ (HO.out.go (Qz.below _))))|(go_at_call 55;with_reducible exact Qd (cB _ (HO.out.go (Qz.below _))))))
   refine wpQuiet_nil ?_;intro w3 hb3;have HB3:=Ht HB1 hb3;clear hb3 a0 a1 a2 a3 a6 a7 a8 a9 z0 z1 z2 zl x2 x6 x7 x8 x9 xl;go_wp2_with fail
   with_reducible refine (cF _).mono ?_
   rintro e1 w4 ⟨z,rfl,hb4,hz⟩;have HB4:=Ht HB3 hb4;have HZ:=Hd hz;clear hb4 hz;go_wp2_with fail
   refine Qu (wpQuiet_nil ?_);intro w5 hb5;have HB5:=Ht HB4 hb5;clear hb5;go_wp2_with fail
   go_ret
   exact ⟨z,rfl,HB5.out,HSf.out _ ⟨λk=>by omega,λk=>by omega,λk=>by omega,λ_=>HZ.out⟩⟩
 .go_upto_region 10 with (go_at_call 55;(with_reducible refine (cA _ HO.out).mono ?_);rintro e1 w2 ⟨rfl,hb1⟩;obtain ⟨W2,hW2,hU2,hB2,_⟩:=Zk w2 (Xm ra) 112;have HU2:=Hd hU2;have HB2:=Hd (((Ht HB1 hb1).out).trans (hB2.mono ((Ht HB1 hb1).out).size));unfold Xm at hW2;clear hb1 hU2 hB2)
  rw [<-hW2];clear hW2 z0 z1 z2 zl x2 x6 x7 x8 x9 xl;obtain ⟨u0,u1,u2,u3⟩:=HU2.out.bx.c3;have ul:=HU2.out.bx.lt;obtain ⟨lo,hi,hl,hh⟩:=ra;dsimp only at u0 u1 u2 u3;cases hl
  case false=>
   go_wp2_with fail
   go_ret
   exact ⟨false,rfl,HB2.out,λh=>absurd h (by decide)⟩
  cases hh
  case false=>
   go_wp2_with fail
   go_ret
   exact ⟨false,rfl,HB2.out,λh=>absurd h (by decide)⟩
  by_cases hlo:0≤lo
  .have q0:decide (0≤lo)=true:=ZE hlo;have HL:=Hd q0;clear hlo;go_wp2_with fail
   go_ret
   exact ⟨_,rfl,HB2.out,λhz=>HSf.out _ ⟨λk=>by omega,λ_ hs=>by unfold Oi;dsimp only;rw [HL.out,hs];rfl,λk=>by omega,λk=>by omega⟩ hz⟩
  have q0:decide (0≤lo)=false:=ZA hlo;clear hlo;go_wp2_with fail
  go_ret
  exact ⟨false,rfl,HB2.out,λh=>absurd h (by decide)⟩
 .clear x6 x7 x8 x9;go_wp2_with fail
  go_ret
  exact ⟨true,rfl,HB1.out,HSf.out true (by refine ⟨?_,?_,?_,?_⟩<;>intro k<;>omega)⟩
 .clear x6 x7 x8 x9;go_wp2_with fail
  go_ret
  exact ⟨true,rfl,HB1.out,HSf.out true (by refine ⟨?_,?_,?_,?_⟩<;>intro k<;>omega)⟩
 .clear x6 x7 x8 x9;go_wp2_with fail
  go_ret
  exact ⟨false,rfl,HB1.out,λh=>absurd h (by decide)⟩
def O2 (P:Zj):Prop:=P.1=2∧Je P.1 P.2.1 P.2.2=0
theorem O2.none:O2 (Vt 2):=⟨rfl,by decide⟩
theorem O2.lim {P:Zj} (h:O2 P) {i j:Int} (hi:0≤i∧i<4) (hj:0≤j∧j<4) (c:Int):O2 (Yf P i j c):=by
 refine ⟨?_,Ze6 h.2 i j c⟩;obtain ⟨hN,hc⟩:=h;obtain ⟨_,_,_⟩:=P;dsimp only at hN hc;subst hN;have hi2:Hn (2:Int).toNat i j=true:=by
  unfold Hn;exact ZE (by have:((2:Int).toNat:Int)=2:=rfl
                         omega)
 unfold Yf Up;dsimp only;rw [ZL (λk=>k hc),hi2,ZL (by simp)];split
 .rfl
 split
 .split<;>rfl
 rfl
theorem O2.forg {P:Zj} (h:O2 P) {v:Int} (h0:0≤v) (h1:v<2):O2 (My P v):=by
 refine ⟨?_,Ql8 h.2 v⟩;obtain ⟨hN,hc⟩:=h;obtain ⟨_,E,M⟩:=P;dsimp only at hN hc;subst hN;show (Kj ((2:Nat):Int) E M v).1=2
 rw [(Ob (n:=2) hc h0 (by omega)).2];exact (Ix (n:=2) hc).1
theorem O2.clo {P:Zj} (h:O2 P):O2 (Qo P):=by
 obtain ⟨a,b⟩:=Sx h.2;exact ⟨a.trans h.1,b⟩
theorem O2.ranged {P:Zj} (h:O2 P) {v:Int} (h0:0≤v) (h1:v<2) (r:Rg):O2 (Yg P v r):=by
 have hu:O2 (upO P v r.hi r.hh):=by
  unfold upO;split
  .exact h.lim (by omega) (by omega) _
  exact h
 unfold Yg Qt3;split
 .exact hu.lim (by omega) (by omega) _
 exact hu
theorem O2.gives {P:Zj} (h:O2 P) {v:Int} (h0:0≤v) (h1:v<2) (r:Rg):O2 (Kn P v r):=((h.forg h0 h1).ranged h0 h1 r).clo
theorem O2.atMost {P:Zj} (h:O2 P) {av bv:Int} (an bn:Int) (s:Bool) (ha:av<2) (hb:bv<2) (hab:¬(av<0∧bv<0)):O2 (Jk P av an bv bn s):=by
 unfold Jk;split
 .split
  .split
   .split
    .rw [h.1];exact .none
    exact h
   exact h.lim (by omega) (by omega) _
  exact h.ranged (by omega) ha _
 exact h.ranged (by omega) hb _
theorem O2.assumes {P:Zj} (h:O2 P) (op:Int) {av bv:Int} (an bn:Int) (ha:av<2) (hb:bv<2):O2 (Xc P op av an bv bn):=by
 unfold Xc;by_cases hab:av<0∧bv<0
 .rw [ZM hab];split
  .exact h
  rw [h.1];exact .none
 rw [ZL hab];have hba:¬(bv<0∧av<0):=λk=>hab ⟨k.2,k.1⟩
 split
 .exact ((h.atMost _ _ _ ha hb hab).atMost _ _ _ hb ha hba).clo
 split
 .exact (h.atMost _ _ _ hb ha hba).clo
 split
 .exact (h.atMost _ _ _ ha hb hab).clo
 split
 .exact (h.atMost _ _ _ hb ha hba).clo
 exact (h.atMost _ _ _ ha hb hab).clo
theorem O2.link {P:Zj} (h:O2 P) {dst i j:Int} (h0:0≤dst) (h1:dst<2) (hi:0≤i∧i<4) (hj:0≤j∧j<4) (k:Int):O2 (Wh P dst i j k):=
 (((h.forg h0 h1).lim hi hj _).lim hj hi _).clo
theorem Vg4 {Z:List Int} (ok:Yo (2*2) Z) (dst k:Int):O2 (Gz (2,false,Z) dst k):=by
 have hc:Je (2:Nat) false (Us dst.toNat k Z)=0:=Ox (by unfold Us;rw [Ur]) (Qq1 ok);exact O2.clo (P:=(2,false,Us dst.toNat k Z)) ⟨rfl,hc⟩
theorem Ve4 {Z:List Int} (ok:Yo (2*2) Z) (v:Int):O2 (Wa (2,false,Z) v):=by
 have hc:Je (2:Nat) false (Kl v.toNat Z)=0:=Ox (by unfold Kl;rw [Ur]) (Om ok);exact O2.clo (P:=(2,false,Kl v.toNat Z)) ⟨rfl,hc⟩
theorem Zu1 {Z:List Int} (h:O2 (2,false,Z)) (ok:Yo (2*2) Z) {dst y:Int} (k:Int) (h0:0≤dst) (h1:dst<2) (y0:0≤y) (y1:y<2):O2 (Js (2,false,Z) dst y k):=by
 unfold Js;split
 .exact Vg4 ok _ _
 exact h.link h0 h1 (by omega) (by omega) _
theorem On {na:Int} {e:Ql} (hr:Uv 2 na e=true):e.av<2∧e.bv<2:=by
 obtain ⟨_,_,_,_,r4,r5⟩:=Yh hr;have key:∀{v x:Int} {w:Bool},Vx v x 2 w=true->v<2:=λ{v x w} k=>by
  cases w with
  |true=>rcases Ak k with rfl|⟨_,k⟩<;>omega
  |false=>
   have:=ZN k
   omega
 exact ⟨key r4,key r5⟩
theorem Zl8 {e:Ql} (hx:Vm e=true):e.kind=1∨e.kind=11∨e.kind=13∨e.kind=14∨e.kind=9∨e.kind=10∨e.kind=2∨e.kind=3∨e.kind=12∨e.kind=4∨e.kind=5:=by
 unfold Vm at hx;simp only [ZX,Bool.or_eq_true,ZU] at hx;rcases hx.2 with ((h|h)|h)|h
 .omega
 .exact .inr (.inr (.inr (.inr (.inr (.inr (.inr (.inr (.inl h.1))))))))
 .omega
 omega
theorem Qj6 {e:Ql} (hx:Vm e=true) (h9:e.kind≠9) (h10:e.kind≠10):Nw e.kind:=by
 have:=Zl8 hx
 unfold Nw;omega
theorem Jl3 {e:Ql} (hx:Vm e=true) (hk:e.kind=4∨e.kind=5):¬(0≤e.av∧0≤e.bv):=by
 unfold Vm at hx;simp only [ZX,Bool.or_eq_true,ZU] at hx;rcases hx.2 with ((h|h)|h)|h
 .omega
 .omega
 .intro k;have:=h.2
  exact this (propext ⟨λ_=>k.2,λ_=>k.1⟩)
 omega
theorem Jh8 {Z:List Int} (hl:Z.length=(2*2)*(2*2)) (ok:Yo (2*2) Z) {e:Ql} {na:Int} (hr:Uv 2 na e=true) (hx:Vm e=true):O2 (Xu (2,false,Z) e):=by
 have h:O2 (2,false,Z):=⟨rfl,Ox hl ok⟩;obtain ⟨ha,hb⟩:=On hr;have hadd:=Jl3 hx;have hk:=Zl8 hx;obtain ⟨fr,tg,kind,dst,arr,op,av,an,bv,bn⟩:=e;obtain ⟨⟨k0,k1⟩,r1,r2,r3,r4,r5⟩:=Yh hr;dsimp only at*;rcases (show kind=1∨kind=2∨kind=3∨kind=4∨kind=5∨(kind=9∨kind=10)∨kind=11∨kind=12∨kind=13∨kind=14 by omega) with rfl|rfl|rfl|rfl|rfl|hk2|rfl|rfl|rfl|rfl
 .exact h
 .have d0:0≤dst∧dst<2:=ZN r1;show O2 (Ol (2,false,Z) dst av an)
  unfold Ol;split
  .exact h.gives d0.1 d0.2 _
  split
  .exact h
  exact h.link d0.1 d0.2 (by omega) (by omega) _
 .have d0:0≤dst∧dst<2:=ZN r1;show O2 (Zj5 (2,false,Z) dst av an)
  unfold Zj5;split
  .exact h.gives d0.1 d0.2 _
  split
  .exact Ve4 ok _
  exact h.link d0.1 d0.2 (by omega) (by omega) _
 .have d0:0≤dst∧dst<2:=ZN r1;have a0:=Ak r4;have b0:=Ak r5;have hx2:(0≤av)≠(0≤bv):=by
   unfold Vm at hx;simp at hx
   simpa using hx.2
  show O2 (if av<0 then Js (2,false,Z) dst bv an else Js (2,false,Z) dst av bn)
  split
  .rename_i hn
   have:0≤bv:=by
    by_cases hb:0≤bv
    .exact hb
    exact absurd (propext ⟨λk=>by omega,λk=>absurd k hb⟩) hx2
   exact Zu1 h ok _ d0.1 d0.2 this hb
  exact Zu1 h ok _ d0.1 d0.2 (by omega) ha
 .have d0:0≤dst∧dst<2:=ZN r1;have hx2:0≤av∧bv<0:=by
   unfold Vm at hx;simp at hx
   simpa using hx.2
  exact Zu1 h ok _ d0.1 d0.2 hx2.1 ha
 .rcases hk2 with rfl|rfl<;>exact h
 .exact h
 .exact h.assumes _ _ _ ha hb
 .exact h
 exact .none
theorem Eo {x:Int} (h:Vz x):Zu x:=by unfold Vz at h;unfold Zu;omega
theorem Zj9 {g:Zv} (hg:Gn.Vj2 g) {i k:Nat} (hi:i<g.edges.length) (hk:k<g.edges.length) (hf:(Qx g.edges k).fr=(Qx g.edges i).fr) (hne:k≠i):(Qx g.edges k).kind=12:=by
 obtain ⟨_,_,_,_,_⟩:=Xo hg hi;have hfk:=hg.fork (Qx g.edges i).fr.toNat (by omega);rw [show (((Qx g.edges i).fr.toNat:Nat):Int)=(Qx g.edges i).fr by omega] at hfk;have hm:Qx g.edges k∈Uh g.edges (Qx g.edges i).fr:=List.mem_filter.2 ⟨Vp9 hk,by simpa using hf⟩;have:2≤(Tf g.edges g.edges.length (Qx g.edges i).fr.toNat).length:=by
  have hmi:i∈Tf g.edges g.edges.length (Qx g.edges i).fr.toNat:=List.mem_filter.2 ⟨List.mem_range.2 hi,by simp;omega⟩;have hmk:k∈Tf g.edges g.edges.length (Qx g.edges i).fr.toNat:=List.mem_filter.2 ⟨List.mem_range.2 hk,by simp;omega⟩;generalize Tf g.edges g.edges.length (Qx g.edges i).fr.toNat=l at*;match l,hmi,hmk with
  |[a],h1,h2=>simp at h1 h2;omega
  |a::b::l,_,_=>simp
 have hl2:=congrArg List.length (Zq1 g.edges (Qx g.edges i).fr.toNat);rw [List.length_map,show (((Qx g.edges i).fr.toNat:Nat):Int)=(Qx g.edges i).fr by omega] at hl2;generalize Uh g.edges (Qx g.edges i).fr=F at*;match F,hfk,hm with
 |[a],_,_=>simp at hl2;omega
 |[a,b],hfk,hm=>
  unfold Ut at hfk;simp only [ZX,ZU] at hfk;simp only [List.mem_cons,List.not_mem_nil,or_false] at hm;rcases hm with h|h
  .rw [h];exact hfk.1
  rw [h];exact hfk.2.1
 |a::b::c::l,hfk,_=>simp [Ut] at hfk
theorem Jy6 {e:Ql} {x y u v:Int} (h1:Vz e.an) (h2:Vz e.bn) (hx:-4≤x∧x≤4) (hy:-4≤y∧y≤4) (h:stepV e x y=some (u,v)):Zu u∧Zu v:=by
 unfold Vz at h1 h2;have key:∀{v n:Int},-1099511627776≤n∧n≤1099511627776->-1099511627776≤Zc v n x y∧Zc v n x y≤1099511627776:=λ{v n} k=>by
  unfold Zc;split
  .exact k
  split<;>omega
 have:=key (v:=e.av) h1;have:=key (v:=e.bv) h2;have Aq:∀{d w:Int},-2199023255552≤w∧w≤2199023255552->some (Xg d w x y)=some (u,v)->Zu u∧Zu v:=λ{d w} k h=>by
  unfold Xg at h;split at h<;>(simp only [Option.some.injEq,Prod.mk.injEq] at h;obtain ⟨rfl,rfl⟩:=h;unfold Zu;omega)
 have same:some (x,y)=some (u,v)->Zu u∧Zu v:=λh=>by
  simp only [Option.some.injEq,Prod.mk.injEq] at h;obtain ⟨rfl,rfl⟩:=h;unfold Zu;omega
 unfold stepV at h;split at h
 .split at h
  .exact same h
  cases h
 split at h
 .exact Aq (by omega) h
 split at h
 .exact Aq (by omega) h
 split at h
 .exact Aq (by omega) h
 split at h
 .exact Aq (by omega) h
 exact same h
def Zf9 (g:Zv) (os:List Zj) (w:World) (e:Ending) (w':World):Prop:=∃b,e=.returned (.bool b)∧Below w.heap.size w w'∧(b=true->∀i,i<g.edges.length->Nj g (Vg os) i (Np g (Qx g.edges i)))
theorem Qr9 (m:GM) (g:Zv) (os:List Zj) (Ao:Option Addr) (co:Nat) (w:World) (hG:Hg w m g) (hg:Gn.Vj2 g) (hn:g.n=2) (hO:Ci w Ao os) (hl:(os.length:Int)=g.points) (hN:∀i,i<os.length->(Vg os i).1=2):
 Calls prog 10 #[Jm m g,.slice Ao os.length co] w (Zf9 g os w):=by
 obtain ⟨W,hW,hX,hB,hs⟩:=Zk w (Qt m g) 26;have HG:=Hd (hG.go hB);have HX:=Hd hX;have HB:=Hd hB;have HGd:=Hd hg;have HO:=Hd (hO.go hB);obtain ⟨NA,hNA⟩:∃NA,NA=g.sizes.length:=⟨_,rfl⟩;obtain ⟨EL,hEL⟩:∃EL,EL=g.edges.length:=⟨_,rfl⟩;have hNm:NA≤16:=by rw [hNA];exact hg.arrays
 have HNA:=Hd hNA;have HEL:=Hd hEL;unfold Jm Qt at*;rw [<-hNA,<-hEL] at hW |-
 clear hX hB hG hO hs hg hNA hEL;go_enter func10,ntmps10
 go_upto_region 1 with fail
 rw [<-hW];clear hW;go_wp2_with fail
 go_loopw [5,6] (λs5 s6 wr=>∃(i:Nat) (A:Option Addr) (c:Nat) (rs:List LR),s6=.int .i64 i∧i≤NA∧rs.length=i∧s5=.slice A rs.length c∧Ff wr W.heap.size A c rs∧Hid (∀k,k<i->((Mh rs k).xs.length:Int)=Qe g.sizes k)∧Below W.heap.size W wr) (λ_ s _=>NA - (Go.RowKit.intOf s).toNat)
 case atStart=>exact ⟨0,none,0,[],rfl,by omega,rfl,rfl,Ff.nil _ _,Hd (λk h=>absurd h (Nat.not_lt_zero k)),QK _ _⟩
 case round=>
  obtain ⟨i,A,c,rs,rfl,hi,hrs,rfl,hL,hZ,hb⟩:=hrel;have HL:=Hd hL;have HBr:=Hd hb;have HRs:=Hd hrs;have e1:IntKind.i64.wrap ((i:Int)+1)=i+1:=QQ _ (by omega);have hx:=HX.out.go hb;have x2:=hx.bx.cell 2 _ rfl;have xl:=hx.bx.lt;rw [<-HNA.out] at x2;rcases ZJ i NA with hlt|hge
  .obtain ⟨ab,ao,hab,habl,habc⟩:=(HG.out.go hb).arrs (by rw [<-HNA.out];omega);have hsi:=habc i (by rw [<-HNA.out];exact hlt);have hsz:=HGd.out.sizes (Qe g.sizes i) (by have:i<g.sizes.length:=by rw [<-HNA.out];exact hlt
                                                                                                                                                                         unfold Qe;simp [this])
   obtain ⟨q,hq⟩:=ZV (show 0≤Qe g.sizes i by omega);have HQ:=Hd hq;rw [hq] at hsi hsz;rw [hab] at x2;have hmk:=λW=>Au q (by omega) W
   have q0:(i:Int)<(NA:Int):=by omega
   have q1:(0:Int)≤(i:Int):=by omega
   have HLt:=Hd hlt;obtain ⟨W3,hW3,ho3,hB3⟩:∃W3,W3=wr.alloc (.cells (madeCells #[.int .i64 0] q) 2)∧Ow W3 wr.heap.size 2 .i64 (some ⟨wr.heap.size,0,none⟩) q (List.replicate q 0)∧Below wr.heap.size wr W3:=⟨_,rfl,Ow.made wr wr.heap.size q 2 .i64 (ZH _) (by unfold maxLen;omega),(QK _ _).alloc (ZH _) _⟩;have hs3:W3.heap.size=wr.heap.size+1:=by rw [hW3];simp
   have hba:=(QK W3.heap.size W3).alloc (ZH _) (.cells #[.slice (some ⟨wr.heap.size,0,none⟩) q q] 30);have hrow:=((HL.out.go hB3).go hba).row;have hnw:=Qd4 W3 (.slice (some ⟨wr.heap.size,0,none⟩) q q) 30 rfl;rw [hs3] at hnw;have hrl:(rs.length+1)*24≤140737488355328:=by omega
   have hbs:W.heap.size≤(W3.alloc (.cells #[.slice (some ⟨wr.heap.size,0,none⟩) q q] 30)).heap.size:=ZO HBr.out.size (ZO hB3.size hba.size);have HO3:=Hd ho3;have HB3:=Hd hB3;have HBA:=Hd hba;clear hx habc hq hab hlt hL hb hrs hs3 ho3 hB3 hba;go_wp2_with (at_builtin;rw [<-hW3];refine Ku elLL (W3.alloc (.cells #[.slice (some ⟨wr.heap.size,0,none⟩) q q] 30)) rfl _ _ rfl W.heap.size A c rs.length (rs.map LR.val) rfl hrow [.slice (some ⟨wr.heap.size,0,none⟩) q q] (wr.heap.size+1) rfl rfl hnw.1 hnw.2 hrl hbs ?_;intro A10 c10 w10 hr10 hb10 hg10)
   have hle:W.heap.size≤wr.heap.size:=HBr.out.size;have HNew:Hid (Ff w10 W.heap.size A10 c10 (rs++[⟨some ⟨wr.heap.size,0,none⟩,q,List.replicate q 0⟩])):=Hd ((HL.out.go HB3.out |>.go HBA.out).snoc (r:=⟨some ⟨wr.heap.size,0,none⟩,q,List.replicate q 0⟩) ((HO3.out.below HBA.out).lower hle) (by unfold LR.val;rw [List.length_replicate];exact hr10) hg10);have HBn:Hid (Below W.heap.size W w10):=Hd (((HBr.out.trans (HB3.out.mono hle)).trans (HBA.out.mono (ZO hle HB3.out.size))).trans hb10);have HZn:Hid (∀k,k<i+1->((Mh (rs++[⟨some ⟨wr.heap.size,0,none⟩,q,List.replicate q 0⟩]) k).xs.length:Int)=Qe g.sizes k):=Hd (λk hk=>by
    rcases ZJ k i with h|h
    .have:=hZ.out k h
     rw [<-this];unfold Mh;simp [List.getElem?_append_left (show k<rs.length by rw [HRs.out];exact h)]
    obtain rfl:k=i:=by omega
    rw [HQ.out];unfold Mh;simp [<-HRs.out])
   clear hr10 hb10 hg10 hrow hnw hrl hbs;go_roundw
   case rel=>exact ⟨i+1,A10,c10,rs++[⟨some ⟨wr.heap.size,0,none⟩,q,List.replicate q 0⟩],by go_num,by have:=HLt.out;omega,by rw [ZC,HRs.out];rfl,by simp,HNew.out,HZn,HBn.out⟩
   have:=HLt.out;simp [Go.RowKit.intOf];omega
  obtain rfl:NA=i:=by omega
  have q0:decide ((NA:Int)<(NA:Int))=false:=ZA (by omega);have HXr:=Hd (HX.out.go hb);have HGr:=Hd (HG.out.go hb);have HOr:=Hd (HO.out.go hb);have HBw:=Ht HB hb;have HZ:=Hd hZ.out;clear hx hL hb hrs hge hZ;go_wp2_with fail
  clear x2 xl q0;go_loopw [7] (λs wx=>∃k:Nat,s=.int .i64 k∧k≤EL∧Hid (∀j,j<k->Nj g (Vg os) j (Np g (Qx g.edges j)))∧Below wr.heap.size wr wx) (λs _=>EL - (Go.RowKit.intOf s).toNat)
  case atStart=>exact ⟨0,rfl,by omega,Hd (λj h=>absurd h (Nat.not_lt_zero j)),QK _ _⟩
  obtain ⟨k,rfl,hk,hBt,hb⟩:=hrel;have HBt:=Hd hBt.out;have HBx:=Hd hb;have hx:=HXr.out.go hb;have x2:=hx.bx.cell 2 _ rfl;have x5:=hx.bx.cell 5 _ rfl;have xl:=hx.bx.lt;rw [<-HNA.out] at x2;rw [<-HEL.out] at x5;have hEm:EL≤8192:=by rw [HEL.out];exact HGd.out.edges
  have w1:IntKind.i64.wrap ((k:Int)+1)=k+1:=QQ _ (by omega);rcases ZJ k EL with hlt|hge
  .have hkl:k<g.edges.length:=by rw [<-HEL.out];exact hlt
   obtain ⟨_,_,he,hle,hE⟩:=(HGr.out.go hb).edge hkl;obtain ⟨f0,f1,t0,t1,hri⟩:=Xo HGd.out hkl;rw [he] at x5;have q0:(k:Int)<(EL:Int):=by omega
   have q1:(0:Int)≤(k:Int):=by omega
   obtain ⟨W1,hW1,hX1,hB1,hs1⟩:=Zk wr (Qj (Qx g.edges k)) 56;have HX1:=Hd hX1;have HB1:=Ht HBx hB1;have HKL:=Hd hkl;have HEnds:=Hd (And.intro (And.intro f0 f1) (And.intro t0 t1));have HRi:=Hd hri;obtain ⟨ed,hed⟩:∃ed,Hid (Qx g.edges k=ed):=⟨_,Hd rfl⟩;rw [hed.out] at hW1 hE HX1 HRi HEnds;obtain ⟨e0,e1,e2,e3,e4,e5,e6,e7,e8,e9⟩:=hE;unfold Qj at hW1;clear hx hb hBt hX1 hB1 hkl f0 f1 t0 t1 hri hs1;go_upto_region 10 with fail
   rw [<-hW1];clear hW1 e0 e1 e2 e3 e4 e5 e6 e7 e8 e9 x2 x5 xl;obtain ⟨sz,hsz⟩:∃sz,Hid (Np g ed=sz):=⟨_,Hd rfl⟩;have x4:=HX1.out.bx.cell 4 _ rfl;have xl:=HX1.out.bx.lt;obtain ⟨bd,hbd⟩:∃bd,decide (ed.arr≥0)=bd:=⟨_,rfl⟩;go_upto_if 47 with fail
   have HBD:=Hd hbd;clear hbd;go_cut [9] (λs wx=>s=.int .i64 sz∧Below W1.heap.size W1 wx)
   case first=>
    by_cases har:0≤ed.arr
    .have hra:ed.arr<g.sizes.length:=by
      obtain ⟨_,_,r2,_,_,_⟩:=Yh HRi.out;unfold Zn at r2;revert r2
      split<;>intro r2<;>simp at r2<;>omega
     obtain ⟨ar,hare⟩:=ZV har;obtain ⟨ab,ao,ha,_,hac⟩:=(HGr.out.go HB1.out).arrs (by omega);have ks:=hac ar (by omega);have hs2:Np g ed=Qe g.sizes ar:=by unfold Np;rw [ZM har,hare];rfl
     have hs3:Qe g.sizes ar=sz:=by rw [<-hs2];exact hsz.out
     rw [hs3] at ks;obtain rfl:bd=true:=by rw [<-HBD.out];exact ZE har
     rw [hare] at x4;have y2:=(HXr.out.go HB1.out).bx.cell 2 _ rfl;have yl:=(HXr.out.go HB1.out).bx.lt;rw [<-HNA.out,ha] at y2;have p1:(ar:Int)<(NA:Int):=by rw [HNA.out];omega
     have p2:(0:Int)≤(ar:Int):=by omega
     clear hac hs2 hs3 har hare ha hra;go_wp2_with fail
     go_meet
     exact ⟨rfl,QK _ _⟩
    obtain rfl:bd=false:=by rw [<-HBD.out];exact ZA (by omega)
    have hs2:Np g ed=0:=by unfold Np;rw [ZL har]
    have hs3:sz=0:=by rw [<-hsz.out];exact hs2
    subst hs3;clear hs2 har;go_wp2_with fail
    go_meet
    exact ⟨rfl,QK _ _⟩
   obtain ⟨rfl,hbc⟩:=hcut;have HXe:=Hd (HX1.out.go hbc);have HBe:=Ht HB1 hbc;have HGe:=Hd ((HGr.out.go HB1.out).go hbc);have HOe:=Hd ((HOr.out.go HB1.out).go hbc);clear hbc x4 xl HX1 HB1 he hle;go_upto_region 13 with fail
   go_cut [102] (λs wy=>(∃z,s=.bool z∧Hid (z=false->Vm ed=true∧ed.kind≠9∧ed.kind≠10∧Vz ed.an∧Vz ed.bn∧Ae (Qo (Vg os ed.fr.toNat)) ed sz=true))∧Below wc.heap.size wc wy)
   case first=>
    have hEx:=Qi6 ed;obtain ⟨x0,x1,x2,x3,x4,x5,x6,x7,x8,x9⟩:=HXe.out.bx.c9;have xl:=HXe.out.bx.lt;have a0:=Qz.cell x0;have a1:=Qz.cell x1;have a2:=Qz.cell x2;have a3:=Qz.cell x3;have a4:=Qz.cell x4;have a5:=Qz.cell x5;have a6:=Qz.cell x6;have a7:=Qz.cell x7;have a8:=Qz.cell x8;have a9:=Qz.cell x9;unfold Ju6 Qj at hEx;refine Qb [(1,1),(43,1)] (by kernel_rfl) (by kernel_rfl) ?_;simp only [Jl,ZP,ZQ,ZR,ZT]
    repeat (go_big_quiet_step (fail))
    refine wpQuiet_nil ?_;intro w3 hb3;clear a0 a1 a2 a3 a4 a5 a6 a7 a8 a9 x0 x1 x2 x3 x4 x5 x6 x7 x8 x9 xl;go_wp2_with fail
    with_reducible refine (hEx _).mono ?_
    rintro e1 _ ⟨b,rfl,hb4,hz⟩;go_wp2_with fail
    refine Qu ?_;have hb34:=hb3.trans (hb4.mono hb3.size);have HB4:=Hd hb34;have HX4:=Hd (HXe.out.go hb34);have HO4:=Hd (HOe.out.go hb34);have HZ:=Hd hz;obtain ⟨x0,x1,x2,x3,x4,x5,x6,x7,x8,x9⟩:=HX4.out.bx.c9;have a0:=Qz.cell x0;have a1:=Qz.cell x1;have a2:=Qz.cell x2;have a3:=Qz.cell x3;have a4:=Qz.cell x4;have a5:=Qz.cell x5;have a6:=Qz.cell x6;have a7:=Qz.cell x7;have a8:=Qz.cell x8;have a9:=Qz.cell x9;have key:(b=false∨(b=true∧(ed.kind==9)=true)∨(b=true∧(ed.kind==9)=false∧(ed.kind==10)=true)∨(b=true∧(ed.kind==9)=false∧(ed.kind==10)=false∧decide (ed.an>1099511627776)=true)∨
     (b=true∧(ed.kind==9)=false∧(ed.kind==10)=false∧decide (ed.an>1099511627776)=false∧decide (ed.an< -1099511627776)=true)∨
     (b=true∧(ed.kind==9)=false∧(ed.kind==10)=false∧decide (ed.an>1099511627776)=false∧decide (ed.an< -1099511627776)=false∧decide (ed.bn>1099511627776)=true)∨
     (b=true∧(ed.kind==9)=false∧(ed.kind==10)=false∧decide (ed.an>1099511627776)=false∧decide (ed.an< -1099511627776)=false∧decide (ed.bn>1099511627776)=false∧decide (ed.bn< -1099511627776)=true))∨
     (b=true∧(ed.kind==9)=false∧(ed.kind==10)=false∧decide (ed.an>1099511627776)=false∧decide (ed.an< -1099511627776)=false∧decide (ed.bn>1099511627776)=false∧decide (ed.bn< -1099511627776)=false):=by
     cases b<;>cases (ed.kind==9)<;>cases (ed.kind==10)<;>cases decide (ed.an>1099511627776)<;>cases decide (ed.an< -1099511627776)<;>cases decide (ed.bn>1099511627776)<;>cases decide (ed.bn< -1099511627776)<;>simp
    clear hz hb3 hb4 hb34 hEx;rcases key with key|⟨rfl,q9,q10,q1,q2,q3,q4⟩
    .rcases key with rfl|⟨rfl,q9⟩|⟨rfl,q9,q10⟩|⟨rfl,q9,q10,q1⟩|⟨rfl,q9,q10,q1,q2⟩|⟨rfl,q9,q10,q1,q2,q3⟩|⟨rfl,q9,q10,q1,q2,q3,q4⟩
     all_goals
      repeat (go_big_quiet_step (fail))
      refine wpQuiet_nil ?_;intro w5 hb5;have HB5:=Ht HB4 hb5;clear hb5 a0 a1 a2 a3 a4 a5 a6 a7 a8 a9 x0 x1 x2 x3 x4 x5 x6 x7 x8 x9;go_wp2_with fail
      refine Qu ?_
      repeat (go_big_quiet_step (fail))
      refine wpQuiet_nil ?_;intro w6 hb6;have HB6:=Ht HB5 hb6;clear hb6;go_wp2_with fail
      go_meet
      exact ⟨⟨true,rfl,Hd (λh=>by cases h)⟩,HB6.out⟩
    have hx:=HZ.out rfl;have hk9:ed.kind≠9:=by simpa using q9
    have hk10:ed.kind≠10:=by simpa using q10
    have n1:Vz ed.an:=by
     have h1:=of_decide_eq_false q2;have h2:=of_decide_eq_false q1;unfold Vz;omega
    have n2:Vz ed.bn:=by
     have h1:=of_decide_eq_false q4;have h2:=of_decide_eq_false q3;unfold Vz;omega
    have hri:=HRi.out;rw [hn] at hri;obtain ⟨hav,hbv⟩:=On hri;obtain ⟨⟨f0,f1⟩,_⟩:=HEnds.out;obtain ⟨f,hf⟩:=ZV f0;have hfo:f<os.length:=by omega
    obtain ⟨ob,oo,hAo,hol,hoc⟩:=HO4.out (by omega);obtain ⟨Ai,ci,c0,c1,c2,hOi⟩:=hoc f hfo;have cS:=λ(w:World) (h:Qi w Ai ci (Vg os f))=>Zb1 2 (by omega) (Vg os f) (hN f hfo) Ai ci ed sz w h (Qj6 hx hk9 hk10) (by omega) (by omega) (Eo n1) (Eo n2) (λhk=>Jl3 hx hk)
    have hfn:ed.fr.toNat=f:=by omega
    have HAll:Hid (∀z:Bool,(z=true->Ae (Qo (Vg os f)) ed sz=true)->(!z)=false->Vm ed=true∧ed.kind≠9∧ed.kind≠10∧Vz ed.an∧Vz ed.bn∧Ae (Qo (Vg os ed.fr.toNat)) ed sz=true):=Hd (λz hz h=>⟨hx,hk9,hk10,n1,n2,by rw [hfn];exact hz (by simpa using h)⟩);obtain ⟨P,hP⟩:∃P,P=Vg os f:=⟨_,rfl⟩;rw [<-hP] at cS c0 c1 c2 hOi HAll;have HOi:=Hd hOi;subst hAo;unfold Qf Qj Zl7 at cS;rw [hf] at cS x0 a0;have q5:(f:Int)<(os.length:Int):=by omega
    have q6:(0:Int)≤(f:Int):=by omega
    have b0:=Qz.cell c0;have b1:=Qz.cell c1;have b2:=Qz.cell c2;clear hx hk9 hk10 n1 n2 hri hav hbv f0 f1 hf hfo hoc hOi hfn hP
    repeat (go_big_quiet_step (fail))
    refine wpQuiet_nil ?_;intro w5 hb5;have HB5:=Ht HB4 hb5;have hO5:=HOi.out.go hb5;have cS5:=cS w5 hO5;clear cS hO5 hb5 a0 a1 a2 a3 a4 a5 a6 a7 a8 a9 x0 x1 x2 x3 x4 x5 x6 x7 x8 x9 b0 b1 b2 c0 c1 c2 hol;go_wp2_with fail
    with_reducible refine cS5.mono ?_
    rintro e1 w6 ⟨z,rfl,hb6,hz⟩;have HB6:=Ht HB5 hb6;have HF:=Hd (HAll.out z hz);clear hb6 hz;go_wp2_with fail
    refine Qu ?_
    repeat (go_big_quiet_step (fail))
    refine wpQuiet_nil ?_;intro w7 hb7;have HB7:=Ht HB6 hb7;clear hb7;go_wp2_with fail
    go_meet
    exact ⟨⟨!z,rfl,Hd HF.out⟩,HB7.out⟩
   obtain ⟨⟨z,rfl,HT⟩,hb⟩:=hcut;have HX2:=Hd (HXe.out.go hb);have HB2:=Ht HBe hb;have HG2:=Hd (HGe.out.go hb);have HO2:=Hd (HOe.out.go hb);clear hb HXe HBe HGe HOe;cases z
   case true=>
    go_wp2_with fail
    go_ret
    exact ⟨false,rfl,HBw.out.trans (HB2.out.mono HBw.out.size),λh=>by cases h⟩
   obtain ⟨hx,hk9,hk10,n1,n2,hsf⟩:=HT.out rfl;have HK:=Hd (Qj6 hx hk9 hk10);obtain ⟨⟨f0,f1⟩,t0,t1⟩:=HEnds.out;obtain ⟨f,hf⟩:=ZV f0;obtain ⟨d,hd⟩:=ZV t0;have hfo:f<os.length:=by omega
   have hdo:d<os.length:=by omega
   have HFD:=Hd (And.intro hf hd);have HFo:=Hd (And.intro hfo hdo);obtain ⟨P,hP⟩:∃P,P=Vg os f:=⟨_,rfl⟩;obtain ⟨D,hD⟩:∃D,D=Vg os d:=⟨_,rfl⟩;have HPD:=Hd (And.intro hP hD);have hP2:P.1=2:=by rw [hP];exact hN f hfo
   have hD2:D.1=2:=by rw [hD];exact hN d hdo
   have HBr2:Hid ((∀x y u v,Ys (2:Nat) P.2.1 P.2.2 [x,y]=true->-4≤x∧x≤4->-4≤y∧y≤4->Vq ed.fr x y g.edges 0=k->stepV ed x y=some (u,v)->ed.kind≠14->Ys (2:Nat) D.2.1 D.2.2 [u,v]=true)->∀j,j<k+1->Nj g (Vg os) j (Np g (Qx g.edges j))):=Hd (λh j hj=>by
    rcases ZJ j k with q|q
    .exact HBt.out j q
    obtain rfl:j=k:=by omega
    have e1:ed.fr.toNat=f:=by omega
    have e2:ed.tg.toNat=d:=by omega
    have e3:=hed.out;refine ⟨by rw [e3];exact hx,by rw [e3];exact hk9,by rw [e3];exact hk10,by rw [e3];exact n1,by rw [e3];exact n2,by rw [e3,hsz.out];exact hsf,?_⟩;rw [e3,e1,e2,<-hP,<-hD];exact h)
   have HKi:Hid (∀i,i<g.edges.length->(Qx g.edges i).fr=(f:Int)->Nw (Qx g.edges i).kind):=Hd (λi hi h=>by
    by_cases hik:i=k
    .subst hik;rw [hed.out];exact HK.out
    have hh:(Qx g.edges i).fr=(Qx g.edges k).fr:=by rw [h,hed.out,hf]
    have:=Zj9 HGd.out HKL.out hi hh hik
    unfold Nw;omega)
   obtain ⟨ob,oo,hAo,hol,hoc⟩:=HO2.out (by omega);obtain ⟨Ai,ci,c0,c1,c2,hOi⟩:=hoc f hfo;rw [<-hP] at c0 c1 c2 hOi;have HOi:=Hd hOi;have x0:=HX2.out.bx.cell 0 _ rfl;have xl:=HX2.out.bx.lt;rw [hf] at x0;have q5:(f:Int)<(os.length:Int):=by omega
   have q6:(0:Int)≤(f:Int):=by omega
   have q7:(d:Int)<(os.length:Int):=by omega
   have q8:(0:Int)≤(d:Int):=by omega
   have cI:=Zx5 P hP2 Ai ci wc HOi.out;unfold Qf Zf8 at cI;subst hAo;have HN12:=Hd (And.intro n1 n2);have HP2:=Hd hP2;have HD2:=Hd hD2;clear hx hk9 hk10 n1 n2 hsf f0 f1 t0 t1 hf hd hoc hOi hP hD HT hfo hdo hP2 hD2;go_wp2_with fail
   with_reducible refine cI.mono ?_
   rintro e1 wi ⟨_,_,ps,rfl,hps,hpe,hbi⟩;have HPs:=Hd hps;have HPe:=Hd hpe;have HX3:=Hd (HX2.out.go hbi);have HB3:=Ht HB2 hbi;have HG3:=Hd (HG2.out.go hbi);have HO3:=Hd (HO2.out.go hbi);clear hps hpe hbi HX2 HB2 HG2 HO2 c0 c1 c2 x0 xl hol HOi cI;obtain ⟨PL,hPL⟩:∃PL,PL=ps.length:=⟨_,rfl⟩;have HPL:=Hd hPL;have hP81:PL≤81:=by
    have h1:=congrArg List.length HPe.out;rw [List.length_map] at h1;rw [hPL,h1];exact Zq9 _ _
   rw [<-hPL];clear hPL;go_wp2_with fail
   go_loopw [11] (λs wx=>∃q:Nat,s=.int .i64 q∧q≤PL∧Hid (∀j,j<q->∀x y u v,(Mh ps j).xs=[x,y]->Vq ed.fr x y g.edges 0=k->stepV ed x y=some (u,v)->ed.kind≠14->Ys (2:Nat) D.2.1 D.2.2 [u,v]=true)∧Below wi.heap.size wi wx) (λs _=>PL - (Go.RowKit.intOf s).toNat)
   case atStart=>exact ⟨0,rfl,by omega,Hd (λj h=>absurd h (Nat.not_lt_zero j)),QK _ _⟩
   obtain ⟨q,rfl,hq,hQ,hb⟩:=hrel;have w1q:IntKind.i64.wrap ((q:Int)+1)=q+1:=QQ _ (by omega);have HQ:=Hd hQ.out;have HBq:=Hd hb;rcases ZJ q PL with hlq|hgq
   .have hqp:q<ps.length:=by rw [<-HPL.out];exact hlq
    have hmem:(Mh ps q).xs∈Sp P 81:=by rw [<-HPe.out];exact List.mem_map.2 ⟨_,Fb hqp,rfl⟩
    obtain ⟨x,y,hxy,hrng,_⟩:=Jr8 hmem;obtain ⟨hrx,hry⟩:=hrng (by omega);have HQs:Hid ((∀u v,Vq ed.fr x y g.edges 0=k->stepV ed x y=some (u,v)->ed.kind≠14->Ys (2:Nat) D.2.1 D.2.2 [u,v]=true)->∀j,j<q+1->∀x y u v,(Mh ps j).xs=[x,y]->Vq ed.fr x y g.edges 0=k->stepV ed x y=some (u,v)->ed.kind≠14->Ys (2:Nat) D.2.1 D.2.2 [u,v]=true):=Hd (λh j hj x' y' u v hxy'=>by
     rcases ZJ j q with l|l
     .exact HQ.out j l x' y' u v hxy'
     obtain rfl:j=q:=by omega
     rw [hxy] at hxy';injection hxy' with e1 e2;injection e2 with e2 _;subst e1 e2;exact h u v)
    obtain ⟨pg,hAp,hpgl,hpc⟩:=(HPs.out.go hb).cell hqp;have hrow:=(HPs.out.go hb).each _ (Fb hqp);unfold LR.val at hpc;rw [hxy] at hpc hrow;obtain ⟨ap,hap⟩:∃a,(Mh ps q).a=a:=⟨_,rfl⟩;obtain ⟨kp,hkp⟩:∃a,(Mh ps q).c=a:=⟨_,rfl⟩;rw [hap,hkp] at hpc hrow;have hpc:wr.cell? ⟨pg,q,none⟩=some (.slice ap 2 kp):=hpc;have hrd:Rd wr wr.heap.size .i64 ap 2 (Qe [x,y]):=hrow.rd;subst hAp;have hbw:=(Ht HB3 hb).out;have HXw:=Hd (HXr.out.go hbw);have HXq:=Hd (HX3.out.go hb);have HGw:=Hd (HG3.out.go hb);have HOw:=Hd (HO3.out.go hb);have HLw:=Hd (HL.out.go hbw);have HBw2:=Hd hbw;have hxi:Zu x:=by unfold Zu;omega
    have hyi:Zu y:=by unfold Zu;omega
    have HXY:=Hd (And.intro hrx hry);have cOne:∀w,Below wr.heap.size wr w->Calls prog 26 #[Jm m g,.slice ap 2 kp,.slice A rs.length c,.int .i64 0,.int .i64 f] w (Qv1 g f x y w):=λw hw=>
     Jv2 m g f x y ap kp A c rs _ w (HGw.out.go hw) HGd.out hn (by have:=HEnds.out.1.2;have:=HFD.out.1;omega) ((hrd.below hw).more hw.size) hxi hyi (HLw.out.go hw) (by rw [HRs.out,HNA.out]) (λi hi=>HZ.out i (by rw [<-HRs.out];exact hi)) (λi hi h1 _=>HKi.out i hi h1)
    unfold Jm Qt Qv1 at cOne;rw [<-HNA.out,<-HEL.out] at cOne;obtain ⟨x0,x1,x2,x3,x4,x5⟩:=HXw.out.bx.c5;have xl:=HXw.out.bx.lt;rw [<-HNA.out] at x2;rw [<-HEL.out] at x5;have y0:=HXq.out.bx.cell 0 _ rfl;have yl:=HXq.out.bx.lt;rw [HFD.out.1] at y0;have a0:=Qz.cell x0;have a1:=Qz.cell x1;have a2:=Qz.cell x2;have a3:=Qz.cell x3;have a4:=Qz.cell x4;have a5:=Qz.cell x5;have b0:=Qz.cell y0;have b1:=Qz.cell hpc;have p0:(q:Int)<(PL:Int):=by omega
    have p1:(0:Int)≤(q:Int):=by omega
    have HLq:=Hd hlq;clear hqp hmem hxy hrng hrow hap hkp hrd hbw hxi hyi hrx hry hlq hq hQ hb;go_upto_region 19 with fail
    refine Qb [(8,1)] (by kernel_rfl) (by kernel_rfl) ?_;simp only [Jl,ZP,ZQ,ZR,ZT]
    repeat (go_big_quiet_step (fail))
    refine wpQuiet_nil ?_;intro w5 hb5;have cO:=cOne w5 hb5;clear cOne a0 a1 a2 a3 a4 a5 b0 b1 x0 x1 x2 x3 x4 x5 xl y0 yl hpc hpgl;go_wp2_with fail
    with_reducible refine cO.mono ?_
    rintro e1 w6 ⟨n,z,A6,c6,u,v,rfl,ho6,hb6,hn6,hst⟩;have HB6:=Hd (hb5.trans (hb6.mono hb5.size));have HO6:=Hd ho6;have HT6:=Hd (And.intro hn6 hst);clear hb5 hb6 ho6 hn6 hst cO;go_wp2_with fail
    refine Qu ?_
    repeat (go_big_quiet_step (fail))
    refine wpQuiet_nil ?_;intro w7 hb7;have HB7:=Ht HB6 hb7;have HO7:=Hd (HO6.out.below hb7);clear hb7 HO6 HB6;by_cases hnk:n=k
    case neg=>
     have HNk:=Hd (HQs.out (λu v htk=>absurd (by rw [HT6.out.1,<-HFD.out.1];exact htk) hnk));have qn:(n==(k:Int))=false:=by simp [hnk]
     clear hnk;go_wp2_with fail
     go_roundw
     case rel=>exact ⟨q+1,by go_num,by have:=HLq.out;omega,Hd HNk.out,HBq.out.trans (HB7.out.mono HBq.out.size)⟩
     have:=HLq.out;simp [Go.RowKit.intOf];omega
    subst hnk;by_cases hz:z=0
    case neg=>
     go_wp2_with fail
     go_ret
     exact ⟨false,rfl,HBw.out.trans ((HBw2.out.trans (HB7.out.mono HBw2.out.size)).mono HBw.out.size),λh=>by cases h⟩
    subst hz;obtain ⟨hk14,hst⟩:=HT6.out.2 (by omega) rfl;have hek:Qx g.edges ((k:Int)).toNat=ed:=hed.out;rw [hek] at hk14 hst;obtain ⟨hui,hvi⟩:=Jy6 HN12.out.1 HN12.out.2 HXY.out.1 HXY.out.2 hst;obtain ⟨ob2,oo2,hAo2,hol,hoc⟩:=(HOw.out.go HB7.out) (by have:=HFo.out.1;omega);obtain ⟨rfl,rfl⟩:ob2=ob∧oo2=oo:=by
     injection hAo2 with h;injection h with h1 h2;exact ⟨h1.symm,h2.symm⟩
    obtain ⟨Ai,ci,c0,c1,c2,hOi⟩:=hoc d HFo.out.2;rw [<-HPD.out.2] at c0 c1 c2 hOi;have y1:=(HXq.out.go HB7.out).bx.cell 1 _ rfl;have yl:=(HXq.out.go HB7.out).bx.lt;rw [HFD.out.2] at y1;have hHas:Calls prog 9 #[.agg #[.int .i64 D.1,.bool D.2.1,.slice Ai D.2.2.length ci],.slice A6 2 c6] w7 (λe w'=>e=.returned (.bool (Ys D.1 D.2.1 D.2.2 [u,v]))∧Below w7.heap.size w7 w'):=
     Qb7 D.1 D.2.1 Ai ci D.2.2 A6 c6 [u,v] w7 hOi.oi HO7.out.rd (by intro z hz;simp at hz;rcases hz with rfl|rfl<;>assumption) (by simp)
    have HD1:=HD2.out;obtain ⟨hh,hhe⟩:∃b,Ys D.1 D.2.1 D.2.2 [u,v]=b:=⟨_,rfl⟩;rw [hhe] at hHas;have HHh:Hid (hh=true->∀j,j<q+1->∀x y u v,(Mh ps j).xs=[x,y]->Vq ed.fr x y g.edges 0=k->stepV ed x y=some (u,v)->ed.kind≠14->Ys (2:Nat) D.2.1 D.2.2 [u,v]=true):=Hd (λh=>HQs.out (λu' v' _ hs' _=>by
     rw [hst] at hs';injection hs' with hs';injection hs' with e1 e2;subst e1 e2;rw [h,HD1] at hhe;exact hhe))
    clear hk14 hst hek hui hvi hoc hOi hhe HD1 hAo2;go_wp2_with fail
    with_reducible refine hHas.mono ?_
    rintro e1 _ ⟨rfl,hb8⟩;have HB8:=Ht HB7 hb8;clear hHas hb8 c0 c1 c2 y1 yl hol;cases hh
    case false=>
     go_wp2_with fail
     go_ret
     exact ⟨false,rfl,HBw.out.trans ((HBw2.out.trans (HB8.out.mono HBw2.out.size)).mono HBw.out.size),λh=>by cases h⟩
    have HNk:=Hd (HHh.out rfl);go_wp2_with fail
    go_roundw
    case rel=>exact ⟨q+1,by go_num,by have:=HLq.out;omega,Hd HNk.out,HBq.out.trans (HB8.out.mono HBq.out.size)⟩
    have:=HLq.out;simp [Go.RowKit.intOf];omega
   obtain rfl:PL=q:=by omega
   have p0:decide ((PL:Int)<(PL:Int))=false:=ZA (by omega);have HNew:=Hd (HBr2.out (λx y u v hxy hx4 hy4 htk hst h14=>by
    have hm:=Jb1 (P:=P) hx4 hy4 (by rw [HP2.out];exact hxy);rw [<-HPe.out,List.mem_map] at hm;obtain ⟨r,hr,hrx⟩:=hm;obtain ⟨j,hj,hjr⟩:=List.getElem_of_mem hr;have hlr:Mh ps j=r:=by unfold Mh;simp [hj,hjr]
    exact HQ.out j (by rw [HPL.out];exact hj) x y u v (by rw [hlr];exact hrx) htk hst h14))
   have HBn:=Ht HB3 hb;clear hb hQ hgq hq;go_wp2_with fail
   go_roundw
   case rel=>exact ⟨k+1,by go_num,by omega,Hd HNew.out,HBn.out⟩
   simp [Go.RowKit.intOf];omega
  obtain rfl:EL=k:=by omega
  have q0:decide ((EL:Int)<(EL:Int))=false:=ZA (by omega);have HBend:=Ht HBw hb;have HEnd:=Hd (show ∀i,i<g.edges.length->Nj g (Vg os) i (Np g (Qx g.edges i)) from λi hi=>HBt.out i (by rw [HEL.out];exact hi));clear hx hb hBt hge;go_wp2_with fail
  go_ret
  exact ⟨true,rfl,HBend.out,λ_=>HEnd.out⟩
def vdV (ok:Bool) (why pt cost:Int):Value:=.agg #[.bool ok,.int .i64 why,.int .i64 0,.int .i64 0,.int .i64 pt,.int .i64 cost]
def vdC (ok:Bool) (why pt cost:Int):List Value:=[.bool ok,.int .i64 why,.int .i64 0,.int .i64 0,.int .i64 pt,.int .i64 cost]
theorem Tt {os:List Zj} {i:Nat} (h:i<os.length):Vg (os.map Qo) i=Qo (Vg os i):=by
 unfold Vg;simp [h]
def Ve8 (g:Zv) (os:List Zj) (w:World) (e:Ending) (w':World):Prop:=∃ok why pt cost,e=.returned (.tuple #[vdV ok why pt cost,.int .i64 0])∧Below w.heap.size w w'∧
 ((ok=true∧∀i,i<g.edges.length->Ez os (Qx g.edges i)=true)∨(ok=false∧why=213∧∃i,i<g.edges.length∧Ez os (Qx g.edges i)=false))
theorem Ha (m:GM) (g:Zv) (n:Nat) (hn:n=1∨n=2) (hgn:g.n=n) (A0:Option Addr) (c0:Nat) (os:List Zj) (w:World) (hG:Hg w m g) (hNm:GNm w m g) (hg:Gn.Vj2 g) (hO:Ci w A0 os) (hl:(os.length:Int)=g.points)
 (hN:∀i,i<os.length->(Vg os i).1=n) (hent0:Im (Uy n) (Qo (Vg os 0))=true)
 (hE1:∀i,i<g.edges.length->(Ym (Vg (os.map Qo) (Qx g.edges i).fr.toNat) (Qx g.edges i)).1=n∧
  ∀A1 c1 (w1:World),Qi w1 A1 c1 (Vg (os.map Qo) (Qx g.edges i).fr.toNat)->Calls prog 69 #[Qf (Vg (os.map Qo) (Qx g.edges i).fr.toNat) A1 c1,.agg (Qj (Qx g.edges i)).toArray] w1 (Sq w1 (Ym (Vg (os.map Qo) (Qx g.edges i).fr.toNat) (Qx g.edges i))))
 (hE2:(∀i,i<g.edges.length->Ez (os.map Qo) (Qx g.edges i)=true)->∀i,i<g.edges.length->∀A1 c1 (w1:World),Qi w1 A1 c1 (Vg (os.map Qo) (Qx g.edges i).fr.toNat)->Calls prog 70 #[Qf (Vg (os.map Qo) (Qx g.edges i).fr.toNat) A1 c1,.agg (Qj (Qx g.edges i)).toArray,.int .i64 (Np g (Qx g.edges i))] w1 λr w'=>r=.returned (.tuple #[.bool true,.int .i64 0])∧Below w1.heap.size w1 w'):
 Calls prog 11 #[Jm m g,.slice A0 os.length c0] w (Ve8 g (os.map Qo) w):=by
 obtain ⟨W,hW,hX,hZ,hB,hs⟩:=Vu w (Qt m g) 26 (vdC false 0 0 0) 41;obtain ⟨L,hL⟩:∃L,L=os.length:=⟨_,rfl⟩;obtain ⟨EL,hEL⟩:∃EL,EL=g.edges.length:=⟨_,rfl⟩;have cCh:=Jk4 m g W (hG.go hB) (hNm.go hB) hg;have hLp:L≤4096∧0<L:=by have:=hg.points;omega
 have hEp:EL≤8192:=by have:=hg.edges;omega
 have t2:(g.nv:Int)≤64:=by have:=hg.n;have:=hg.temps;unfold Zv.n at*;omega
 have:IntKind.i64.wrap ((g.nv:Int)+g.temps)=(n:Int):=by
  rw [show (g.nv:Int)+g.temps=g.n from rfl,hgn];exact QQ _ (by omega)
 have HE1:=Hd hE1;have HE2:=Hd hE2;have HN:=Hd hN;have HG:=Hd (hG.go hB);have HO:=Hd (hO.go hB);have HGd:=Hd hg;have HL:=Hd hL;have HEL:=Hd hEL;have HLP:=Hd hl;have HEnt:=Hd hent0;have HNn:=Hd hn;have HNc:Hid (∀k,k<L->(Qo (Vg os k)).1=n):=Hd (λk hk=>by
  have hk:k<os.length:=by rw [<-hL];exact hk
  obtain ⟨_,_,_,_,hc⟩:=hO (by omega);obtain ⟨_,_,_,_,_,ho⟩:=hc k hk;rw [(Sx ho.ok).1];exact hN k hk)
 have HX:=Hd hX;have HZ:=Hd hZ;have HB:=Hd hB;have HLp:=Hd hLp;have HEp:=Hd hEp;obtain ⟨x0,x1,x2,x3,x4,x5⟩:=hX.bx.c5;have xl:=hX.bx.lt;unfold Jm Qt at*;unfold vdC at hW;rw [<-hL];clear hG hNm hg hO hl hN hent0 hE1 hE2 hX hZ hB hL hEL hgn hn hs hLp hEp t2;go_enter func11,ntmps11
 go_upto_region 1 with fail
 rw [<-hW];clear hW;go_upto_region 4 with (go_at_call 27;(with_reducible refine cCh.mono ?_);rintro e1 w2 ⟨rfl,hb1⟩;have HX2:=Hd (HX.out.go hb1);have HZ2:=Hd (HZ.out.go hb1);have HB2:=Ht HB hb1;have HG2:=Hd (HG.out.go hb1);have HO2:=Hd (HO.out.go hb1);clear hb1)
 clear x0 x1 x2 x3 x4 x5 xl HX HZ HB HG HO cCh;obtain ⟨x0,x1,x2,x3,x4,x5⟩:=HX2.out.bx.c5;have xl:=HX2.out.bx.lt;go_upto_region 5 with fail
 obtain ⟨V,hV,hXj,hBj,hsj⟩:=Zk w2 (jC m g n (.slice A0 L c0) (.slice none 0 0) false 0 0 0) 74;have HJV:Hid (Jd w2 V w2.heap.size m g n (.slice A0 L c0) (.slice none 0 0) false 0 0 0):=Hd ⟨hXj.bx,hBj,ZH _⟩;have HZV:=Hd HZ2.out.bx.lt;have HBW:=Hd HB2.out;unfold jC at hV;rw [<-hV];clear hV x0 x1 x2 x3 x4 x5 xl hXj hBj HX2 HB2 hsj;generalize hj:w2.heap.size=j at*;have HJw:=Hd hj;clear hj;have:∀W,(Instr.index 75 (.agg #[.func (.func 28) #[.pointer (some ⟨j,0,none⟩)] #[],.func (.func 29) #[.pointer (some ⟨j,0,none⟩)] #[],.func (.func 30) #[.pointer (some ⟨j,0,none⟩)] #[],.func (.func 31) #[.pointer (some ⟨j,0,none⟩)] #[]]) (.int .i64 0)).run prog W=.ok (.func (.func 28) #[.pointer (some ⟨j,0,none⟩)] #[]) W:=λW=>by kernel_rfl
 have:∀W,(Instr.index 75 (.agg #[.func (.func 28) #[.pointer (some ⟨j,0,none⟩)] #[],.func (.func 29) #[.pointer (some ⟨j,0,none⟩)] #[],.func (.func 30) #[.pointer (some ⟨j,0,none⟩)] #[],.func (.func 31) #[.pointer (some ⟨j,0,none⟩)] #[]]) (.int .i64 1)).run prog W=.ok (.func (.func 29) #[.pointer (some ⟨j,0,none⟩)] #[]) W:=λW=>by kernel_rfl
 have:∀W,(Instr.index 75 (.agg #[.func (.func 28) #[.pointer (some ⟨j,0,none⟩)] #[],.func (.func 29) #[.pointer (some ⟨j,0,none⟩)] #[],.func (.func 30) #[.pointer (some ⟨j,0,none⟩)] #[],.func (.func 31) #[.pointer (some ⟨j,0,none⟩)] #[]]) (.int .i64 2)).run prog W=.ok (.func (.func 30) #[.pointer (some ⟨j,0,none⟩)] #[]) W:=λW=>by kernel_rfl
 have:∀W,(Instr.index 75 (.agg #[.func (.func 28) #[.pointer (some ⟨j,0,none⟩)] #[],.func (.func 29) #[.pointer (some ⟨j,0,none⟩)] #[],.func (.func 30) #[.pointer (some ⟨j,0,none⟩)] #[],.func (.func 31) #[.pointer (some ⟨j,0,none⟩)] #[]]) (.int .i64 3)).run prog W=.ok (.func (.func 31) #[.pointer (some ⟨j,0,none⟩)] #[]) W:=λW=>by kernel_rfl
 go_upto_region 6 with fail
 go_loopw [35] (λs wr=>∃i:Nat,s=.int .i64 i∧i≤4∧((i=0∧Jd w2 wr j m g n (.slice A0 L c0) (.slice none 0 0) false 0 0 0)∨
  (1≤i∧∃A c cost,Jd w2 wr j m g n (.slice A0 L c0) (.slice A L c) false 0 0 cost∧Wt wr j A (os.map Qo)∧Hid (3≤i->∀k,k<EL->Ez (os.map Qo) (Qx g.edges k)=true)))) (λs _=>4 - (Go.RowKit.intOf s).toNat)
 case atStart=>exact ⟨0,rfl,by omega,.inl ⟨rfl,HJV.out⟩⟩
 case round=>
  clear HJV;obtain ⟨i,rfl,_,hS⟩:=hrel;rcases (show i=0∨i=1∨i=2∨i=3∨i=4 by omega) with rfl|rfl|rfl|rfl|rfl
  .have hJ:Jd w2 wr j m g n (.slice A0 L c0) (.slice none 0 0) false 0 0 0:=by
    rcases hS with ⟨_,h⟩|⟨h,_⟩
    .exact h
    omega
   have cS:=Qi5 w2 wr j m g n A0 c0 os L HL.out hJ HO2.out (by rw [HL.out];exact HLP.out) (λk hk=>HN.out k (by rw [<-HL.out];exact hk)) HLp.out.1 hJ.bx.lt;clear hS hJ;go_wp2_with (go_at_call 28;(with_reducible refine cS.mono ?_);rintro e1 w5 ⟨A,c,_,cost,rfl,hJ5,hR5⟩;have z10:=hJ5.bx.cell 10 _ rfl;have zl:=hJ5.bx.lt;have HJ5:=Hd hJ5;have HR5:=Hd hR5.oks;clear hJ5 hR5)
   go_roundw
   case rel=>exact ⟨1,by go_num,by omega,.inr ⟨by omega,A,c,cost,HJ5.out,HR5.out,Hd (λh=>by omega)⟩⟩
   simp [Go.RowKit.intOf]
  .obtain ⟨A,c,cost,hJ,hR,_⟩:∃A c cost,Jd w2 wr j m g n (.slice A0 L c0) (.slice A L c) false 0 0 cost∧Wt wr j A (os.map Qo)∧True:=by
    rcases hS with ⟨h,_⟩|⟨_,A,c,cost,h1,h2,_⟩
    .omega
    exact ⟨A,c,cost,h1,h2,trivial⟩
   have cS:=Zq7 w2 wr j m g n HNn.out _ A c (os.map Qo) cost L (by rw [List.length_map,HL.out]) HLp.out.2 hJ hR (by rw [Tt (by rw [<-HL.out];exact HLp.out.2)];exact HNc.out 0 HLp.out.2) (by rw [Tt (by rw [<-HL.out];exact HLp.out.2)];exact HEnt.out);have HJ:=Hd hJ;have HR:=Hd hR;clear hS hJ hR;go_wp2_with (go_at_call 29;(with_reducible refine cS.mono ?_);rintro e1 w5 ⟨rfl,hb5⟩;have HJ5:=Hd (HJ.out.go hb5);have HR5:=Hd (HR.out.go hb5);have z10:=HJ5.out.bx.cell 10 _ rfl;have zl:=HJ5.out.bx.lt;clear hb5)
   go_roundw
   case rel=>exact ⟨2,by go_num,by omega,.inr ⟨by omega,A,c,cost,HJ5.out,HR5.out,Hd (λh=>by omega)⟩⟩
   simp [Go.RowKit.intOf]
  .obtain ⟨A,c,cost,hJ,hR,_⟩:∃A c cost,Jd w2 wr j m g n (.slice A0 L c0) (.slice A L c) false 0 0 cost∧Wt wr j A (os.map Qo)∧True:=by
    rcases hS with ⟨h,_⟩|⟨_,A,c,cost,h1,h2,_⟩
    .omega
    exact ⟨A,c,cost,h1,h2,trivial⟩
   have cS:=Qm6 w2 wr j m g n _ A c (os.map Qo) cost L EL (by rw [List.length_map,HL.out]) HEL.out hJ hR HG2.out HLp.out.1 HEp.out (λk hk=>by
    have hk':k<g.edges.length:=by rw [<-HEL.out];exact hk
    obtain ⟨f0,f1,t0,t1,_⟩:=Xo HGd.out hk';have hLP:=HLP.out;have hLL:=HL.out;refine ⟨⟨f0,by omega⟩,⟨t0,by omega⟩,?_,(HE1.out k hk').2⟩;rw [(HE1.out k hk').1,Tt (by omega)];exact (HNc.out _ (by omega)).symm)
   clear hS hJ hR;go_upto_region 9 with (go_at_call 30;(with_reducible refine cS.mono ?_);rintro e1 w5 ⟨_,pt,cs5,rfl,hJ5,hR5,hw5⟩;have z10:=hJ5.bx.cell 10 _ rfl;have zl:=hJ5.bx.lt;have HJ5:=Hd hJ5;have HR5:=Hd hR5;have HW5:=Hd hw5;clear hJ5 hR5 hw5)
   rcases HW5.out with ⟨hw0,hp0,hall⟩|⟨hw0,hnot⟩
   .subst hw0 hp0;have HA:=Hd hall;clear hall HW5;go_wp2_with fail
    go_roundw
    case rel=>
     exact ⟨3,by go_num,by omega,.inr ⟨by omega,A,c,cs5,HJ5.out,HR5.out,Hd (λ_=>HA.out)⟩⟩
    simp [Go.RowKit.intOf]
   subst hw0;have HA:=Hd hnot;clear hnot HW5;have z9:=HJ5.out.bx.cell 9 _ rfl;have z11:=HJ5.out.bx.cell 11 _ rfl;have z12:=HJ5.out.bx.cell 12 _ rfl;have z13:=HJ5.out.bx.cell 13 _ rfl;have z14:=HJ5.out.bx.cell 14 _ rfl;have hz5:=HZ2.out.go HJ5.out.bl;obtain ⟨r0,r1,r2,r3,r4,r5⟩:=hz5.bx.c5;have rf:=hz5.bx.fr;have rl:=hz5.bx.lt;have HZ5:=Hd hz5;clear hz5;go_wp2_with fail
   have k:=HZ5.out.put (vs:=vdC false 213 pt cs5) rfl;obtain ⟨k0,k1,k2,k3,k4,k5⟩:=k.bx.c5;have kB:=Qn (g:=w.heap.size+1) (by omega) (vdC false 213 pt cs5) 0 _ (HBW.out.trans (HJ5.out.bl.mono (by have:=HBW.out.size;have:=HJw.out;omega)));simp only [vdC,Qm] at k0 k1 k2 k3 k4 k5;exact QL (v:=.tuple #[vdV false 213 pt cs5,.int .i64 0]) (by simp [results,results11,go_sem,k0,k1,k2,k3,k4,k5,vdV]) rfl ⟨false,213,pt,cs5,rfl,kB,.inr ⟨rfl,rfl,by rw [<-HEL.out];exact HA.out⟩⟩
  .obtain ⟨A,c,cost,hJ,hR,hA⟩:∃A c cost,Jd w2 wr j m g n (.slice A0 L c0) (.slice A L c) false 0 0 cost∧Wt wr j A (os.map Qo)∧∀k,k<EL->Ez (os.map Qo) (Qx g.edges k)=true:=by
    rcases hS with ⟨h,_⟩|⟨_,A,c,cost,h1,h2,h3⟩
    .omega
    exact ⟨A,c,cost,h1,h2,h3.out (by omega)⟩
   have cS:=Qc7 w2 wr j m g n _ A c (os.map Qo) cost L EL (by rw [List.length_map,HL.out]) HEL.out hJ hR HG2.out HLp.out.1 HEp.out (λk hk=>by
    have hk':k<g.edges.length:=by rw [<-HEL.out];exact hk
    obtain ⟨f0,f1,t0,t1,hr⟩:=Xo HGd.out hk';have hLP:=HLP.out;have hLL:=HL.out;refine ⟨⟨f0,by omega⟩,?_,λA1 c1 w1 h1=>HE2.out (λq hq=>hA q (by rw [HEL.out];exact hq)) k hk' A1 c1 w1 h1⟩;obtain ⟨_,_,rR,_⟩:=Yh hr;unfold Zn at rR;split at rR
    .exact (ZN rR).2
    have:=ZN rR
    omega)
   have HJ:=Hd hJ;have HR:=Hd hR;have HA:=Hd hA;clear hS hJ hR hA;go_wp2_with (go_at_call 31;(with_reducible refine cS.mono ?_);rintro e1 w5 ⟨rfl,hb5⟩;have HJ5:=Hd (HJ.out.go hb5);have HR5:=Hd (HR.out.go hb5);have z10:=HJ5.out.bx.cell 10 _ rfl;have zl:=HJ5.out.bx.lt;clear hb5)
   go_roundw
   case rel=>exact ⟨4,by go_num,by omega,.inr ⟨by omega,A,c,cost,HJ5.out,HR5.out,Hd (λ_=>HA.out)⟩⟩
   simp [Go.RowKit.intOf]
  obtain ⟨A,c,cost,hJ,hA⟩:∃A c cost,Jd w2 wr j m g n (.slice A0 L c0) (.slice A L c) false 0 0 cost∧∀k,k<EL->Ez (os.map Qo) (Qx g.edges k)=true:=by
   rcases hS with ⟨h,_⟩|⟨_,A,c,cost,h1,h2,h3⟩
   .omega
   exact ⟨A,c,cost,h1,h3.out (by omega)⟩
  have HJ5:=Hd hJ;have HA:=Hd hA;clear hS hJ hA;have z9:=HJ5.out.bx.cell 9 _ rfl;have z10:=HJ5.out.bx.cell 10 _ rfl;have z11:=HJ5.out.bx.cell 11 _ rfl;have z12:=HJ5.out.bx.cell 12 _ rfl;have z13:=HJ5.out.bx.cell 13 _ rfl;have z14:=HJ5.out.bx.cell 14 _ rfl;have:=HJ5.out.bx.fr;have zl:=HJ5.out.bx.lt;have hne:w.heap.size+1≠j:=by have:=HZV.out;omega
  have:j≠w.heap.size+1:=Ne.symm hne;have hz5:=HZ2.out.go HJ5.out.bl;obtain ⟨r0,r1,r2,r3,r4,r5⟩:=hz5.bx.c5;have rf:=hz5.bx.fr;have rl:=hz5.bx.lt;have HZ5:=Hd hz5;clear hz5;go_wp2_with fail
  have gj:=Qv (p:=⟨j,9,none⟩) (QN wr (some j)) (.inl rfl) (.bool true);have k:=(HZ5.out.only gj hne).put (vs:=vdC true 0 0 cost) rfl;obtain ⟨k0,k1,k2,k3,k4,k5⟩:=k.bx.c5;have kB:=Qn (g:=w.heap.size+1) (by omega) (vdC true 0 0 cost) 0 _ ((HBW.out.trans (HJ5.out.bl.mono (by have:=HBW.out.size;have:=HJw.out;omega))).setCell (p:=⟨j,9,none⟩) (by show w.heap.size≤j;have:=HZV.out;omega) (.bool true));simp only [vdC,Qm] at k0 k1 k2 k3 k4 k5;exact QL (v:=.tuple #[vdV true 0 0 cost,.int .i64 0]) (by simp [results,results11,go_sem,k0,k1,k2,k3,k4,k5,vdV]) rfl ⟨true,0,0,cost,rfl,kB,.inl ⟨rfl,by rw [<-HEL.out];exact HA.out⟩⟩
def Qd3 (w:World) (e:Ending) (w':World):Prop:=∃why pt cost,e=.returned (.tuple #[vdV true why pt cost,.int .i64 0])∧Below w.heap.size w w'
theorem Ql2 (m:GM) (g:Zv) (os os':List Zj) (A0:Option Addr) (c0:Nat) (w:World) (hG:Hg w m g) (hNm:GNm w m g) (hg:Gn.Vj2 g) (hn:g.n=2) (hO:Ci w A0 os') (hl:(os'.length:Int)=g.points) (hl2:os.length=os'.length)
 (hN:∀i,i<os'.length->(Vg os' i).1=2) (hm:os'.map Qo=os.map Qo) (hB:∀i,i<os.length->Cg (Vg os i)) (h0:Ys (2:Nat) (Vg os 0).2.1 (Vg os 0).2.2 [0,0]=true)
 (hbr:∀i,i<g.edges.length->Nj g (Vg os) i (Np g (Qx g.edges i))):
 Calls prog 11 #[Jm m g,.slice A0 os'.length c0] w (Qd3 w):=by
 have hp:=hg.points;have hBp:∀p:Nat,(p:Int)<g.points->Cg (Vg os p):=λp hp=>hB p (by omega)
 have hcl:∀p,p<os.length->Vg (os'.map Qo) p=Qo (Vg os p):=λp hp=>by rw [hm];exact Tt hp
 have hE:∀i,i<g.edges.length->((Qx g.edges i).fr.toNat<os.length∧(Qx g.edges i).tg.toNat<os.length)∧Uv 2 g.sizes.length (Qx g.edges i)=true:=λi hi=>by
  obtain ⟨_,_,_,_,hr⟩:=Xo hg hi;rw [hn] at hr;exact ⟨by omega,hr⟩
 have hOk:∀i,i<g.edges.length->OkE g.sizes.length (Qx g.edges i):=λi hi=>⟨(hE i hi).2,(hbr i hi).ex,(hbr i hi).h9,(hbr i hi).h10,(hbr i hi).n1,(hbr i hi).n2⟩
 have hC2:∀p,p<os.length->(Qo (Vg os p)).1=2:=λp hp=>by
  rcases (hB p hp).cases with ⟨M,Z,_,_,e⟩|e<;>rw [e]<;>rfl
 have hT2:∀i,i<g.edges.length->(Ym (Qo (Vg os (Qx g.edges i).fr.toNat)) (Qx g.edges i)).1=2:=λi hi=>by
  have hb:=hB _ (hE i hi).1.1;unfold Ym;rw [hb.again];rcases hb.cases with ⟨M,Z,_,hs,e⟩|e
  .rw [e,ZL (by simp)];exact (Jh8 hs.lZ hs.okZ (hE i hi).2 (hbr i hi).ex).1
  rw [e];rfl
 have hent:∀i,i<g.edges.length->Ez (os'.map Qo) (Qx g.edges i)=true:=λi hi=>by
  have k:=Vq4 hg hn hBp hi (hbr i hi);unfold inO at k;unfold Ez Im;rw [hcl _ (hE i hi).1.1,hcl _ (hE i hi).1.2,hT2 i hi];exact k
 have hTr:∀i,i<g.edges.length->∀A1 c1 (w1:World),Qi w1 A1 c1 (Vg (os'.map Qo) (Qx g.edges i).fr.toNat)->
  Calls prog 69 #[Qf (Vg (os'.map Qo) (Qx g.edges i).fr.toNat) A1 c1,.agg (Qj (Qx g.edges i)).toArray] w1 (Sq w1 (Ym (Vg (os'.map Qo) (Qx g.edges i).fr.toNat) (Qx g.edges i))):=λi hi A1 c1 w1 h1=>
  Vq3 _ (by rw [hcl _ (hE i hi).1.1];exact hC2 _ (hE i hi).1.1) A1 c1 _ _ w1 h1 (hOk i hi)
 have hC:=Ha m g 2 (.inr rfl) hn A0 c0 os' w hG hNm hg hO hl hN
  (by
   have e:Qo (Vg os' 0)=Qo (Vg os 0):=by rw [<-Tt (show 0<os'.length by omega),hcl 0 (by omega)]
   rw [e];exact Zv4 (hB 0 (by omega)) h0)
  (λi hi=>⟨by rw [hcl _ (hE i hi).1.1];exact hT2 i hi,hTr i hi⟩)
  (λ_ i hi A1 c1 w1 h1=>by
   obtain ⟨_,hb⟩:=On (hE i hi).2;refine Ps 2 (by omega) _ (by rw [hcl _ (hE i hi).1.1];exact hC2 _ (hE i hi).1.1) A1 c1 _ _ w1 h1 (Qj6 (hbr i hi).ex (hbr i hi).h9 (hbr i hi).h10) (by omega) (by omega) (Eo (hbr i hi).n1) (Eo (hbr i hi).n2) ?_ (λw2 h2=>hTr i hi A1 c1 w2 h2);rw [hcl _ (hE i hi).1.1];exact Jz6 hg hBp hi (hbr i hi))
 refine hC.mono ?_;rintro e _ ⟨_,why,pt,cost,he,hb,h⟩;rcases h with ⟨rfl,_⟩|⟨_,_,i,h1,h2⟩
 .exact ⟨why,pt,cost,he,hb⟩
 rw [hent i h1] at h2;cases h2
structure Da (w:World) (base:Nat) (A:Option Addr) (c:Nat) (rs:List OR) (os:List Zj):Prop where
 row:Yw w base A c rs
 eq:rs.map ORo=os
 ok:∀r∈rs,Je r.n r.e r.m=0
theorem Da.len {w:World} {base:Nat} {A:Option Addr} {c:Nat} {rs:List OR} {os:List Zj} (h:Da w base A c rs os):rs.length=os.length:=by rw [<-h.eq,List.length_map]
theorem Da.nil (w:World) (base:Nat):Da w base none 0 [] []:=⟨Yw.nil _ _,rfl,λr hr=>by cases hr⟩
theorem Da.go {w w':World} {base:Nat} {A:Option Addr} {c:Nat} {rs:List OR} {os:List Zj} (h:Da w base A c rs os) (hb:Below w.heap.size w w'):Da w' base A c rs os:=⟨h.row.go hb,h.eq,h.ok⟩
theorem Da.snoc {w w':World} {base:Nat} {A A':Option Addr} {c c':Nat} {rs:List OR} {os:List Zj} {r:OR} (h:Da w base A c rs os) (hr:Zu r.n∧(∀x∈r.m,Zu x)∧Ow w base 2 .i64 r.a r.c r.m) (hk:Je r.n r.e r.m=0)
 (hrow:w'.ownsRow base 32 3 (.slice A' (rs.length+1) c') (rs.length+1) (ov rs++r.cells)) (hg:w.grownBy w' (Value.slice A rs.length c).ownBlock):Da w' base A' c' (rs++[r]) (os++[ORo r]):=
 ⟨h.row.snoc hr hrow hg,by rw [List.map_append,h.eq];rfl,λx hx=>by
  simp only [List.mem_append,List.mem_cons,List.not_mem_nil,or_false] at hx;rcases hx with hx|rfl
  .exact h.ok x hx
  exact hk⟩
structure Et (w:World) (g:Nat) (rs:List OR) (os:List Zj):Prop where
 bx:Bx w g (ov rs)
 eq:rs.map ORo=os
 each:∀r∈rs,Qi w r.a r.c (ORo r)∧∀g' o,r.a=some ⟨g',o,none⟩->g'≠g
theorem Et.len {w:World} {g:Nat} {rs:List OR} {os:List Zj} (h:Et w g rs os):rs.length=os.length:=by rw [<-h.eq,List.length_map]
theorem Et.go {w w':World} {g:Nat} {rs:List OR} {os:List Zj} (h:Et w g rs os) (hb:Below w.heap.size w w'):Et w' g rs os:=
 ⟨h.bx.below hb,h.eq,λr hr=>⟨(h.each r hr).1.go hb,(h.each r hr).2⟩⟩
theorem Et.cells {w:World} {g:Nat} {rs:List OR} {os:List Zj} (h:Et w g rs os) {i:Nat} (hi:i<os.length):w.cell? ⟨g,i*3,none⟩=some (.int .i64 (Vg os i).1)∧w.cell? ⟨g,i*3+1,none⟩=some (.bool (Vg os i).2.1)∧
 w.cell? ⟨g,i*3+2,none⟩=some (.slice (Tc rs i).a (Vg os i).2.2.length (Tc rs i).c)∧Qi w (Tc rs i).a (Tc rs i).c (Vg os i):=by
 have hi2:i<rs.length:=by rw [h.len];exact hi
 obtain ⟨p0,p1,p2⟩:=Qb5 rs i hi2;have e:Vg os i=ORo (Tc rs i):=by rw [<-h.eq];exact Zf1 hi2
 rw [e];exact ⟨h.bx.cell _ _ p0,h.bx.cell _ _ p1,h.bx.cell _ _ p2,(h.each _ (Fz hi2)).1⟩
theorem Et.oks {w:World} {g:Nat} {rs:List OR} {os:List Zj} (h:Et w g rs os):Ci w (some ⟨g,0,none⟩) os:=λhn=>by
 refine ⟨g,0,rfl,h.bx.lt,λi hi=>?_⟩;obtain ⟨p0,p1,p2,p3⟩:=h.cells hi;rw [Nat.zero_add];exact ⟨_,_,p0,p1,p2,p3⟩
theorem Da.turn {w:World} {base:Nat} {A:Option Addr} {c:Nat} {rs:List OR} {os:List Zj} (h:Da w base A c rs os) (hn:0<os.length):∃g,A=some ⟨g,0,none⟩∧base≤g∧Et w g rs os:=by
 have hl:=h.len;rcases h.row.row.2 with ⟨hv,h0⟩|⟨g,cap,cur,hv,hb,hh,_⟩
 .omega
 injection hv with h1 h2 h3;subst h1;have hlt:=(h.row.row.lt g rfl).2;have key:∀q u,(ov rs)[q]? =some u->w.cell? ⟨g,q,none⟩=some u:=λq u hu=>by
  have:=h.row.row.cells (g:=g) rfl q u hu
  rwa [show (⟨g,0,none⟩:Addr).add q=⟨g,q,none⟩ by unfold Addr.add;split<;>simp_all] at this
 refine ⟨g,rfl,hb,⟨key,λi=>World.ownsRow.frozenAt h.row.row i,hlt⟩,h.eq,λr hr=>?_⟩;obtain ⟨e0,e1,e2⟩:=h.row.each r hr;refine ⟨⟨⟨e0,e2.rd,e1,e2.cap,e2.capMax⟩,h.ok r hr⟩,λg' o hg=>?_⟩;rcases e2.2 with ⟨hv2,_⟩|⟨g2,cap2,cur2,hv2,hb2,hh2,_⟩
 .injection hv2 with k1 k2 k3;rw [k1] at hg;cases hg
 injection hv2 with k1 k2 k3;rw [k1] at hg;injection hg with hg;injection hg with hg;subst hg;intro e;subst e;rw [hh] at hh2;injection hh2 with hh2;injection hh2 with q1 q2;exact absurd q2 (by decide)
theorem Jc3:∀(rs:List OR) (i:Nat) (r:OR),i<rs.length->ov (rs.set i r)=(((ov rs).set (i*3) (.int .i64 r.n)).set (i*3+1) (.bool r.e)).set (i*3+2) (.slice r.a r.m.length r.c)
 |x::rs,0,r,_=>rfl
 |x::rs,i+1,r,h=>by
  have ih:=Jc3 rs i r (by simpa using h);have e:∀l:List OR,ov (x::l)=x.cells++ov l:=λl=>rfl
  rw [List.set_cons_succ,e,e,ih];rw [show (i+1)*3=i*3+3 by omega,show i*3+3+1=i*3+1+3 by omega,show i*3+3+2=i*3+2+3 by omega];rfl
theorem Je2:∀rs:List OR,(ov rs).length=rs.length*3
 |[]=>rfl
 |r::rs=>by
  have e:ov (r::rs)=r.cells++ov rs:=rfl;rw [e,ZC,Je2 rs,QI];show 3+rs.length*3=_
  omega
theorem Et.set {w:World} {g:Nat} {rs:List OR} {os:List Zj} (h:Et w g rs os) {i:Nat} (hi:i<os.length) (r:OR) (hr:Qi w r.a r.c (ORo r)) (hne:∀g' o,r.a=some ⟨g',o,none⟩->g'≠g):
 Et (((w.setCell ⟨g,i*3,none⟩ (.int .i64 r.n)).setCell ⟨g,i*3+1,none⟩ (.bool r.e)).setCell ⟨g,i*3+2,none⟩ (.slice r.a r.m.length r.c)) g (rs.set i r) (os.set i (ORo r)):=by
 have hi2:i<rs.length:=by rw [h.len];exact hi
 have:=Je2 rs;have k1:=h.bx.set (i:=i*3) (by omega) (.int .i64 r.n);have k2:=k1.set (i:=i*3+1) (by rw [QJ];omega) (.bool r.e);have k3:=k2.set (i:=i*3+2) (by rw [QJ,QJ];omega) (.slice r.a r.m.length r.c);rw [<-Jc3 rs i r hi2] at k3;have g1:=Qv (p:=⟨g,i*3,none⟩) (QN w (some g)) (.inl rfl) (.int .i64 r.n);have g2:=Qv (p:=⟨g,i*3+1,none⟩) g1 (.inl rfl) (.bool r.e);have g3:=Qv (p:=⟨g,i*3+2,none⟩) g2 (.inl rfl) (.slice r.a r.m.length r.c);refine ⟨k3,by rw [List.map_set,h.eq],λx hx=>?_⟩;have hx2:(Qi w x.a x.c (ORo x))∧∀g' o,x.a=some ⟨g',o,none⟩->g'≠g:=by
  rcases List.mem_or_eq_of_mem_set hx with hx|rfl
  .exact h.each x hx
  exact ⟨hr,hne⟩
 exact ⟨Qk9 hx2.1 g3 hx2.2,hx2.2⟩
def Uc (os:List Zj):Nat->List Zj
 |0=>os
 |p+1=>(Uc os p).set p (Qo (Vg os p))
theorem Uf (os:List Zj) (p:Nat):(Uc os p).length=os.length:=by
 induction p with
 |zero=>rfl
 |succ p ih=>unfold Uc;rw [QJ,ih]
theorem Vk9 {os:List Zj} {i p:Nat} {P:Zj} (hp:p<os.length):Vg (os.set p P) i=if i=p then P else Vg os i:=by
 unfold Vg;rw [ZG,ZG];by_cases h:i=p
 .subst h;rw [List.getElem?_set_self hp,ZM rfl];rfl
 rw [List.getElem?_set_ne (λe=>h e.symm),ZL h]
theorem Br {os:List Zj}:∀{p:Nat},p≤os.length->∀i,Vg (Uc os p) i=if i<p then Qo (Vg os i) else Vg os i
 |0,_,i=>by rw [ZL (by omega)];rfl
 |p+1,hp,i=>by
  unfold Uc;rw [Vk9 (by rw [Uf];omega),Br (by omega)];by_cases h:i=p
  .subst h;rw [ZM rfl,ZM (by omega)]
  rw [ZL h];by_cases h2:i<p
  .rw [ZM h2,ZM (by omega)]
  rw [ZL h2,ZL (by omega)]
theorem Vc2 {us vs:List Zj} (hl:us.length=vs.length) (h:∀i,i<us.length->Vg us i=Vg vs i):us=vs:=by
 refine List.ext_getElem hl λi h1 h2=>?_
 have:=h i h1
 unfold Vg at this;simpa [h1,h2] using this
theorem Jz3 {os:List Zj} (hB:∀i,i<os.length->Cg (Vg os i)) {p:Nat} (hp:p≤os.length):(Uc os p).map Qo=os.map Qo:=by
 refine Vc2 (by rw [List.length_map,List.length_map,Uf]) λi hi=>?_
 rw [List.length_map,Uf] at hi;rw [Tt (by rw [Uf];exact hi),Tt hi,Br hp];split
 .exact (hB i hi).again
 rfl
end
