/- Lemmas for wholeNotEmpty; no conditions. -/
import Derived.Test.YtpggdkenajfjjaaGreatDoorGbk
import Derived.Deep.RegionLaw
set_option linter.all false
set_option maxRecDepth 100000
set_option maxHeartbeats 16000000
namespace Go.Proofs.YtpggdkenajfjjaaGreatDoor
open Go.RowKit Tryz
open Go.Lib renaming hid → Hd
section
open Gn
def Tf (es:List Ql) (k:Nat) (p:Nat):List Nat:=(List.range k).filter λi=>decide ((Qx es i).fr=(p:Int))
theorem Jl2 (es:List Ql) (p:Nat):Tf es 0 p=[]:=rfl
theorem Se {es:List Ql} {k p:Nat} (h:(Qx es k).fr=(p:Int)):Tf es (k+1) p=Tf es k p++[k]:=by
 unfold Tf;rw [List.range_succ,List.filter_append];simp [h]
theorem Rb {es:List Ql} {k p:Nat} (h:(Qx es k).fr≠(p:Int)):Tf es (k+1) p=Tf es k p:=by
 unfold Tf;rw [List.range_succ,List.filter_append];simp [h]
theorem Ja2 {es:List Ql} {k p i:Nat} (h:i<(Tf es k p).length):Rh (Tf es k p) i<k:=by
 have hm:Rh (Tf es k p) i∈Tf es k p:=by unfold Rh;simp [h]
 exact List.mem_range.1 (List.mem_filter.1 hm).1
theorem Qg2 (es:List Ql) (k p:Nat):(Tf es k p).length≤k:=by
 have:=List.length_filter_le (λi=>decide ((Qx es i).fr=(p:Int))) (List.range k)
 simpa [Tf] using this
theorem Zq1 (es:List Ql) (p:Nat):(Tf es es.length p).map (Qx es)=Uh es p:=by
 unfold Tf Uh;have:es=(List.range es.length).map (Qx es):=by
  apply List.ext_getElem (by simp)
  intro i h1 h2;simp [Qx,h1]
 conv=>rhs;rw [this]
 rw [List.filter_map];rfl
theorem Ep (m:GM) (g:Zv) (h0:0≤g.temps) (h1:g.temps≤64) (h2:g.nv≤64) (w:World):Calls prog 6 #[Jm m g] w λe w'=>e=.returned (.int .i64 g.n)∧Below w.heap.size w w':=by
 unfold Jm Qt Zv.n;go_enter func6,ntmps6
 go_wp2
 go_ret
 exact ⟨rfl,by go_grown⟩
theorem Zy4 {w0 wc Wd w9:World} {b0 T hi n p size:Nat} {e:TypeId} {rows:Nat->List Value} {news cells:List Value} {v':Value} (hX:Bx wc b0 cells) (hB:Below b0 w0 wc) (hb:b0<T) (hBd:Below wc.heap.size wc Wd) (hb9:Tn (T+1) hi Wd w9)
 (hT9:∀w2,Below w9.heap.size w9 w2->Tb (w2.setCell ⟨T,p,none⟩ v') (T+1) w9.heap.size T n e size (upd rows p (rows p++news))):
 ∃hi',Tb (w9.setCell ⟨T,p,none⟩ v') (T+1) hi' T n e size (upd rows p (rows p++news))∧Bx (w9.setCell ⟨T,p,none⟩ v') b0 cells∧Below b0 w0 (w9.setCell ⟨T,p,none⟩ v'):=by
 have h1:=hT9 w9 (QK _ _);have:b0<Wd.heap.size:=ZI hX.lt hBd.size;have hX9:=hb9.bx (hX.below hBd) (.inl (by omega));have hlow:Below b0 Wd w9:=⟨hb9.os,hb9.tape,hb9.output,hb9.size,λk hk=>hb9.block k (by omega) (.inl (by omega))⟩;exact ⟨_,h1,hX9.only (Qv (QN w9 (some T)) (.inl rfl) v') (by omega),((hB.trans (hBd.mono (by have:=hX.lt;omega))).trans hlow).setCell (p:=⟨T,p,none⟩) (by show b0≤T;omega) v'⟩
def Ek (g:Zv) (w:World) (e:Ending) (w':World):Prop:=∃n:Int,e=.returned (.int .i64 n)∧(n=0↔Gn.Vj2 g)∧Below w.heap.size w w'
theorem Yy {g:Zv} {w w':World} {n:Int} (hn:n≠0) (hg:¬Gn.Vj2 g) (hb:Below w.heap.size w w'):Ek g w (.returned (.int .i64 n)) w':=⟨n,rfl,⟨λh=>absurd h hn,λh=>absurd h hg⟩,hb⟩
theorem Ii (m:GM) (g:Zv) (w:World) (hG:Hg w m g) (hC:(0≤g.temps∧g.temps≤64)∧g.n≤64∧(1≤g.points∧g.points≤4096)∧g.edges.length≤8192∧g.sizes.length≤16∧0≤g.exit∧g.exit<g.points):Calls prog 5 #[Jm m g] w (Ek g w):=by
 obtain ⟨W,hW,hX,hB⟩:=Qh w (Qt m g) 26;have hG1:=hG.go hB;obtain ⟨x0,x1,x2,x3,x4,x5⟩:=hX.c5;have hlt:=hX.lt;have HB:=Hd hB;have HX:=Hd hX;have HG:=Hd hG1;have HG0:=Hd hG;clear hX hB hG hG1;obtain ⟨⟨t0,t1⟩,t3,⟨t4,t5⟩,t6,t7,t8,t9⟩:=id hC;have t2:(g.nv:Int)≤64:=by unfold Zv.n at t3;omega
 have cA:=λW=>Ep m g t0 t1 (by omega) W
 have q0:decide (g.temps<0)=false:=by simpa using t0
 have q1:decide (64<g.temps)=false:=by simpa using t1
 have q2:decide (64<(g.nv:Int))=false:=by simpa using t2
 have q3:decide (64<g.n)=false:=by simpa using t3
 have q4:decide (g.points<1)=false:=by simpa using t4
 have q5:decide (4096<g.points)=false:=by simpa using t5
 have q6:decide (8192<(g.edges.length:Int))=false:=by simp;omega
 have q7:decide (16<(g.sizes.length:Int))=false:=by simp;omega
 have q8:decide (g.exit<0)=false:=by simpa using t8
 have q9:decide (g.points≤g.exit)=false:=by simpa using t9
 have hSZ:Hid (∀i,i<g.sizes.length->Zu (Qe g.sizes i)):=Hd HG.out.is;have hcm:=HG.out.ce;have hca:=HG.out.ca;obtain ⟨pn,hpn⟩:=ZV (show 0≤g.points by omega);have hpl:pn≤4096:=by omega
 have hmk:=λW=>run_make_row' (P:=prog) 52 58 (.slice none 0 0) 24 underlying52 (by kernel_rfl) rfl .i64 .i64 pn (by omega) (by omega) W
 obtain ⟨SL,hSL⟩:∃SL,SL=g.sizes.length:=⟨_,rfl⟩;obtain ⟨EL,hEL⟩:∃EL,EL=g.edges.length:=⟨_,rfl⟩;have HC:=Hd hC;have hSLm:SL≤16:=by omega
 have hELm:EL≤8192:=by omega
 have HSL:=Hd hSL;have HEL:=Hd hEL;rw [<-hSL] at q7;rw [<-hEL] at q6;clear t0 t1 t2 t3 t4 t5 t6 t7 t8 t9 hcm hca hC;unfold Jm Qt at*;rw [hpn] at q4 q5 q9 x3 hW |-
 rw [<-hSL] at x2 hW |-
 rw [<-hEL] at x5 hW |-
 simp only [hpn,<-hSL,<-hEL] at cA;clear hSL hEL;have HpN:=Hd hpn;clear hpn;go_enter func5,ntmps5
 go_upto_region 1 with fail
 rw [<-hW];clear hW;go_wp2_with fail
 with_reducible refine (cA _).mono ?_
 rintro e w1 ⟨rfl,hb1⟩;have HB1:=Ht HB hb1;have hX1:=HX.out.below hb1;have HX1:=Hd hX1;clear hb1 x0 x1 x2 x3 x4 x5 hlt HX HB q0 q1 q2;have x2:=hX1.cell 2 _ rfl;have x3:=hX1.cell 3 _ rfl;have x4:=hX1.cell 4 _ rfl;have x5:=hX1.cell 5 _ rfl;have hlt:=hX1.lt;rw [HpN.out] at x3;rw [<-HSL.out] at x2;rw [<-HEL.out] at x5;clear hX1;go_wp2_with fail
 clear q3 q4 q5 q6 q7 q8 q9;have HG1:=Hd (HG.out.go (show Below W.heap.size W W from QK _ _));go_loop [3] (λs=>∃k:Nat,s=.int .i64 k∧k≤SL∧Hid (∀i,i<k->1≤Qe g.sizes i∧Qe g.sizes i≤1024)) (λs=>SL - (intOf s).toNat)
 case atStart=>exact ⟨0,rfl,by omega,Hd (λi hi=>by omega)⟩
 obtain ⟨k,rfl,hk,HK⟩:=hrel;rcases ZJ k SL with hkt|hge
 .have dk:decide (k<SL)=true:=ZE hkt;obtain ⟨ab,ao,ha,hal,hac⟩:=HG0.out.arrs (by rw [<-HSL.out];omega);have ka:=(HB1.out.cell (p:=⟨ab,ao+k*2+1,none⟩) hal).trans (hac k (by rw [<-HSL.out];exact hkt));have hal1:ab<w1.heap.size:=ZI hal HB1.out.size;have HN:=Hd (show ∀i,i<k+1->(1≤Qe g.sizes k∧Qe g.sizes k≤1024)->1≤Qe g.sizes i∧Qe g.sizes i≤1024 from λi hi h=>by
   rcases ZJ i k with h2|h2
   .exact HK.out i h2
   obtain rfl:i=k:=by omega
   exact h)
  have HBad:=Hd (show ¬(1≤Qe g.sizes k∧Qe g.sizes k≤1024)->¬Gn.Vj2 g from λh hg=>h (hg.sizes _ (Ub (by rw [<-HSL.out];exact hkt))));have HKT:=Hd hkt;rw [ha] at x2;clear hac ha hal hkt;generalize Qe g.sizes k=sz at*;have p0:(0:Int)≤(k:Int):=by omega
  have p1:(k:Int)<(SL:Int):=by have:=HKT.out;omega
  by_cases h1:sz<1
  .have r0:decide (sz<1)=true:=ZE h1;have hbad:=Hd (HBad.out (by omega));clear h1;as_aux_lemma=>
    go_wp2_with fail
    go_ret
    exact Yy (by decide) hbad.out HB1.out
  have r0:decide (sz<1)=false:=ZA h1;by_cases h2:1024<sz
  .have r1:decide (1024<sz)=true:=ZE h2;have hbad:=Hd (HBad.out (by omega));clear h1 h2;as_aux_lemma=>
    go_wp2_with fail
    go_ret
    exact Yy (by decide) hbad.out HB1.out
  have r1:decide (1024<sz)=false:=ZA h2;have HN2:=Hd (λi hi=>HN.out i hi ⟨by omega,by omega⟩);clear h1 h2;go_wp2_with fail
  go_round
  case rel=>exact ⟨k+1,by go_num,by have:=HKT.out;omega,HN2⟩
  have:=HKT.out;simp [intOf];omega
 obtain rfl:SL=k:=by omega
 have dk:decide (SL<SL)=false:=by simp
 clear hge hk;obtain ⟨W3,hW3,hT,hB3⟩:∃W3,W3=w1.alloc (.cells (madeCells #[.slice none 0 0] pn) 58)∧Tb W3 (w1.heap.size+1) (w1.heap.size+1) w1.heap.size pn 3 1 (λ_=>[])∧Below w1.heap.size w1 W3:=⟨_,rfl,Tb.made w1 pn _ _ _,(QK _ _).alloc (ZH _) _⟩;go_wp2_with fail
 rw [<-hW3];have hX3:=HX1.out.below hB3;have HB3:=Ht HB1 hB3;have hTw:w.heap.size<w1.heap.size:=HX1.out.lt;generalize hT0:w1.heap.size=T at*;clear hT0 hW3 hB3 HX1 HB1 x2 x3 x4 x5 hlt dk;go_loopw [5] (λs wr=>∃k:Nat,s=.int .i64 k∧k≤EL∧Hid (∀i,i<k->Xa g (Qx g.edges i)=true)∧∃hi,Tb wr (T+1) hi T pn 3 1 (λp=>(Dn (Tf g.edges k p)).map (Value.int .i64))∧Bx wr w.heap.size (Qt m g)∧Below w.heap.size w wr) (λs _=>EL - (intOf s).toNat)
 case atStart=>exact ⟨0,rfl,by omega,Hd (λi hi=>by omega),_,hT,hX3,HB3.out⟩
 obtain ⟨k,rfl,hk,HE,hi,hTb,hXr,hBr⟩:=hrel;clear hT hX3 HB3;have x2:=hXr.cell 2 _ rfl;have x3:=hXr.cell 3 _ rfl;have x4:=hXr.cell 4 _ rfl;have x5:=hXr.cell 5 _ rfl;have hlt:=hXr.lt;rw [HpN.out] at x3;rw [<-HSL.out] at x2;rw [<-HEL.out] at x5;rcases ZJ k EL with hkt|hge
 .have dk:decide (k<EL)=true:=ZE hkt;have hGr:=HG0.out.go hBr;obtain ⟨_,_,he,_,hE⟩:=hGr.edge (i:=k) (by rw [<-HEL.out];exact hkt);rw [he] at x5;have d0:(k:Int)<(EL:Int):=by omega
  have d1:(0:Int)≤(k:Int):=by omega
  have HXr:=Hd hXr;have HBr:=Hd hBr;have HTb:=Hd hTb;have HRI:=Hd (hGr.ie k (by rw [<-HEL.out];exact hkt));have HK1:=Hd (show Xa g (Qx g.edges k)=true->∀i,i<k+1->Xa g (Qx g.edges i)=true from λh i hi=>by
   rcases ZJ i k with h2|h2
   .exact HE.out i h2
   obtain rfl:i=k:=by omega
   exact h)
  have HI:=Hd (show ∀h:Gn.Vj2 g,Xa g (Qx g.edges k)=true from λh=>h.right _ (Vp9 (by rw [<-HEL.out];exact hkt)));have HFr:=Hd (show ∀p:Nat,(Qx g.edges k).fr=(p:Int)->∀q,(Dn (Tf g.edges (k+1) q)).map (Value.int .i64)=upd (λq=>(Dn (Tf g.edges k q)).map (Value.int .i64)) p ((Dn (Tf g.edges k p)).map (Value.int .i64)++[.int .i64 (k:Int)]) q from λp hp q=>by
   unfold upd;by_cases hq:q=p
   .subst hq;rw [ZM rfl,Se hp];simp [Dn]
   rw [ZL hq,Rb (λh=>hq (by omega))])
  clear hXr hBr hTb hGr he HE;generalize Qx g.edges k=ed at*;obtain ⟨e0,e1,e2,e3,e4,e5,e6,e7,e8,e9⟩:=hE;go_upto_region 16 with fail
  go_cut [6] (λs wx=>s=.pointer (some ⟨wr.heap.size,0,none⟩)∧Bx wx wr.heap.size (Qj ed)∧Below wr.heap.size wr wx)
  case first=>
   go_wp2_with fail
   go_meet
   exact ⟨rfl,Bx.new wr (Qj ed) _,by go_grown⟩
  obtain ⟨rfl,hXe,hBe⟩:=hcut;clear e0 e1 e2 e3 e4 e5 e6 e7 e8 e9 x2 x3 x4 x5;have hXc:=HXr.out.below hBe;have hTc:=Hd (HTb.out.below hBe);have HBc:=Ht HBr hBe;have hhi:=HTb.out.hib;have hTbase:=HTb.out.lt;clear HXr HTb HBr hBe;go_upto_region 17 with fail
  go_cut [133] (λs wx=>s=.bool (!Xa g ed)∧Below wc.heap.size wc wx)
  case first=>
   clear hTc hTbase hhi HK1 HI HFr HRI;have a0:=Qz.cell (hXe.cell 0 _ rfl);have a1:=Qz.cell (hXe.cell 1 _ rfl);have a2:=Qz.cell (hXe.cell 2 _ rfl);have a3:=Qz.cell (hXe.cell 3 _ rfl);have a4:=Qz.cell (hXe.cell 4 _ rfl);have a5:=Qz.cell (hXe.cell 5 _ rfl);have a6:=Qz.cell (hXe.cell 6 _ rfl);have a7:=Qz.cell (hXe.cell 7 _ rfl);have a8:=Qz.cell (hXe.cell 8 _ rfl);have a9:=Qz.cell (hXe.cell 9 _ rfl);have x0:=Qz.cell (hXc.cell 0 _ rfl);have x1:=Qz.cell (hXc.cell 1 _ rfl);have x2:=Qz.cell (hXc.cell 2 _ rfl);have x3:=Qz.cell (hXc.cell 3 _ rfl);have x4:=Qz.cell (hXc.cell 4 _ rfl);have x5:=Qz.cell (hXc.cell 5 _ rfl);simp only [HpN.out] at x3;simp only [<-HSL.out] at x2;simp only [<-HEL.out] at x5;have cR:=λW=>Zj8 ed g.n (SL:Int) _ rfl W
   unfold Qj at cR;clear hXe hXc;by_cases s0:0≤ed.fr
   case neg=>
    have q0:decide (ed.fr<0)=true:=by simpa using s0
    have HR:Hid (Xa g ed=false):=Hd (by unfold Xa;simp [s0]);clear s0 cA cR;as_aux_lemma=>
     go_wp2_with fail
     refine Qk (by kernel_rfl) (by kernel_rfl) ?_
     repeat (go_big_quiet_step (fail))
     refine wpQuiet_nil ?_;intro w2 hb2;go_wp2_with fail
     go_meet
     exact ⟨by rw [HR.out];rfl,hb2⟩
   have q0:decide (ed.fr<0)=false:=by simpa using s0
   by_cases s1:ed.fr<(pn:Int)
   case neg=>
    have q1:decide ((pn:Int)≤ed.fr)=true:=by simpa using s1
    have HR:Hid (Xa g ed=false):=Hd (by unfold Xa;rw [HpN.out];simp [s0,s1]);clear s0 s1 cA cR;as_aux_lemma=>
     go_wp2_with fail
     refine Qk (by kernel_rfl) (by kernel_rfl) ?_
     repeat (go_big_quiet_step (fail))
     refine wpQuiet_nil ?_;intro w2 hb2;go_wp2_with fail
     go_meet
     exact ⟨by rw [HR.out];rfl,hb2⟩
   have q1:decide ((pn:Int)≤ed.fr)=false:=by simpa using s1
   by_cases s2:0≤ed.tg
   case neg=>
    have q2:decide (ed.tg<0)=true:=by simpa using s2
    have HR:Hid (Xa g ed=false):=Hd (by unfold Xa;rw [HpN.out];simp [s0,s1,s2]);clear s0 s1 s2 cA cR;as_aux_lemma=>
     go_wp2_with fail
     refine Qk (by kernel_rfl) (by kernel_rfl) ?_
     repeat (go_big_quiet_step (fail))
     refine wpQuiet_nil ?_;intro w2 hb2;go_wp2_with fail
     go_meet
     exact ⟨by rw [HR.out];rfl,hb2⟩
   have q2:decide (ed.tg<0)=false:=by simpa using s2
   by_cases s3:ed.tg<(pn:Int)
   case neg=>
    have q3:decide ((pn:Int)≤ed.tg)=true:=by simpa using s3
    have HR:Hid (Xa g ed=false):=Hd (by unfold Xa;rw [HpN.out];simp [s0,s1,s2,s3]);clear s0 s1 s2 s3 cA cR;as_aux_lemma=>
     go_wp2_with fail
     refine Qk (by kernel_rfl) (by kernel_rfl) ?_
     repeat (go_big_quiet_step (fail))
     refine wpQuiet_nil ?_;intro w2 hb2;go_wp2_with fail
     go_meet
     exact ⟨by rw [HR.out];rfl,hb2⟩
   have q3:decide ((pn:Int)≤ed.tg)=false:=by simpa using s3
   by_cases s4:ed.fr=g.exit
   case pos=>
    have q4:(ed.fr==g.exit)=true:=by simpa using s4
    have HR:Hid (Xa g ed=false):=Hd (by unfold Xa;simp [s4]);clear s0 s1 s2 s3 s4 cA cR;as_aux_lemma=>
     go_wp2_with fail
     refine Qk (by kernel_rfl) (by kernel_rfl) ?_
     repeat (go_big_quiet_step (fail))
     refine wpQuiet_nil ?_;intro w2 hb2;go_wp2_with fail
     go_meet
     exact ⟨by rw [HR.out];rfl,hb2⟩
   have q4:(ed.fr==g.exit)=false:=by simpa using s4
   have HR:Hid (Xa g ed=Uv g.n (SL:Int) ed):=Hd (by unfold Xa;rw [HpN.out,HSL.out];simp [s0,s1,s2,s3,s4]);clear s0 s1 s2 s3 s4;generalize Uv g.n (SL:Int) ed=rb at*;as_aux_lemma=>
    go_wp2_with fail
    refine Qk (by kernel_rfl) (by kernel_rfl) ?_
    repeat (go_big_quiet_step ((first|(go_at_call 6;with_reducible exact Qd (cA _))|(go_at_call 16;with_reducible exact Qd (cR _)))))
    refine wpQuiet_nil ?_;intro w2 hb2;go_wp2_with fail
    go_meet
    exact ⟨by rw [HR.out],hb2⟩
  obtain ⟨rfl,hb2⟩:=hcut;have hXe2:=hXe.below hb2;have HXe2:=Hd hXe2;have hXc2:=Hd (hXc.below hb2);have HBc2:=Ht HBc hb2;have hTc2:=hTc.out.below hb2;clear hXe hXc hTc HBc hb2;cases hE2:Xa g ed
  .have hbad:=Hd (show ¬Gn.Vj2 g from λh=>by have:=HI.out h;rw [hE2] at this;cases this);clear HK1 HFr HI hXe2 hTc2 hE2;as_aux_lemma=>
    go_wp2_with fail
    go_ret
    exact Yy (by decide) hbad.out HBc2.out
  have HK2:=Hd (HK1.out hE2);obtain ⟨fr0,fr1⟩:0≤ed.fr∧ed.fr<(pn:Int):=by
   unfold Xa at hE2;rw [HpN.out] at hE2;simp only [ZX,ZU] at hE2;exact hE2.1
  obtain ⟨p,hp⟩:=ZV fr0;have HF2:=Hd (HFr.out p hp);have e0:=hXe2.cell 0 _ rfl;rw [hp] at e0;have hpl2:p<pn:=by omega
  obtain ⟨v,l,hc,hown,hoff,hbd⟩:=hTc2.get hpl2;have hfT:=hTc2.fr p;have hlT:=hTc2.lt;have hle0:=hXe2.lt;have d2:(p:Int)<(pn:Int):=by omega
  have d3:(0:Int)≤(p:Int):=by omega
  have HTc2:=Hd hTc2;have HP:=Hd hp;have Hhi:=Hd hhi;have hln:Hid (∀l:Nat,((Dn (Tf g.edges k p)).map (Value.int .i64)).length=l*1->(l+1)*8≤140737488355328):=Hd (λl hl=>by
   have:=Qg2 g.edges k p
   simp [Cq] at hl
   omega)
  clear HK1 HFr HI hXe2 hTc2 hE2 hown hoff hbd hp fr0 fr1 hhi;have hBd:Below wc.heap.size wc ((wc.alloc (.cells #[.int .i64 (k:Int)] 3)).drew):=((QK _ wc).alloc (ZH _) _).drew;have HBd:=Hd hBd;have HTd:=Hd (HTc2.out.below hBd);have HCd:=Hd (Qq hBd hc);have HEd:=Hd (Qq hBd e0);have HFd:=Hd ((hBd.frozen (p:=⟨T,p,none⟩) hlT).trans hfT);have HLd:=Hd (show T<((wc.alloc (.cells #[.int .i64 (k:Int)] 3)).drew).heap.size by simp;omega);clear hBd;have HX0:=hXc2;go_wp2_with fail
  go_region_law (refine Zl2 underlying58 (z:=.int .i64 0) (size:=1) (bytes:=8) (by kernel_rfl) rfl (by decide) (by decide) _ rfl (.tmp 141) (.tmp 143) rfl (T+1) hi T pn _ HTd.out p hpl2 v HCd.out rfl [.int .i64 (k:Int)] wc.heap.size rfl rfl (cell_one_new _ _ _) (by intro u hu;simp at hu;subst hu;rfl) hln.out HLd.out ?_;intro A9 n9 c9 w9 hT9 hb9;have k0:=hb9.cell (p:=⟨wr.heap.size,0,none⟩) HEd.out (.inr Hhi.out);have k1:=hb9.cell (p:=⟨T,p,none⟩) HCd.out (.inl (Nat.lt_succ_self T));have k2:=(hb9.frozen (p:=⟨T,p,none⟩) HLd.out (.inl (Nat.lt_succ_self T))).trans HFd.out;have k3:=ZI HLd.out hb9.size;have HT9:=Hd hT9;have HB9:=Hd hb9;clear hT9 hb9)
  all_goals
   obtain ⟨hi',z1,z2,z3⟩:=Zy4 HX0.out HBc2.out hTw HBd.out HB9.out HT9.out;have z1:=Hd (z1.congr λq _=>(HF2.out q).symm);have z2:=Hd z2;have z3:=Hd z3;clear k0 k1 k2 k3;go_wp2_with fail
   go_roundw
   case rel=>exact ⟨k+1,by go_num,by omega,HK2,hi',z1.out,z2.out,z3.out⟩
   case measure=>simp [intOf];omega
 obtain rfl:EL=k:=by omega
 have dk:decide (EL<EL)=false:=by simp
 clear hge hk;have HXr:=Hd hXr;have HBr:=Hd hBr;have HTb:=Hd hTb;clear hXr hBr hTb;go_wp2_with fail
 clear x2 x3 x4 x5 hlt dk;go_loopw [7] (λs wr=>∃q:Nat,s=.int .i64 q∧q≤pn∧Hid (∀i:Nat,i<q->Ut (Uh g.edges i)=true)∧Tb wr (T+1) hi T pn 3 1 (λp=>(Dn (Tf g.edges EL p)).map (Value.int .i64))∧Bx wr w.heap.size (Qt m g)∧Below w.heap.size w wr) (λs _=>pn - (intOf s).toNat)
 case atStart=>exact ⟨0,rfl,by omega,Hd (λi hi=>by omega),HTb.out,HXr.out,HBr.out⟩
 obtain ⟨q,rfl,hq,HQ,hTb,hXr,hBr⟩:=hrel;clear HXr HBr HTb;obtain ⟨x0,x1,x2,x3,x4,x5⟩:=hXr.c5;have hlt:=hXr.lt;rw [HpN.out] at x3;rw [<-HSL.out] at x2;rw [<-HEL.out] at x5;rcases ZJ q pn with hqt|hge
 .have dq:decide (q<pn)=true:=ZE hqt;obtain ⟨v,l,hc,hown,hoff,hbd⟩:=hTb.get hqt;have hlen:l=(Dn (Tf g.edges EL q)).length:=by have:=hown.1;simp at this;omega
  obtain ⟨A,c,rfl,ho⟩:=Ty hown hlen;have hrd:=ho.rd;rw [Cq] at hlen;subst hlen;have hfq:Ut ((Tf g.edges EL q).map (Qx g.edges))=Ut (Uh g.edges q):=by
   rw [<-Zq1,<-HEL.out]
  have hG2:=HG0.out.go hBr;have cF:=λx:Qz wr=>Zr5 m g A c (Tf g.edges EL q) _ hfq x.w (hG2.go x.below) ((hrd.keep (λp hp=>x.below.cell hp)).more x.below.size) (λi hi=>by rw [<-HEL.out];exact Ja2 hi)
  unfold Jm Qt at cF;simp only [HpN.out,<-HSL.out,<-HEL.out] at cF;have d0:(q:Int)<(pn:Int):=by omega
  have d1:(0:Int)≤(q:Int):=by omega
  have HXr:=Hd hXr;have HBr:=Hd hBr;have HTb:=Hd hTb;have HI:=Hd (show Gn.Vj2 g->Ut (Uh g.edges q)=true from λh=>h.fork q (by rw [HpN.out];omega));have HQ1:=Hd (show Ut (Uh g.edges q)=true->∀i:Nat,i<q+1->Ut (Uh g.edges i)=true from λh i hi=>by
   rcases ZJ i q with h2|h2
   .exact HQ.out i h2
   obtain rfl:i=q:=by omega
   exact h)
  clear hown hoff hbd ho hrd hfq hG2 hXr hBr hTb HQ;generalize Ut (Uh g.edges q)=fb at*;generalize (Tf g.edges EL q).length=ll at*;go_wp2_with fail
  have y0:=Qz.cell x0;have y1:=Qz.cell x1;have y2:=Qz.cell x2;have y3:=Qz.cell x3;have y4:=Qz.cell x4;have y5:=Qz.cell x5;have y6:=Qz.cell hc;refine Qk (by kernel_rfl) (by kernel_rfl) ?_
  repeat (go_big_quiet_step ((go_at_call 17;with_reducible exact Qd (cF _))))
  refine wpQuiet_nil ?_;intro w2 hb2;have HX2:=Hd (HXr.out.below hb2);have HB2:=Ht HBr hb2;have HT2:=Hd (HTb.out.below hb2);clear hb2 y0 y1 y2 y3 y4 y5 y6 cF x0 x1 x2 x3 x4 x5 hc HXr HBr HTb hlt;cases fb
  .have hbad:=Hd (show ¬Gn.Vj2 g from λh=>by cases HI.out h);go_wp2_with fail
   go_ret
   exact Yy (by decide) hbad.out HB2.out
  have HQ2:=Hd (HQ1.out rfl);go_wp2_with fail
  go_roundw
  case rel=>exact ⟨q+1,by go_num,by omega,HQ2,HT2.out,HX2.out,HB2.out⟩
  simp [intOf];omega
 obtain rfl:pn=q:=by omega
 have dq:decide (pn<pn)=false:=by simp
 have HBr:=Hd hBr;have HGood:=Hd (show Gn.Vj2 g from ⟨HC.out.1,HC.out.2.1,HC.out.2.2.1,HC.out.2.2.2.1,HC.out.2.2.2.2.1,HC.out.2.2.2.2.2,λs hs=>by
  obtain ⟨i,hi,rfl⟩:=Jt2 hs;exact HK.out i (by rw [HSL.out];exact hi),λe he=>by
  obtain ⟨i,hi,hie⟩:=List.getElem_of_mem he;have:=HE.out i (by rw [HEL.out];exact hi)
  unfold Qx at this;rw [ZG,ZF hi,hie] at this;exact this,λp hp=>HQ.out p (by rw [HpN.out] at hp;omega)⟩)
 clear hge hq hXr hBr hTb;go_wp2_with fail
 go_ret
 exact ⟨0,rfl,⟨λ_=>HGood.out,λ_=>rfl⟩,HBr.out⟩
theorem Pw (m:GM) (g:Zv) (w:World) (hG:Hg w m g):Calls prog 5 #[Jm m g] w (Ek g w):=by
 obtain ⟨W,hW,hX,hB⟩:=Qh w (Qt m g) 26;have hG1:=hG.go hB;obtain ⟨x0,x1,x2,x3,x4,x5⟩:=hX.c5;have hlt:=hX.lt;have HB:=Hd hB;have HX:=Hd hX;have:=Hd hG1;have HG0:=Hd hG;clear hX hB hG hG1;have cAll:=Hd (λ(h0:0≤g.temps) (h1:g.temps≤64) (h2:g.nv≤64) (W:World)=>Ep m g h0 h1 h2 W);by_cases t0:0≤g.temps
 case neg=>
  have hbad:=Hd (λh:Gn.Vj2 g=>t0 h.temps.1);have q0:decide (g.temps<0)=true:=by simpa using t0
  clear cAll t0;unfold Jm Qt at*;as_aux_lemma=>
   go_enter func5,ntmps5
   go_upto_region 1 with fail
   rw [<-hW];clear hW;go_wp2_with fail
   go_ret
   exact Yy (by decide) hbad.out HB.out
 have q0:decide (g.temps<0)=false:=by simpa using t0
 by_cases t1:g.temps≤64
 case neg=>
  have hbad:=Hd (λh:Gn.Vj2 g=>t1 h.temps.2);have q1:decide (64<g.temps)=true:=by simpa using t1
  clear cAll t0 t1;unfold Jm Qt at*;as_aux_lemma=>
   go_enter func5,ntmps5
   go_upto_region 1 with fail
   rw [<-hW];clear hW;go_wp2_with fail
   go_ret
   exact Yy (by decide) hbad.out HB.out
 have q1:decide (64<g.temps)=false:=by simpa using t1
 by_cases t2:(g.nv:Int)≤64
 case neg=>
  have hbad:=Hd (λh:Gn.Vj2 g=>t2 (by have:=h.n;have:=h.temps.1;unfold Zv.n at*;omega));have q2:decide (64<(g.nv:Int))=true:=by simpa using t2
  clear cAll t0 t1 t2;unfold Jm Qt at*;as_aux_lemma=>
   go_enter func5,ntmps5
   go_upto_region 1 with fail
   rw [<-hW];clear hW;go_wp2_with fail
   go_ret
   exact Yy (by decide) hbad.out HB.out
 have q2:decide (64<(g.nv:Int))=false:=by simpa using t2
 by_cases t3:g.n≤64
 case neg=>
  have hbad:=Hd (λh:Gn.Vj2 g=>t3 h.n);have q3:decide (64<g.n)=true:=by simpa using t3
  have cA:=λW=>cAll.out t0 t1 (by omega) W
  clear cAll t0 t1 t2 t3;unfold Jm Qt at*;as_aux_lemma=>
   go_enter func5,ntmps5
   go_upto_region 1 with fail
   rw [<-hW];clear hW;go_wp2_with fail
   with_reducible refine (cA _).mono ?_
   rintro e w1 ⟨rfl,hb1⟩;have HB1:=Ht HB hb1;have hX1:=HX.out.below hb1;clear hb1 x0 x1 x2 x3 x4 x5 hlt HX HB;have x2:=hX1.cell 2 _ rfl;have x3:=hX1.cell 3 _ rfl;have x4:=hX1.cell 4 _ rfl;have x5:=hX1.cell 5 _ rfl;have hlt:=hX1.lt;clear hX1;go_wp2_with fail
   go_ret
   exact Yy (by decide) hbad.out HB1.out
 have q3:decide (64<g.n)=false:=by simpa using t3
 by_cases t4:1≤g.points
 case neg=>
  have hbad:=Hd (λh:Gn.Vj2 g=>t4 h.points.1);have q4:decide (g.points<1)=true:=by simpa using t4
  have cA:=λW=>cAll.out t0 t1 (by omega) W
  clear cAll t0 t1 t2 t3 t4;unfold Jm Qt at*;as_aux_lemma=>
   go_enter func5,ntmps5
   go_upto_region 1 with fail
   rw [<-hW];clear hW;go_wp2_with fail
   with_reducible refine (cA _).mono ?_
   rintro e w1 ⟨rfl,hb1⟩;have HB1:=Ht HB hb1;have hX1:=HX.out.below hb1;clear hb1 x0 x1 x2 x3 x4 x5 hlt HX HB;have x2:=hX1.cell 2 _ rfl;have x3:=hX1.cell 3 _ rfl;have x4:=hX1.cell 4 _ rfl;have x5:=hX1.cell 5 _ rfl;have hlt:=hX1.lt;clear hX1;go_wp2_with fail
   go_ret
   exact Yy (by decide) hbad.out HB1.out
 have q4:decide (g.points<1)=false:=by simpa using t4
 by_cases t5:g.points≤4096
 case neg=>
  have hbad:=Hd (λh:Gn.Vj2 g=>t5 h.points.2);have q5:decide (4096<g.points)=true:=by simpa using t5
  have cA:=λW=>cAll.out t0 t1 (by omega) W
  clear cAll t0 t1 t2 t3 t4 t5;unfold Jm Qt at*;as_aux_lemma=>
   go_enter func5,ntmps5
   go_upto_region 1 with fail
   rw [<-hW];clear hW;go_wp2_with fail
   with_reducible refine (cA _).mono ?_
   rintro e w1 ⟨rfl,hb1⟩;have HB1:=Ht HB hb1;have hX1:=HX.out.below hb1;clear hb1 x0 x1 x2 x3 x4 x5 hlt HX HB;have x2:=hX1.cell 2 _ rfl;have x3:=hX1.cell 3 _ rfl;have x4:=hX1.cell 4 _ rfl;have x5:=hX1.cell 5 _ rfl;have hlt:=hX1.lt;clear hX1;go_wp2_with fail
   go_ret
   exact Yy (by decide) hbad.out HB1.out
 have q5:decide (4096<g.points)=false:=by simpa using t5
 by_cases t6:(g.edges.length:Int)≤8192
 case neg=>
  have hbad:=Hd (λh:Gn.Vj2 g=>t6 (by have:=h.edges;omega));have q6:decide (8192<(g.edges.length:Int))=true:=by simpa using t6
  have cA:=λW=>cAll.out t0 t1 (by omega) W
  clear cAll t0 t1 t2 t3 t4 t5 t6;unfold Jm Qt at*;as_aux_lemma=>
   go_enter func5,ntmps5
   go_upto_region 1 with fail
   rw [<-hW];clear hW;go_wp2_with fail
   with_reducible refine (cA _).mono ?_
   rintro e w1 ⟨rfl,hb1⟩;have HB1:=Ht HB hb1;have hX1:=HX.out.below hb1;clear hb1 x0 x1 x2 x3 x4 x5 hlt HX HB;have x2:=hX1.cell 2 _ rfl;have x3:=hX1.cell 3 _ rfl;have x4:=hX1.cell 4 _ rfl;have x5:=hX1.cell 5 _ rfl;have hlt:=hX1.lt;clear hX1;go_wp2_with fail
   go_ret
   exact Yy (by decide) hbad.out HB1.out
 have q6:decide (8192<(g.edges.length:Int))=false:=by simpa using t6
 by_cases t7:(g.sizes.length:Int)≤16
 case neg=>
  have hbad:=Hd (λh:Gn.Vj2 g=>t7 (by have:=h.arrays;omega));have q7:decide (16<(g.sizes.length:Int))=true:=by simpa using t7
  have cA:=λW=>cAll.out t0 t1 (by omega) W
  clear cAll t0 t1 t2 t3 t4 t5 t6 t7;unfold Jm Qt at*;as_aux_lemma=>
   go_enter func5,ntmps5
   go_upto_region 1 with fail
   rw [<-hW];clear hW;go_wp2_with fail
   with_reducible refine (cA _).mono ?_
   rintro e w1 ⟨rfl,hb1⟩;have HB1:=Ht HB hb1;have hX1:=HX.out.below hb1;clear hb1 x0 x1 x2 x3 x4 x5 hlt HX HB;have x2:=hX1.cell 2 _ rfl;have x3:=hX1.cell 3 _ rfl;have x4:=hX1.cell 4 _ rfl;have x5:=hX1.cell 5 _ rfl;have hlt:=hX1.lt;clear hX1;go_wp2_with fail
   go_ret
   exact Yy (by decide) hbad.out HB1.out
 have q7:decide (16<(g.sizes.length:Int))=false:=by simpa using t7
 by_cases t8:0≤g.exit
 case neg=>
  have hbad:=Hd (λh:Gn.Vj2 g=>t8 h.exit.1);have q8:decide (g.exit<0)=true:=by simpa using t8
  have cA:=λW=>cAll.out t0 t1 (by omega) W
  clear cAll t0 t1 t2 t3 t4 t5 t6 t7 t8;unfold Jm Qt at*;as_aux_lemma=>
   go_enter func5,ntmps5
   go_upto_region 1 with fail
   rw [<-hW];clear hW;go_wp2_with fail
   with_reducible refine (cA _).mono ?_
   rintro e w1 ⟨rfl,hb1⟩;have HB1:=Ht HB hb1;have hX1:=HX.out.below hb1;clear hb1 x0 x1 x2 x3 x4 x5 hlt HX HB;have x2:=hX1.cell 2 _ rfl;have x3:=hX1.cell 3 _ rfl;have x4:=hX1.cell 4 _ rfl;have x5:=hX1.cell 5 _ rfl;have hlt:=hX1.lt;clear hX1;go_wp2_with fail
   go_ret
   exact Yy (by decide) hbad.out HB1.out
 have q8:decide (g.exit<0)=false:=by simpa using t8
 by_cases t9:g.exit<g.points
 case neg=>
  have hbad:=Hd (λh:Gn.Vj2 g=>t9 h.exit.2);have q9:decide (g.points≤g.exit)=true:=by simpa using t9
  have cA:=λW=>cAll.out t0 t1 (by omega) W
  clear cAll t0 t1 t2 t3 t4 t5 t6 t7 t8 t9;unfold Jm Qt at*;as_aux_lemma=>
   go_enter func5,ntmps5
   go_upto_region 1 with fail
   rw [<-hW];clear hW;go_wp2_with fail
   with_reducible refine (cA _).mono ?_
   rintro e w1 ⟨rfl,hb1⟩;have HB1:=Ht HB hb1;have hX1:=HX.out.below hb1;clear hb1 x0 x1 x2 x3 x4 x5 hlt HX HB;have x2:=hX1.cell 2 _ rfl;have x3:=hX1.cell 3 _ rfl;have x4:=hX1.cell 4 _ rfl;have x5:=hX1.cell 5 _ rfl;have hlt:=hX1.lt;clear hX1;go_wp2_with fail
   go_ret
   exact Yy (by decide) hbad.out HB1.out
 have q9:decide (g.points≤g.exit)=false:=by simpa using t9
 exact Ii m g w HG0.out ⟨⟨t0,t1⟩,t3,⟨t4,t5⟩,by omega,by omega,t8,t9⟩
end
