/- Lemmas for wholeNotEmpty; no conditions. -/
import Derived.Test.YtpggdkenajfjjaaGreatDoorGbf
import Derived.Deep.DeepCutAuto
set_option linter.all false
set_option maxRecDepth 100000
set_option maxHeartbeats 16000000
namespace Go.Proofs.YtpggdkenajfjjaaGreatDoor
open Go.RowKit Tryz
open Go.Lib renaming hid → Hd
section
open Gn
theorem Zk7 (N:Int) (A:Option Addr) (c:Nat) (x:List Int) (b:Nat) (w:World) (h:w.cell? ⟨b,0,none⟩=some (.int .i64 N)) (hx:(x.length:Int)≤9223372036854775807):
 Calls prog 171 #[.slice A x.length c,.pointer (some ⟨b,0,none⟩)] w λe w'=>e=.returned (.bool ((x.length:Int)!=N))∧w'=w:=by
 go_enter func171,ntmps171
 go_wp2_with fail
 go_ret
 exact ⟨rfl,rfl⟩
theorem Jq2 (N:Int) (A:Option Addr) (c:Nat) (ls:List Rp) (b:Nat) (w:World) (hb:w.cell? ⟨b,0,none⟩=some (.int .i64 N)) (hr:Wv w w.heap.size A ls) (hl:(ls.length:Int)≤9223372036854775807):
 Calls prog 237 #[.slice A ls.length c,.func (.func 171) #[] #[.pointer (some ⟨b,0,none⟩)]] w λe w'=>∃k:Int,e=.returned (.int .i64 k)∧Below w.heap.size w w'∧Hid (0≤k↔Ih N ls=true):=by
 have HR:=Hd hr;clear hr;go_enter func237,ntmps237
 go_wp2_with fail
 go_loopw [8] (λs wr=>∃i:Nat,s=.int .i64 i∧i≤ls.length∧Hid (∀j,j<i->((Yq ls j).x.length:Int)=N)∧w=wr) (λs _=>ls.length - (intOf s).toNat)
 case atStart=>exact ⟨0,rfl,by omega,Hd (λ_ h=>absurd h (by omega)),rfl⟩
 case round=>
  obtain ⟨i,rfl,_,HK,rfl⟩:=hrel;rcases ZJ i ls.length with hlt|hge
  .have di:decide ((i:Int)<(ls.length:Int))=true:=ZE (by omega);have:(i:Int)<(ls.length:Int):=by omega
   obtain ⟨_,_,rfl,_,hx⟩:=HR.out (by omega);obtain ⟨hc,_,_,hxl⟩:=hx i hlt;have cB:=Zk7 N (Yq ls i).A (Yq ls i).c (Yq ls i).x b w hb hxl;have HB:=Hd (show ((Yq ls i).x.length:Int)≠N->Ih N ls=true from Zf3 hlt);clear hx hxl;by_cases hne:((Yq ls i).x.length:Int)=N
   .have hd:(((Yq ls i).x.length:Int)!=N)=false:=bne_eq_false_iff_eq.2 hne;rw [hd] at cB;have HL:=Hd hne;clear hne hd HB;generalize (Yq ls i).x.length=Ln at hc cB;generalize (Yq ls i).A=Ai at hc cB;generalize (Yq ls i).c=ci at hc cB;go_wp2_with (go_at_call 171;with_reducible refine cB.mono ?_;rintro e w' ⟨rfl,rfl⟩)
    go_roundw
    case rel=>exact ⟨i+1,by go_num,by omega,Hd (λj hj=>by
     rcases ZJ j i with h|h
     .exact HK.out j h
     obtain rfl:j=i:=by omega
     exact HL.out),trivial⟩
    simp [intOf];omega
   have hd:(((Yq ls i).x.length:Int)!=N)=true:=bne_iff_ne.2 hne;rw [hd] at cB;have HF:=Hd (show (0:Int)≤(i:Int)↔Ih N ls=true from ⟨λ_=>HB.out hne,λ_=>by omega⟩);clear hne hd HB;generalize (Yq ls i).x.length=Ln at hc cB;generalize (Yq ls i).A=Ai at hc cB;generalize (Yq ls i).c=ci at hc cB;go_wp2_with (go_at_call 171;with_reducible refine cB.mono ?_;rintro e w' ⟨rfl,rfl⟩)
   go_ret
   exact ⟨_,rfl,QK _ _,HF⟩
  obtain rfl:i=ls.length:=by omega
  have di:decide ((ls.length:Int)<(ls.length:Int))=false:=ZA (by omega);have HF:=Hd (show (0:Int)≤-1↔Ih N ls=true by rw [Zr8 HK.out];exact ⟨λh=>absurd h (by omega),λh=>by cases h⟩);go_wp2_with fail
  go_ret
  exact ⟨_,rfl,QK _ _,HF⟩
theorem Qe4 (N:Int) (A:Option Addr) (c:Nat) (ls:List Rp) (b:Nat) (w:World) (hb:w.cell? ⟨b,0,none⟩=some (.int .i64 N)) (hr:Wv w w.heap.size A ls) (hl:(ls.length:Int)≤9223372036854775807):
 Calls prog 170 #[.slice A ls.length c,.func (.func 171) #[] #[.pointer (some ⟨b,0,none⟩)]] w λe w'=>e=.returned (.bool (Ih N ls))∧Below w.heap.size w w':=by
 have cI:=Jq2 N A c ls b w hb hr hl;clear hr;go_enter func170,ntmps170
 go_wp2_with fail
 with_reducible refine cI.mono ?_
 clear cI;rintro e w' ⟨k,rfl,hb',HF⟩;have HB:=Hd hb';clear hb';by_cases hk:0≤k
 .have hd:decide (k≥0)=true:=ZE hk;have HT:=Hd (HF.out.1 hk);clear HF hk;go_wp2_with fail
  go_ret
  exact ⟨by rw [HT.out];rfl,HB.out⟩
 .have hd:decide (k≥0)=false:=ZA hk;have HT:=Hd (show Ih N ls=false from Bool.eq_false_iff.2 (λh=>hk (HF.out.2 h)));clear HF hk;go_wp2_with fail
  go_ret
  exact ⟨by rw [HT.out];rfl,HB.out⟩
structure Pq (w:World) (N:Int) (W:World):Prop where
 n0:W.cell? ⟨w.heap.size,0,none⟩=some (.int .i64 N)
 res:Vc W (w.heap.size+1) 0 false (.slice none 0 0)
 below:Below w.heap.size w W
 size:w.heap.size+2≤W.heap.size
theorem Pq.go {w W W':World} {N:Int} (h:Pq w N W) (hb:Below W.heap.size W W'):Pq w N W':=
 ⟨Qq hb h.n0,h.res.below hb,h.below.trans (hb.mono h.below.size),ZO h.size hb.size⟩
structure Pg (w:World) (N:Int) (b base g q:Nat) (X:List Int) (W:World):Prop where
 pq:Pq w N W
 box:Jy W b N false (.slice (some ⟨g,0,none⟩) q q)
 row:Ow W base 2 .i64 (some ⟨g,0,none⟩) q X
 len:X.length=q
 ne:b≠g
 hb:w.heap.size+2≤base
theorem Pg.go {w W W':World} {N:Int} {b base g q:Nat} {X:List Int} (h:Pg w N b base g q X W) (hb:Below W.heap.size W W'):Pg w N b base g q X W':=
 ⟨h.pq.go hb,h.box.below hb,h.row.below hb,h.len,h.ne,h.hb⟩
theorem Pg.set {w W:World} {N:Int} {b base g q:Nat} {X:List Int} (h:Pg w N b base g q X W) (p:Nat) (u:Int):Pg w N b base g q (X.set p u) (W.setCell ⟨g,p,none⟩ (.int .i64 u)):=by
 have hg:=Qv (QN W (some g)) (p:=⟨g,p,none⟩) (.inl rfl) (.int .i64 u);have:=h.row.blockGe.1;have:=h.hb;refine ⟨⟨Qy hg h.pq.n0 (by simp;omega),h.pq.res.only hg (by omega),h.pq.below.setCell (by simp;omega) _,?_⟩,h.box.only hg h.ne,h.row.set' p u,by rw [QJ];exact h.len,h.ne,h.hb⟩;exact ZO h.pq.size hg.size
def Jc9 (w:World) (P:Int×Bool×List Int) (p:Int) (e:Ending) (w':World):Prop:=
 ∃A c,e=.returned (.tuple #[.agg #[.int .i64 P.1,.bool P.2.1,.slice A P.2.2.length c],.int .i64 p])∧Ow w' w.heap.size 2 .i64 A c P.2.2∧Below w.heap.size w w'
theorem Ow.lay3 {w:World} {B b:Nat} {A:Option Addr} {c:Nat} {X:List Int} (h:Ow w B 2 .i64 A c X) (hb:b<B) (u0 u1 u2:Value):Ow (((w.setCell ⟨b,0,none⟩ u0).setCell ⟨b,1,none⟩ u1).setCell ⟨b,2,none⟩ u2) B 2 .i64 A c X:=
 ((h.low (p:=⟨b,0,none⟩) hb u0).low (p:=⟨b,1,none⟩) hb u1).low (p:=⟨b,2,none⟩) hb u2
theorem Vc.fin {w0 w:World} {b:Nat} {N:Int} {E:Bool} {v:Value} (h:Vc w b N E v) (hB:Below w0.heap.size w0 w) (hb:w0.heap.size≤b) (N':Int) (E':Bool) (v':Value):
 Jy (((w.setCell ⟨b,0,none⟩ (.int .i64 N')).setCell ⟨b,1,none⟩ (.bool E')).setCell ⟨b,2,none⟩ v') b N' E' v'∧Below w0.heap.size w0 (((w.setCell ⟨b,0,none⟩ (.int .i64 N')).setCell ⟨b,1,none⟩ (.bool E')).setCell ⟨b,2,none⟩ v'):=
 ⟨(h.put N' E' v').1.box,((hB.setCell hb _).setCell hb _).setCell hb _⟩
theorem Zy7 (N:Int) (A:Option Addr) (c:Nat) (ls:List Rp) (w:World) (hr:Wv w w.heap.size A ls) (hl:(ls.length:Int)≤1000000) (hNi:Zu N) (p:Int) (hp:Sb N ls=p) (R:Int×Bool×List Int) (hR:To N ls=R):
 Calls prog 120 #[.int .i64 N,.slice A ls.length c] w (Jc9 w R p):=by
 obtain ⟨W,hW⟩:∃W,W=(w.alloc (.cells #[.int .i64 N] 3)).alloc (.cells #[.int .i64 0,.bool false,.slice none 0 0] 32):=⟨_,rfl⟩;have hs:W.heap.size=w.heap.size+2:=by rw [hW];simp
 have hB:Below w.heap.size w W:=by rw [hW];exact ((QK _ _).alloc (ZH _) _).alloc (by simp) _
 have n0:W.cell? ⟨w.heap.size,0,none⟩=some (.int .i64 N):=by rw [hW];simp [go_sem]
 have hX:Vc W (w.heap.size+1) 0 false (.slice none 0 0):=by
  rw [hW];have:=Vc.new (w.alloc (.cells #[.int .i64 N] 3)) 32 0 false (.slice none 0 0)
  rwa [show (w.alloc (.cells #[.int .i64 N] 3)).heap.size=w.heap.size+1 by simp] at this
 have hQ:Pq w N W:=⟨n0,hX,hB,by omega⟩;have HRl:=Hd hr;have hrW:Wv W W.heap.size A ls:=λhn=>by
  obtain ⟨b,off,e,_,hx⟩:=(hr.below hB) hn;refine ⟨b,off,e,by omega,λi hi=>?_⟩;obtain ⟨h1,h2,h3,h4⟩:=hx i hi;exact ⟨h1,h2.more hB.size,h3,h4⟩
 have cR:=λX=>Bl N X
 have cB:=Qe4 N A c ls w.heap.size W n0 hrW (by omega);have HP:=Hd hp;have HR:=Hd hR;obtain ⟨bb,hbb⟩:∃bb,bb=Ih N ls:=⟨_,rfl⟩;have HBb:=Hd hbb;rw [<-hbb] at cB;clear hp hR hr hrW hbb hB hX hs;go_enter func120,ntmps120
 rw [hW] at n0;by_cases hN:0≤N∧N≤64
 .rw [ZE hN] at cR;obtain ⟨n,rfl⟩:=ZV hN.1;have hn:n≤64:=by omega
  clear hN;go_wp2_with (go_at_call 71;with_reducible refine (cR _).mono ?_;rintro e w' ⟨rfl,rfl⟩)
  rw [<-hW];rw [<-hW] at n0;clear hW;with_reducible refine cB.mono ?_
  clear cB cR;rintro e w1 ⟨rfl,hb1⟩;have hQ1:=hQ.go hb1;clear hQ hb1 n0;have n0:=hQ1.n0;rcases bb with _|_
  .have hE:p=0:=by rw [<-HP.out];unfold Sb;rw [<-HBb.out,ZL (by simp;omega)]
   have hR2:R=Lb n ls:=by rw [<-HR.out];unfold To;rw [HP.out,ZM hE];rfl
   subst hE;have HR2:=Hd hR2;clear HP HR hR2;by_cases h0:ls.length=0
   .have hR3:R=((n:Int),true,[]):=by rw [HR2.out];unfold Lb;rw [ZM h0]
    subst hR3;have hd:((ls.length:Int)==0)=true:=by rw [h0];rfl
    have cE:=Rv n w1 hn;clear HR2 HBb HRl;have h00:=Hd h0;clear h0;go_wp2_with fail
    refine cE.mono ?_;clear cE;rintro e w2 ⟨rfl,hb2⟩;have hQ2:=hQ1.go hb2;have hs2:=hQ2.size;clear hQ1 n0 hb2;obtain ⟨⟨r0,r1,r2⟩,fr⟩:=id hQ2.res;have hS:=Hd (hQ2.res.fin hQ2.below (by omega) n true (.slice none 0 0));have hO:=Hd ((Ow.nil w2 (w.heap.size+2) 2 .i64).lay3 (b:=w.heap.size+1) (by omega) (.int .i64 n) (.bool true) (.slice none 0 0));clear hQ2;go_wp2_with fail
    obtain ⟨⟨s0,s1,s2⟩,hB3⟩:=hS.out;exact QL (v:=.tuple #[.agg #[.int .i64 n,.bool true,.slice none 0 0],.int .i64 0]) (by simp [results,results120,go_sem,r0,r1,r2]) rfl ⟨none,0,rfl,hO.out.lower (by omega),hB3⟩
   have hd:((ls.length:Int)==0)=false:=beq_eq_false_iff_ne.2 (by omega);have hR3:=Hd (show R=((n:Int),false,Qe3 (2*n) (Uw ls)) by rw [HR2.out];unfold Lb;rw [ZL h0]);have hpos:0<ls.length:=by omega
   have HPos:=Hd hpos;have cT:=Qe7 n w1 hn;clear HR2 h0 hpos;go_wp2_with fail
   refine cT.mono ?_;clear cT;rintro e w2 ⟨g,M,hM,rfl,ho2,hb2⟩;have hMl:M.length=(2*n)*(2*n):=by rw [hM,Qo2]
   have hq:M.length≤16384:=by rw [hMl,Bz];exact Sc hn
   clear hM;obtain ⟨w3,hw3⟩:∃w3,w3=w2.alloc (.cells #[.int .i64 n,.bool false,.slice (some ⟨g,0,none⟩) M.length M.length] 32):=⟨_,rfl⟩;have hb3:Below w1.heap.size w1 w3:=by rw [hw3];exact hb2.alloc hb2.size _
   have hgl:=ho2.blockGe.2;have hP3:Pg w n w2.heap.size w1.heap.size g M.length M w3:=⟨hQ1.go hb3,by rw [hw3];exact Jy.box _ _ _ _ _,by rw [hw3];exact ho2.alloc _,rfl,by omega,hQ1.size⟩;have n3:=hP3.pq.n0;rw [hw3] at n3;have HMl:=Hd hMl;clear hQ1 n0 ho2 hb2 hb3 hgl hMl;go_wp2_with fail
   rw [<-hw3];clear hw3 n3;generalize w2.heap.size=bO at*;generalize w1.heap.size=e1 at*;generalize hqq:M.length=q at*;have HQ:=Hd hqq;clear hqq;have HLq:=Hd (show q=(2*n)*(2*n) from HMl.out);go_loopw [36] (λs wr=>∃i:Nat,s=.int .i64 i∧i≤2*n∧∃X:List Int,Hid (X=fI (2*n) (Uw ls) i M)∧Pg w n bO e1 g q X wr) (λs _=>2*n - (intOf s).toNat)
   case atStart=>exact ⟨0,rfl,by omega,M,Hd rfl,hP3⟩
   obtain ⟨i,rfl,hi,X,HX,hS⟩:=hrel;clear hP3;have n0:=hS.pq.n0;rcases ZJ i (2*n) with hit|hige
   .have di:decide ((i:Int)<2*(n:Int))=true:=ZE (by omega);go_wp2_with fail
    go_loopw [41] (λs wr=>∃j:Nat,s=.int .i64 j∧j≤2*n∧∃Y:List Int,Hid (Y=fJ (2*n) (Uw ls) i j X)∧Pg w n bO e1 g q Y wr) (λs _=>2*n - (intOf s).toNat)
    case atStart=>exact ⟨0,rfl,by omega,X,Hd rfl,hS⟩
    clear hS n0;obtain ⟨j,rfl,_,Y,HY,hS⟩:=hrel;have n0:=hS.pq.n0;rcases ZJ j (2*n) with hjt|hjge
    .have dj:decide ((j:Int)<2*(n:Int))=true:=ZE (by omega);have hlen:(ls.length:Int)≤1000000:=hl;have hb0:Uw (ls.take 0) i j=-4611686018427387904:=rfl;go_wp2_with fail
     clear n0;go_loopw [46,10] (λs m wr=>∃k:Nat,s=.int .i64 k∧k≤ls.length∧m=.int .i64 (Uw (ls.take k) i j)∧Pg w n bO e1 g q Y wr) (λs _ _=>ls.length - (intOf s).toNat)
     case atStart=>exact ⟨0,rfl,by omega,by rw [hb0],hS⟩
     obtain ⟨k,rfl,_,hm,hS⟩:=hrel;subst hm;have n0:=hS.pq.n0;rcases ZJ k ls.length with hkt|hkge
     .have dk:decide ((k:Int)<(ls.length:Int))=true:=ZE (by omega);have q1:(k:Int)<(ls.length:Int):=by omega
      obtain ⟨_,off,rfl,hgl,hx⟩:=(HRl.out.below hS.pq.below) HPos.out;obtain ⟨hc,hrd,hxi,hxl⟩:=hx k hkt;have hxn:(Yq ls k).x.length=n:=by have:=Zz9 HBb.out.symm hkt;omega
      have hi2:i / 2<(Yq ls k).x.length:=by omega
      have hj2:j / 2<(Yq ls k).x.length:=by omega
      have cA:=Jk7 (Yq ls k).A (Yq ls k).c (Yq ls k).x i j wr (hrd.more (by have:=hS.pq.size;omega)) hxi hi2 hj2 hxl (by omega) (by omega);have cC:=λX=>Zu6 (Qc (Yq ls k).x i j) X (Za7 hxi hi2 hj2)
      have HM:=Hd (show Uw (ls.take (k+1)) i j=if Uw (ls.take k) i j<Nx (Qc (Yq ls k).x i j) then Nx (Qc (Yq ls k).x i j) else Uw (ls.take k) i j by rw [Zy9 hkt];split<;>omega);clear hx hrd hxi hxl hxn hi2 hj2;generalize Uw (ls.take k) i j=m0 at*;generalize Nx (Qc (Yq ls k).x i j)=c0 at*;generalize (Ay (Qc (Yq ls k).x i j))=ah at*;generalize (Wm (Qc (Yq ls k).x i j))=al at*;generalize (Yq ls k).x.length=Ln at*;generalize (Yq ls k).A=Ai at*;generalize (Yq ls k).c=ci at*;go_wp2_with fail
      refine cA.mono ?_;clear cA;rintro e _ ⟨rfl,hb5⟩;have hS5:=hS.go hb5;clear hS hb5 n0 hc;go_wp2_with fail
      refine (cC _).mono ?_;clear cC;rintro e w6 ⟨rfl,hb6⟩;have hS6:=Hd (hS5.go hb6);clear hS5 hb6;by_cases hmc:m0<c0
      focus
       have HM2:=Hd (show Uw (ls.take (k+1)) i j=c0 by rw [HM.out,ZM hmc])
      rotate_left
      focus
       have HM2:=Hd (show Uw (ls.take (k+1)) i j=m0 by rw [HM.out,ZL hmc])
      all_goals
       clear HM;go_wp2_with fail
       go_roundw
       case rel=>exact ⟨k+1,by go_num,by omega,by rw [HM2.out],hS6.out⟩
       case measure=>simp [intOf];omega
     obtain rfl:k=ls.length:=by omega
     have dk:decide ((ls.length:Int)<(ls.length:Int))=false:=ZA (by omega);have hp1:i*(2*n)+j<q:=by rw [HLq.out];exact Zy hit hjt
     have hst:=Hd (show fJ (2*n) (Uw ls) i (j+1) X=Y.set (i*(2*n)+j) (Uw (ls.take ls.length) i j) by rw [List.take_length,HY.out];rfl);have cAt:=λW=>Wx i j n W (by omega) (by omega) (by omega)
     have hYl:=Hd hS.len;generalize Uw (ls.take ls.length) i j=bv at*;generalize i*(2*n)+j=pp at*;have q1:(pp:Int)<(q:Int):=by omega
     have k2:=hS.box.c2;go_upto_region 18 with fail
     have a0:=Qz.cell n0;have a1:=Qz.cell k2;refine Qb [(8,2)] (by kernel_rfl) (by kernel_rfl) ?_;simp only [Jl,ZP,ZQ,ZR,ZT]
     repeat (go_big_quiet_step ((go_at_call 72;with_reducible exact Qd (cAt _))))
     refine wpQuiet_nil ?_;intro w6 hb6;have hS6:=hS.go hb6;have kk:=hS6.row.cellAt (i:=pp) (by rw [hYl.out];exact hp1);have kf:=hS6.row.frozenAt pp;have hP:=Hd (hS6.set pp bv);clear hS hS6 hb6 a0 a1 n0 k2 cAt;go_wp2_with fail
     refine Qu (wpQuiet_nil ?_);intro w8 hb8;have hS8:=Hd (hP.out.go hb8);clear hP hb8 kk kf;go_wp2_with fail
     go_roundw
     case rel=>exact ⟨j+1,by go_num,by omega,_,Hd hst.out.symm,hS8.out⟩
     simp [intOf];omega
    obtain rfl:j=2*n:=by omega
    go_wp2_with fail
    go_roundw
    case rel=>exact ⟨i+1,by go_num,by omega,Y,Hd (by rw [HY.out,HX.out];rfl),hS⟩
    simp [intOf];omega
   have hii:i=2*n:=by omega
   have dk:decide ((i:Int)<2*(n:Int))=false:=ZA (by omega);have hX2:=Hd (show X=Qe3 (2*n) (Uw ls) by rw [HX.out,hii];exact Ve6 (HQ.out.trans HLq.out));clear HX hii;have hXl:=Hd hS.len;have hs2:=hS.pq.size;have hhb:=hS.hb;obtain ⟨_,_,k2⟩:=id hS.box;obtain ⟨⟨r0,r1,r2⟩,fr⟩:=id hS.pq.res;have hF:=Hd (hS.pq.res.fin hS.pq.below (by omega) n false (.slice (some ⟨g,0,none⟩) q q));have hO:=Hd (hS.row.lay3 (b:=w.heap.size+1) (by omega) (.int .i64 n) (.bool false) (.slice (some ⟨g,0,none⟩) q q));clear hS;go_wp2_with fail
   obtain ⟨⟨s0,s1,s2⟩,hB3⟩:=hF.out;refine QL (v:=.tuple #[.agg #[.int .i64 n,.bool false,.slice (some ⟨g,0,none⟩) q q],.int .i64 0]) (by simp [results,results120,go_sem,r0,r1,r2]) rfl ?_;rw [hR3.out,<-hX2.out];exact ⟨some ⟨g,0,none⟩,q,by rw [hXl.out],hO.out.lower (by omega),hB3⟩
  have hE:p=120:=by rw [<-HP.out];unfold Sb;rw [<-HBb.out,ZM (.inr rfl)]
  have hR2:R=(0,false,[]):=by rw [<-HR.out];unfold To;rw [HP.out,ZL (by omega)]
  subst hE hR2;clear HP HR HBb HRl;have hs2:=hQ1.size;obtain ⟨⟨r0,r1,r2⟩,fr⟩:=id hQ1.res;have hS:=Hd (hQ1.res.fin hQ1.below (by omega) 0 false (.slice none 0 0));have hO:=Hd ((Ow.nil w1 (w.heap.size+2) 2 .i64).lay3 (b:=w.heap.size+1) (by omega) (.int .i64 0) (.bool false) (.slice none 0 0));clear hQ1;go_wp2_with fail
  obtain ⟨⟨s0,s1,s2⟩,hB3⟩:=hS.out;exact QL (v:=.tuple #[.agg #[.int .i64 0,.bool false,.slice none 0 0],.int .i64 120]) (by simp [results,results120,go_sem,r0,r1,r2]) rfl ⟨none,0,rfl,hO.out.lower (by omega),hB3⟩
 .rw [ZA hN] at cR;have hE:p=120:=by rw [<-HP.out];unfold Sb;rw [ZM (.inl (by omega))]
  have hR2:R=(0,false,[]):=by rw [<-HR.out];unfold To;rw [HP.out,ZL (by omega)]
  subst hE hR2;clear HP HR HBb HRl hN cB;have hs2:=hQ.size;obtain ⟨⟨r0,r1,r2⟩,fr⟩:=id hQ.res;have hS:=Hd (hQ.res.fin hQ.below (by omega) 0 false (.slice none 0 0));have hO:=Hd ((Ow.nil W (w.heap.size+2) 2 .i64).lay3 (b:=w.heap.size+1) (by omega) (.int .i64 0) (.bool false) (.slice none 0 0));clear hQ;go_upto_region 2 with (go_at_call 71;with_reducible refine (cR _).mono ?_;rintro e w' ⟨rfl,rfl⟩)
  rw [<-hW];clear hW n0;go_wp2_with fail
  obtain ⟨⟨s0,s1,s2⟩,hB3⟩:=hS.out;exact QL (v:=.tuple #[.agg #[.int .i64 0,.bool false,.slice none 0 0],.int .i64 120]) (by simp [results,results120,go_sem,r0,r1,r2]) rfl ⟨none,0,rfl,hO.out.lower (by omega),hB3⟩
end
