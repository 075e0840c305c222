/- Lemmas for wholeNotEmpty; no conditions. -/
import Derived.Test.YtpggdkenajfjjaaGreatDoorGbz
import Derived.Test.YtpggdkenajfjjaaGreatDoorGbi
import Derived.Test.YtpggdkenajfjjaaGreatDoorGbs
set_option linter.all false
set_option maxRecDepth 100000
set_option maxHeartbeats 16000000
namespace Go.Proofs.YtpggdkenajfjjaaGreatDoor
open Go.RowKit Tryz
open Go.Lib renaming hid → Hd
section
open Gn
def atO (k:Int):OC:=⟨1,false,[0,2*k,-2*k,0]⟩
def Dz (k:Int):List OC:=[atO 0,atO k]
def ovK (k:Int):List Zj:=[(1,false,[0,0,0,0]),(1,false,[0,2*k,-2*k,0])]
theorem Vn9:(Mj Ue 1 (Dz 1)).2=0:=by decide+kernel
theorem Vp2:(Mj Ue 1 (Dz 2)).2=0:=by decide+kernel
theorem Vp1:Vr6 (Mj Ue 1 (Dz 1)).1=.ok (Ue,1,Dz 1) []:=by kernel_rfl
theorem Vn6:Vr6 (Mj Ue 1 (Dz 2)).1=.ok (Ue,1,Dz 2) []:=by kernel_rfl
theorem Vi1 (k:Int):Im (Uy 1) (Qo (Vg (ovK k) 0))=true:=by
 show Im (Uy 1) (Qo (1,false,[0,0,0,0]))=true
 decide+kernel
theorem Vn4:Ez ((ovK 1).map Qo) Fp=true:=by decide+kernel
theorem Vi9:Ez ((ovK 2).map Qo) Fp=false:=by decide+kernel
theorem Zt8:Gn.Vj2 Ag:=by
 refine ⟨by decide,by decide,by decide,by decide,by decide,by decide,λs hs=>(by cases hs),?_,?_⟩
 .intro e he;obtain rfl:e=Fp:=by simpa [Ag] using he
  decide
 intro p hp;have hp:(p:Int)<2:=hp;rcases (show p=0∨p=1 by omega) with rfl|rfl<;>decide
theorem Vo5 (w:World) (a b c d:Int) (t:TypeId):∃V,V=w.alloc (.cells #[.int .i64 a,.int .i64 b,.int .i64 c,.int .i64 d] t)∧Rd V V.heap.size .i64 (some ⟨w.heap.size,0,none⟩) 4 (Qe [a,b,c,d])∧Below w.heap.size w V∧V.heap.size=w.heap.size+1:=by
 obtain ⟨V,hV,hX,hB,hs⟩:=Zk w [.int .i64 a,.int .i64 b,.int .i64 c,.int .i64 d] t;refine ⟨V,hV,λ_=>⟨w.heap.size,0,rfl,by omega,λi hi=>?_⟩,hB,hs⟩;rcases (show i=0∨i=1∨i=2∨i=3 by omega) with rfl|rfl|rfl|rfl
 .exact hX.bx.cell 0 _ rfl
 .exact hX.bx.cell 1 _ rfl
 .exact hX.bx.cell 2 _ rfl
 exact hX.bx.cell 3 _ rfl
theorem Qb6 {k:Int} (hk:k=0∨k=1∨k=2):Je 1 false [0,2*k,-2*k,0]=0:=by
 rcases hk with rfl|rfl|rfl<;>decide
theorem Ve2 (k:Int) (hk:k=0∨k=1∨k=2) (w:World):Calls prog 15 #[.int .i64 k] w λe w'=>∃A,e=.returned (.agg #[.int .i64 1,.bool false,.slice A 4 4])∧Qi w' A 4 (1,false,[0,2*k,-2*k,0])∧Below w.heap.size w w':=by
 obtain ⟨W,hW,hZ,hB,hs⟩:=Zk w Jj 32;obtain ⟨U,hU⟩:∃U,U=Qm W w.heap.size 0 [.int .i64 1,.bool false,.slice (some ⟨W.heap.size,0,none⟩) 4 4]:=⟨_,rfl⟩;have hUx:Xb U w.heap.size [.int .i64 1,.bool false,.slice (some ⟨W.heap.size,0,none⟩) 4 4]:=by rw [hU];exact hZ.put rfl
 have hUs:U.heap.size=W.heap.size:=by rw [hU];simp [Qm]
 have hUB:Below w.heap.size w U:=by rw [hU];exact Qn (ZH _) _ 0 _ hB
 obtain ⟨V,hV,hR,hBV,hsV⟩:=Vo5 U 0 (2*k) (-2*k) 0 2;rw [hUs] at hR;have:IntKind.i64.wrap (2*k)=2*k:=QQ _ (by omega);have:IntKind.i64.wrap (-2*k)=-2*k:=QQ _ (by omega);have hO:Qi V (some ⟨W.heap.size,0,none⟩) 4 (1,false,[0,2*k,-2*k,0]):=⟨⟨by unfold Zu;omega,hR,Td (Qb6 hk),(by show 4≤4;omega),(by show 4≤maxLen;unfold maxLen;omega)⟩,Qb6 hk⟩;have hVx:=hUx.go hBV;have HO:=Hd hO;obtain ⟨_,_,_⟩:=hZ.bx.c2;have:=hZ.bx.fr;have:=hZ.bx.lt;have HVx:=Hd hVx;have HB:=Hd (hUB.trans (hBV.mono hUB.size));simp only [Qm] at hU;rw [hU] at hV;have HV:=Hd hV;unfold Jj at hW;clear hZ hB hR hBV hsV hO hs hk hV hU hUx hUs hUB hVx;go_enter func15,ntmps15
 go_upto_region 1 with fail
 rw [<-hW];clear hW;go_wp2_with fail
 rw [<-HV.out];obtain ⟨k0,k2,k3⟩:=HVx.out.bx.c2;exact QL (v:=.agg #[.int .i64 1,.bool false,.slice (some ⟨W.heap.size,0,none⟩) 4 4]) (by simp [results,results15,go_sem,k0,k2,k3]) rfl ⟨_,rfl,HO.out,HB.out⟩
theorem Vf4 {k:Int} (w:World) (g c:Nat) (A B:Option Addr) (hl:g<w.heap.size) (hc:∀i u,([.int .i64 1,.bool false,.slice A 4 4,.int .i64 1,.bool false,.slice B 4 4]:List Value)[i]? =some u->w.cell? ⟨g,i,none⟩=some u)
 (hA:Qi w A 4 (1,false,[0,2*0,-2*0,0])) (hB:Qi w B 4 (1,false,[0,2*k,-2*k,0])):Ud w (some ⟨g,0,none⟩) (Dz k):=λ_=>by
 refine ⟨g,0,rfl,hl,λi hi=>?_⟩;have hi:i<2:=hi;rcases (show i=0∨i=1 by omega) with rfl|rfl
 .exact ⟨A,4,hc 0 _ rfl,hc 1 _ rfl,hc 2 _ rfl,hA.oi⟩
 .exact ⟨B,4,hc 3 _ rfl,hc 4 _ rfl,hc 5 _ rfl,hB.oi⟩
theorem Iw (k:Int) (hk:(Mj Ue 1 (Dz k)).2=0) (g:Nat) (w:World) (h:Ud w (some ⟨g,0,none⟩) (Dz k)):
 Calls prog 14 #[.string Jz,.slice (some ⟨g,0,none⟩) 2 2] w λe w'=>∃A c,e=.returned (.slice A (Mj Ue 1 (Dz k)).1.length c)∧Ow w' w.heap.size 5 .u8 A c (Mj Ue 1 (Dz k)).1∧Below w.heap.size w w':=by
 obtain ⟨_,_,hb0,hl0,hc0⟩:=h (by show 0<2;omega);injection hb0 with hb0;injection hb0 with e1 e2;subst e1 e2;obtain ⟨_,_,c0,_⟩:=hc0 0 (by show 0<2;omega);have c0:w.cell? ⟨g,0,none⟩=some (.int .i64 1):=c0;have H:=Hd h;have cP:=Hi Is w;have hn:(Dz k).length=2:=rfl;have cE:=λ(w1:World) (h1:Ud w1 (some ⟨g,0,none⟩) (Dz k))=>Zq5 Ue 1 (some ⟨g,0,none⟩) 2 (Dz k) w1 h1 Zc3 (by unfold Zu;omega) (by rw [hn];omega)
 rw [hn] at cE;unfold Pc at cE;rw [hk] at cE;generalize (Mj Ue 1 (Dz k)).1=bs at*;clear h hc0 hk hn;go_enter func14,ntmps14
 go_upto_region 2 with (go_at_call 41;(with_reducible refine cP.mono ?_);rintro e1 w1 ⟨gd,cd,gb,cb,ge,ce,rfl,hpi,_,_,_,hb1⟩;unfold Wl;obtain ⟨W3,hW3,hX3,hY3,hB3,hs3⟩:=Vu w1 (Qs gd cd gb cb) 86 [.int .i64 0,.int .i64 0] 39;have HX3:=Hd hX3;have HP3:=Hd (hpi.go hB3);have HB3:=Hd (hb1.trans (hB3.mono hb1.size));unfold Qs at hW3;clear hb1 hX3 hY3 hB3 hpi hs3)
 rw [<-hW3];clear hW3;obtain ⟨y0,y1⟩:=HX3.out.bx.c1;have yl:=HX3.out.bx.lt;have cS:=Zg8 gd cd gb cb ge ce W3 HP3.out;unfold Wl at cS;go_upto_region 3 with (go_at_call 46;(with_reducible refine cS.mono ?_);rintro e1 w4 ⟨rfl,hb4⟩;have HB4:=Ht HB3 hb4;clear hb4)
 clear y0 y1 yl cS cP;have:=Qq HB4.out c0;have:g<w4.heap.size:=ZI hl0 HB4.out.size;have cE1:=cE w4 (H.out.go HB4.out);clear c0 hl0;go_wp2_with (go_at_call 47;(with_reducible refine cE1.mono ?_);rintro e1 _ ⟨A5,c5,rfl,ho5,hb5⟩;have HO5:=Hd ho5;have HB5:=Ht HB4 hb5;clear ho5 hb5)
 go_ret
 exact ⟨A5,c5,rfl,HO5.out.lower HB4.out.size,HB5.out⟩
theorem Zl4 (k:Int):Vg ((ovK k).map Qo) 0=Qo (1,false,[0,0,0,0]):=rfl
theorem Vh9:(Ym (Qo (1,false,[0,0,0,0])) Fp).1=1:=by decide+kernel
theorem Vm6:Ae (Qo (Qo (1,false,[0,0,0,0]))) Fp 0=true:=by decide+kernel
theorem Js3:(Qo (1,false,[0,0,0,0])).1=((1:Nat):Int):=by decide+kernel
theorem Zf6 (A1:Option Addr) (c1:Nat) (w1:World) (P:Zj) (hP:P.1=((1:Nat):Int)) (h:Qi w1 A1 c1 P):
 Calls prog 69 #[Qf P A1 c1,.agg (Qj Fp).toArray] w1 (Sq w1 (Ym P Fp)):=
 Qh5 1 P hP A1 c1 Fp 0 w1 h (by decide) (λA2 c2 w2 h2=>by
  have:=Qu7 1 (by omega) A2 c2 (Qo P).2.2 Fp w2 h2 rfl rfl (by decide) (by unfold nr;decide) (by unfold hf;decide)
  exact this)
def Ji8 (k:Int) (w:World) (e:Ending) (w':World):Prop:=∃ok why pt cost,e=.returned (.tuple #[vdV ok why pt cost,.int .i64 0])∧Below w.heap.size w w'∧((k=1∧ok=true)∨(k=2∧ok=false∧why=213))
theorem Vv1 (k:Int) (hk:k=1∨k=2) (m:GM) (A0:Option Addr) (c0:Nat) (w:World) (hG:Hg w m Ag) (hO:Ci w A0 (ovK k)):
 Calls prog 11 #[Jm m Ag,.slice A0 2 c0] w (Ji8 k w):=by
 have hi:∀i,i<Ag.edges.length->Qx Ag.edges i=Fp:=λi hi=>by
  obtain rfl:i=0:=by simpa [Ag] using hi
  rfl
 have hf:Fp.fr.toNat=0:=rfl;have hC:=Ha m Ag 1 (.inl rfl) rfl A0 c0 (ovK k) w hG (λh=>absurd h (by decide)) Zt8 hO rfl
  (λi hi=>by
   have hi:i<2:=hi;rcases (show i=0∨i=1 by omega) with rfl|rfl<;>rfl)
  (Vi1 k)
  (λi h=>by
   rw [hi i h,hf,Zl4];exact ⟨Vh9,λA1 c1 w1 h1=>Zf6 A1 c1 w1 _ Js3 h1⟩)
  (λ_ i h A1 c1 w1 h1=>by
   rw [hi i h,hf,Zl4] at h1 |-
   exact Ps 1 (by omega) _ Js3 A1 c1 Fp _ w1 h1 (.inr (.inl rfl)) (by decide) (by decide) (by unfold Zu;decide) (by unfold Zu;decide) Vm6 (λw2 h2=>Zf6 A1 c1 w2 _ Js3 h2))
 refine hC.mono ?_;rintro _ _ ⟨ok,why,pt,cost,he,hb,h⟩;refine ⟨ok,why,pt,cost,he,hb,?_⟩;rcases hk with rfl|rfl
 .rcases h with ⟨h,_⟩|⟨_,_,i,h1,h2⟩
  .exact .inl ⟨rfl,h⟩
  rw [hi i h1,Vn4] at h2;cases h2
 rcases h with ⟨_,h⟩|⟨h1,h2,_⟩
 .have:=h 0 (by decide)
  rw [hi 0 (by decide),Vi9] at this;cases this
 exact .inr ⟨rfl,h1,h2⟩
theorem Vc1 {k:Int} (hk:k=0∨k=1∨k=2) {w:World} {A:Option Addr} (h:Ud w A (Dz k)):Ci w A (ovK k):=λ_=>by
 obtain ⟨b,off,e,hl,hc⟩:=h (by show 0<2;omega);refine ⟨b,off,e,hl,λi hi=>?_⟩;obtain ⟨Ai,ci,h0,h1,h2,ho⟩:=hc i hi;have hi:i<2:=hi;rcases (show i=0∨i=1 by omega) with rfl|rfl
 .exact ⟨Ai,ci,h0,h1,h2,⟨ho,Qb6 (.inl rfl)⟩⟩
 .exact ⟨Ai,ci,h0,h1,h2,⟨ho,Qb6 hk⟩⟩
theorem Vm1:Bts (Mj Ue 1 (Dz 1)).1:=by unfold Bts;decide+kernel
theorem Vm8:Bts (Mj Ue 1 (Dz 2)).1:=by unfold Bts;decide+kernel
theorem Vl8:(Mj Ue 1 (Dz 1)).1.length≤1000:=by decide+kernel
theorem Vi7:(Mj Ue 1 (Dz 2)).1.length≤1000:=by decide+kernel
def Lu (k:Int) (w:World) (e:Ending) (w':World):Prop:=∃ok why pt cost,e=.returned (vdV ok why pt cost)∧Below w.heap.size w w'∧((k=1∧ok=true)∨(k=2∧ok=false∧why=213))
theorem Iy (k:Int) (hk:k=1∨k=2) (bs:List Int) (hb:Bts bs) (hbl:bs.length≤1000) (hd:Vr6 bs=.ok (Ue,1,Dz k) []) (A:Option Addr) (c:Nat) (base:Nat) (w:World) (h:Ow w base 5 .u8 A c bs):
 Calls prog 13 #[.string Jz,.slice A bs.length c] w (Lu k w):=by
 obtain ⟨W,hW,hX,hB,hs⟩:=Zk w (vdC false 0 0 0) 41;have cP:=Hi Is W;have cD:=λ(w1:World) (h1:Rd w1 w1.heap.size .u8 A bs.length (Qe bs))=>Qo9 A c bs w1 hb h1 h.cap h.capMax (by omega) _ _ hd
 have HR:=Hd ((h.rd.below hB).more hB.size);have HX:=Hd hX;have HB:=Hd hB;have HK:=Hd hk;unfold vdC at hW;generalize hL:bs.length=L at*;clear hX hB hs h hbl hd hb hk;go_enter func13,ntmps13
 go_upto_region 1 with fail
 rw [<-hW];clear hW;go_upto_region 2 with (go_at_call 41;(with_reducible refine cP.mono ?_);rintro e1 w1 ⟨gd,cd,gb,cb,ge,ce,rfl,hpi,_,_,_,hb1⟩;unfold Wl;obtain ⟨W3,hW3,hX3,hY3,hB3,hs3⟩:=Vu w1 (Qs gd cd gb cb) 86 [.int .i64 0,.int .i64 0] 39;have HX3:=Hd hX3;have HP3:=Hd (hpi.go hB3);have HV3:=Hd ((HX.out.go hb1).go hB3);have HR3:=Hd ((((HR.out.below hb1).more hb1.size).below hB3).more hB3.size);have HB3:=Hd (((Ht HB hb1).out).trans (hB3.mono ((Ht HB hb1).out).size));unfold Qs at hW3;clear hb1 hX3 hY3 hB3 hpi hs3)
 rw [<-hW3];clear hW3 cP HX HB HR;obtain ⟨y0,y1⟩:=HX3.out.bx.c1;have yl:=HX3.out.bx.lt;have cW:=Du gd cd gb cb ge ce W3 HP3.out;unfold Wl at cW;go_upto_region 5 with (go_at_call 43;(with_reducible refine cW.mono ?_);rintro e1 w4 ⟨rfl,hb4⟩;have HX4:=Hd (HX3.out.go hb4);have HP4:=Hd (HP3.out.go hb4);have HV4:=Hd (HV3.out.go hb4);have HR4:=Hd ((HR3.out.below hb4).more hb4.size);have HB4:=Ht HB3 hb4;clear hb4)
 clear y0 y1 yl cW HX3 HP3 HV3 HR3 HB3;obtain ⟨y0,y1⟩:=HX4.out.bx.c1;have yl:=HX4.out.bx.lt;have cL:=Zp6 gd cd gb cb ge ce w4 HP4.out;unfold Wl at cL;go_upto_region 8 with (go_at_call 44;(with_reducible refine cL.mono ?_);rintro e1 w5 ⟨m,rfl,hG,hb4⟩;unfold Jm Qt;obtain ⟨W5,hW5,hZ5,hB5,hs5⟩:=Zk w5 (Qt m Ag) 26;have HZ5:=Hd hZ5;have HG5:=Hd (hG.go hB5);have HX5:=Hd ((HX4.out.go hb4).go hB5);have HP5:=Hd ((HP4.out.go hb4).go hB5);have HV5:=Hd ((HV4.out.go hb4).go hB5);have HR5:=Hd ((((HR4.out.below hb4).more hb4.size).below hB5).more hB5.size);have HB5:=Hd (((Ht HB4 hb4).out).trans (hB5.mono ((Ht HB4 hb4).out).size));unfold Qt at hW5;clear hb4 hZ5 hG hB5 hs5)
 rw [<-hW5];clear hW5 y0 y1 yl cL HX4 HP4 HV4 HR4 HB4;have cD5:=cD W5 HR5.out;go_upto_region 11 with (go_at_call 45;(with_reducible refine cD5.mono ?_);rintro e1 w6 ⟨⟨Ao,co,rs,rfl,hgo,hrs⟩,hb6⟩;replace hrs:rs.map OR.oc=Dz k:=hrs;have ho6:=hgo.octs;rw [hrs] at ho6;have hrl:rs.length=2:=(by have:=congrArg List.length hrs;simpa [Dz] using this);obtain ⟨W6,hW6,hU6,hB6,hs6⟩:=Zk w6 [.int .u64 Ue,.int .i64 1,.slice Ao 2 co] 96;have HU6:=Hd hU6;have HO6:=Hd (ho6.go hB6);rw [hrl];have HZ6:=Hd ((HZ5.out.go hb6).go hB6);have HG6:=Hd ((HG5.out.go hb6).go hB6);have HX6:=Hd ((HX5.out.go hb6).go hB6);have HP6:=Hd ((HP5.out.go hb6).go hB6);have HV6:=Hd ((HV5.out.go hb6).go hB6);have HB6:=Hd (((Ht HB5 hb6).out).trans (hB6.mono ((Ht HB5 hb6).out).size));clear hb6 hU6 hgo hrs hrl ho6 hB6 hs6)
 rw [<-hW6];clear hW6 cD5 cD HZ5 HG5 HX5 HP5 HV5 HR5 HB5;obtain ⟨y0,y1⟩:=HX6.out.bx.c1;have yl:=HX6.out.bx.lt;have cS:=Zg8 gd cd gb cb ge ce W6 HP6.out;unfold Wl at cS;go_upto_region 14 with (go_at_call 46;(with_reducible refine cS.mono ?_);rintro e1 w7 ⟨rfl,hb6⟩;have HU7:=Hd (HU6.out.go hb6);have HO7:=Hd (HO6.out.go hb6);have HZ7:=Hd (HZ6.out.go hb6);have HG7:=Hd (HG6.out.go hb6);have HV7:=Hd (HV6.out.go hb6);have HB7:=Ht HB6 hb6;clear hb6)
 clear y0 y1 yl cS HU6 HO6 HZ6 HG6 HX6 HP6 HV6 HB6;obtain ⟨u0,u1,u2⟩:=HU7.out.bx.c2;obtain ⟨z0,z1,z2,z3,z4,z5⟩:=HZ7.out.bx.c5;have ul:=HU7.out.bx.lt;have zl:=HZ7.out.bx.lt;have cG:=Vv1 k HK.out m Ao co w7 HG7.out (Vc1 (by rcases HK.out with h|h<;>simp [h]) HO7.out);unfold Jm at cG;unfold Qt at cG;unfold Ag at cG z0 z1 z2 z3 z4 z5;dsimp only [List.length_cons,List.length_nil] at cG z0 z1 z2 z3 z4 z5;generalize Ue=sd at*;go_upto_region 18 with fail
 unfold Ji8 at cG;unfold vdV at cG;have v0:=HV7.out.bx.cell 0 _ rfl;have vl:=HV7.out.bx.lt;go_upto_region 19 with (go_at_call 11;(with_reducible refine cG.mono ?_);rintro e1 w8 ⟨ok,why,pt,cost,rfl,hb8,hT⟩;obtain ⟨_,hW8,hQ8,hB8,hs8⟩:=Zk w8 (vdC ok why pt cost) 41;have HQ8:=Hd hQ8;have HT:=Hd hT;have HV8:=Hd ((HV7.out.go hb8).go hB8);have HB8:=Hd (((Ht HB7 hb8).out).trans (hB8.mono ((Ht HB7 hb8).out).size));unfold vdC at hW8;clear hb8 hQ8 hT hB8 hs8)
 rw [<-hW8];clear hW8 u0 u1 u2 ul z0 z1 z2 z3 z4 z5 zl v0 vl cG HU7 HO7 HZ7 HG7 HV7 HB7;obtain ⟨_,_,_,_,_,_⟩:=HQ8.out.bx.c5;have ql:=HQ8.out.bx.lt;obtain ⟨v0,_,_,_,_,_⟩:=HV8.out.bx.c5;have vf:=HV8.out.bx.fr;have vl:=HV8.out.bx.lt;go_wp2_with fail
 have kk:=HV8.out.put (vs:=vdC ok why pt cost) rfl;obtain ⟨k0,k1,k2,k3,k4,k5⟩:=kk.bx.c5;have kB:=Qn (g:=w.heap.size) (ZH _) (vdC ok why pt cost) 0 _ HB8.out;simp only [vdC,Qm] at k0 k1 k2 k3 k4 k5;exact QL (v:=vdV ok why pt cost) (by simp [results,results13,go_sem,k0,k1,k2,k3,k4,k5,vdV]) rfl ⟨ok,why,pt,cost,rfl,kB,HT.out⟩
theorem Vu6 (k:Int) (hk:k=1∨k=2) (A:Option Addr) (c:Nat) (base:Nat) (w:World) (h:Ow w base 5 .u8 A c (Mj Ue 1 (Dz k)).1):
 Calls prog 13 #[.string Jz,.slice A (Mj Ue 1 (Dz k)).1.length c] w (Lu k w):=by
 rcases hk with rfl|rfl
 .exact Iy 1 (.inl rfl) _ Vm1 Vl8 Vp1 A c base w h
 exact Iy 2 (.inr rfl) _ Vm8 Vi7 Vn6 A c base w h
theorem Ja6 (k:Int) (hk:k=1∨k=2) (w:World) (A B:Option Addr) (hA:Qi w A 4 (1,false,[0,2*0,-2*0,0])) (hB:Qi w B 4 (1,false,[0,2*k,-2*k,0])):
 ∃V,V=w.alloc (.cells #[.int .i64 1,.bool false,.slice A 4 4,.int .i64 1,.bool false,.slice B 4 4] 32)∧Ud V (some ⟨w.heap.size,0,none⟩) (Dz k)∧Below w.heap.size w V:=by
 obtain ⟨V,hV,hX,hB1,_⟩:=Zk w [.int .i64 1,.bool false,.slice A 4 4,.int .i64 1,.bool false,.slice B 4 4] 32;exact ⟨V,hV,Vf4 V w.heap.size 0 A B hX.bx.lt (λi u hu=>hX.bx.cell i u hu) (hA.go hB1) (hB.go hB1),hB1⟩
theorem Jz4 (w:World):Calls prog 4 #[] w λe w'=>e=.returned (.bool true)∧Below w.heap.size w w':=by
 have hk1:(Mj Ue 1 (Dz 1)).2=0:=Vn9;have hk2:(Mj Ue 1 (Dz 2)).2=0:=Vp2;have cA:=λ(k:Int) (hk:k=0∨k=1∨k=2) (W:World)=>Ve2 k hk W
 have cS1:=λ(g:Nat) (W:World) (h:Ud W (some ⟨g,0,none⟩) (Dz 1))=>Iw 1 hk1 g W h
 have cS2:=λ(g:Nat) (W:World) (h:Ud W (some ⟨g,0,none⟩) (Dz 2))=>Iw 2 hk2 g W h
 have cC1:=λA c base W h=>Vu6 1 (.inl rfl) A c base W h
 have cC2:=λA c base W h=>Vu6 2 (.inr rfl) A c base W h
 generalize (Mj Ue 1 (Dz 1)).1=b1 at*;generalize (Mj Ue 1 (Dz 2)).1=b2 at*;clear hk1 hk2;go_enter func4,ntmps4
 go_wp2_with fail
 with_reducible refine (cA 0 (.inl rfl) _).mono ?_
 rintro e1 _ ⟨A,rfl,hA,hb1⟩;go_wp2_with fail
 with_reducible refine (cA 1 (.inr (.inl rfl)) _).mono ?_
 rintro e1 w2 ⟨B,rfl,hB,hb2⟩;obtain ⟨_,hW3,hO3,hB3⟩:=Ja6 1 (.inl rfl) w2 A B (hA.go hb2) hB;have cS:=cS1 _ _ hO3;have HB3:=Hd ((hb1.trans (hb2.mono hb1.size)).trans (hB3.mono (hb1.trans (hb2.mono hb1.size)).size));clear hA hB hO3 hB3 hb1 hb2;go_wp2_with fail
 rw [<-hW3];clear hW3;with_reducible refine cS.mono ?_
 rintro e1 w4 ⟨D,d,rfl,hD,hb4⟩;have cC:=cC1 D d _ w4 hD;unfold Lu vdV at cC;have HB4:=Ht HB3 hb4;clear hD hb4 HB3;go_wp2_with fail
 with_reducible refine cC.mono ?_
 rintro e1 _ ⟨ok,why,pt,cost,rfl,hb5,hT⟩;obtain rfl:ok=true:=by rcases hT with ⟨_,h⟩|⟨h,_⟩<;>first|exact h|exact absurd h (by decide)
 have HB5:=Ht HB4 hb5;clear hT hb5 HB4 cC;have hfl:∀W:World,(Instr.field 41 (.agg #[.bool true,.int .i64 why,.int .i64 0,.int .i64 0,.int .i64 pt,.int .i64 cost]) 0).run prog W=.ok (.bool true) W:=λ_=>by kernel_rfl
 go_wp2_with fail
 with_reducible refine (cA 0 (.inl rfl) _).mono ?_
 rintro e1 _ ⟨A2,rfl,hA,hb1⟩;go_wp2_with fail
 with_reducible refine (cA 2 (.inr (.inr rfl)) _).mono ?_
 rintro e1 w7 ⟨B2,rfl,hB,hb2⟩;obtain ⟨_,hW8,hO8,hB8⟩:=Ja6 2 (.inr rfl) w7 A2 B2 (hA.go hb2) hB;have cS':=cS2 _ _ hO8;have hB6:=(Ht HB5 hb1).out;have hB7:=hB6.trans (hb2.mono hB6.size);have HB8:=Hd (hB7.trans (hB8.mono hB7.size));clear hA hB hO8 hB8 hb1 hb2 hB6 hB7;go_wp2_with fail
 rw [<-hW8];clear hW8;with_reducible refine cS'.mono ?_
 rintro e1 w9 ⟨D2,d2,rfl,hD,hb4⟩;have cC:=cC2 D2 d2 _ w9 hD;unfold Lu vdV at cC;have HB9:=Ht HB8 hb4;clear hD hb4 HB8;go_wp2_with fail
 with_reducible refine cC.mono ?_
 rintro e1 _ ⟨ok,why,pt2,cost2,rfl,hb5,hT⟩;obtain ⟨rfl,rfl⟩:ok=false∧why=213:=by rcases hT with ⟨h,_⟩|⟨_,h⟩<;>first|exact h|exact absurd h (by decide)
 have HB10:=Ht HB9 hb5;clear hT hb5 HB9 cC;have hfl:∀W:World,(Instr.field 41 (.agg #[.bool false,.int .i64 213,.int .i64 0,.int .i64 0,.int .i64 pt2,.int .i64 cost2]) 1).run prog W=.ok (.int .i64 213) W:=λ_=>by kernel_rfl
 go_wp2_with fail
 go_ret
 exact ⟨rfl,HB10.out⟩
def OCo (o:OC):Zj:=(o.n,o.e,o.m)
def bxO (ls:List OC) (p:Nat):List Zj:=(ls.take p).map λo=>Qz4 (OCo o)
theorem Jf6 {ls:List OC} {p:Nat} (h:p<ls.length):bxO ls (p+1)=bxO ls p++[Qz4 (OCo (Yt ls p))]:=by
 unfold bxO;rw [List.take_add_one,List.map_append];unfold Yt;simp [h]
theorem Ze2 {ls:List OC} {p:Nat} (h:p≤ls.length):(bxO ls p).length=p:=by
 unfold bxO;rw [List.length_map,List.length_take];omega
theorem Vf5 {ls:List OC} {i:Nat} (h:i<ls.length):Vg (bxO ls ls.length) i=Qz4 (OCo (Yt ls i)):=by
 unfold bxO Vg Yt;simp [h]
def Lk (o:OC):Prop:=o.n=2∧Je o.n o.e o.m=0∧∀k,k<o.m.length->Qe o.m k=9223372036854775807∨(-1099511627776≤Qe o.m k∧Qe o.m k≤1099511627776)
theorem Lk.box {o:OC} (h:Lk o):Cg (Qz4 (OCo o)):=by
 obtain ⟨hn,hc,hk⟩:=h;refine Jn4 hn hc λhe a ha b hb=>?_
 have hl:o.m.length=16:=by
  obtain ⟨n',_,_,_,h2⟩:=Zz hc;have:=(h2 he).1
  have e:n'=2:=by omega
  rw [this,e]
 have:=hk (a*4+b) (by omega)
 show cl (2*2) o.m a b=_∨_
 unfold cl;rcases this with h|h
 .exact .inl h
 exact .inr ⟨by show _≤Qe o.m (a*4+b);omega,by show Qe o.m (a*4+b)≤_;omega⟩
theorem Td {N:Int} {E:Bool} {M:List Int} (h:Je N E M=0):∀x∈M,Zu x:=λx hx=>by
 obtain ⟨n,_,_,h1,h2⟩:=Zz h;cases E with
 |true=>rw [h1 rfl] at hx;cases hx
 |false=>
  obtain ⟨hl,hok⟩:=h2 rfl;have hB:=Zs (n:=n) (by rw [hl,show 4*n=2*(2*n) by omega,Nat.mul_assoc,Nat.mul_comm 2 (2*n*n),show 2*n*n*2=(2*n)*(2*n) by rw [Nat.mul_assoc (2*n) n 2,Nat.mul_comm n 2]]) hok;obtain ⟨p,hp,rfl⟩:=List.getElem_of_mem hx;have:=(hB p).i64
  unfold Qe at this;simpa [hp] using this
theorem Zs1 (m:GM) (g:Zv) (Al:Option Addr) (cl:Nat) (ls:List OC) (w:World) (hG:Hg w m g) (hNm:GNm w m g) (hO:Ud w Al ls):
 Calls prog 3 #[Jm m g,.slice Al ls.length cl] w λe w'=>e=.returned (.bool true)∧Below w.heap.size w w':=by
 obtain ⟨W,hW,hX,hB,hs⟩:=Zk w (Qt m g) 26;obtain ⟨NL,hNL⟩:∃NL,NL=ls.length:=⟨_,rfl⟩;obtain ⟨NA,hNA⟩:∃NA,NA=g.sizes.length:=⟨_,rfl⟩;obtain ⟨EL,hEL⟩:∃EL,EL=g.edges.length:=⟨_,rfl⟩;have HNL:=Hd hNL;have HNA:=Hd hNA;have HEL:=Hd hEL;have HG:=Hd (hG.go hB);have HNm:=Hd (hNm.go hB);have HO:=Hd (hO.go hB);have HX:=Hd hX;have HB:=Hd hB;have cChk:=λ(W:World) (h:Hg W m g)=>Pw m g W h
 have cAll:=λ(W:World) (h:Gn.Vj2 g)=>Ep m g h.temps.1 h.temps.2 (by have:=h.n;have:=h.temps;unfold Zv.n at*;omega) W
 unfold Jm Qt at*;rw [<-hNA,<-hEL] at hW cChk cAll |-
 rw [<-hNL];clear hX hB hG hO hs hNm hNL hNA hEL;go_enter func3,ntmps3
 go_upto_region 1 with fail
 rw [<-hW];clear hW;go_upto_region 3 with (go_at_call 4;(with_reducible refine (Jz4 _).mono ?_);rintro e1 w1 ⟨rfl,hb1⟩;have HX1:=Hd (HX.out.go hb1);have HG1:=Hd (HG.out.go hb1);have HNm1:=Hd (HNm.out.go hb1);have HO1:=Hd (HO.out.go hb1);have HB1:=Ht HB hb1;clear hb1)
 clear HX HG HNm HO HB;obtain ⟨x0,x1,x2,x3,x4,x5⟩:=HX1.out.bx.c5;have xl:=HX1.out.bx.lt;rw [<-HNA.out] at x2;rw [<-HEL.out] at x5;have cC:=cChk w1 HG1.out;clear cChk;go_wp2_with fail
 with_reducible refine cC.mono ?_
 rintro e1 w2 ⟨n,rfl,hn,hb2⟩;have HX2:=Hd (HX1.out.go hb2);have HG2:=Hd (HG1.out.go hb2);have HNm2:=Hd (HNm1.out.go hb2);have HO2:=Hd (HO1.out.go hb2);have HB2:=Ht HB1 hb2;clear x0 x1 x2 x3 x4 x5 xl HX1 HG1 HNm1 HO1 HB1 cC hb2;by_cases hn0:n=0
 case neg=>
  clear hn cAll;go_wp2_with fail
  go_ret
  exact ⟨rfl,HB2.out⟩
 have HGd:=Hd (hn.1 hn0);subst hn0;clear hn;obtain ⟨x0,x1,x2,x3,x4,x5⟩:=HX2.out.bx.c5;have xl:=HX2.out.bx.lt;rw [<-HNA.out] at x2;rw [<-HEL.out] at x5;have cA:=cAll w2 HGd.out;clear cAll;obtain ⟨gn,hgn⟩:∃gn,g.n=gn:=⟨_,rfl⟩;have HGn:=Hd hgn;rw [hgn] at cA;obtain ⟨gp,hgp⟩:∃gp,g.points=gp:=⟨_,rfl⟩;have HGp:=Hd hgp;rw [hgp] at x3 cA;go_wp2_with fail
 with_reducible refine cA.mono ?_
 rintro e1 w3 ⟨rfl,hb3⟩;have HX3:=Hd (HX2.out.go hb3);have HG3:=Hd (HG2.out.go hb3);have HNm3:=Hd (HNm2.out.go hb3);have HO3:=Hd (HO2.out.go hb3);have HB3:=Ht HB2 hb3;clear x0 x1 x2 x3 x4 x5 xl HX2 HG2 HNm2 HO2 HB2 cA hb3 hgn hgp;have x3:=HX3.out.bx.cell 3 _ rfl;have x5:=HX3.out.bx.cell 5 _ rfl;have xl:=HX3.out.bx.lt;rw [HGp.out] at x3;rw [<-HEL.out] at x5;by_cases hg2:gn=2
 case neg=>
  go_wp2_with fail
  go_ret
  exact ⟨rfl,HB3.out⟩
 subst hg2;by_cases hlp:(NL:Int)=gp
 case neg=>
  go_wp2_with fail
  go_ret
  exact ⟨rfl,HB3.out⟩
 subst hlp;by_cases h30:(NL:Int)>30
 case pos=>
  have q30:decide ((NL:Int)>30)=true:=ZE h30;go_wp2_with fail
  go_ret
  exact ⟨rfl,HB3.out⟩
 have q30:decide ((NL:Int)>30)=false:=ZA h30;by_cases h60:(EL:Int)>60
 case pos=>
  have q60:decide ((EL:Int)>60)=true:=ZE h60;go_wp2_with fail
  go_ret
  exact ⟨rfl,HB3.out⟩
 have q60:decide ((EL:Int)>60)=false:=ZA h60;have HL30:=Hd h30;clear h30 h60;go_wp2_with fail
 clear x3 x5 xl;go_loopw [5,6] (λs5 s6 wr=>∃(i:Nat) (A:Option Addr) (c:Nat) (rs:List OR),s6=.int .i64 i∧i≤NL∧s5=.slice A rs.length c∧Da wr w3.heap.size A c rs (bxO ls i)∧Hid (∀k,k<i->Lk (Yt ls k))∧Below w3.heap.size w3 wr) (λ_ s _=>NL - (Go.RowKit.intOf s).toNat)
 case atStart=>exact ⟨0,none,0,[],rfl,by omega,rfl,Da.nil _ _,Hd (λk h=>absurd h (Nat.not_lt_zero k)),QK _ _⟩
 case round=>
  obtain ⟨i,A,c,rs,rfl,hi,rfl,hR,hK,hb⟩:=hrel;have HR:=Hd hR;have HBr:=Hd hb;have w1i:IntKind.i64.wrap ((i:Int)+1)=i+1:=QQ _ (by have:=HL30.out;omega);rcases ZJ i NL with hlt|hge
  .have hil:i<ls.length:=by rw [<-HNL.out];exact hlt
   have HIL:=Hd hil;obtain ⟨_,_,hAl,hol,hoc⟩:=(HO3.out.go hb) (by omega);obtain ⟨Ai,ci,c0,c1,c2,hOi⟩:=hoc i hil;have HLk:Hid (Lk (Yt ls i)->∀k,k<i+1->Lk (Yt ls k)):=Hd (λh k hk=>by
    rcases ZJ k i with q|q
    .exact hK.out k q
    obtain rfl:k=i:=by omega
    exact h)
   have HSucc:=Hd (Jf6 hil);obtain ⟨o,ho⟩:∃o,o=Yt ls i:=⟨_,rfl⟩;rw [<-ho] at c0 c1 c2 hOi HLk HSucc;clear ho hoc hK hR hb;obtain ⟨on,oe,om⟩:=o;dsimp only at c0 c1 c2 hOi;subst hAl;have q0:(i:Int)<(NL:Int):=by omega
   have q1:(0:Int)≤(i:Int):=by omega
   have HOi:=Hd hOi;have hBw:=HB3.out.trans (HBr.out.mono HB3.out.size);have HBw:=Hd hBw;clear hOi hBw;by_cases h2:on=2
   case neg=>
    go_wp2_with fail
    go_ret
    exact ⟨rfl,HBw.out⟩
   subst h2;have cK:=Qw6 Ai ci 2 oe om wr HOi.out;obtain ⟨z,hz⟩:∃z,Je 2 oe om=z:=⟨_,rfl⟩;have HZ:=Hd hz;rw [hz] at cK;clear hz;go_wp2_with fail
   with_reducible refine cK.mono ?_
   rintro e1 w5 ⟨rfl,hb5⟩;have c0:=Qq hb5 c0;have c1:=Qq hb5 c1;have c2:=Qq hb5 c2;have hol:=ZI hol hb5.size;have HO5:=Hd (HOi.out.go hb5);have HR5:=Hd (HR.out.go hb5);have HB5:=Ht HBr hb5;clear cK hb5 HR HBr HOi HBw;by_cases hz0:z=0
   case neg=>
    go_wp2_with fail
    go_ret
    exact ⟨rfl,HB3.out.trans (HB5.out.mono HB3.out.size)⟩
   subst hz0;go_wp2_with fail
   obtain ⟨ML,hML⟩:∃ML,ML=om.length:=⟨_,rfl⟩;have HML:=Hd hML;have hM16:ML≤16384:=by
    obtain ⟨n',_,_,h1,h2⟩:=Zz HZ.out;rw [hML];cases oe with
    |true=>rw [h1 rfl];simp
    |false=>
     have:=(h2 rfl).1
     have e:n'=2:=by omega
     rw [this,e];omega
   have HM16:=Hd hM16;rw [<-hML] at c2;clear hML hM16;go_loopw [7] (λs wx=>∃k:Nat,s=.int .i64 k∧k≤ML∧Hid (∀j,j<k->Qe om j=9223372036854775807∨(-1099511627776≤Qe om j∧Qe om j≤1099511627776))∧Below w5.heap.size w5 wx) (λs _=>ML - (Go.RowKit.intOf s).toNat)
   case atStart=>exact ⟨0,rfl,by omega,Hd (λj h=>absurd h (Nat.not_lt_zero j)),QK _ _⟩
   obtain ⟨k,rfl,hk,hT,hbx⟩:=hrel;have c0:=Qq hbx c0;have c1:=Qq hbx c1;have c2:=Qq hbx c2;have hol:=ZI hol hbx.size;have HBx:=Hd hbx;have w1k:IntKind.i64.wrap ((k:Int)+1)=k+1:=QQ _ (by have:=HM16.out;omega);rcases ZJ k ML with hkl|hkg
   .have hkm:k<om.length:=by rw [<-HML.out];exact hkl
    obtain ⟨_,_,hAi,_,hmc⟩:=(HO5.out.rd.below hbx) (by omega);have v0:=hmc k hkm;have HT:Hid ((Qe om k=9223372036854775807∨(-1099511627776≤Qe om k∧Qe om k≤1099511627776))->∀j,j<k+1->Qe om j=9223372036854775807∨(-1099511627776≤Qe om j∧Qe om j≤1099511627776)):=Hd (λh j hj=>by
     rcases ZJ j k with q|q
     .exact hT.out j q
     obtain rfl:j=k:=by omega
     exact h)
    obtain ⟨v,hv⟩:∃v,Qe om k=v:=⟨_,rfl⟩;rw [hv] at v0 HT;subst hAi;have p0:(k:Int)<(ML:Int):=by omega
    have p1:(0:Int)≤(k:Int):=by omega
    have HKl:=Hd hkl;clear hv hmc hkm hT hbx hkl hk;by_cases hi0:v=9223372036854775807
    .subst hi0;go_wp2_with fail
     go_roundw
     case rel=>exact ⟨k+1,by go_num,by have:=HKl.out;omega,Hd (HT.out (.inl rfl)),HBx.out⟩
     have:=HKl.out;simp [Go.RowKit.intOf];omega
    by_cases hgt:v>1099511627776
    .have d0:decide (v>1099511627776)=true:=ZE hgt;clear hgt;go_wp2_with fail
     go_ret
     exact ⟨rfl,HB3.out.trans ((HB5.out.trans (HBx.out.mono HB5.out.size)).mono HB3.out.size)⟩
    have d0:decide (v>1099511627776)=false:=ZA hgt;by_cases hlt2:v< -1099511627776
    .have d1:decide (v< -1099511627776)=true:=ZE hlt2;clear hgt hlt2;go_wp2_with fail
     go_ret
     exact ⟨rfl,HB3.out.trans ((HB5.out.trans (HBx.out.mono HB5.out.size)).mono HB3.out.size)⟩
    have d1:decide (v< -1099511627776)=false:=ZA hlt2;have HV:=Hd (HT.out (.inr ⟨by omega,by omega⟩));clear hgt hlt2 HT;go_wp2_with fail
    go_roundw
    case rel=>exact ⟨k+1,by go_num,by have:=HKl.out;omega,Hd HV.out,HBx.out⟩
    have:=HKl.out;simp [Go.RowKit.intOf];omega
   obtain rfl:ML=k:=by omega
   have p0:decide ((ML:Int)<(ML:Int))=false:=ZA (by omega);have HLi:Hid (Lk ⟨2,oe,om⟩):=Hd ⟨rfl,HZ.out,λj hj=>hT.out j (by rw [HML.out];exact hj)⟩;have HOx:=Hd (HO5.out.go hbx);have HRx:=Hd (HR5.out.go hbx);have HBy:=Ht HB5 hbx;have cBx:=Jk1 (2,oe,om) Ai ci;have HBi:Hid (Cg (Qz4 (2,oe,om))):=Hd (Lk.box HLi.out);obtain ⟨Q,hQ⟩:∃Q,Qz4 (2,oe,om)=Q:=⟨_,rfl⟩;have HQ:Hid (Qz4 (OCo ⟨2,oe,om⟩)=Q):=Hd hQ;rw [hQ] at cBx HBi;clear hQ;obtain ⟨qn,qe,qm⟩:=Q;unfold Qf at cBx;dsimp only at cBx;have hxx:=HBx.out;have cB:=cBx _ rfl ⟨HOx.out,HZ.out⟩;clear cBx hT hbx HO5 HR5 HB5;go_upto_region 16 with fail
   rw [HML.out] at c2;go_wp2_with fail
   with_reducible refine cB.mono ?_
   rintro e1 w6 ⟨A6,c6,rfl,ho6,hb6⟩;clear cB c0 c1 c2 hol p0;obtain ⟨hq1,hq2⟩:=HBi.out.chk;dsimp only at hq1 hq2 ho6;have HR6:=Hd (HRx.out.go hb6);have HO6:=Hd ho6;have HB6:=Ht HBy hb6;have hle:w3.heap.size≤w6.heap.size:=HB6.out.size;have hba:=(QK w6.heap.size w6).alloc (ZH _) (.cells #[.int .i64 qn,.bool qe,.slice A6 qm.length c6] 32);have hrow:=(HR6.out.go hba).row.row;have hrl:(rs.length+1)*40≤140737488355328:=by
    have h1:=HR6.out.len;have h2:=HL30.out;have h3:(bxO ls i).length=i:=Ze2 (Nat.le_of_lt HIL.out);have h4:=HIL.out;have h5:=HNL.out;omega
   have hbs:w3.heap.size≤(w6.alloc (.cells #[.int .i64 qn,.bool qe,.slice A6 qm.length c6] 32)).heap.size:=ZO hle hba.size;have HBA:=Hd hba;have HQk:=Hd (And.intro hq1 hq2);clear hba hb6 ho6 HRx HOx hq1 hq2;go_wp2_with (at_builtin;refine Ku elOct (w6.alloc (.cells #[.int .i64 qn,.bool qe,.slice A6 qm.length c6] 32)) rfl _ _ rfl w3.heap.size A c rs.length (ov rs) rfl hrow [.int .i64 qn,.bool qe,.slice A6 qm.length c6] w6.heap.size rfl rfl (Oh w6 32 ⟨qn,qe,A6,c6,qm⟩) (by simp [Value.oneCell']) hrl hbs ?_;intro A10 c10 w10 hr10 hb10 hg10)
   have HNew:Hid (Da w10 w3.heap.size A10 c10 (rs++[⟨qn,qe,A6,c6,qm⟩]) (bxO ls (i+1))):=Hd (by
    have hi:Zu qn:=by have:=HQk.out.1;unfold Zu;omega
    have hc:Je qn qe qm=0:=by rw [HQk.out.1];exact HQk.out.2
    have hm:∀x∈qm,Zu x:=Td hc;have k:=(HR6.out.go HBA.out).snoc (r:=⟨qn,qe,A6,c6,qm⟩) ⟨hi,hm,(HO6.out.below HBA.out).lower HBy.out.size⟩ hc hr10 hg10;rw [HSucc.out,HQ.out];exact k)
   have HBn:Hid (Below w3.heap.size w3 w10):=Hd ((HB6.out.trans (HBA.out.mono hle)).trans hb10);have HLn:=Hd (HLk.out HLi.out);clear hr10 hb10 hg10 hrow hrl hbs;go_roundw
   case rel=>exact ⟨i+1,A10,c10,rs++[⟨qn,qe,A6,c6,qm⟩],by go_num,by have:=HIL.out;have:=HNL.out;omega,by simp,HNew.out,HLn,HBn.out⟩
   have:=HIL.out;have:=HNL.out;simp [Go.RowKit.intOf];omega
  obtain rfl:NL=i:=by omega
  have q0:decide ((NL:Int)<(NL:Int))=false:=ZA (by omega);obtain ⟨os,hos⟩:∃os,bxO ls NL=os:=⟨_,rfl⟩;have hosl:os.length=NL:=by rw [<-hos];exact Ze2 (Nat.le_of_eq HNL.out)
  have HBx:Hid (∀i,i<os.length->Cg (Vg os i)):=Hd (λi hi=>by
   rw [hosl] at hi;rw [<-hos,HNL.out,Vf5 (by rw [<-HNL.out];exact hi)];exact (hK.out i hi).box)
  rw [hos] at hR HR;have hp1:=HGd.out.points;rw [HGp.out] at hp1;have hn1:0<os.length:=by omega
  have HN2:Hid (∀i,i<os.length->(Vg os i).1=2):=Hd (λi hi=>(HBx.out i hi).chk.1);obtain ⟨gb,rfl,hgb,hC⟩:=hR.turn hn1;have HC:=Hd hC;have hrl:rs.length=NL:=by rw [hC.len,hosl]
  have HOl:=Hd hosl;have HG4:=Hd (HG3.out.go hb);have HNm4:=Hd (HNm3.out.go hb);have HX4:=Hd (HX3.out.go hb);have HB4:=Hd hb;have HGb:=Hd hgb;rw [hrl];obtain ⟨c0,c1,c2,hO0⟩:=hC.cells hn1;obtain ⟨a0,ha0⟩:∃a,(Tc rs 0).a=a:=⟨_,rfl⟩;obtain ⟨k0,hk0⟩:∃a,(Tc rs 0).c=a:=⟨_,rfl⟩;rw [ha0,hk0] at c2 hO0;obtain ⟨P0,hP0⟩:∃P,Vg os 0=P:=⟨_,rfl⟩;have HP0:=Hd hP0;have hP2:P0.1=2:=by rw [<-hP0];exact HN2.out 0 hn1
  rw [hP0] at c0 c1 c2 hO0;have hgl:=hC.bx.lt;obtain ⟨x0,x1,x2,x3,x4,x5⟩:=HX4.out.bx.c5;have xl:=HX4.out.bx.lt;rw [<-HNA.out] at x2;rw [<-HEL.out] at x5;have hpos:0<NL:=by omega
  clear hC hK hb hge hgb hR HR HBr ha0 hk0 hP0 hp1 hos;have y0:wr.cell? ⟨gb,0,none⟩=some (.int .i64 P0.1):=by simpa using c0
  have y1:wr.cell? ⟨gb,1,none⟩=some (.bool P0.2.1):=by simpa using c1
  have y2:wr.cell? ⟨gb,2,none⟩=some (.slice a0 P0.2.2.length k0):=by simpa using c2
  clear c0 c1 c2;obtain ⟨pn,pe,pm⟩:=P0;dsimp only at*;subst hP2;obtain ⟨W5,hW5,hX5,hB5⟩:=Qh wr [.int .i64 0,.int .i64 0] 2;have hr5:Rd W5 W5.heap.size .i64 (some ⟨wr.heap.size,0,none⟩) 2 (Qe [0,0]):=λ_=>⟨wr.heap.size,0,rfl,hX5.lt,λq hq=>by
   rcases (show q=0∨q=1 by omega) with rfl|rfl
   .exact hX5.cell 0 _ rfl
   exact hX5.cell 1 _ rfl⟩
  have cH:Calls prog 9 #[.agg #[.int .i64 2,.bool pe,.slice a0 pm.length k0],.slice (some ⟨wr.heap.size,0,none⟩) 2 2] W5 (λe w'=>e=.returned (.bool (Ys 2 pe pm [0,0]))∧Below W5.heap.size W5 w'):=Qb7 2 pe a0 k0 pm (some ⟨wr.heap.size,0,none⟩) 2 [0,0] W5 (hO0.go hB5).oi hr5 (by intro z hz;simp at hz;subst hz;unfold Zu;omega) (by simp);obtain ⟨hh,hhe⟩:∃b,Ys 2 pe pm [0,0]=b:=⟨_,rfl⟩;have HH:=Hd hhe;rw [hhe] at cH;have HB5:=Hd hB5;clear hhe hr5 hX5 hB5 hO0;go_wp2_with fail
  rw [<-hW5];clear hW5;with_reducible refine cH.mono ?_
  rintro e1 w6 ⟨rfl,hb6⟩;have h46:=(Ht HB5 hb6).out;have HG6:=Hd (HG4.out.go h46);have HNm6:=Hd (HNm4.out.go h46);have HX6:=Hd (HX4.out.go h46);have HC6:=Hd (HC.out.go h46);have HB6:=Ht HB4 h46;have HGb6:=Hd (ZI HC.out.bx.lt h46.size);clear h46 hb6 cH x0 x1 x2 x3 x4 x5 xl y0 y1 y2 hgl HG4 HNm4 HX4 HC HB4 HB5;cases hh
  case false=>
   go_wp2_with fail
   go_ret
   exact ⟨rfl,HB3.out.trans (HB6.out.mono HB3.out.size)⟩
  have cBr:=Qr9 m g os (some ⟨gb,0,none⟩) c w6 HG6.out HGd.out HGn.out HC6.out.oks (by rw [HOl.out,HGp.out]) HN2.out;unfold Jm Qt Zf9 at cBr;rw [HOl.out,HGp.out,<-HNA.out,<-HEL.out] at cBr;obtain ⟨x0,x1,x2,x3,x4,x5⟩:=HX6.out.bx.c5;have xl:=HX6.out.bx.lt;rw [HGp.out] at x3;rw [<-HNA.out] at x2;rw [<-HEL.out] at x5;go_wp2_with fail
  with_reducible refine cBr.mono ?_
  rintro e1 w7 ⟨bb,rfl,hb7,hbt⟩;have HG7:=Hd (HG6.out.go hb7);have HNm7:=Hd (HNm6.out.go hb7);have HX7:=Hd (HX6.out.go hb7);have HC7:=Hd (HC6.out.go hb7);have HB7:=Ht HB6 hb7;clear hb7 cBr x0 x1 x2 x3 x4 x5 xl HG6 HNm6 HX6 HC6 HB6 HGb6;cases bb
  case false=>
   go_wp2_with fail
   go_ret
   exact ⟨rfl,HB3.out.trans (HB7.out.mono HB3.out.size)⟩
  have HBt:=Hd (hbt rfl);have h00:Ys (2:Nat) (Vg os 0).2.1 (Vg os 0).2.2 [0,0]=true:=by rw [HP0.out];exact HH.out
  have HG0:=Hd h00;have cGr:=Ql2 m g os os (some ⟨gb,0,none⟩) c w7 HG7.out HNm7.out HGd.out HGn.out HC7.out.oks (by rw [HOl.out,HGp.out]) rfl HN2.out rfl HBx.out h00 (λi hi=>HBt.out i (by rw [HEL.out];exact hi));unfold Jm Qt Qd3 vdV at cGr;rw [HOl.out,HGp.out,<-HNA.out,<-HEL.out] at cGr;obtain ⟨x0,x1,x2,x3,x4,x5⟩:=HX7.out.bx.c5;have xl:=HX7.out.bx.lt;rw [HGp.out] at x3;rw [<-HNA.out] at x2;rw [<-HEL.out] at x5;clear hbt h00;go_wp2_with fail
  with_reducible refine cGr.mono ?_
  rintro e1 w8 ⟨why,pt,cost,rfl,hb8⟩;have HG8:=Hd (HG7.out.go hb8);have HNm8:=Hd (HNm7.out.go hb8);have HX8:=Hd (HX7.out.go hb8);have HC8:=Hd (HC7.out.go hb8);have HB8:=Ht HB7 hb8;clear hb8 cGr x0 x1 x2 x3 x4 x5 xl HG7 HNm7 HX7 HC7 HB7;go_upto_region 20 with fail
  obtain ⟨_,hW9,hX9,hB9,hs9⟩:=Zk w8 [.bool true,.int .i64 why,.int .i64 0,.int .i64 0,.int .i64 pt,.int .i64 cost] 41;rw [<-hW9];clear hW9;have HV9:=Hd hX9.bx;have HG9:=Hd (HG8.out.go hB9);have HNm9:=Hd (HNm8.out.go hB9);have HX9:=Hd (HX8.out.go hB9);have HC9:=Hd (HC8.out.go hB9);have HB9:=Ht HB8 hB9;have HGl:=Hd HC8.out.bx.lt;clear hX9 hB9 hs9 HG8 HNm8 HX8 HC8 HB8;have z0:=HV9.out.cell 0 _ rfl;have zl:=HV9.out.lt;obtain ⟨bv,hbv⟩:∃bv,w8.heap.size=bv:=⟨_,rfl⟩;rw [hbv] at z0 zl HV9 HGl |-
  go_wp2_with fail
  clear z0 zl;go_loopw [10] (λs wx=>∃(p:Nat) (rs':List OR),s=.int .i64 p∧p≤NL∧Et wx gb rs' (Uc os p)∧Bx wx bv [.bool true,.int .i64 why,.int .i64 0,.int .i64 0,.int .i64 pt,.int .i64 cost]∧Below w3.heap.size w3 wx) (λs _=>NL - (Go.RowKit.intOf s).toNat)
  case atStart=>exact ⟨0,rs,rfl,by omega,HC9.out,HV9.out,HB9.out⟩
  obtain ⟨p,rs',rfl,hp,hC,hV,hb⟩:=hrel;have HC:=Hd hC;have HV:=Hd hV;have HBp:=Hd hb;have w1p:IntKind.i64.wrap ((p:Int)+1)=p+1:=QQ _ (by have:=HL30.out;omega);rcases ZJ p NL with hpl|hpg
  .have hpo:p<(Uc os p).length:=by rw [Uf,HOl.out];exact hpl
   obtain ⟨c0,c1,c2,hOp⟩:=hC.cells hpo;obtain ⟨ap,hap⟩:∃a,(Tc rs' p).a=a:=⟨_,rfl⟩;obtain ⟨kp,hkp⟩:∃a,(Tc rs' p).c=a:=⟨_,rfl⟩;have hPe:Vg (Uc os p) p=Vg os p:=by rw [Br (by rw [HOl.out];exact hp),ZL (by omega)]
   rw [hap,hkp,hPe] at c2 hOp;rw [hPe] at c0 c1;have HSt:Hid (Uc os (p+1)=(Uc os p).set p (Qo (Vg os p))):=Hd rfl;have HPo:=Hd hpo;obtain ⟨P,hP⟩:∃P,Vg os p=P:=⟨_,rfl⟩;rw [hP] at c0 c1 c2 hOp HSt;have hgf:=hC.bx.fr;have hgl:=hC.bx.lt;have HPl:=Hd hpl;clear hPe hP hap hkp hC hV hb hpo hp;obtain ⟨pn,pe,pm⟩:=P;have cC:=Nd pn pe ap kp pm wr hOp.oi hOp.len;have hce:(Zp pn pe pm).2=0:=Wc (P:=(pn,pe,pm)) hOp.ok;obtain ⟨hc1,hc2⟩:=Sx hOp.ok;unfold Ww at cC;rw [hce] at cC;have hQ:(Zp pn pe pm).1.1=Qo (pn,pe,pm):=rfl;rw [hQ] at cC;generalize Qo (pn,pe,pm)=Q at*;obtain ⟨qn,qe,qm⟩:=Q;dsimp only at hc1 hc2 cC c0 c1 c2;have HQk:=Hd hc2;have q0:(p:Int)<(NL:Int):=by omega
   have q1:(0:Int)≤(p:Int):=by omega
   clear hQ hce hOp hc1 hc2 hpl;go_wp2_with fail
   with_reducible refine cC.mono ?_
   rintro e1 w10 ⟨A10,c10,rfl,ho10,hb10⟩;obtain ⟨_,hsat⟩:∃b,(Zp pn pe pm).1.2=b:=⟨_,rfl⟩;rw [hsat];go_upto_region 26 with fail
   obtain ⟨W11,hW11,hX11,hB11,hs11⟩:=Zk w10 [.int .i64 qn,.bool qe,.slice A10 qm.length c10] 32;rw [<-hW11];clear hW11;have hC11:=(HC.out.go hb10).go hB11;have HC11:=Hd hC11;have HV11:=Hd ((HV.out.below hb10).below hB11);have HB11:=Hd (((Ht HBp hb10).out).trans (hB11.mono (ZO HBp.out.size hb10.size)));have hi4:Zu qn:=Vq9 HQk.out;have hm4:∀x∈qm,Zu x:=Td HQk.out;have ho11:=ho10.below hB11;have HOq:Hid (Qi W11 A10 c10 (qn,qe,qm)):=Hd ⟨⟨hi4,ho11.rd,hm4,ho11.cap,ho11.capMax⟩,HQk.out⟩;have HNe:Hid (∀g' o,A10=some ⟨g',o,none⟩->g'≠gb):=Hd (λg' o e h=>by
    rcases ho10.form with ⟨hA,_⟩|⟨g2,hA,hg2,_⟩
    .rw [hA] at e;cases e
    rw [hA] at e;injection e with e;injection e with e;omega)
   obtain ⟨x0,x1,x2⟩:=hX11.bx.c2;have xl:=hX11.bx.lt;have hgf:=hC11.bx.fr;have hgl:=hC11.bx.lt;have c0:=Qq hB11 (Qq hb10 c0);have c1:=Qq hB11 (Qq hb10 c1);have c2:=Qq hB11 (Qq hb10 c2);clear hX11 hB11 hs11 hb10 ho10 ho11 hC11 hi4 hm4 HC HV HBp cC hsat;go_wp2_with fail
   have hset:=HC11.out.set (i:=p) HPo.out ⟨qn,qe,A10,c10,qm⟩ HOq.out HNe.out;have g1:=Qv (p:=⟨gb,p*3,none⟩) (QN W11 (some gb)) (.inl rfl) (.int .i64 qn);have g2:=Qv (p:=⟨gb,p*3+1,none⟩) g1 (.inl rfl) (.bool qe);have g3:=Qv (p:=⟨gb,p*3+2,none⟩) g2 (.inl rfl) (.slice A10 qm.length c10);have hne:bv≠gb:=by have:=HGl.out;omega
   have hge:w3.heap.size≤gb:=HGb.out;go_roundw
   case rel=>exact ⟨p+1,rs'.set p ⟨qn,qe,A10,c10,qm⟩,by go_num,by have:=HPl.out;omega,by rw [HSt.out];exact hset,HV11.out.only g3 hne,((HB11.out.setCell (p:=⟨gb,p*3,none⟩) hge _).setCell (p:=⟨gb,p*3+1,none⟩) hge _).setCell (p:=⟨gb,p*3+2,none⟩) hge _⟩
   have:=HPl.out;simp [Go.RowKit.intOf];omega
  obtain rfl:NL=p:=by omega
  have q0:decide ((NL:Int)<(NL:Int))=false:=ZA (by omega);have hsl:(Uc os NL).length=NL:=by rw [Uf,HOl.out]
  have hN2:∀i,i<(Uc os NL).length->(Vg (Uc os NL) i).1=2:=λi hi=>by
   rw [hsl] at hi;have hb:=HBx.out i (by rw [HOl.out];exact hi);rw [Br (by rw [HOl.out];exact ZH _),ZM hi];rcases hb.cases with ⟨M,Z,_,_,e⟩|e<;>rw [e]<;>rfl
  have HG12:=Hd (HG3.out.go hb);have HNm12:=Hd (HNm3.out.go hb);have HX12:=Hd (HX3.out.go hb);have cGr:=Ql2 m g os (Uc os NL) (some ⟨gb,0,none⟩) c wr HG12.out HNm12.out HGd.out HGn.out hC.oks (by rw [hsl,HGp.out]) (by rw [Uf]) hN2 (Jz3 HBx.out (by rw [HOl.out];exact ZH _)) HBx.out HG0.out (λi hi=>HBt.out i (by rw [HEL.out];exact hi));unfold Jm Qt Qd3 vdV at cGr;rw [hsl,HGp.out,<-HNA.out,<-HEL.out] at cGr;obtain ⟨x0,x1,x2,x3,x4,x5⟩:=HX12.out.bx.c5;have xl:=HX12.out.bx.lt;rw [HGp.out] at x3;rw [<-HNA.out] at x2;rw [<-HEL.out] at x5;clear hsl hN2 hC hpg;go_wp2_with fail
  with_reducible refine cGr.mono ?_
  rintro e1 w13 ⟨why2,pt2,cost2,rfl,hb13⟩;have hv13:=hV.below hb13;obtain ⟨v0,v1,v2,v3,v4,v5⟩:=hv13.c5;have vf:=hv13.fr;have vl:=hv13.lt;have HV13:=Hd hv13;have HB13:=Hd (hb.trans (hb13.mono hb.size));clear x0 x1 x2 x3 x4 x5 xl hb13 hv13 cGr hV hb;go_upto_region 30 with fail
  have hle:w3.heap.size≤bv:=by have:=HGb.out;have:=HGl.out;omega
  obtain ⟨W14,hW14,hz14,hb14⟩:∃W14,W14=(((((w13.setCell ⟨bv,0,none⟩ (.bool true)).setCell ⟨bv,1,none⟩ (.int .i64 why2)).setCell ⟨bv,2,none⟩ (.int .i64 0)).setCell ⟨bv,3,none⟩ (.int .i64 0)).setCell ⟨bv,4,none⟩ (.int .i64 pt2)).setCell ⟨bv,5,none⟩ (.int .i64 cost2)∧
   Bx W14 bv [.bool true,.int .i64 why2,.int .i64 0,.int .i64 0,.int .i64 pt2,.int .i64 cost2]∧Below w3.heap.size w3 W14:=
   ⟨_,rfl,(((((HV13.out.set (i:=0) (by simp) (.bool true)).set (i:=1) (by simp) (.int .i64 why2)).set (i:=2) (by simp) (.int .i64 0)).set (i:=3) (by simp) (.int .i64 0)).set (i:=4) (by simp) (.int .i64 pt2)).set (i:=5) (by simp) (.int .i64 cost2),
     (((((HB13.out.setCell (p:=⟨bv,0,none⟩) hle _).setCell (p:=⟨bv,1,none⟩) hle _).setCell (p:=⟨bv,2,none⟩) hle _).setCell (p:=⟨bv,3,none⟩) hle _).setCell (p:=⟨bv,4,none⟩) hle _).setCell (p:=⟨bv,5,none⟩) hle _⟩
  rw [<-hW14];clear hW14 v0 v1 v2 v3 v4 v5 vf vl;have z0:=hz14.cell 0 _ rfl;have zl:=hz14.lt;have HB14:=Hd hb14;clear hz14 hb14;go_wp2_with fail
  go_ret
  exact ⟨rfl,HB3.out.trans (HB14.out.mono HB3.out.size)⟩
end
