/- Lemmas for wholeNotEmpty; no conditions. -/
import Derived.Test.YtpggdkenajfjjaaGreatDoorGbw
import Derived.Test.YtpggdkenajfjjaaGreatDoorGam
set_option linter.all false
set_option maxRecDepth 100000
set_option maxHeartbeats 16000000
namespace Go.Proofs.YtpggdkenajfjjaaGreatDoor
open Go.RowKit Tryz
open Go.Lib renaming hid → Hd
section
open Gn
theorem Vv6 (a b:Int) (w:World) (h:hf a):Calls prog 299 #[.int .i64 a,.int .i64 b] w λe w'=>e=.returned (.tuple #[.int .i64 (-a),.int .i64 0])∧w=w':=by
 have cN:=λW=>Zi1 a W (by unfold hf at h;unfold Zu;omega)
 rw [show Kd (-a)=-a by unfold Kd;rw [ZM (by unfold hf at h;unfold Zu;omega)],show Xy (-a)=0 by unfold Xy;rw [ZM (by unfold hf at h;unfold Zu;omega)]] at cN;go_enter func299,ntmps299
 go_wp2_with (go_at_call 253;(with_reducible refine (cN _).mono ?_);rintro e _ ⟨rfl,rfl⟩)
 exact QL (v:=.tuple #[.int .i64 (-a),.int .i64 0]) (by simp [results,results299,go_sem]) rfl ⟨rfl,rfl⟩
def Qg5:Value:=.func (.func 299) #[] #[]
theorem Zw2 (w:World):Calls prog 248 #[.int .i64 3] w λe w'=>e=.returned (.agg #[Qg5,.nilFunc])∧Below w.heap.size w w':=by
 obtain ⟨W,hW,hX,hB,_⟩:=Zk w [.nilFunc,.nilFunc] 332;obtain ⟨_,_⟩:=hX.bx.c1;have:=hX.bx.fr;have:=hX.bx.lt;go_enter func248,ntmps248
 go_upto_region 1 with fail
 rw [<-hW];clear hW;have hix:∀W,(Instr.index 383 (.agg #[.nilFunc,.nilFunc,.nilFunc,.nilFunc,.nilFunc,.nilFunc,.func (.func 299) #[] #[],.nilFunc,.func (.func 196) #[] #[],.nilFunc,.func (.func 197) #[] #[],.nilFunc,.func (.func 300) #[] #[],.func (.func 301) #[] #[],.func (.func 302) #[] #[],.func (.func 303) #[] #[],.func (.func 304) #[] #[],.func (.func 305) #[] #[]]) (.int .i64 3)).run prog W=.ok (.agg #[Qg5,.nilFunc]) W:=λW=>by kernel_rfl
 unfold Qg5 at hix;go_wp2_with fail
 have k:=hX.put (vs:=[Qg5,.nilFunc]) rfl;obtain ⟨k0,k1⟩:=k.bx.c1;simp only [Qg5,Qm] at k0 k1;exact QL (v:=.agg #[Qg5,.nilFunc]) (by simp [results,results248,go_sem,k0,k1,Qg5]) rfl ⟨rfl,Qn (ZH _) [Qg5,.nilFunc] 0 _ hB⟩
def hg (n:Int):Prop:=-2305843009213693951≤n∧n≤2305843009213693951
theorem Bp {W:World} {b:Nat} {P:Zj} {A:Option Addr} {c:Nat} {us:List Value} (hl:us.length≤3) (hY:Xb W b us) (hO:Qi W A c P) (vs:List Value):Qi (Qm W b 0 vs) A c P:=by
 refine ⟨⟨hO.oi.hN,λhn=>?_,hO.oi.i64,hO.oi.le,hO.oi.max⟩,hO.ok⟩;obtain ⟨g,off,rfl,hg,hc⟩:=hO.oi.rd hn;have hlen:4≤P.2.2.length:=by
  obtain ⟨n,_,_,k1,k2⟩:=Zz hO.ok;cases hE:P.2.1 with
  |true=>rw [k1 hE] at hn;simp at hn
  |false=>
   have:=(k2 hE).1
   rw [this] at hn |-
   rcases Nat.eq_zero_or_pos n with rfl|hp
   .simp at hn
   have:1*1≤n*n:=QA hp hp
   rw [Nat.mul_assoc];omega
 have hne:g≠b:=by
  rintro rfl;have e:=hc 3 (by omega);rw [hY.end_ (off+3) (by omega)] at e;cases e
 have hp:=Za W b vs 0;exact ⟨g,off,rfl,ZI hg hp.size,λi hi=>Qy hp (hc i hi) hne⟩
theorem Rx (P:Zj) (A:Option Addr) (c:Nat) (av an bv bn:Int) (s:Bool) (w:World) (h:Qi w A c P) (ha:av<0∨nr av) (hb:bv<0∨nr bv) (hab:0≤av∨0≤bv) (na:hg an) (nb:hg bn):
 Calls prog 244 #[Qf P A c,Um av an,Um bv bn,.bool s] w (Zd w (Jk P av an bv bn s)):=by
 unfold hg at na nb;unfold Jk;by_cases h0:0≤av
 .rw [ZM h0];have hna:nr av:=by rcases ha with ha|ha;omega;exact ha
  by_cases h1:0≤bv
  .rw [ZM h1];have hnb:nr bv:=by rcases hb with hb|hb;omega;exact hb
   by_cases he:av=bv
   .rw [ZM he];cases s
    .rw [ZL (by simp)];exact Zw3 P A c av an bv bn w h h0 he
    rw [ZM rfl];exact Zu7 P A c av an bv bn w h h0 he
   rw [ZL he];cases s
   .exact Jp8 P A c av an bv bn w h hna hnb he
   exact Jr3 P A c av an bv bn w h hna hnb he
  rw [ZL h1];cases s
  .have:=Jj8 P A c av an bv bn w h hna (by omega) (by unfold hf;omega) (by unfold hf;omega)
   rw [show bn+Kb false=bn by unfold Kb;simp];exact this
  exact Zs6 P A c av an bv bn w h hna (by omega) (by unfold hf;omega) (by unfold hf;omega)
 rw [ZL h0];have hnb:nr bv:=by rcases hb with hb|hb;omega;exact hb
 cases s
 .have:=Zn1 P A c av an bv bn w h (by omega) hnb (by unfold hf;omega) (by unfold hf;omega)
  rw [show an - Kb false=an by unfold Kb;simp];exact this
 have:=Zs5 P A c av an bv bn w h (by omega) hnb (by unfold hf;omega) (by unfold hf;omega)
 rw [show an - Kb true=an+1 by unfold Kb;simp];exact this
theorem Jw2 (P:Zj) (A:Option Addr) (c:Nat) (op av an bv bn:Int) (w:World) (h:Qi w A c P) (h0:av<0) (h1:bv<0) (hc:Fe op an bn=true):
 Calls prog 181 #[Qf P A c,.int .i64 op,Um av an,Um bv bn] w (Zd w (P)):=by
 obtain ⟨W,hW,hX,hY,hU,hZ,hB,_⟩:=Xv w (Qp P A c) 32 (Yz av an) 54 (Yz bv bn) 54 Jj 32;have hP:=h.go hB;have:=h.ok;have cN:=λW=>Zh9 op an bn W
 rw [hc] at cN;have:decide (av<0)=true:=ZE h0;have:decide (bv<0)=true:=ZE h1;obtain ⟨y0,y1,y2⟩:=hX.bx.c2;have yl:=hX.bx.lt;obtain ⟨_,_⟩:=hY.bx.c1;have:=hY.bx.fr;have:=hY.bx.lt;obtain ⟨_,_⟩:=hU.bx.c1;have:=hU.bx.fr;have:=hU.bx.lt;have HZ:=Hd hZ;have HB:=Hd hB;have HP:=Hd hP;have HX:=Hd hX;have:=Hd hY;have:=Hd hU;unfold Qf Um;unfold Qp Yz Jj at hW;clear h hX hZ hB hP hY hU;go_enter func181,ntmps181
 go_upto_region 1 with fail
 rw [<-hW];clear hW;go_wp2_with (go_at_call 243;(with_reducible refine (cN _).mono ?_);rintro _ _ ⟨rfl,hb3⟩;have hx3:=HX.out.go hb3;have y0:=hx3.bx.cell 0 _ rfl;have y1:=hx3.bx.cell 1 _ rfl;have y2:=hx3.bx.cell 2 _ rfl;have yl:=hx3.bx.lt;have hz3:=HZ.out.go hb3;have x0:=hz3.bx.cell 0 _ rfl;have x1:=hz3.bx.cell 1 _ rfl;have x2:=hz3.bx.cell 2 _ rfl;have:=hz3.bx.fr;have:=hz3.bx.lt;unfold Jj at x0 x1 x2;have HZ3:=Hd hz3;clear hz3;have HO3:=Hd (HP.out.go hb3);have HB3:=Ht HB hb3;clear hb3 hx3)
 go_wp2_with fail
 obtain ⟨k,kO,kB⟩:=Zx HZ3.out HO3.out HB3.out (by omega);obtain ⟨k0,k1,k2⟩:=k.bx.c2;simp only [Qp,Qm] at k0 k1 k2;exact QL (v:=Qf P A c) (by simp [results,results181,go_sem,k0,k1,k2,Qf]) rfl ⟨A,c,rfl,kO,kB⟩
theorem Ju9 (P:Zj) (A:Option Addr) (c:Nat) (op av an bv bn:Int) (w:World) (h:Qi w A c P) (h0:av<0) (h1:bv<0) (hc:Fe op an bn=false):
 Calls prog 181 #[Qf P A c,.int .i64 op,Um av an,Um bv bn] w (Zd w (Vt P.1)):=by
 obtain ⟨W,hW,hX,hY,hU,hZ,hB,_⟩:=Xv w (Qp P A c) 32 (Yz av an) 54 (Yz bv bn) 54 Jj 32;have hP:=h.go hB;have hok:=h.ok;have cN:=λW=>Zh9 op an bn W
 rw [hc] at cN;obtain ⟨S,hS⟩:∃S:Zj,Hid (Vt P.1=S):=⟨_,Hd rfl⟩;rw [hS.out];have cE:=λW=>Qy2 P hok W
 rw [hS.out] at cE;have:decide (av<0)=true:=ZE h0;have:decide (bv<0)=true:=ZE h1;obtain ⟨y0,y1,y2⟩:=hX.bx.c2;have yl:=hX.bx.lt;obtain ⟨_,_⟩:=hY.bx.c1;have:=hY.bx.fr;have:=hY.bx.lt;obtain ⟨_,_⟩:=hU.bx.c1;have:=hU.bx.fr;have:=hU.bx.lt;have HZ:=Hd hZ;have HB:=Hd hB;have:=Hd hP;have HX:=Hd hX;have:=Hd hY;have:=Hd hU;unfold Qf Um;unfold Qp Yz Jj at hW;clear h hX hZ hB hP hY hU;go_enter func181,ntmps181
 go_upto_region 1 with fail
 rw [<-hW];clear hW;go_wp2_with (first
  |(go_at_call 243;(with_reducible refine (cN _).mono ?_);rintro e _ ⟨rfl,hb2⟩;have hx2:=HX.out.go hb2;have y0:=hx2.bx.cell 0 _ rfl;have y1:=hx2.bx.cell 1 _ rfl;have y2:=hx2.bx.cell 2 _ rfl;have yl:=hx2.bx.lt;have HZ2:=Hd (HZ.out.go hb2);have HB2:=Ht HB hb2;clear hb2 hx2)
  |(go_at_call 179;(with_reducible refine (cE _).mono ?_);rintro e _ ⟨A3,c3,he,hO3,hb3⟩;unfold Qf at he;subst he;have hz3:=HZ2.out.go hb3;have x0:=hz3.bx.cell 0 _ rfl;have x1:=hz3.bx.cell 1 _ rfl;have x2:=hz3.bx.cell 2 _ rfl;have:=hz3.bx.fr;have:=hz3.bx.lt;unfold Jj at x0 x1 x2;have HZ3:=Hd hz3;clear hz3;have HO3:=Hd hO3;have HB3:=Ht HB2 hb3;clear hO3 hb3))
 go_wp2_with fail
 obtain ⟨k,kO,kB⟩:=Zx HZ3.out HO3.out HB3.out (by omega);obtain ⟨k0,k1,k2⟩:=k.bx.c2;simp only [Qp,Qm] at k0 k1 k2;exact QL (v:=Qf S A3 c3) (by simp [results,results181,go_sem,k0,k1,k2,Qf]) rfl ⟨A3,c3,rfl,kO,kB⟩
theorem Vs3 (P:Zj) (A:Option Addr) (c:Nat) (op av an bv bn:Int) (w:World) (h:Qi w A c P) (ha:av<0∨nr av) (hb:bv<0∨nr bv) (hab:0≤av∨0≤bv) (na:hg an) (nb:hg bn) (s:Bool) (ho:(op=1∧s=true)∨(op=2∧s=false)):
 Calls prog 181 #[Qf P A c,.int .i64 op,Um av an,Um bv bn] w (Zd w (Qo (Jk P av an bv bn s))):=by
 obtain ⟨_,hW,hX,hY,hU,hZ,hB,_⟩:=Xv w (Qp P A c) 32 (Yz av an) 54 (Yz bv bn) 54 Jj 32;have hP:=h.go hB;have:=h.ok;obtain ⟨Q,hQ⟩:∃Q:Zj,Hid (Jk P av an bv bn s=Q):=⟨_,Hd rfl⟩;obtain ⟨S,hS⟩:∃S:Zj,Hid (Qo Q=S):=⟨_,Hd rfl⟩;have e:Qo (Jk P av an bv bn s)=S:=by rw [<-hS.out,<-hQ.out]
 rw [e];have cL:=λ(w1:World) (hw:Qi w1 A c P)=>Rx P A c av an bv bn s w1 hw ha hb hab na nb
 rw [hQ.out] at cL;unfold Qf Um at cL;have cC:=λA1 c1 (w1:World) (h:Qi w1 A1 c1 Q)=>Yl Q A1 c1 w1 h
 rw [hS.out] at cC;unfold Qf at cC;clear e hQ hS;obtain ⟨_,_,_⟩:=hX.bx.c2;have:=hX.bx.lt;obtain ⟨_,_⟩:=hY.bx.c1;have:=hY.bx.fr;have:=hY.bx.lt;obtain ⟨_,_⟩:=hU.bx.c1;have:=hU.bx.fr;have:=hU.bx.lt;have HZ:=Hd hZ;have HB:=Hd hB;have HP:=Hd hP;have:=Hd hX;have:=Hd hY;have:=Hd hU;unfold Qf Um;unfold Qp Yz Jj at hW;clear h hX hZ hB hP hY hU;rcases ho with ⟨rfl,rfl⟩|⟨rfl,rfl⟩
 all_goals
  go_enter func181,ntmps181
  go_upto_region 1 with fail
  rw [<-hW];clear hW;go_wp2_with (first
   |(go_at_call 244;(with_reducible refine (cL _ HP.out).mono ?_);rintro e _ ⟨_,c2,he,hO2,hb2⟩;unfold Qf at he;subst he;have HZ2:=Hd (HZ.out.go hb2);have HO2:=Hd hO2;have HB2:=Ht HB hb2;clear hO2 hb2)
   |(go_at_call 123;(with_reducible refine (cC _ _ _ HO2.out).mono ?_);rintro e _ ⟨A3,c3,he,hO3,hb3⟩;unfold Qf at he;subst he;have hz3:=HZ2.out.go hb3;have x0:=hz3.bx.cell 0 _ rfl;have x1:=hz3.bx.cell 1 _ rfl;have x2:=hz3.bx.cell 2 _ rfl;have:=hz3.bx.fr;have:=hz3.bx.lt;unfold Jj at x0 x1 x2;have HZ3:=Hd hz3;clear hz3;have HO3:=Hd hO3;have HB3:=Ht HB2 hb3;clear hO3 hb3))
  all_goals
   go_wp2_with fail
   obtain ⟨k,kO,kB⟩:=Zx HZ3.out HO3.out HB3.out (by omega);obtain ⟨k0,k1,k2⟩:=k.bx.c2;simp only [Qp,Qm] at k0 k1 k2;exact QL (v:=Qf S A3 c3) (by simp [results,results181,go_sem,k0,k1,k2,Qf]) rfl ⟨A3,c3,rfl,kO,kB⟩
theorem Je5 (P:Zj) (A:Option Addr) (c:Nat) (op av an bv bn:Int) (w:World) (h:Qi w A c P) (ha:av<0∨nr av) (hb:bv<0∨nr bv) (hab:0≤av∨0≤bv) (na:hg an) (nb:hg bn):
 Calls prog 181 #[Qf P A c,.int .i64 1,Um av an,Um bv bn] w (Zd w (Qo (Jk P av an bv bn true))):=
 Vs3 P A c 1 av an bv bn w h ha hb hab na nb true (.inl ⟨rfl,rfl⟩)
theorem Jl7 (P:Zj) (A:Option Addr) (c:Nat) (op av an bv bn:Int) (w:World) (h:Qi w A c P) (ha:av<0∨nr av) (hb:bv<0∨nr bv) (hab:0≤av∨0≤bv) (na:hg an) (nb:hg bn):
 Calls prog 181 #[Qf P A c,.int .i64 2,Um av an,Um bv bn] w (Zd w (Qo (Jk P av an bv bn false))):=
 Vs3 P A c 2 av an bv bn w h ha hb hab na nb false (.inr ⟨rfl,rfl⟩)
theorem Jb8 (P:Zj) (A:Option Addr) (c:Nat) (op av an bv bn:Int) (w:World) (h:Qi w A c P) (ha:av<0∨nr av) (hb:bv<0∨nr bv) (hab:0≤av∨0≤bv) (na:hg an) (nb:hg bn):
 Calls prog 181 #[Qf P A c,.int .i64 3,Um av an,Um bv bn] w (Zd w (Qo (Jk (Jk P av an bv bn false) bv bn av an false))):=by
 obtain ⟨W,hW,hX,hY,hU,hZ,hB,_⟩:=Xv w (Qp P A c) 32 (Yz av an) 54 (Yz bv bn) 54 Jj 32;have hP:=h.go hB;have:=h.ok;have q9:(decide (av<0)&&decide (bv<0))=false:=by rcases hab with k|k<;>simp<;>omega
 obtain ⟨Q,hQ⟩:∃Q:Zj,Hid (Jk P av an bv bn false=Q):=⟨_,Hd rfl⟩;obtain ⟨R,hR⟩:∃R:Zj,Hid (Jk Q bv bn av an false=R):=⟨_,Hd rfl⟩;obtain ⟨S,hS⟩:∃S:Zj,Hid (Qo R=S):=⟨_,Hd rfl⟩;have e:Qo (Jk (Jk P av an bv bn false) bv bn av an false)=S:=by rw [<-hS.out,<-hR.out,<-hQ.out]
 rw [e];have cL:=λ(w1:World) (hw:Qi w1 A c P)=>Rx P A c av an bv bn false w1 hw ha hb hab na nb
 rw [hQ.out] at cL;unfold Qf Um at cL;have cM:=λA1 c1 (w1:World) (hw:Qi w1 A1 c1 Q)=>Rx Q A1 c1 bv bn av an false w1 hw hb ha hab.symm nb na
 rw [hR.out] at cM;unfold Qf Um at cM;have cC:=λA1 c1 (w1:World) (h:Qi w1 A1 c1 R)=>Yl R A1 c1 w1 h
 rw [hS.out] at cC;unfold Qf at cC;clear e hQ hS hR;obtain ⟨y0,y1,y2⟩:=hX.bx.c2;have yl:=hX.bx.lt;obtain ⟨a0,a1⟩:=hY.bx.c1;have:=hY.bx.fr;have al:=hY.bx.lt;obtain ⟨b0,b1⟩:=hU.bx.c1;have:=hU.bx.fr;have bl:=hU.bx.lt;have HZ:=Hd hZ;have HB:=Hd hB;have HP:=Hd hP;have HX:=Hd hX;have HY:=Hd hY;have HU:=Hd hU;unfold Qf Um;unfold Qp Yz Jj at hW;clear h hX hZ hB hP hY hU;go_enter func181,ntmps181
 go_upto_region 1 with fail
 rw [<-hW];clear hW;go_cut [17] (λs wx=>s=.bool false∧W=wx)
 case first=>
  rcases hab with k|k
  .have q0:decide (av<0)=false:=ZA (by omega);go_wp2_with fail
   go_meet
   exact ⟨rfl,rfl⟩
  rcases Int.lt_or_le av 0 with k0|k0
  .have q0:decide (av<0)=true:=ZE (by omega);have:decide (bv<0)=false:=ZA (by omega);go_wp2_with fail
   go_meet
   exact ⟨rfl,rfl⟩
  have q0:decide (av<0)=false:=ZA (by omega);go_wp2_with fail
  go_meet
  exact ⟨rfl,rfl⟩
 case rest=>
  obtain ⟨rfl,rfl⟩:=hcut;go_upto_region 12 with fail
  clear q9;go_region_law (first
  |(go_simp;go_at_call 244;(with_reducible refine (cL _ (HP.out.go (QK _ W).drew)).mono ?_);rintro e w1 ⟨A1,c1,he,hO1,hb1⟩;unfold Qf at he;subst he;have hx1:=(HX.out.go (QK _ W).drew).go hb1;have y0:=hx1.bx.cell 0 _ rfl;have y1:=hx1.bx.cell 1 _ rfl;have y2:=hx1.bx.cell 2 _ rfl;have yl:=hx1.bx.lt;have hy1:=(HY.out.go (QK _ W).drew).go hb1;have a0:=hy1.bx.cell 0 _ rfl;have a1:=hy1.bx.cell 1 _ rfl;have al:=hy1.bx.lt;have hu1:=(HU.out.go (QK _ W).drew).go hb1;have b0:=hu1.bx.cell 0 _ rfl;have b1:=hu1.bx.cell 1 _ rfl;have bl:=hu1.bx.lt;clear hx1 hy1 hu1;have HZ1:=Hd ((HZ.out.go (QK _ W).drew).go hb1);have HO1:=Hd hO1;have HB1:=Hd (HB.out.drew.trans (hb1.mono HB.out.drew.size));clear hO1 hb1)
  |(go_simp;go_at_call 244;(with_reducible refine (cM _ _ _ HO1.out).mono ?_);rintro e _ ⟨_,c2,he,hO2,hb2⟩;unfold Qf at he;subst he;have HZ2:=Hd (HZ1.out.go hb2);have HO2:=Hd hO2;have HB2:=Ht HB1 hb2;clear hO2 hb2)
  |(go_simp;go_at_call 123;(with_reducible refine (cC _ _ _ HO2.out).mono ?_);rintro e _ ⟨A3,c3,he,hO3,hb3⟩;unfold Qf at he;subst he;have hz3:=HZ2.out.go hb3;have x0:=hz3.bx.cell 0 _ rfl;have x1:=hz3.bx.cell 1 _ rfl;have x2:=hz3.bx.cell 2 _ rfl;have:=hz3.bx.fr;have:=hz3.bx.lt;unfold Jj at x0 x1 x2;have HZ3:=Hd hz3;clear hz3;have HO3:=Hd hO3;have HB3:=Ht HB2 hb3;clear hO3 hb3))
  all_goals
   go_wp2_with fail
   obtain ⟨k,kO,kB⟩:=Zx HZ3.out HO3.out HB3.out (by omega);obtain ⟨k0,k1,k2⟩:=k.bx.c2;simp only [Qp,Qm] at k0 k1 k2;exact QL (v:=Qf S A3 c3) (by simp [results,results181,go_sem,k0,k1,k2,Qf]) rfl ⟨A3,c3,rfl,kO,kB⟩
theorem Vs4 (P:Zj) (A:Option Addr) (c:Nat) (op av an bv bn:Int) (w:World) (h:Qi w A c P) (ha:av<0∨nr av) (hb:bv<0∨nr bv) (hab:0≤av∨0≤bv) (na:hg an) (nb:hg bn) (s:Bool) (ho:(op=5∧s=true)∨(op=6∧s=false)):
 Calls prog 181 #[Qf P A c,.int .i64 op,Um av an,Um bv bn] w (Zd w (Qo (Jk P bv bn av an s))):=by
 obtain ⟨W,hW,hX,hY,hU,hZ,hB,_⟩:=Xv w (Qp P A c) 32 (Yz av an) 54 (Yz bv bn) 54 Jj 32;have hP:=h.go hB;have:=h.ok;obtain ⟨Q,hQ⟩:∃Q:Zj,Hid (Jk P bv bn av an s=Q):=⟨_,Hd rfl⟩;obtain ⟨S,hS⟩:∃S:Zj,Hid (Qo Q=S):=⟨_,Hd rfl⟩;have e:Qo (Jk P bv bn av an s)=S:=by rw [<-hS.out,<-hQ.out]
 rw [e];have cL:=λ(w1:World) (hw:Qi w1 A c P)=>Rx P A c bv bn av an s w1 hw hb ha hab.symm nb na
 rw [hQ.out] at cL;unfold Qf Um at cL;have cC:=λA1 c1 (w1:World) (h:Qi w1 A1 c1 Q)=>Yl Q A1 c1 w1 h
 rw [hS.out] at cC;unfold Qf at cC;clear e hQ hS;obtain ⟨y0,y1,y2⟩:=hX.bx.c2;have yl:=hX.bx.lt;obtain ⟨a0,a1⟩:=hY.bx.c1;have af:=hY.bx.fr;have al:=hY.bx.lt;obtain ⟨b0,b1⟩:=hU.bx.c1;have bf:=hU.bx.fr;have bl:=hU.bx.lt;have HZ:=Hd hZ;have HB:=Hd hB;have HP:=Hd hP;have HX:=Hd hX;have HY:=Hd hY;have HU:=Hd hU;unfold Qf Um;unfold Qp Yz Jj at hW;clear h hX hZ hB hP hY hU;rcases ho with ⟨rfl,rfl⟩|⟨rfl,rfl⟩
 all_goals
  go_enter func181,ntmps181
  go_upto_region 1 with fail
  rw [<-hW];clear hW;obtain ⟨WS,hWS⟩:∃WS,WS=Qm (Qm W (w.heap.size+1) 0 (Yz bv bn)) (w.heap.size+2) 0 (Yz av an):=⟨_,rfl⟩;have hS:Qi WS A c P∧Xb WS w.heap.size (Qp P A c)∧Xb WS (w.heap.size+1) (Yz bv bn)∧Xb WS (w.heap.size+2) (Yz av an)∧Xb WS (w.heap.size+3) Jj∧Below w.heap.size w WS:=by
   rw [hWS];have g1:=Za W (w.heap.size+1) (Yz bv bn) 0;have g2:=Za (Qm W (w.heap.size+1) 0 (Yz bv bn)) (w.heap.size+2) (Yz av an) 0;have u1:=HU.out.only g1 (by omega);exact ⟨Bp (by simp [Yz]) u1 (Bp (by simp [Yz]) HY.out HP.out _) _,(HX.out.only g1 (by omega)).only g2 (by omega),(HY.out.put (vs:=Yz bv bn) rfl).only g2 (by omega),u1.put (vs:=Yz av an) rfl,(HZ.out.only g1 (by omega)).only g2 (by omega),Qn (by omega) _ _ _ (Qn (by omega) _ _ _ HB.out)⟩
  unfold Yz Qm at hWS;simp only [Qm] at hWS;have HS:=Hd hS;clear hS
 rotate_right
 focus
  go_upto_region 16 with fail
 rotate_right
 focus
  go_upto_region 14 with fail
 all_goals
  all_goals
   go_upto_region 17 with fail
   rw [<-hWS];clear hWS y0 y1 y2 yl a0 a1 af al b0 b1 bf bl;obtain ⟨sP,sX,sY,sU,sZ,sB⟩:=HS.out;obtain ⟨y0,y1,y2⟩:=sX.bx.c2;have yl:=sX.bx.lt;obtain ⟨a0,a1⟩:=sY.bx.c1;have al:=sY.bx.lt;obtain ⟨b0,b1⟩:=sU.bx.c1;have bl:=sU.bx.lt;have HP2:=Hd sP;have HZ1:=Hd sZ;have HB1:=Hd sB;clear sP sX sY sU sZ sB HS;go_wp2_with (first
   |(go_at_call 244;(with_reducible refine (cL _ HP2.out).mono ?_);rintro e _ ⟨_,c2,he,hO2,hb2⟩;unfold Qf at he;subst he;have HZ2:=Hd (HZ1.out.go hb2);have HO2:=Hd hO2;have HB2:=Ht HB1 hb2;clear hO2 hb2)
   |(go_at_call 123;(with_reducible refine (cC _ _ _ HO2.out).mono ?_);rintro e _ ⟨A3,c3,he,hO3,hb3⟩;unfold Qf at he;subst he;have hz3:=HZ2.out.go hb3;have x0:=hz3.bx.cell 0 _ rfl;have x1:=hz3.bx.cell 1 _ rfl;have x2:=hz3.bx.cell 2 _ rfl;have:=hz3.bx.fr;have:=hz3.bx.lt;unfold Jj at x0 x1 x2;have HZ3:=Hd hz3;clear hz3;have HO3:=Hd hO3;have HB3:=Ht HB2 hb3;clear hO3 hb3))
   all_goals
    go_wp2_with fail
    obtain ⟨k,kO,kB⟩:=Zx HZ3.out HO3.out HB3.out (by omega);obtain ⟨k0,k1,k2⟩:=k.bx.c2;simp only [Qp,Qm] at k0 k1 k2;exact QL (v:=Qf S A3 c3) (by simp [results,results181,go_sem,k0,k1,k2,Qf]) rfl ⟨A3,c3,rfl,kO,kB⟩
theorem Jp7 (P:Zj) (A:Option Addr) (c:Nat) (op av an bv bn:Int) (w:World) (h:Qi w A c P) (ha:av<0∨nr av) (hb:bv<0∨nr bv) (hab:0≤av∨0≤bv) (na:hg an) (nb:hg bn):
 Calls prog 181 #[Qf P A c,.int .i64 5,Um av an,Um bv bn] w (Zd w (Qo (Jk P bv bn av an true))):=
 Vs4 P A c 5 av an bv bn w h ha hb hab na nb true (.inl ⟨rfl,rfl⟩)
theorem Jp3 (P:Zj) (A:Option Addr) (c:Nat) (op av an bv bn:Int) (w:World) (h:Qi w A c P) (ha:av<0∨nr av) (hb:bv<0∨nr bv) (hab:0≤av∨0≤bv) (na:hg an) (nb:hg bn):
 Calls prog 181 #[Qf P A c,.int .i64 6,Um av an,Um bv bn] w (Zd w (Qo (Jk P bv bn av an false))):=
 Vs4 P A c 6 av an bv bn w h ha hb hab na nb false (.inr ⟨rfl,rfl⟩)
theorem Zx8 (P:Zj) (A:Option Addr) (c:Nat) (op av an bv bn:Int) (w:World) (h:Qi w A c P) (ha:av<0∨nr av) (hb:bv<0∨nr bv) (na:hg an) (nb:hg bn) (h1:1≤op∧op≤6) (h4:op=4->av<0∧bv<0):
 Calls prog 181 #[Qf P A c,.int .i64 op,Um av an,Um bv bn] w (Zd w (Xc P op av an bv bn)):=by
 unfold Xc;by_cases hn:av<0∧bv<0
 .rw [ZM hn];cases hc:Fe op an bn
  .rw [ZL (by simp)];exact Ju9 P A c op av an bv bn w h hn.1 hn.2 hc
  rw [ZM rfl];exact Jw2 P A c op av an bv bn w h hn.1 hn.2 hc
 rw [ZL hn];have hab:0≤av∨0≤bv:=by omega
 have:op≠4:=λk=>hn (h4 k)
 rcases (show op=1∨op=2∨op=3∨op=5∨op=6 by omega) with rfl|rfl|rfl|rfl|rfl
 .exact Je5 P A c 1 av an bv bn w h ha hb hab na nb
 .exact Jl7 P A c 2 av an bv bn w h ha hb hab na nb
 .exact Jb8 P A c 3 av an bv bn w h ha hb hab na nb
 .exact Jp7 P A c 5 av an bv bn w h ha hb hab na nb
 exact Jp3 P A c 6 av an bv bn w h ha hb hab na nb
end
