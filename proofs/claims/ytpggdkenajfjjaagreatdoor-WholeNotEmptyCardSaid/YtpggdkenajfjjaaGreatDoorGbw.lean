/- Lemmas for wholeNotEmpty; no conditions. -/
import Derived.Test.YtpggdkenajfjjaaGreatDoorGbv
import Derived.Deep.RegionLaw
import Derived.Deep.DeepCutAuto
import Derived.Test.YtpggdkenajfjjaaGreatDoorGbf
set_option linter.all false
set_option maxRecDepth 100000
set_option maxHeartbeats 16000000
namespace Go.Proofs.YtpggdkenajfjjaaGreatDoor
open Go.RowKit Tryz
open Go.Lib renaming hid → Hd
section
open Gn
def nr (v:Int):Prop:=0≤v∧v≤1000
def hf (n:Int):Prop:=-2305843009213693952≤n∧n≤2305843009213693952
theorem Mp (v:Int) (w:World) (h:nr v):Calls prog 185 #[.int .i64 v] w λe w'=>e=.returned (.int .i64 (2*v))∧w=w':=by
 have:IntKind.i64.wrap (2*v)=2*v:=QQ _ (by unfold nr at h;omega);go_enter func185,ntmps185
 go_wp2_with fail
 go_ret
 exact ⟨rfl,rfl⟩
theorem Qo1 (v:Int) (w:World) (h:nr v):Calls prog 188 #[.int .i64 v] w λe w'=>e=.returned (.int .i64 (2*v+1))∧w=w':=by
 have:IntKind.i64.wrap (2*v)=2*v:=QQ _ (by unfold nr at h;omega);have:IntKind.i64.wrap (2*v+1)=2*v+1:=QQ _ (by unfold nr at h;omega);go_enter func188,ntmps188
 go_wp2_with fail
 go_ret
 exact ⟨rfl,rfl⟩
theorem Qn5 (n:Int) (w:World) (h:hf n):Calls prog 296 #[.int .i64 n] w λe w'=>e=.returned (.int .i64 (2*n))∧w=w':=by
 have:IntKind.i64.wrap (2*n)=2*n:=QQ _ (by unfold hf at h;omega);have:decide (n>2305843009213693952)=false:=ZA (by unfold hf at h;omega);have:decide (n< -2305843009213693952)=false:=ZA (by unfold hf at h;omega);go_enter func296,ntmps296
 go_wp2_with fail
 go_ret
 exact ⟨rfl,rfl⟩
theorem Zc8 (n:Int) (w:World) (h:hf n):Calls prog 297 #[.int .i64 n] w λe w'=>e=.returned (.int .i64 (-n))∧w=w':=by
 have:IntKind.i64.wrap (-n)=-n:=QQ _ (by unfold hf at h;omega);have:decide (n=-9223372036854775808)=false:=ZA (by unfold hf at h;omega);have:(n==-9223372036854775808)=false:=by simp;unfold hf at h;omega
 go_enter func297,ntmps297
 go_wp2_with fail
 go_ret
 exact ⟨rfl,rfl⟩
theorem Xb.only {w w':World} {g b:Nat} {vs:List Value} (h:Xb w g vs) (hg:w.grownBy w' (some b)) (hne:g≠b):Xb w' g vs:=
 ⟨h.bx.only hg hne,λi hi=>(QR (a:=⟨g,i,none⟩) (hg.block g h.bx.lt (by intro e;injection e with e;exact hne e))).trans (h.end_ i hi)⟩
theorem Ze7 {W:World} {b:Nat} {Q P:Zj} {A A':Option Addr} {c c':Nat} (hY:Xb W b (Qp P A' c')) (hO:Qi W A c Q):Xb (Qm W b 0 (Qp Q A c)) b (Qp Q A c)∧Qi (Qm W b 0 (Qp Q A c)) A c Q∧W.grownBy (Qm W b 0 (Qp Q A c)) (some b):=
 ⟨hY.put rfl,Qs3 rfl (by intro k x e;cases e) (by intro k x e;cases e) hY hO _,Za _ _ _ _⟩
def Kx (r:Rg):Value:=.agg #[.int .i64 r.lo,.int .i64 r.hi,.bool r.hl,.bool r.hh]
def Xm (r:Rg):List Value:=[.int .i64 r.lo,.int .i64 r.hi,.bool r.hl,.bool r.hh]
theorem Zt (w:World) (vs:List Value) (t:TypeId) (us:List Value) (t':TypeId) (zs:List Value) (t2:TypeId):∃W,W=((w.alloc (.cells vs.toArray t)).alloc (.cells us.toArray t')).alloc (.cells zs.toArray t2)∧Xb W w.heap.size vs∧Xb W (w.heap.size+1) us∧Xb W (w.heap.size+2) zs∧Below w.heap.size w W∧W.heap.size=w.heap.size+3:=by
 obtain ⟨W1,hW1,hX1,hY1,hB1,h1⟩:=Vu w vs t us t';obtain ⟨W2,hW2,hX2,hB2,_⟩:=Zk W1 zs t2;rw [h1] at hX2;exact ⟨W2,by rw [hW2,hW1],hX1.go hB2,hY1.go hB2,hX2,hB1.trans (hB2.mono (by omega)),by omega⟩
theorem So (P:Zj) (A:Option Addr) (c:Nat) (v:Int) (r:Rg) (w:World) (h:Qi w A c P) (hv:nr v) (h1:hf r.lo) (h2:hf r.hi):
 Calls prog 246 #[Qf P A c,.int .i64 v,Kx r] w (Zd w (Yg P v r)):=by
 obtain ⟨W,hW,hX,hY,hZ,hB,_⟩:=Zt w (Qp P A c) 32 (Xm r) 112 Jj 32;have cp:=λW=>Mp v W hv
 have cm:=λW=>Qo1 v W hv
 have ct:=λW=>Qn5 r.hi W h2
 have cn:=λW=>Zc8 r.lo W h1
 have ct2:=λW=>Qn5 (-r.lo) W (by unfold hf at*;omega)
 have hP:=h.go hB;obtain ⟨S,hS⟩:∃S:Zj,Hid (Yg P v r=S):=⟨_,Hd rfl⟩;rw [hS.out];obtain ⟨lo,hi,hl,hh⟩:=r;obtain ⟨y0,y1,y2⟩:=hX.bx.c2;have yl:=hX.bx.lt;obtain ⟨r0,r1,r2,r3⟩:=hY.bx.c3;have rl:=hY.bx.lt;have HX:=Hd hX;have HY:=Hd hY;have HZ:=Hd hZ;have HB:=Hd hB;have HP:=Hd hP;unfold Qf Kx;unfold Qp Jj Xm at hW;dsimp only at y0 y1 y2 r0 r1 r2 r3 cp cm ct cn ct2 hW |-
 clear h hX hY hZ hB hP;go_enter func246,ntmps246
 go_upto_region 1 with fail
 rw [<-hW];clear hW;go_upto_if 8 with fail
 go_cut [] (λwx=>∃A1 c1,Xb wx w.heap.size (Qp (upO P v hi hh) A1 c1)∧Xb wx (w.heap.size+1) (Xm ⟨lo,hi,hl,hh⟩)∧Xb wx (w.heap.size+2) Jj∧Qi wx A1 c1 (upO P v hi hh)∧Below w.heap.size w wx)
 case first=>
  cases hh with
  |false=>
   go_wp2_with fail
   go_meet
   exact ⟨A,c,HX.out,HY.out,HZ.out,HP.out,HB.out⟩
  |true=>
   obtain ⟨Q,hQ⟩:∃Q:Zj,Hid (Yf P (2*v) (2*v+1) (2*hi)=Q):=⟨_,Hd rfl⟩;go_upto_region 2 with fail
   have a0:=Qz.cell y0;have a1:=Qz.cell y1;have a2:=Qz.cell y2;have a3:=Qz.cell r1;refine Qb [(8,2)] (by kernel_rfl) (by kernel_rfl) ?_;simp only [Jl,ZP,ZQ,ZR,ZT]
   repeat (go_big_quiet_step (first|(go_at_call 185;with_reducible exact Qw (cp _))|(go_at_call 188;with_reducible exact Qw (cm _))|(go_at_call 296;with_reducible exact Qw (ct _))))
   refine wpQuiet_nil ?_;intro w2 hb2;have HX2:=HX.out.go hb2;have HY2:=Hd (HY.out.go hb2);have HZ2:=Hd (HZ.out.go hb2);have HB2:=Hd (HB.out.trans (hb2.mono (by omega)));have cL:=Hd (Ui P A c (2*v) (2*v+1) (2*hi) w2 (HP.out.go hb2));have hbs:=hb2.size;rw [hQ.out] at cL;unfold Qf at cL;clear hb2 a0 a1 a2 a3 y0 y1 y2 yl r0 r1 r2 r3 rl;go_wp2_with (go_at_call 247;(with_reducible refine cL.out.mono ?_);rintro e w3 ⟨A1,c1,he,hO3,hb3⟩;unfold Qf at he;subst he;have hX3:=HX2.go hb3;have x0:=hX3.bx.cell 0 _ rfl;have x1:=hX3.bx.cell 1 _ rfl;have x2:=hX3.bx.cell 2 _ rfl;have xf:=hX3.bx.fr;have xl:=hX3.bx.lt)
   refine Qu (wpQuiet_nil ?_);intro w4 hb4;obtain ⟨kX,kO,kG⟩:=Ze7 hX3 hO3;have hz3:=(HZ2.out.go hb3).only kG (by omega);have hy3:=(HY2.out.go hb3).only kG (by omega);have hB3:=Qn (g:=w.heap.size) (ZH _) (Qp Q A1 c1) 0 w3 (HB2.out.trans (hb3.mono (by omega)));go_wp2_with fail
   go_meet
   show ∃A1 c1,Xb w4 w.heap.size (Qp (Yf P (2*v) (2*v+1) (2*hi)) A1 c1)∧Xb w4 (w.heap.size+1) (Xm ⟨lo,hi,hl,true⟩)∧Xb w4 (w.heap.size+2) Jj∧Qi w4 A1 c1 (Yf P (2*v) (2*v+1) (2*hi))∧Below w.heap.size w w4
   rw [hQ.out];exact ⟨A1,c1,kX.go hb4,hy3.go hb4,hz3.go hb4,kO.go hb4,hB3.trans (hb4.mono (ZO (by omega) hB3.size))⟩
 case rest=>
  obtain ⟨A1,c1,hX1,hY1,hZ1,hO1,hB1⟩:=hcut;obtain ⟨Q,hQ⟩:∃Q:Zj,Hid (upO P v hi hh=Q):=⟨_,Hd rfl⟩;obtain ⟨y0,y1,y2⟩:=hX1.bx.c2;have yl:=hX1.bx.lt;obtain ⟨r0,r1,r2,r3⟩:=hY1.bx.c3;have rl:=hY1.bx.lt;have HX1:=Hd hX1;have HZ1:=Hd hZ1;have HO1:=Hd hO1;have HB1:=Hd hB1;have:=hB1.size;clear hX1 hY1 hZ1 hO1 hB1 HX HY HZ HP HB;have hR:Qt3 Q v lo hl=S:=by rw [<-hQ.out];exact hS.out
  have HS:=Hd hR;rw [hQ.out] at HX1 HO1 y0 y1 y2;clear hR hQ ct hS;go_upto_if 19 with fail
  go_cut [] (λwy=>∃A1 c1,Xb wy w.heap.size (Qp (Qt3 Q v lo hl) A1 c1)∧Xb wy (w.heap.size+2) Jj∧Qi wy A1 c1 (Qt3 Q v lo hl)∧Below w.heap.size w wy)
  case first=>
   cases hl with
   |false=>
    go_wp2_with fail
    go_meet
    exact ⟨A1,c1,HX1.out,HZ1.out,HO1.out,HB1.out⟩
   |true=>
    obtain ⟨R,hR⟩:∃R:Zj,Hid (Yf Q (2*v+1) (2*v) (2*-lo)=R):=⟨_,Hd rfl⟩;go_upto_region 4 with fail
    have a0:=Qz.cell y0;have a1:=Qz.cell y1;have a2:=Qz.cell y2;have a3:=Qz.cell r0;refine Qb [(9,2)] (by kernel_rfl) (by kernel_rfl) ?_;simp only [Jl,ZP,ZQ,ZR,ZT]
    repeat (go_big_quiet_step (first|(go_at_call 185;with_reducible exact Qw (cp _))|(go_at_call 188;with_reducible exact Qw (cm _))|(go_at_call 297;with_reducible exact Qw (cn _))|(go_at_call 296;with_reducible exact Qw (ct2 _))))
    refine wpQuiet_nil ?_;intro w2 hb2;have HX2:=HX1.out.go hb2;have HZ2:=Hd (HZ1.out.go hb2);have HB2:=Hd (HB1.out.trans (hb2.mono (by omega)));have cL:=Hd (Ui Q A1 c1 (2*v+1) (2*v) (2*-lo) w2 (HO1.out.go hb2));have hbs:=hb2.size;rw [hR.out] at cL;unfold Qf at cL;clear hb2 a0 a1 a2 a3 y0 y1 y2 yl r0 r1 r2 r3 rl;go_wp2_with (go_at_call 247;(with_reducible refine cL.out.mono ?_);rintro e w3 ⟨A2,c2,he,hO3,hb3⟩;unfold Qf at he;subst he;have hX3:=HX2.go hb3;have x0:=hX3.bx.cell 0 _ rfl;have x1:=hX3.bx.cell 1 _ rfl;have x2:=hX3.bx.cell 2 _ rfl;have xf:=hX3.bx.fr;have xl:=hX3.bx.lt)
    refine Qu (wpQuiet_nil ?_);intro w4 hb4;obtain ⟨kX,kO,kG⟩:=Ze7 hX3 hO3;have hz3:=(HZ2.out.go hb3).only kG (by omega);have hB3:=Qn (g:=w.heap.size) (ZH _) (Qp R A2 c2) 0 w3 (HB2.out.trans (hb3.mono (by omega)));go_wp2_with fail
    go_meet
    show ∃A1 c1,Xb w4 w.heap.size (Qp (Yf Q (2*v+1) (2*v) (2*-lo)) A1 c1)∧Xb w4 (w.heap.size+2) Jj∧Qi w4 A1 c1 (Yf Q (2*v+1) (2*v) (2*-lo))∧Below w.heap.size w w4
    rw [hR.out];exact ⟨A2,c2,kX.go hb4,hz3.go hb4,kO.go hb4,hB3.trans (hb4.mono (ZO (by omega) hB3.size))⟩
  obtain ⟨A2,c2,hX2,hZ2,hO2,hB2⟩:=hcut;rw [HS.out] at hX2 hO2;clear y0 y1 y2 yl r0 r1 r2 r3 rl;obtain ⟨x0,x1,x2⟩:=hX2.bx.c2;have xl:=hX2.bx.lt;obtain ⟨r0,r1,r2⟩:=hZ2.bx.c2;have:=hZ2.bx.fr;have rl:=hZ2.bx.lt;have HZ2:=Hd hZ2;have HO2:=Hd hO2;have HB2:=Hd hB2;clear hX2 hZ2 hO2 hB2;go_wp2_with fail
  obtain ⟨k,kO,kB⟩:=Zx HZ2.out HO2.out HB2.out (by omega);obtain ⟨k0,k1,k2⟩:=k.bx.c2;simp only [Qp,Qm] at k0 k1 k2;exact QL (v:=Qf S A2 c2) (by simp [results,results246,go_sem,k0,k1,k2,Qf]) rfl ⟨A2,c2,rfl,kO,kB⟩
theorem Zi8 (n:Int) (w:World):Calls prog 293 #[.int .i64 n] w λe w'=>e=.returned (Kx ⟨0,n,false,true⟩)∧Below w.heap.size w w':=by
 obtain ⟨_,hW,hX,hB,_⟩:=Zk w (Xm ⟨0,0,false,false⟩) 112;obtain ⟨y0,y1,y2,y3⟩:=hX.bx.c3;have:=hX.bx.fr;have:=hX.bx.lt;unfold Xm at hW;dsimp only at y0 y1 y2 y3 hW;go_enter func293,ntmps293
 go_upto_region 1 with fail
 rw [<-hW];clear hW;go_wp2_with fail
 have k:=hX.put (vs:=Xm ⟨0,n,false,true⟩) rfl;obtain ⟨k0,k1,k2,k3⟩:=k.bx.c3;simp only [Xm,Qm] at k0 k1 k2 k3;exact QL (v:=Kx ⟨0,n,false,true⟩) (by simp [results,results293,go_sem,k0,k1,k2,k3,Kx]) rfl ⟨rfl,Qn (ZH _) (Xm ⟨0,n,false,true⟩) 0 _ hB⟩
theorem Zf5 (n:Int) (w:World):Calls prog 294 #[.int .i64 n] w λe w'=>e=.returned (Kx ⟨n,0,true,false⟩)∧Below w.heap.size w w':=by
 obtain ⟨_,hW,hX,hB,_⟩:=Zk w (Xm ⟨0,0,false,false⟩) 112;obtain ⟨y0,y1,y2,y3⟩:=hX.bx.c3;have:=hX.bx.fr;have:=hX.bx.lt;unfold Xm at hW;dsimp only at y0 y1 y2 y3 hW;go_enter func294,ntmps294
 go_upto_region 1 with fail
 rw [<-hW];clear hW;go_wp2_with fail
 have k:=hX.put (vs:=Xm ⟨n,0,true,false⟩) rfl;obtain ⟨k0,k1,k2,k3⟩:=k.bx.c3;simp only [Xm,Qm] at k0 k1 k2 k3;exact QL (v:=Kx ⟨n,0,true,false⟩) (by simp [results,results294,go_sem,k0,k1,k2,k3,Kx]) rfl ⟨rfl,Qn (ZH _) (Xm ⟨n,0,true,false⟩) 0 _ hB⟩
theorem Zh6 (n:Int) (w:World):Calls prog 183 #[.int .i64 n] w λe w'=>e=.returned (Kx ⟨n,n,true,true⟩)∧Below w.heap.size w w':=by
 obtain ⟨_,hW,hX,hB,_⟩:=Zk w (Xm ⟨0,0,false,false⟩) 112;obtain ⟨y0,y1,y2,y3⟩:=hX.bx.c3;have:=hX.bx.fr;have:=hX.bx.lt;unfold Xm at hW;dsimp only at y0 y1 y2 y3 hW;go_enter func183,ntmps183
 go_upto_region 1 with fail
 rw [<-hW];clear hW;go_wp2_with fail
 have k:=hX.put (vs:=Xm ⟨n,n,true,true⟩) rfl;obtain ⟨k0,k1,k2,k3⟩:=k.bx.c3;simp only [Xm,Qm] at k0 k1 k2 k3;exact QL (v:=Kx ⟨n,n,true,true⟩) (by simp [results,results183,go_sem,k0,k1,k2,k3,Kx]) rfl ⟨rfl,Qn (ZH _) (Xm ⟨n,n,true,true⟩) 0 _ hB⟩
theorem Qt9 (P:Zj) (A:Option Addr) (c:Nat) (v:Int) (r:Rg) (w:World) (h:Qi w A c P) (hv:nr v) (h1:hf r.lo) (h2:hf r.hi):
 Calls prog 182 #[Qf P A c,.int .i64 v,Kx r] w (Zd w (Kn P v r)):=by
 obtain ⟨W,hW,hX,hY,hZ,hB,_⟩:=Zt w (Qp P A c) 32 (Xm r) 112 Jj 32;have hP:=h.go hB;obtain ⟨Q,hQ⟩:∃Q:Zj,Hid (My P v=Q):=⟨_,Hd rfl⟩;obtain ⟨R,hR⟩:∃R:Zj,Hid (Yg Q v r=R):=⟨_,Hd rfl⟩;obtain ⟨S,hS⟩:∃S:Zj,Hid (Qo R=S):=⟨_,Hd rfl⟩;have e:Kn P v r=S:=by rw [<-hS.out,<-hR.out,<-hQ.out];rfl
 rw [e];have cF:=Hd (Db P A c v W.drew (hP.go (QK _ W).drew) (by unfold nr at hv;unfold Zu;omega));rw [hQ.out] at cF;have cR:=λA1 c1 (w1:World) (h:Qi w1 A1 c1 Q)=>So Q A1 c1 v r w1 h hv h1 h2
 rw [hR.out] at cR;have cC:=λA1 c1 (w1:World) (h:Qi w1 A1 c1 R)=>Yl R A1 c1 w1 h
 rw [hS.out] at cC;obtain ⟨_,_,_⟩:=hX.bx.c2;have:=hX.bx.lt;obtain ⟨r0,r1,r2,r3⟩:=hY.bx.c3;have rl:=hY.bx.lt;have HY:=Hd hY;have HZ:=Hd hZ;have HB:=Hd hB;unfold Qf Kx;unfold Qp Jj Xm at hW;unfold Qf at cF;unfold Qf Kx at cR;unfold Qf at cC;clear h hX hY hZ hB hP e hQ hR hS;go_enter func182,ntmps182
 go_upto_region 1 with fail
 rw [<-hW];clear hW;go_region_law (first
  |(go_simp;go_at_call 180;(with_reducible refine cF.out.mono ?_);rintro e w1 ⟨A1,c1,he,hO1,hb1⟩;unfold Qf at he;subst he;have hy1:=(HY.out.go (QK _ W).drew).go hb1;have r0:=hy1.bx.cell 0 _ rfl;have r1:=hy1.bx.cell 1 _ rfl;have r2:=hy1.bx.cell 2 _ rfl;have r3:=hy1.bx.cell 3 _ rfl;have rl:=hy1.bx.lt;have HZ1:=Hd ((HZ.out.go (QK _ W).drew).go hb1);have HO1:=Hd hO1;have HB1:=Hd (HB.out.drew.trans (hb1.mono HB.out.drew.size));clear hO1 hb1 hy1)
  |(go_simp;go_at_call 246;(with_reducible refine (cR _ _ _ HO1.out).mono ?_);rintro e _ ⟨_,c2,he,hO2,hb2⟩;unfold Qf at he;subst he;have HZ2:=Hd (HZ1.out.go hb2);have HO2:=Hd hO2;have HB2:=Ht HB1 hb2;clear hO2 hb2)
  |(go_simp;go_at_call 123;(with_reducible refine (cC _ _ _ HO2.out).mono ?_);rintro e _ ⟨A3,c3,he,hO3,hb3⟩;unfold Qf at he;subst he;have hz3:=HZ2.out.go hb3;have:=hz3.bx.cell 0 _ rfl;have:=hz3.bx.cell 1 _ rfl;have:=hz3.bx.cell 2 _ rfl;have:=hz3.bx.fr;have:=hz3.bx.lt;have HZ3:=Hd hz3;have HO3:=Hd hO3;have HB3:=Ht HB2 hb3;clear hO3 hb3 hz3))
 all_goals
  go_wp2_with fail
  obtain ⟨k,kO,kB⟩:=Zx HZ3.out HO3.out HB3.out (by omega);obtain ⟨k0,k1,k2⟩:=k.bx.c2;simp only [Qp,Qm] at k0 k1 k2;exact QL (v:=Qf S A3 c3) (by simp [results,results182,go_sem,k0,k1,k2,Qf]) rfl ⟨A3,c3,rfl,kO,kB⟩
def Yz (v n:Int):List Value:=[.int .i64 v,.int .i64 n]
def Um (v n:Int):Value:=.agg #[.int .i64 v,.int .i64 n]
theorem Xv (w:World) (vs:List Value) (t:TypeId) (us:List Value) (t':TypeId) (zs:List Value) (t2:TypeId) (xs:List Value) (t3:TypeId):∃W,W=(((w.alloc (.cells vs.toArray t)).alloc (.cells us.toArray t')).alloc (.cells zs.toArray t2)).alloc (.cells xs.toArray t3)∧Xb W w.heap.size vs∧Xb W (w.heap.size+1) us∧Xb W (w.heap.size+2) zs∧Xb W (w.heap.size+3) xs∧Below w.heap.size w W∧W.heap.size=w.heap.size+4:=by
 obtain ⟨W1,hW1,hX1,hY1,hZ1,hB1,h1⟩:=Zt w vs t us t' zs t2;obtain ⟨W2,hW2,hX2,hB2,_⟩:=Zk W1 xs t3;rw [h1] at hX2;exact ⟨W2,by rw [hW2,hW1],hX1.go hB2,hY1.go hB2,hZ1.go hB2,hX2,hB1.trans (hB2.mono (by omega)),by omega⟩
theorem Qy2 (P:Zj) (h:Je P.1 P.2.1 P.2.2=0) (w:World):Calls prog 179 #[.int .i64 P.1] w (Zd w (Vt P.1)):=by
 obtain ⟨n,hn,h64,_⟩:=Zz h;rw [hn];exact Qs8 n w h64
def AmC (P:Zj) (A:Option Addr) (c:Nat) (av an bv bn:Int) (s:Bool) (S:Zj):Prop:=
 (0≤av∧av=bv∧s=false∧S=P)∨(0≤av∧av=bv∧s=true∧∀w1,Calls prog 179 #[.int .i64 P.1] w1 (Zd w1 S))∨
 (nr av∧nr bv∧av≠bv∧∃d:Int,((s=true∧d=-1)∨(s=false∧d=0))∧∀w1,Qi w1 A c P->Calls prog 247 #[Qf P A c,.int .i64 (2*av),.int .i64 (2*bv),.int .i64 d] w1 (Zd w1 S))∨
 (nr av∧bv<0∧hf bn∧∃z:Int,hf z∧((s=true∧z=bn+(-1))∨(s=false∧z=bn))∧∀w1,Qi w1 A c P->Calls prog 246 #[Qf P A c,.int .i64 av,Kx ⟨0,z,false,true⟩] w1 (Zd w1 S))∨
 (av<0∧nr bv∧hf an∧∃z:Int,hf z∧((s=true∧z=an+1)∨(s=false∧z=an))∧∀w1,Qi w1 A c P->Calls prog 246 #[Qf P A c,.int .i64 bv,Kx ⟨z,0,true,false⟩] w1 (Zd w1 S))
theorem Vp8 {P:Zj} {A:Option Addr} {c:Nat} {av an bv bn:Int} {w:World} {s:Bool} {S:Zj} (h:Qi w A c P) (H:AmC P A c av an bv bn s S):
 Calls prog 244 #[Qf P A c,Um av an,Um bv bn,.bool s] w (Zd w S):=by
 obtain ⟨W,hW,hX,hY,hU,hZ,hB,hs⟩:=Xv w (Qp P A c) 32 (Yz av an) 54 (Yz bv bn) 54 Jj 32;have hP:=h.go hB;obtain ⟨y0,y1,y2⟩:=hX.bx.c2;have yl:=hX.bx.lt;obtain ⟨a0,a1⟩:=hY.bx.c1;have al:=hY.bx.lt;obtain ⟨b0,b1⟩:=hU.bx.c1;have bl:=hU.bx.lt;have HZ:=Hd hZ;have HB:=Hd hB;have HP:=Hd hP;have HX:=Hd hX;have HY:=Hd hY;have HU:=Hd hU;unfold AmC Qf Kx at H;unfold Qf Um;unfold Qp Yz Jj at hW;clear h hX hZ hB hP hY hU hs;rcases H with ⟨h0,rfl,rfl,rfl⟩|⟨h0,rfl,rfl,cE⟩|⟨h0,h1,he,d,hs,cL⟩|⟨h0,h1,hn,z,hz,hs,cR⟩|⟨h0,h1,hn,z,hz,hs,cR⟩
 .have q0:decide (av≥0)=true:=ZE (by omega);have q1:decide (0≤av)=true:=ZE (by omega);have q5:(av==av)=true:=by simp
  obtain ⟨_,_,_⟩:=HZ.out.bx.c2;have:=HZ.out.bx.fr;have:=HZ.out.bx.lt;have HO:=HP;go_enter func244,ntmps244
  go_upto_region 1 with fail
  rw [<-hW];clear hW;go_wp2_with fail
  obtain ⟨k,kO,kB⟩:=Zx HZ.out HO.out HB.out (by omega);obtain ⟨k0,k1,k2⟩:=k.bx.c2;simp only [Qp,Qm] at k0 k1 k2;exact QL (v:=Qf S A c) (by simp [results,results244,go_sem,k0,k1,k2,Qf]) rfl ⟨A,c,rfl,kO,kB⟩
 .have q0:decide (av≥0)=true:=ZE (by omega);have q1:decide (0≤av)=true:=ZE (by omega);have q5:(av==av)=true:=by simp
  go_enter func244,ntmps244
  go_upto_region 1 with fail
  rw [<-hW];clear hW;go_wp2_with (go_at_call 179;(with_reducible refine (cE _).mono ?_);rintro e w3 ⟨A3,c3,he,hO3,hb3⟩;unfold Qf at he;subst he;have hz3:=HZ.out.go hb3;have x0:=hz3.bx.cell 0 _ rfl;have x1:=hz3.bx.cell 1 _ rfl;have x2:=hz3.bx.cell 2 _ rfl;have xf:=hz3.bx.fr;have xl:=hz3.bx.lt;unfold Jj at x0 x1 x2;have HZ3:=Hd hz3;have HO3:=Hd hO3;have HB3:=Ht HB hb3;clear hO3 hb3 hz3)
  go_wp2_with fail
  obtain ⟨k,kO,kB⟩:=Zx HZ3.out HO3.out HB3.out (by omega);obtain ⟨k0,k1,k2⟩:=k.bx.c2;simp only [Qp,Qm] at k0 k1 k2;exact QL (v:=Qf S A3 c3) (by simp [results,results244,go_sem,k0,k1,k2,Qf]) rfl ⟨A3,c3,rfl,kO,kB⟩
 .have cp:=λW=>Mp av W h0
  have cq:=λW=>Mp bv W h1
  have g0:=h0.1;have:=h1.1;have q0:decide (av≥0)=true:=ZE (by omega);have q1:decide (0≤av)=true:=ZE (by omega);have q2:decide (bv≥0)=true:=ZE (by omega);have q3:decide (0≤bv)=true:=ZE (by omega);have q4:decide (av=bv)=false:=ZA he;have q5:(av==bv)=false:=by simp [he]
  have cL:=Hd (cL W.drew (HP.out.go (QK _ W).drew));rcases hs with ⟨rfl,rfl⟩|⟨rfl,rfl⟩
  all_goals
   go_enter func244,ntmps244
   go_upto_region 1 with fail
   rw [<-hW];clear hW;go_upto_region 9 with fail
   go_region_law (first|(go_simp;go_at_call 185;(first|(with_reducible refine (cp _).mono ?_)|(with_reducible refine (cq _).mono ?_));rintro e _ ⟨rfl,rfl⟩)|(go_simp;go_at_call 247;(with_reducible refine (cL.out).mono ?_);rintro e w3 ⟨A3,c3,he,hO3,hb3⟩;unfold Qf at he;subst he;have hz3:=(Hd (HZ.out.go (QK _ W).drew)).out.go hb3;have x0:=hz3.bx.cell 0 _ rfl;have x1:=hz3.bx.cell 1 _ rfl;have x2:=hz3.bx.cell 2 _ rfl;have xf:=hz3.bx.fr;have xl:=hz3.bx.lt;unfold Jj at x0 x1 x2;have HZ3:=Hd hz3;have HO3:=Hd hO3;have HB3:=Hd (HB.out.drew.trans (hb3.mono HB.out.drew.size));clear hO3 hb3 hz3))
   all_goals
    go_wp2_with fail
    obtain ⟨k,kO,kB⟩:=Zx HZ3.out HO3.out HB3.out (by omega);obtain ⟨k0,k1,k2⟩:=k.bx.c2;simp only [Qp,Qm] at k0 k1 k2;exact QL (v:=Qf S A3 c3) (by simp [results,results244,go_sem,k0,k1,k2,Qf]) rfl ⟨A3,c3,rfl,kO,kB⟩
 .have cU:=λW=>Zi8 z W
  unfold Kx at cU;have wr:IntKind.i64.wrap z=z:=QQ _ (by unfold hf at hz;omega);have g0:=h0.1;have q0:decide (av≥0)=true:=ZE (by omega);have q1:decide (0≤av)=true:=ZE (by omega);have q2:decide (bv≥0)=false:=ZA (by omega);have q3:decide (0≤bv)=false:=ZA (by omega);have q4:decide (bn=-9223372036854775808)=false:=ZA (by unfold hf at hn;omega);have q5:(bn==-9223372036854775808)=false:=by simp;unfold hf at hn;omega
  rcases hs with ⟨rfl,rfl⟩|⟨rfl,rfl⟩
  all_goals
   go_enter func244,ntmps244
   go_upto_region 1 with fail
   rw [<-hW];clear hW;go_upto_region 13 with fail
   go_region_law (first|(go_simp;go_at_call 293;(with_reducible refine (cU _).mono ?_);rintro e w2 ⟨rfl,hb2⟩;have hb2:=(QK _ W).drew.trans (hb2.mono (ZH _));have HZ2:=Hd (HZ.out.go hb2);have HP2:=Hd (HP.out.go hb2);have hx2:=HX.out.go hb2;have y0:=hx2.bx.cell 0 _ rfl;have y1:=hx2.bx.cell 1 _ rfl;have y2:=hx2.bx.cell 2 _ rfl;have yl:=hx2.bx.lt;have hy2:=HY.out.go hb2;have a0:=hy2.bx.cell 0 _ rfl;have a1:=hy2.bx.cell 1 _ rfl;have al:=hy2.bx.lt;have hu2:=HU.out.go hb2;have b0:=hu2.bx.cell 0 _ rfl;have b1:=hu2.bx.cell 1 _ rfl;have bl:=hu2.bx.lt;have HB2:=Ht HB hb2;clear hb2 hx2 hy2 hu2)|(go_simp;go_at_call 246;(with_reducible refine (cR _ HP2.out).mono ?_);rintro e w3 ⟨A3,c3,he,hO3,hb3⟩;unfold Qf at he;subst he;have hz3:=HZ2.out.go hb3;have x0:=hz3.bx.cell 0 _ rfl;have x1:=hz3.bx.cell 1 _ rfl;have x2:=hz3.bx.cell 2 _ rfl;have xf:=hz3.bx.fr;have xl:=hz3.bx.lt;unfold Jj at x0 x1 x2;have HZ3:=Hd hz3;have HO3:=Hd hO3;have HB3:=Ht HB2 hb3;clear hO3 hb3 hz3))
   all_goals
    go_wp2_with fail
    obtain ⟨k,kO,kB⟩:=Zx HZ3.out HO3.out HB3.out (by omega);obtain ⟨k0,k1,k2⟩:=k.bx.c2;simp only [Qp,Qm] at k0 k1 k2;exact QL (v:=Qf S A3 c3) (by simp [results,results244,go_sem,k0,k1,k2,Qf]) rfl ⟨A3,c3,rfl,kO,kB⟩
 .have cU:=λW=>Zf5 z W
  unfold Kx at cU;have wr:IntKind.i64.wrap z=z:=QQ _ (by unfold hf at hz;omega);have q0:decide (av≥0)=false:=ZA (by omega);have q1:decide (0≤av)=false:=ZA (by omega);have q4:decide (an=9223372036854775807)=false:=ZA (by unfold hf at hn;omega);have q5:(an==9223372036854775807)=false:=by simp;unfold hf at hn;omega
  rcases hs with ⟨rfl,rfl⟩|⟨rfl,rfl⟩
  all_goals
   go_enter func244,ntmps244
   go_upto_region 1 with fail
   rw [<-hW];clear hW;go_upto_region 16 with fail
   go_region_law (first|(go_simp;go_at_call 294;(with_reducible refine (cU _).mono ?_);rintro e w2 ⟨rfl,hb2⟩;have hb2:=(QK _ W).drew.trans (hb2.mono (ZH _));have HZ2:=Hd (HZ.out.go hb2);have HP2:=Hd (HP.out.go hb2);have hx2:=HX.out.go hb2;have y0:=hx2.bx.cell 0 _ rfl;have y1:=hx2.bx.cell 1 _ rfl;have y2:=hx2.bx.cell 2 _ rfl;have yl:=hx2.bx.lt;have hy2:=HY.out.go hb2;have a0:=hy2.bx.cell 0 _ rfl;have a1:=hy2.bx.cell 1 _ rfl;have al:=hy2.bx.lt;have hu2:=HU.out.go hb2;have b0:=hu2.bx.cell 0 _ rfl;have b1:=hu2.bx.cell 1 _ rfl;have bl:=hu2.bx.lt;have HB2:=Ht HB hb2;clear hb2 hx2 hy2 hu2)|(go_simp;go_at_call 246;(with_reducible refine (cR _ HP2.out).mono ?_);rintro e w3 ⟨A3,c3,he,hO3,hb3⟩;unfold Qf at he;subst he;have hz3:=HZ2.out.go hb3;have x0:=hz3.bx.cell 0 _ rfl;have x1:=hz3.bx.cell 1 _ rfl;have x2:=hz3.bx.cell 2 _ rfl;have xf:=hz3.bx.fr;have xl:=hz3.bx.lt;unfold Jj at x0 x1 x2;have HZ3:=Hd hz3;have HO3:=Hd hO3;have HB3:=Ht HB2 hb3;clear hO3 hb3 hz3))
   all_goals
    go_wp2_with fail
    obtain ⟨k,kO,kB⟩:=Zx HZ3.out HO3.out HB3.out (by omega);obtain ⟨k0,k1,k2⟩:=k.bx.c2;simp only [Qp,Qm] at k0 k1 k2;exact QL (v:=Qf S A3 c3) (by simp [results,results244,go_sem,k0,k1,k2,Qf]) rfl ⟨A3,c3,rfl,kO,kB⟩
theorem Zu7 (P:Zj) (A:Option Addr) (c:Nat) (av an bv bn:Int) (w:World) (h:Qi w A c P) (h0:0≤av) (he:av=bv):
 Calls prog 244 #[Qf P A c,Um av an,Um bv bn,.bool true] w (Zd w (Vt P.1)):=Vp8 h (.inr (.inl ⟨h0,he,rfl,λw1=>Qy2 P h.ok w1⟩))
theorem Zw3 (P:Zj) (A:Option Addr) (c:Nat) (av an bv bn:Int) (w:World) (h:Qi w A c P) (h0:0≤av) (he:av=bv):
 Calls prog 244 #[Qf P A c,Um av an,Um bv bn,.bool false] w (Zd w (P)):=Vp8 h (.inl ⟨h0,he,rfl,rfl⟩)
theorem Jr3 (P:Zj) (A:Option Addr) (c:Nat) (av an bv bn:Int) (w:World) (h:Qi w A c P) (h0:nr av) (h1:nr bv) (he:av≠bv):
 Calls prog 244 #[Qf P A c,Um av an,Um bv bn,.bool true] w (Zd w (Yf P (2*av) (2*bv) (-1))):=Vp8 h (.inr (.inr (.inl ⟨h0,h1,he,_,.inl ⟨rfl,rfl⟩,λw1 hw=>Ui P A c (2*av) (2*bv) (-1) w1 hw⟩)))
theorem Jp8 (P:Zj) (A:Option Addr) (c:Nat) (av an bv bn:Int) (w:World) (h:Qi w A c P) (h0:nr av) (h1:nr bv) (he:av≠bv):
 Calls prog 244 #[Qf P A c,Um av an,Um bv bn,.bool false] w (Zd w (Yf P (2*av) (2*bv) (0))):=Vp8 h (.inr (.inr (.inl ⟨h0,h1,he,_,.inr ⟨rfl,rfl⟩,λw1 hw=>Ui P A c (2*av) (2*bv) (0) w1 hw⟩)))
theorem Zs6 (P:Zj) (A:Option Addr) (c:Nat) (av an bv bn:Int) (w:World) (h:Qi w A c P) (h0:nr av) (h1:bv<0) (hn:hf bn) (hn1:hf (bn - 1)):
 Calls prog 244 #[Qf P A c,Um av an,Um bv bn,.bool true] w (Zd w (Yg P av ⟨0,bn+(-1),false,true⟩)):=Vp8 h (.inr (.inr (.inr (.inl ⟨h0,h1,hn,_,by unfold hf at*;omega,.inl ⟨rfl,rfl⟩,λw1 hw=>So P A c av ⟨0,bn+(-1),false,true⟩ w1 hw h0 (by unfold hf;dsimp only;omega) (by unfold hf at*;dsimp only;omega)⟩))))
theorem Jj8 (P:Zj) (A:Option Addr) (c:Nat) (av an bv bn:Int) (w:World) (h:Qi w A c P) (h0:nr av) (h1:bv<0) (hn:hf bn) (hn1:hf (bn - 1)):
 Calls prog 244 #[Qf P A c,Um av an,Um bv bn,.bool false] w (Zd w (Yg P av ⟨0,bn,false,true⟩)):=Vp8 h (.inr (.inr (.inr (.inl ⟨h0,h1,hn,_,by unfold hf at*;omega,.inr ⟨rfl,rfl⟩,λw1 hw=>So P A c av ⟨0,bn,false,true⟩ w1 hw h0 (by unfold hf;dsimp only;omega) (by unfold hf at*;dsimp only;omega)⟩))))
theorem Zs5 (P:Zj) (A:Option Addr) (c:Nat) (av an bv bn:Int) (w:World) (h:Qi w A c P) (h0:av<0) (h1:nr bv) (hn:hf an) (hn1:hf (an+1)):
 Calls prog 244 #[Qf P A c,Um av an,Um bv bn,.bool true] w (Zd w (Yg P bv ⟨an+1,0,true,false⟩)):=Vp8 h (.inr (.inr (.inr (.inr ⟨h0,h1,hn,_,by unfold hf at*;omega,.inl ⟨rfl,rfl⟩,λw1 hw=>So P A c bv ⟨an+1,0,true,false⟩ w1 hw h1 (by unfold hf at*;dsimp only;omega) (by unfold hf;dsimp only;omega)⟩))))
theorem Zn1 (P:Zj) (A:Option Addr) (c:Nat) (av an bv bn:Int) (w:World) (h:Qi w A c P) (h0:av<0) (h1:nr bv) (hn:hf an) (hn1:hf (an+1)):
 Calls prog 244 #[Qf P A c,Um av an,Um bv bn,.bool false] w (Zd w (Yg P bv ⟨an,0,true,false⟩)):=Vp8 h (.inr (.inr (.inr (.inr ⟨h0,h1,hn,_,by unfold hf at*;omega,.inr ⟨rfl,rfl⟩,λw1 hw=>So P A c bv ⟨an,0,true,false⟩ w1 hw h1 (by unfold hf at*;dsimp only;omega) (by unfold hf;dsimp only;omega)⟩))))
def noR:List Value:=Xm ⟨0,0,false,false⟩
theorem Jc2 (n:Nat) (A:Option Addr) (c:Nat) (M:List Int) (v:Nat) (w:World) (h:Qi w A c ((n:Int),false,M)) (hv:v<n) (hn:n≤64) (R:Rg) (hR:Xi (Ju (cl (2*n) M (2*v) (2*v+1))) (Ju (cl (2*n) M (2*v+1) (2*v)))=R):
 Calls prog 191 #[Qf ((n:Int),false,M) A c,.int .i64 v] w λe w'=>e=.returned (Kx R)∧Below w.heap.size w w':=by
 obtain ⟨W,hW,hX,hY,hB,_⟩:=Vu w (Qp ((n:Int),false,M) A c) 198 noR 112;have hP:=h.go hB;have cB:=Fs n ⟨n,false,A,c,M⟩ (2*v) (2*v+1) W hP.oi rfl hP.ok (by omega) (by omega) ⟨R,true,0⟩ (by
  rw [ZL (by simp),show ac (2*v)=2*v+1 by unfold ac;rw [ZM (by omega)],show ac (2*v+1)=2*v by unfold ac;rw [ZL (by omega)];rfl,hR])
 dsimp only at cB;have:IntKind.i64.wrap (2*(v:Int))=((2*v:Nat):Int):=by
  rw [show 2*(v:Int)=((2*v:Nat):Int) by push_cast;rfl];exact QQ _ (by omega)
 have:IntKind.i64.wrap (((2*v:Nat):Int)+1)=((2*v+1:Nat):Int):=by
  rw [show ((2*v:Nat):Int)+1=((2*v+1:Nat):Int) by push_cast;rfl];exact QQ _ (by omega)
 obtain ⟨y0,y1,y2⟩:=hX.bx.c2;have yl:=hX.bx.lt;have HY:=Hd hY;have HB:=Hd hB;unfold Qf;unfold Qp noR Xm at hW;dsimp only at hW y0 y1 y2 |-
 clear h hP hX hY hB hR;generalize 2*v+1=v1 at*;generalize 2*v=v2 at*;go_enter func191,ntmps191
 go_upto_region 1 with fail
 rw [<-hW];clear hW;go_upto_region 2 with (go_at_call 200;(with_reducible refine cB.mono ?_);rintro e w1 ⟨rfl,hb1⟩;obtain ⟨_,hW2,hX2,hB2,_⟩:=Zk w1 (Xm R) 112;have HX2:=Hd hX2;have HY2:=Hd ((HY.out.go hb1).go hB2);have HB2:=Hd (((Ht HB hb1).out).trans (hB2.mono ((Ht HB hb1).out).size));unfold Xm at hW2;clear hb1 hX2 hB2)
 rw [<-hW2];clear hW2 y0 y1 y2 yl;obtain ⟨_,_,_,_⟩:=HX2.out.bx.c3;have:=HX2.out.bx.lt;obtain ⟨_,_,_,_⟩:=HY2.out.bx.c3;have:=HY2.out.bx.fr;have:=HY2.out.bx.lt;go_wp2_with fail
 have k:=HY2.out.put (vs:=Xm R) rfl;obtain ⟨k0,k1,k2,k3⟩:=k.bx.c3;simp only [Xm,Qm] at k0 k1 k2 k3;exact QL (v:=Kx R) (by simp [results,results191,go_sem,k0,k1,k2,k3,Kx]) rfl ⟨rfl,Qn (by omega) (Xm R) 0 _ HB2.out⟩
theorem Fv (n:Nat) (A:Option Addr) (c:Nat) (M:List Int) (v x:Int) (w:World) (h:Qi w A c ((n:Int),false,M)) (hv:v<n) (hn:n≤64) (R:Rg) (hR:Uj n M v x=R):
 Calls prog 125 #[Qf ((n:Int),false,M) A c,Um v x] w λe w'=>e=.returned (Kx R)∧Below w.heap.size w w':=by
 obtain ⟨_,hW,hX,hZ,hY,hB,_⟩:=Zt w (Qp ((n:Int),false,M) A c) 198 [.int .i64 v,.int .i64 x] 54 noR 112;have hP:=Hd (h.go hB);obtain ⟨y0,y1,y2⟩:=hX.bx.c2;have yl:=hX.bx.lt;obtain ⟨z0,z1⟩:=hZ.bx.c1;have zl:=hZ.bx.lt;have HY:=Hd hY;have HB:=Hd hB;unfold Um;unfold Qp noR Xm at hW;dsimp only at hW y0 y1 y2 |-
 by_cases h0:0≤v
 .obtain ⟨u,rfl⟩:=ZV h0;have hR2:Xi (Ju (cl (2*n) M (2*u) (2*u+1))) (Ju (cl (2*n) M (2*u+1) (2*u)))=R:=by
   unfold Uj at hR;rw [ZM h0] at hR;exact hR
  have cB:=λ(w1:World) (hw:Qi w1 A c ((n:Int),false,M))=>Jc2 n A c M u w1 hw (by omega) hn R hR2
  unfold Qf Kx at cB;unfold Qf;have q0:decide ((0:Int)≤(u:Int))=true:=ZE h0;clear h hX hZ hY hB hR hR2 hv hn;go_enter func125,ntmps125
  go_upto_region 1 with fail
  rw [<-hW];clear hW;go_wp2_with (go_at_call 191;(with_reducible refine (cB _ hP.out).mono ?_);rintro e w1 ⟨rfl,hb1⟩;have HY2:=Hd (HY.out.go hb1);have HB2:=Ht HB hb1;have r0:=HY2.out.bx.cell 0 _ rfl;have r1:=HY2.out.bx.cell 1 _ rfl;have r2:=HY2.out.bx.cell 2 _ rfl;have r3:=HY2.out.bx.cell 3 _ rfl;have rf:=HY2.out.bx.fr;have rl:=HY2.out.bx.lt)
  have k:=HY2.out.put (vs:=Xm R) rfl;obtain ⟨k0,k1,k2,k3⟩:=k.bx.c3;simp only [Xm,Qm] at k0 k1 k2 k3;exact QL (v:=Kx R) (by simp [results,results125,go_sem,k0,k1,k2,k3,Kx]) rfl ⟨rfl,Qn (by omega) (Xm R) 0 _ HB2.out⟩
 .have hR2:R=⟨x,x,true,true⟩:=by
   unfold Uj at hR;rw [ZL h0] at hR;exact hR.symm
  subst hR2;have cT:=λX=>Jn3 x x true true X ⟨x,x,true,true⟩ rfl
  dsimp only at cT;unfold Qf;have q0:decide ((0:Int)≤v)=false:=ZA h0;clear h hX hZ hY hB hR hv hn;go_enter func125,ntmps125
  go_upto_region 1 with fail
  rw [<-hW];clear hW;go_upto_region 3 with fail
  have a0:=Qz.cell z0;have a1:=Qz.cell z1;refine Qb [(7,1)] (by kernel_rfl) (by kernel_rfl) ?_;simp only [Jl,ZP,ZQ,ZR,ZT]
  repeat (go_big_quiet_step (first|(go_at_call 192;with_reducible exact Qd (Zg4 _ _))|(go_at_call 193;with_reducible exact Qd (cT _))))
  refine wpQuiet_nil ?_;intro w5 hb;have HY2:=Hd (HY.out.go hb);have HB2:=Ht HB hb;clear hb a0 a1 cT y0 y1 y2 yl z0 z1 zl;obtain ⟨r0,r1,r2,r3⟩:=HY2.out.bx.c3;have rf:=HY2.out.bx.fr;have rl:=HY2.out.bx.lt;go_wp2_with fail
  refine Qu (wpQuiet_nil ?_);intro w6 hb;have k:=(HY2.out.put (vs:=Xm ⟨x,x,true,true⟩) rfl).go hb;obtain ⟨k0,k1,k2,k3⟩:=k.bx.c3;have hB3:=(Qn (by omega) (Xm ⟨x,x,true,true⟩) 0 _ HB2.out).trans (hb.mono (Qn (by omega) (Xm ⟨x,x,true,true⟩) 0 _ HB2.out).size);simp only [Xm] at k0 k1 k2 k3;go_wp2_with fail
  exact QL (v:=Kx ⟨x,x,true,true⟩) (by simp [results,results125,go_sem,k0,k1,k2,k3,Kx]) rfl ⟨rfl,hB3⟩
theorem Qi9 (bd:Nat) (v:Nat) (i:Nat) (w:World) (hv:v<100) (hi:i<200) (hd:w.cell? ⟨bd,0,none⟩=some (.int .i64 v)):
 Calls prog 249 #[.int .i64 i,.pointer (some ⟨bd,0,none⟩)] w λe w'=>e=.returned (.int .i64 (Zf v i:Nat))∧w=w':=by
 have:=QO w _ hd;have:((i:Int)).tdiv 2=((i / 2:Nat):Int):=by rw [Int.tdiv_eq_ediv_of_nonneg (by omega)];omega
 have:IntKind.i64.wrap ((i / 2:Nat):Int)=((i / 2:Nat):Int):=QQ _ (by omega);have:=Xp (show i<256 by omega);by_cases h:i / 2=v
 focus
  have q:((((i / 2:Nat):Int))==(v:Int))=true:=by simp [h]
  have hb:Zf v i=ac i:=by unfold Zf;rw [ZM h]
 rotate_left
 focus
  have q:((((i / 2:Nat):Int))==(v:Int))=false:=by simp;omega
  have hb:Zf v i=i:=by unfold Zf;rw [ZL h]
 all_goals
  rw [hb];go_enter func249,ntmps249
  go_wp2_with fail
  go_ret
  exact ⟨rfl,rfl⟩
theorem Qj8 {n v a:Nat} (hv:v<n) (h:a<2*n):Zf v a<2*n:=by
 unfold Zf;split
 .exact Qg h
 exact h
theorem Qt4 {L i j:Nat} {Y:List Int} {tv:Nat->Int} (h:∀k,k<L->Qe Y k=if k<i*j+j then tv k else 0):∀k,k<L->Qe Y k=if k<(i+1)*j then tv k else 0:=λk hk=>by
 rw [h k hk,Nat.add_mul,Nat.one_mul]
theorem Jh4 (n:Nat) (hn2:n=2) (A:Option Addr) (c:Nat) (M:List Int) (v:Nat) (w:World) (h:Qi w A c ((n:Int),false,M)) (hv:v<n):
 Calls prog 187 #[Qf ((n:Int),false,M) A c,.int .i64 v] w (Zd w (Wa ((n:Int),false,M) v)):=by
 have HN2:=Hd hn2;clear hn2;obtain ⟨W,hW,hX,hY,hZ,hB,hs⟩:=Zt w (Qp ((n:Int),false,M) A c) 32 [.int .i64 v] 3 Jj 32;have hP:=h.go hB;obtain ⟨L,hL⟩:∃L,L=M.length:=⟨_,rfl⟩;have HLm:Hid (L≤16384):=Hd (by
  obtain ⟨m,hm,h64,_,h2⟩:=Zz h.ok;have e:M.length=4*m*m:=(h2 rfl).1;have:m*m≤64*64:=QA h64 h64
  rw [hL,e,Nat.mul_assoc];omega)
 obtain ⟨S,hS⟩:∃S:Zj,Hid (Wa ((n:Int),false,M) v=S):=⟨_,Hd rfl⟩;rw [hS.out];obtain ⟨y0,y1,y2⟩:=hX.bx.c2;have yl:=hX.bx.lt;have v0:=hY.bx.cell 0 _ rfl;have vl:=hY.bx.lt;have HX:=Hd hX;have HY:=Hd hY;have HZ:=Hd hZ;have HB:=Hd hB;have HP:=Hd hP;unfold Qf;unfold Qp Jj at hW;dsimp only at hW y0 y1 y2 |-
 rw [<-hL] at hW y2 |-
 have HL:=Hd hL;clear hL;clear h hX hY hZ hB hP;go_enter func187,ntmps187
 go_upto_region 1 with fail
 rw [<-hW];clear hW;go_upto_region 2 with fail
 have HWs:=Hd hs;have mk:=λW=>Au L HLm.out W
 go_cut [6] (λs wx=>∃bO g,s=.pointer (some ⟨bO,0,none⟩)∧Ed W wx bO n g L (List.replicate L 0))
 case first=>
  go_region_law fail
  all_goals
   go_wp2_with fail
   go_meet
  all_goals
   case rel=>
    first
    |(have k:=Ze3 W n L HLm.out;rw [HWs.out] at k;exact ⟨_,_,rfl,k⟩)
    |(have k:=Zl5 W n L HLm.out;rw [HWs.out] at k;exact ⟨_,_,rfl,k⟩)
 case rest=>
  obtain ⟨bO,g,rfl,hG⟩:=hcut;clear y0 y1 y2 yl v0 vl mk;obtain ⟨m,hm⟩:∃m,m=2*n:=⟨_,rfl⟩;have:n≤64:=by obtain ⟨k,hk,h64,_⟩:=Zz HP.out.ok;have hk:(n:Int)=k:=hk;omega
  have hLm:L=m*m:=by
   obtain ⟨k,hk,_,_,h2⟩:=Zz HP.out.ok;have hk:(n:Int)=k:=hk;obtain rfl:n=k:=by omega
   have e:M.length=4*n*n:=(h2 rfl).1;rw [HL.out,e,hm,<-Bz]
  have:m≤128:=by omega
  have:IntKind.i64.wrap (2*(n:Int))=(m:Int):=by rw [hm];push_cast;exact QQ _ (by omega)
  have HM2:=Hd hm;have HLM:=Hd hLm;have hv2:v<100:=by omega
  clear hm hLm;have hbs:=hG.below;have hX1:=HX.out.go hbs;have y0:=hX1.bx.cell 0 _ rfl;have yl:=hX1.bx.lt;dsimp only at y0;have HG:=Hd hG;clear hG hbs hX1;go_upto_region 4 with fail
  obtain ⟨tv,htv⟩:∃tv:Nat->Int,tv=λk=>cl m M (Zf v (k / m)) (Zf v (k % m)):=⟨_,rfl⟩
  have HTV:=Hd htv;clear htv;go_loopw [20] (λs wr=>∃i:Nat,s=.int .i64 i∧i≤m∧∃X:List Int,Hid (∀k,k<L->Qe X k=if k<i*m then tv k else 0)∧Ed W wr bO n g L X) (λs _=>m - (Go.RowKit.intOf s).toNat)
  case atStart=>exact ⟨0,rfl,by omega,List.replicate L 0,Hd (λk hk=>by rw [ZL (by omega)];unfold Qe;simp [hk]),HG.out⟩
  clear HG;obtain ⟨i,rfl,hi,X,HXv,hGr⟩:=hrel;have hbs:=hGr.below;have hX1:=HX.out.go hbs;have y0:=hX1.bx.cell 0 _ rfl;have yl:=hX1.bx.lt;dsimp only at y0;have HGr:=Hd hGr;clear hbs hX1 hGr;have HI:=Hd hi;clear hi;rcases ZJ i m with hlt|hge
  .have q0:decide ((i:Int)<(m:Int))=true:=ZE (by omega);have HLT:=Hd hlt;clear hlt;go_upto_region 7 with fail
   clear y0 yl;go_loopw [26] (λs wr=>∃j:Nat,s=.int .i64 j∧j≤m∧∃X:List Int,Hid (∀k,k<L->Qe X k=if k<i*m+j then tv k else 0)∧Ed W wr bO n g L X) (λs _=>m - (Go.RowKit.intOf s).toNat)
   case atStart=>exact ⟨0,rfl,by omega,X,Hd (λk hk=>by rw [Nat.add_zero];exact HXv.out k hk),HGr.out⟩
   obtain ⟨j,rfl,hj,Y,HYv,hGr2⟩:=hrel;clear HGr HXv X;have HJ:=Hd hj;clear hj;rcases ZJ j m with hjl|hjge
   .have q1:decide ((j:Int)<(m:Int))=true:=ZE (by omega);have hbs:=hGr2.below;have hX1:=HX.out.go hbs;have hY1:=HY.out.go hbs;have hP1:=HP.out.go hbs;have y0:=hX1.bx.cell 0 _ rfl;have y2:=hX1.bx.cell 2 _ rfl;have v0:=hY1.bx.cell 0 _ rfl;dsimp only at y0 y2;rw [<-HL.out] at y2;have oi:=Qj8 hv (show i<2*n by rw [<-HM2.out];exact HLT.out);have oj:=Qj8 hv (show j<2*n by rw [<-HM2.out];exact hjl);rw [<-HM2.out] at oi oj;have p2:Zf v i*m+Zf v j<L:=by rw [HLM.out];exact Zy oi oj
    have p1:i*m+j<L:=by rw [HLM.out];exact Zy HLT.out hjl
    obtain ⟨_,_,hA,_,hca⟩:=hP1.oi.rd (by rw [<-HL.out];omega);have kx:=hca (Zf v i*m+Zf v j) (by rw [<-HL.out];exact p2);have HV:=Hd (show Qe M (Zf v i*m+Zf v j)=tv (i*m+j) by
     rw [HTV.out];dsimp only;have hm0:0<m:=by omega
     rw [show (i*m+j) / m=i by rw [Nat.mul_comm,Nat.mul_add_div hm0,Nat.div_eq_of_lt hjl,Nat.add_zero],show (i*m+j) % m=j by rw [Nat.mul_comm,Nat.mul_add_mod,Nat.mod_eq_of_lt hjl]];rfl)
    rw [HV.out] at kx;have kg:=hGr2.box.box.c2;have cO:=λ(x:Qz wr)=>Qi9 (w.heap.size+1) v i x.w hv2 (by have:=HLT.out;omega) (Qz.cell v0 x)
    have cO2:=λ(x:Qz wr)=>Qi9 (w.heap.size+1) v j x.w hv2 (by omega) (Qz.cell v0 x)
    have hm16:m*m≤16384:=by rw [<-HLM.out];exact HLm.out
    have hL16:=HLm.out;have e1:IntKind.i64.wrap ((m:Int)*(i:Int))=((i*m:Nat):Int):=by
     rw [show (m:Int)*(i:Int)=((i*m:Nat):Int) by rw [Nat.mul_comm];push_cast;rfl];exact QQ _ (by omega)
    have e2:IntKind.i64.wrap (((i*m:Nat):Int)+(j:Int))=((i*m+j:Nat):Int):=by
     rw [show ((i*m:Nat):Int)+(j:Int)=((i*m+j:Nat):Int) by push_cast;rfl];exact QQ _ (by omega)
    have:IntKind.i64.wrap ((m:Int)*((Zf v i:Nat):Int))=((Zf v i*m:Nat):Int):=by
     rw [show (m:Int)*((Zf v i:Nat):Int)=((Zf v i*m:Nat):Int) by rw [Nat.mul_comm];push_cast;rfl];exact QQ _ (by omega)
    have:IntKind.i64.wrap (((Zf v i*m:Nat):Int)+((Zf v j:Nat):Int))=((Zf v i*m+Zf v j:Nat):Int):=by
     rw [show ((Zf v i*m:Nat):Int)+((Zf v j:Nat):Int)=((Zf v i*m+Zf v j:Nat):Int) by push_cast;rfl];exact QQ _ (by omega)
    have HN:=Hd (show ∀k,k<L->Qe (Y.set (i*m+j) (tv (i*m+j))) k=if k<i*m+(j+1) then tv k else 0 from λk hk=>by
     by_cases h:k=i*m+j
     .subst h;rw [Vl (by rw [hGr2.len];exact hk),ZM (by omega)]
     rw [Rw (Ne.symm h),HYv.out k hk];by_cases h2:k<i*m+j
     .rw [ZM h2,ZM (by omega)]
     rw [ZL h2,ZL (by omega)])
    have HG2:=Hd hGr2;have HJL:=Hd hjl;clear hX1 hY1 hP1 hca hbs hGr2 hjl oi oj hL16 hm16 v0;generalize tv (i*m+j)=u at*;generalize Zf v i=oi at*;generalize Zf v j=oj at*;have p1':((i*m+j:Nat):Int)<(L:Int):=by omega
    have p1'':(0:Int)≤((i*m+j:Nat):Int):=by omega
    have:((oi*m+oj:Nat):Int)<(L:Int):=by omega
    have:(0:Int)≤((oi*m+oj:Nat):Int):=by omega
    have HP1:=Hd p1;clear p1 p2;generalize oi*m+oj=r2 at*;generalize oi*m=s2 at*;obtain ⟨r1,hr1⟩:∃r1,Hid (r1=i*m+j):=⟨_,Hd rfl⟩;rw [<-hr1.out] at e2 p1' p1'';rw [<-hr1.out] at HN HP1;obtain ⟨s1,hs1⟩:∃s1,Hid (s1=i*m):=⟨_,Hd rfl⟩;rw [<-hs1.out] at e1 e2;rw [hA] at y2;have a0:=Qz.cell y0;have a2:=Qz.cell y2;have a3:=Qz.cell kg;have a4:=Qz.cell kx;clear y0 y2 kg kx hA;go_upto_region 9 with fail
    refine Qb [(25,1)] (by kernel_rfl) (by kernel_rfl) ?_;simp only [Jl,ZP,ZQ,ZR,ZT]
    repeat (go_big_quiet_step (first|(go_at_call 249;with_reducible exact Qw (cO _))|(go_at_call 249;with_reducible exact Qw (cO2 _))))
    refine wpQuiet_nil ?_;intro w6 hb6;have hG6:=HG2.out.go hb6;have kk:=hG6.row.cellAt (i:=r1) (by rw [hG6.len];exact HP1.out);have kf:=hG6.row.frozenAt r1;have hP6:=Hd (hG6.set r1 u);clear HG2 hG6 hb6 a0 a2 a3 a4 cO cO2;go_wp2_with fail
    refine Qu (wpQuiet_nil ?_);intro w8 hb8;have hG8:=Hd (hP6.out.go hb8);clear hP6 hb8 kk kf;go_wp2_with fail
    go_roundw
    case rel=>exact ⟨j+1,by go_num,by have:=HJL.out;omega,Y.set r1 u,HN,hG8.out⟩
    have:=HJL.out;simp [Go.RowKit.intOf];omega
   have hje:j=m:=by have:=HJ.out;omega
   subst hje;have q1:decide ((j:Int)<(j:Int))=false:=by simp
   have HG2:=Hd hGr2;clear hGr2 hjge;go_wp2_with fail
   go_roundw
   case rel=>exact ⟨i+1,by go_num,by have:=HLT.out;omega,Y,Hd (Qt4 HYv.out),HG2.out⟩
   have:=HLT.out;simp [Go.RowKit.intOf];omega
  obtain rfl:i=m:=by have:=HI.out;omega
  have q0:decide ((i:Int)<(i:Int))=false:=by simp
  have hXe:X=Zz1 i v M:=by
   refine Nm (by rw [HGr.out.len,Zz1,Ur,HLM.out]) λk hk=>?_
   rw [HGr.out.len] at hk;rw [HXv.out k hk,ZM (by rw [<-HLM.out];exact hk),HTV.out];rw [HLM.out] at hk;unfold Zz1 mat Qe;simp [hk]
  have hc:Je ((n:Nat):Int) false X=0:=by
   have hok:Yo (2*2) M:=by
    obtain ⟨k,hk,_,_,h2⟩:=Zz HP.out.ok;have hk:(n:Int)=k:=hk;obtain rfl:k=2:=by have:=HN2.out;omega
    exact (h2 rfl).2
   have hi4:i=4:=by rw [HM2.out,HN2.out]
   rw [hXe,hi4,HN2.out];exact Ox (by rw [Jh5];unfold Kl;rw [Ur]) (by rw [Jh5];exact Om hok)
  have hSe:Qo ((n:Int),false,X)=S:=by
   rw [<-hS.out,hXe];unfold Wa;dsimp only;rw [show (v:Int).toNat=v by omega,show 2*((n:Nat):Int).toNat=i by rw [HM2.out];omega]
  have hG9:=HGr.out;have hXl:=hG9.len;have HO9:Hid (Qi wr (some ⟨g,0,none⟩) L ((n:Int),false,X)):=Hd (Sd (base:=W.heap.size) (by exact hG9.row) hc);have hZ9:=Hd (HZ.out.go hG9.below);have hB9:=Hd (HB.out.trans (hG9.below.mono HB.out.size));have:=hG9.box.box.c0;have:=hG9.box.box.c1;have:=hG9.box.box.c2;have:=hG9.box.lt;have cC:=λ(w1:World) (h:Qi w1 (some ⟨g,0,none⟩) L ((n:Int),false,X))=>Yl ((n:Int),false,X) (some ⟨g,0,none⟩) L w1 h
  rw [hSe] at cC;unfold Qf at cC;dsimp only at cC;rw [hXl] at cC;clear hG9 HGr hXe hc hSe hXl y0 yl HXv;go_wp2_with (go_at_call 123;(with_reducible refine (cC _ HO9.out).mono ?_);rintro e _ ⟨A3,c3,he,hO3,hb3⟩;unfold Qf at he;subst he;have hz3:=hZ9.out.go hb3;have z0:=hz3.bx.cell 0 _ rfl;have z1:=hz3.bx.cell 1 _ rfl;have z2:=hz3.bx.cell 2 _ rfl;have:=hz3.bx.fr;have:=hz3.bx.lt;unfold Jj at z0 z1 z2;have HZ7:=Hd hz3;have HO7:=Hd hO3;have HB7:=Ht hB9 hb3;clear hO3 hb3 hz3)
  obtain ⟨k,kO,kB⟩:=Zx HZ7.out HO7.out HB7.out (by omega);obtain ⟨k0,k1,k2⟩:=k.bx.c2;simp only [Qp,Qm] at k0 k1 k2;exact QL (v:=Qf S A3 c3) (by simp [results,results187,go_sem,k0,k1,k2,Qf]) rfl ⟨A3,c3,rfl,kO,kB⟩
theorem Vn2 (i:Nat):((i:Int)).tdiv 2=((i / 2:Nat):Int):=by
 rw [Int.tdiv_eq_ediv_of_nonneg (by omega)];omega
theorem Vl2 (i:Nat):((i:Int)).tmod 2=((i % 2:Nat):Int):=by
 rw [QH (by omega)];omega
theorem Vu9 (bd bs:Nat) (v:Nat) (k:Int) (i:Nat) (w:World) (hv:v<100) (hi:i<200) (hd:w.cell? ⟨bd,0,none⟩=some (.int .i64 v)) (h0:w.cell? ⟨bs,0,none⟩=some (.int .i64 k)) (h1:w.cell? ⟨bs,1,none⟩=some (.int .i64 (-k))):
 Calls prog 308 #[.int .i64 i,.pointer (some ⟨bd,0,none⟩),.pointer (some ⟨bs,0,none⟩)] w λe w'=>e=.returned (.int .i64 (Xr v k i))∧w=w':=by
 have:=QO w _ hd;have:=QO w _ h0;have:=Vn2 i;have m2:=Vl2 i;have:IntKind.i64.wrap ((i / 2:Nat):Int)=((i / 2:Nat):Int):=QQ _ (by omega);have w3:IntKind.i64.wrap ((i % 2:Nat):Int)=((i % 2:Nat):Int):=QQ _ (by omega);by_cases h:i / 2=v
 .have q:((((i / 2:Nat):Int))==(v:Int))=true:=by simp [h]
  rcases (show i % 2=0∨i % 2=1 by omega) with hp|hp
  focus
   have hb:Xr v k i=k:=by unfold Xr;split<;>(try split)<;>omega
  rotate_left
  focus
   have hb:Xr v k i=-k:=by unfold Xr;split<;>(try split)<;>omega
  all_goals
   rw [hb];rw [hp] at m2 w3;go_enter func308,ntmps308
   go_wp2_with fail
   go_ret
   exact ⟨rfl,rfl⟩
 have q:((((i / 2:Nat):Int))==(v:Int))=false:=by simp;omega
 have hb:Xr v k i=0:=by unfold Xr;split<;>(try split)<;>omega
 rw [hb];go_enter func308,ntmps308
 go_wp2_with fail
 go_ret
 exact ⟨rfl,rfl⟩
theorem Js7 (P:Zj) (A:Option Addr) (c:Nat) (dst y k:Int) (w:World) (h:Qi w A c P) (hd:nr dst) (hy:nr y) (hne:y≠dst) (hk:hf k):
 Calls prog 252 #[Qf P A c,.int .i64 dst,.int .i64 y,.int .i64 k] w (Zd w (Wh P dst (2*dst) (2*y) k)):=by
 obtain ⟨W,hW,hX,hY,hZ,hB,_⟩:=Zt w (Qp P A c) 32 [.int .i64 dst] 3 Jj 32;have hP:=h.go hB;obtain ⟨Q,hQ⟩:∃Q:Zj,Hid (My P dst=Q):=⟨_,Hd rfl⟩;obtain ⟨R,hR⟩:∃R:Zj,Hid (Yf Q (2*dst) (2*y) k=R):=⟨_,Hd rfl⟩;obtain ⟨T,hT⟩:∃T:Zj,Hid (Yf R (2*y) (2*dst) (-k)=T):=⟨_,Hd rfl⟩;obtain ⟨S,hS⟩:∃S:Zj,Hid (Qo T=S):=⟨_,Hd rfl⟩;have e:Wh P dst (2*dst) (2*y) k=S:=by rw [<-hS.out,<-hT.out,<-hR.out,<-hQ.out];rfl
 rw [e];have cF:=λ(w1:World) (h:Qi w1 A c P)=>Db P A c dst w1 h (by unfold nr at hd;unfold Zu;omega)
 rw [hQ.out] at cF;have cpd:=λW=>Mp dst W hd
 have cpy:=λW=>Mp y W hy
 have cL:=λA1 c1 (w1:World) (h:Qi w1 A1 c1 Q)=>Ui Q A1 c1 (2*dst) (2*y) k w1 h
 rw [hR.out] at cL;have cM:=λA1 c1 (w1:World) (h:Qi w1 A1 c1 R)=>Ui R A1 c1 (2*y) (2*dst) (-k) w1 h
 rw [hT.out] at cM;have cC:=λA1 c1 (w1:World) (h:Qi w1 A1 c1 T)=>Yl T A1 c1 w1 h
 rw [hS.out] at cC;have:IntKind.i64.wrap (-k)=-k:=QQ _ (by unfold hf at hk;omega);have:decide (k>2305843009213693952)=false:=ZA (by unfold hf at hk;omega);have:decide (k< -2305843009213693952)=false:=ZA (by unfold hf at hk;omega);have:(y !=dst)=true:=bne_iff_ne.2 hne;obtain ⟨y0,y1,y2⟩:=hX.bx.c2;have yl:=hX.bx.lt;have v0:=hY.bx.cell 0 _ rfl;have vl:=hY.bx.lt;have HX:=Hd hX;have HY:=Hd hY;have HZ:=Hd hZ;have HB:=Hd hB;have HP:=Hd hP;unfold Qf;unfold Qp Jj at hW;unfold Qf at cF cL cM cC;clear h hX hY hZ hB hP e hQ hR hS hT hne hk;go_enter func252,ntmps252
 go_upto_region 1 with fail
 rw [<-hW];clear hW;go_upto_region 4 with fail
 go_cut [9] (λs wx=>∃b A2 c2,s=.pointer (some ⟨b,0,none⟩)∧Xb wx b (Qp R A2 c2)∧Qi wx A2 c2 R∧Xb wx (w.heap.size+1) [.int .i64 dst]∧Xb wx (w.heap.size+2) Jj∧Below w.heap.size w wx∧w.heap.size+2<b)
 case first=>
  refine Xk 10 (λi=>match i with|0=>30|1=>31|2=>32|3=>33|4=>34|5=>35|6=>36|7=>37|8=>38|_=>9) (λi v w=>Hid (match i with|0=>v=.agg #[.int .i64 P.1,.bool P.2.1,.slice A P.2.2.length c]|1=>v=.int .i64 dst|2=>∃A1 c1,v=Qf Q A1 c1∧Qi w A1 c1 Q|3=>v=.int .i64 dst|4=>v=.int .i64 (2*dst)|5=>v=.int .i64 y|6=>v=.int .i64 (2*y)|7=>v=.int .i64 k|8=>∃A1 c1,v=Qf R A1 c1∧Qi w A1 c1 R|9=>∃b,v=.pointer (some ⟨b,0,none⟩)∧W.heap.size≤b∧Xb w b Jj|_=>True)) (λ_ _ _ _=>Hid True) #[true,true,true,true,true,true,true,true,true,true,false] ?hm ?hB ?hR ?hd ?hi ?hop ?hend
  case hm=>kernel_rfl
  case hB=>kernel_rfl
  case hR=>
   intro i v X X1 hh hb;have hh:=hh.out;refine Hd ?_;match i,hh with
   |0,hh=>exact hh
   |1,hh=>exact hh
   |2,hh=>(obtain ⟨A1,c1,e,ho⟩:=hh;exact ⟨A1,c1,e,ho.go hb⟩)
   |3,hh=>exact hh
   |4,hh=>exact hh
   |5,hh=>exact hh
   |6,hh=>exact hh
   |7,hh=>exact hh
   |8,hh=>(obtain ⟨A1,c1,e,ho⟩:=hh;exact ⟨A1,c1,e,ho.go hb⟩)
   |9,hh=>(obtain ⟨b,e,hl,hx⟩:=hh;exact ⟨b,e,hl,hx.go hb⟩)
   |i+10,_=>exact trivial
  case hd=>intro i hi;rcases (show i=0∨i=1∨i=2∨i=3∨i=4∨i=5∨i=6∨i=7∨i=8∨i=9 by omega) with rfl|rfl|rfl|rfl|rfl|rfl|rfl|rfl|rfl|rfl<;>simp
  case hi=>
   intro i j hi hj hij h;rcases (show i=0∨i=1∨i=2∨i=3∨i=4∨i=5∨i=6∨i=7∨i=8∨i=9 by omega) with rfl|rfl|rfl|rfl|rfl|rfl|rfl|rfl|rfl|rfl<;>rcases (show j=0∨j=1∨j=2∨j=3∨j=4∨j=5∨j=6∨j=7∨j=8∨j=9 by omega) with rfl|rfl|rfl|rfl|rfl|rfl|rfl|rfl|rfl|rfl<;>first|exact absurd rfl hij|exact absurd h (by decide)
  case hop=>
   intro i o hi ho;rcases (show i=0∨i=1∨i=2∨i=3∨i=4∨i=5∨i=6∨i=7∨i=8∨i=9 by omega) with rfl|rfl|rfl|rfl|rfl|rfl|rfl|rfl|rfl|rfl
   .injection ho with ho;subst ho;refine ⟨λ_=>rfl,λa' X hX hsz hdf hrest hdep=>?_⟩;have ep:a'.tmps[4]? =some (.pointer (some ⟨w.heap.size,0,none⟩)):=hrest 4 (by decide);have m0:=Qq hX y0;have m1:=Qq hX y1;have m2:=Qq hX y2;simp [Oper.wp,execOp,Act.eval,ep,go_sem,m0,m1,m2]
    exact ⟨_,rfl,QK _ _,Hd (rfl),λ_ _ _ _ _=>Hd trivial⟩
   .injection ho with ho;subst ho;refine ⟨λ_=>rfl,λa' X hX hsz hdf hrest hdep=>?_⟩;have ep:a'.tmps[5]? =some (.pointer (some ⟨w.heap.size+1,0,none⟩)):=hrest 5 (by decide);have m0:=Qq hX v0;simp [Oper.wp,execOp,Act.eval,ep,go_sem,m0]
    exact ⟨_,rfl,QK _ _,Hd (rfl),λ_ _ _ _ _=>Hd trivial⟩
   .injection ho with ho;subst ho;refine ⟨λ_=>rfl,λa' X hX hsz hdf hrest hdep=>?_⟩;obtain ⟨v0,et0,hv0⟩:=hdep ⟨0,Ground.data⟩ (by simp) rfl;have et0:a'.tmps[30]? =some v0:=et0;have hv0:v0=.agg #[.int .i64 P.1,.bool P.2.1,.slice A P.2.2.length c]:=hv0.out;subst hv0;obtain ⟨v1,et1,hv1⟩:=hdep ⟨1,Ground.data⟩ (by simp) rfl;have et1:a'.tmps[31]? =some v1:=et1;have hv1:v1=.int .i64 dst:=hv1.out;subst hv1;simp [Oper.wp,execOp,Act.eval,go_sem,et0,et1]
    refine (cF X (HP.out.go hX)).mono ?_;rintro e X1 ⟨A1,c1,rfl,ho,hb⟩;exact ⟨_,rfl,hb,Hd (⟨A1,c1,rfl,ho⟩),λ_ _ _ _ _=>Hd trivial⟩
   .injection ho with ho;subst ho;refine ⟨λ_=>rfl,λa' X hX hsz hdf hrest hdep=>?_⟩;have ep:a'.tmps[5]? =some (.pointer (some ⟨w.heap.size+1,0,none⟩)):=hrest 5 (by decide);have m0:=Qq hX v0;simp [Oper.wp,execOp,Act.eval,ep,go_sem,m0]
    exact ⟨_,rfl,QK _ _,Hd (rfl),λ_ _ _ _ _=>Hd trivial⟩
   .injection ho with ho;subst ho;refine ⟨λ_=>rfl,λa' X hX hsz hdf hrest hdep=>?_⟩;obtain ⟨v0,et0,hv0⟩:=hdep ⟨3,Ground.data⟩ (by simp) rfl;have et0:a'.tmps[33]? =some v0:=et0;have hv0:v0=.int .i64 dst:=hv0.out;subst hv0;simp [Oper.wp,execOp,Act.eval,go_sem,et0]
    refine (cpd X).mono ?_;rintro e X1 ⟨rfl,rfl⟩;exact ⟨_,rfl,QK _ _,Hd (rfl),λ_ _ _ _ _=>Hd trivial⟩
   .injection ho with ho;subst ho;refine ⟨λ_=>rfl,λa' X hX hsz hdf hrest hdep=>?_⟩;have ep:a'.tmps[2]? =some (.int .i64 y):=hrest 2 (by decide);simp [Oper.wp,execOp,Act.eval,ep,go_sem]
    exact ⟨_,rfl,QK _ _,rfl,λ_ _ _ _ _=>Hd trivial⟩
   .injection ho with ho;subst ho;refine ⟨λ_=>rfl,λa' X hX hsz hdf hrest hdep=>?_⟩;obtain ⟨v0,et0,hv0⟩:=hdep ⟨5,Ground.data⟩ (by simp) rfl;have et0:a'.tmps[35]? =some v0:=et0;have hv0:v0=.int .i64 y:=hv0.out;subst hv0;simp [Oper.wp,execOp,Act.eval,go_sem,et0]
    refine (cpy X).mono ?_;rintro e X1 ⟨rfl,rfl⟩;exact ⟨_,rfl,QK _ _,Hd (rfl),λ_ _ _ _ _=>Hd trivial⟩
   .injection ho with ho;subst ho;refine ⟨λ_=>rfl,λa' X hX hsz hdf hrest hdep=>?_⟩;have ep:a'.tmps[3]? =some (.int .i64 k):=hrest 3 (by decide);simp [Oper.wp,execOp,Act.eval,ep,go_sem]
    exact ⟨_,rfl,QK _ _,rfl,λ_ _ _ _ _=>Hd trivial⟩
   .injection ho with ho;subst ho;refine ⟨λ_=>rfl,λa' X hX hsz hdf hrest hdep=>?_⟩;obtain ⟨v0,et0,hv0⟩:=hdep ⟨2,Ground.data⟩ (by simp) rfl;have et0:a'.tmps[32]? =some v0:=et0;obtain ⟨A1,c1,rfl,ho1⟩:=hv0.out;obtain ⟨v1,et1,hv1⟩:=hdep ⟨4,Ground.data⟩ (by simp) rfl;have et1:a'.tmps[34]? =some v1:=et1;have hv1:v1=.int .i64 (2*dst):=hv1.out;subst hv1;obtain ⟨v2,et2,hv2⟩:=hdep ⟨6,Ground.data⟩ (by simp) rfl;have et2:a'.tmps[36]? =some v2:=et2;have hv2:v2=.int .i64 (2*y):=hv2.out;subst hv2;obtain ⟨v3,et3,hv3⟩:=hdep ⟨7,Ground.data⟩ (by simp) rfl;have et3:a'.tmps[37]? =some v3:=et3;have hv3:v3=.int .i64 k:=hv3.out;subst hv3;simp [Oper.wp,execOp,Act.eval,go_sem,et0,et1,et2,et3]
    refine (cL A1 c1 X ho1).mono ?_;rintro e X1 ⟨A2,c2,rfl,ho,hb⟩;exact ⟨_,rfl,hb,Hd (⟨A2,c2,rfl,ho⟩),λ_ _ _ _ _=>Hd trivial⟩
   injection ho with ho;subst ho;refine ⟨λ_=>rfl,λa' X hX hsz hdf hrest hdep=>?_⟩;simp [Oper.wp,execOp,Act.eval,go_sem,]
   exact ⟨_,rfl,(QK _ _).alloc (ZH _) _,Hd (⟨X.heap.size,rfl,hX.size,(by obtain ⟨_,hWn,hXn,_⟩:=Zk X Jj 32;unfold Jj at hWn;rw [<-hWn];exact hXn)⟩),λ_ _ _ _ _=>Hd trivial⟩
  intro vs X hX hv _;obtain ⟨A2,c2,e8,hO8⟩:∃A1 c1,vs 8=Qf R A1 c1∧Qi X A1 c1 R:=(hv 8 (by decide)).out;obtain ⟨b,e9,_,hx9⟩:∃b,vs 9=.pointer (some ⟨b,0,none⟩)∧W.heap.size≤b∧Xb X b Jj:=(hv 9 (by decide)).out;obtain ⟨x0,x1,x2⟩:=hx9.bx.c2;have xf:=hx9.bx.fr;have xl:=hx9.bx.lt;have hY9:=HY.out.go hX;have hZ9:=HZ.out.go hX;have hB9:=(Ht HB hX).out;have hlb2:w.heap.size+2<b:=by omega
  unfold Qf at e8;have e0:=(hv 0 (by decide)).out;have e1:=(hv 1 (by decide)).out;obtain ⟨A1,c1,e2,_⟩:∃A1 c1,vs 2=Qf Q A1 c1∧Qi X A1 c1 Q:=(hv 2 (by decide)).out;have e3:=(hv 3 (by decide)).out;have e4:=(hv 4 (by decide)).out;have e5:=(hv 5 (by decide)).out;have e6:=(hv 6 (by decide)).out;have e7:=(hv 7 (by decide)).out;unfold Qf at e2;have HX9:=Hd hx9;have HO8:=Hd hO8;have HY9:=Hd hY9;have HZ9:=Hd hZ9;have HB9:=Hd hB9;have:=hX.size;clear hx9 hO8 hY9 hZ9 hB9 hv hX;simp only [Wr,Act.put,e0,e1,e2,e3,e4,e5,e6,e7,e8,e9,ZR,ZT,List.setIfInBounds_toArray,List.set_cons_zero,List.set_cons_succ];clear e0 e1 e2 e3 e4 e5 e6 e7 e8 e9 y0 y1 y2 yl v0 vl;go_wp2_with fail
  refine Qu ?_;obtain ⟨k1,kO,kB⟩:=Zx HX9.out HO8.out HB9.out (by omega);have kG:=Za X b (Qp R A2 c2) 0;have kY:=HY9.out.only kG (by omega);have kZ:=HZ9.out.only kG (by omega);have HH:=Hd (And.intro k1 (And.intro kO (And.intro kB (And.intro kY kZ))));clear k1 kO kB kG kY kZ;simp only [Qm,Qp] at HH;go_wp2_with fail
  go_meet
  obtain ⟨k1,kO,kB,kY,kZ⟩:=HH.out;exact ⟨b,A2,c2,rfl,k1,kO,kY,kZ,kB,hlb2⟩
 case rest=>
  obtain ⟨b,A2,c2,rfl,hX2,hO2,hY2,hZ2,hB2,_⟩:=hcut;have HO2:=Hd hO2;have:=Hd hY2;have HZ2:=Hd hZ2;have HB2:=Hd hB2;clear y0 y1 y2 yl v0 vl HX HY HZ HB HP cF cL;obtain ⟨y0,y1,y2⟩:=hX2.bx.c2;have yl:=hX2.bx.lt;have v0:=hY2.bx.cell 0 _ rfl;have vl:=hY2.bx.lt;clear hX2 hO2 hY2 hZ2 hB2;go_upto_region 5 with fail
  go_region_law (first
   |(go_simp;go_at_call 185;(with_reducible refine (cpy _).mono ?_);rintro e _ ⟨rfl,rfl⟩)
   |(go_simp;go_at_call 185;(with_reducible refine (cpd _).mono ?_);rintro e _ ⟨rfl,rfl⟩)
   |(go_simp;go_at_call 247;(with_reducible refine (cM _ _ _ (HO2.out.go (QK _ wc).drew)).mono ?_);rintro e _ ⟨_,_,he,hO3,hb3⟩;unfold Qf at he;subst he;have HZ3:=Hd ((HZ2.out.go (QK _ wc).drew).go hb3);have HO3:=Hd hO3;have HB3:=Hd (HB2.out.drew.trans (hb3.mono HB2.out.drew.size));clear hO3 hb3)
   |(go_simp;go_at_call 123;(with_reducible refine (cC _ _ _ HO3.out).mono ?_);rintro e _ ⟨A4,c4,he,hO4,hb4⟩;unfold Qf at he;subst he;have hz4:=HZ3.out.go hb4;have x0:=hz4.bx.cell 0 _ rfl;have x1:=hz4.bx.cell 1 _ rfl;have x2:=hz4.bx.cell 2 _ rfl;have xf:=hz4.bx.fr;have xl:=hz4.bx.lt;have HZ4:=Hd hz4;have HO4:=Hd hO4;have HB4:=Ht HB3 hb4;clear hO4 hb4 hz4))
  all_goals
   go_wp2_with fail
   obtain ⟨k,kO,kB⟩:=Zx HZ4.out HO4.out HB4.out (by omega);obtain ⟨k0,k1,k2⟩:=k.bx.c2;simp only [Qp,Qm] at k0 k1 k2;exact QL (v:=Qf S A4 c4) (by simp [results,results252,go_sem,k0,k1,k2,Qf]) rfl ⟨A4,c4,rfl,kO,kB⟩
theorem Zh7 (v:Nat) (k:Int) (a:Nat) (hk:hf k):-2305843009213693952≤Xr v k a∧Xr v k a≤2305843009213693952:=by
 unfold hf at hk;unfold Xr
 repeat' split
 all_goals omega
theorem Ja3 (n:Nat) (hn2:n=2) (A:Option Addr) (c:Nat) (M:List Int) (v:Nat) (k:Int) (w:World) (h:Qi w A c ((n:Int),false,M)) (hv:v<n) (hk:hf k):
 Calls prog 252 #[Qf ((n:Int),false,M) A c,.int .i64 v,.int .i64 v,.int .i64 k] w (Zd w (Gz ((n:Int),false,M) v k)):=by
 have HN2:=Hd hn2;clear hn2;obtain ⟨W,hW,hX,hY,hZ,hB,hs⟩:=Zt w (Qp ((n:Int),false,M) A c) 32 [.int .i64 v] 3 Jj 32;obtain ⟨V,hV,hS,hBV,hsV⟩:=Zk W [.int .i64 k,.int .i64 (-k)] 386;have hX:=hX.go hBV;have hY:=hY.go hBV;have hZ:=hZ.go hBV;have hB:=hB.trans (hBV.mono hB.size);have hP:=h.go hB;have HVS:=Hd (show w.heap.size+3<V.heap.size∧W.heap.size<V.heap.size by omega);have HWS:=Hd (show W.heap.size=w.heap.size+3 from hs);obtain ⟨L,hL⟩:∃L,L=M.length:=⟨_,rfl⟩;have HLm:Hid (L≤16384):=Hd (by
  obtain ⟨m,hm,h64,_,h2⟩:=Zz h.ok;have e:M.length=4*m*m:=(h2 rfl).1;have:m*m≤64*64:=QA h64 h64
  rw [hL,e,Nat.mul_assoc];omega)
 obtain ⟨S,hSS⟩:∃S:Zj,Hid (Gz ((n:Int),false,M) v k=S):=⟨_,Hd rfl⟩;rw [hSS.out];have n0:IntKind.i64.wrap (-k)=-k:=QQ _ (by unfold hf at hk;omega);have r0:decide (k>2305843009213693952)=false:=ZA (by unfold hf at hk;omega);have r1:decide (k< -2305843009213693952)=false:=ZA (by unfold hf at hk;omega);have HK:=Hd hk;have w0:=hX.bx.cell 0 _ rfl;have wv:=hY.bx.cell 0 _ rfl;have hwx:W.cell? ⟨w.heap.size+1,0,none⟩=some (.int .i64 v):=by
  have:=Zt w (Qp ((n:Int),false,M) A c) 32 [.int .i64 v] 3 Jj 32
  obtain ⟨_,hW',_,hY',_⟩:=this;rw [<-hW] at hW';subst hW';exact hY'.bx.cell 0 _ rfl
 have hwl:w.heap.size+1<W.heap.size:=by omega
 have HX:=Hd hX;have HY:=Hd hY;have HZ:=Hd hZ;have HB:=Hd hB;have HP:=Hd hP;have HS:=Hd hS;unfold Qf;unfold Qp Jj at hW;dsimp only at hW |-
 rw [<-hL] at hW |-
 have HL:=Hd hL;clear hL;clear h hX hY hZ hB hP hS hk w0 wv hs hsV hBV;go_enter func252,ntmps252
 go_upto_region 1 with fail
 rw [<-hW];clear hW;go_upto_region 7 with fail
 rw [<-hV];clear hV hwx hwl;go_upto_region 8 with fail
 have mk:=λW=>Au L HLm.out W
 have y0:=HX.out.bx.cell 0 _ rfl;have y2:=HX.out.bx.cell 2 _ rfl;have yl:=HX.out.bx.lt;unfold Qp at y0 y2;dsimp only at y0 y2;rw [<-HL.out] at y2;go_cut [12] (λs wx=>∃bO g,s=.pointer (some ⟨bO,0,none⟩)∧Ed V wx bO n g L (List.replicate L 0))
 case first=>
  go_region_law fail
  all_goals
   go_wp2_with fail
   go_meet
  all_goals
   case rel=>
    first
    |(have k:=Ze3 V n L HLm.out;exact ⟨_,_,rfl,k⟩)
    |(have k:=Zl5 V n L HLm.out;exact ⟨_,_,rfl,k⟩)
 case rest=>
  obtain ⟨bO,g,rfl,hG⟩:=hcut;clear y0 y2 yl mk;obtain ⟨m,hm⟩:∃m,m=2*n:=⟨_,rfl⟩;have n64:n≤64:=by obtain ⟨k,hk,h64,_⟩:=Zz HP.out.ok;have hk:(n:Int)=k:=hk;omega
  have hLm:L=m*m:=by
   obtain ⟨k,hk,_,_,h2⟩:=Zz HP.out.ok;have hk:(n:Int)=k:=hk;obtain rfl:n=k:=by omega
   have e:M.length=4*n*n:=(h2 rfl).1;rw [HL.out,e,hm,<-Bz]
  have m128:m≤128:=by omega
  have e0:IntKind.i64.wrap (2*(n:Int))=(m:Int):=by rw [hm];push_cast;exact QQ _ (by omega)
  have HM2:=Hd hm;have HLM:=Hd hLm;have hv2:v<100:=by omega
  clear hm hLm;have hbs:=hG.below;have hX1:=HX.out.go hbs;have y0:=hX1.bx.cell 0 _ rfl;have yl:=hX1.bx.lt;unfold Qp at y0;dsimp only at y0;have HG:=Hd hG;clear hG hbs hX1;go_upto_region 10 with fail
  obtain ⟨tv,htv⟩:∃tv:Nat->Int,tv=λq=>if q / m≠q % m∧cl m M (q / m) (q % m)≠9223372036854775807 then Zh (cl m M (q / m) (q % m)) (Xr v k (q / m) - Xr v k (q % m)) else cl m M (q / m) (q % m):=⟨_,rfl⟩
  have HTV:=Hd htv;clear htv;go_loopw [63] (λs wr=>∃i:Nat,s=.int .i64 i∧i≤m∧∃X:List Int,Hid (∀k,k<L->Qe X k=if k<i*m then tv k else 0)∧Ed V wr bO n g L X) (λs _=>m - (Go.RowKit.intOf s).toNat)
  case atStart=>exact ⟨0,rfl,by omega,List.replicate L 0,Hd (λk hk=>by rw [ZL (by omega)];unfold Qe;simp [hk]),HG.out⟩
  clear HG;obtain ⟨i,rfl,hi,X,HXv,hGr⟩:=hrel;have hbs:=hGr.below;have hX1:=HX.out.go hbs;have y0:=hX1.bx.cell 0 _ rfl;have yl:=hX1.bx.lt;unfold Qp at y0;dsimp only at y0;have HGr:=Hd hGr;clear hbs hX1 hGr;have HI:=Hd hi;clear hi;rcases ZJ i m with hlt|hge
  .have q0:decide ((i:Int)<(m:Int))=true:=ZE (by omega);have HLT:=Hd hlt;clear hlt;go_upto_region 13 with fail
   clear y0 yl;go_loopw [69] (λs wr=>∃j:Nat,s=.int .i64 j∧j≤m∧∃X:List Int,Hid (∀k,k<L->Qe X k=if k<i*m+j then tv k else 0)∧Ed V wr bO n g L X) (λs _=>m - (Go.RowKit.intOf s).toNat)
   case atStart=>exact ⟨0,rfl,by omega,X,Hd (λk hk=>by rw [Nat.add_zero];exact HXv.out k hk),HGr.out⟩
   obtain ⟨j,rfl,hj,Y,HYv,hGr2⟩:=hrel;clear HGr HXv X;have HJ:=Hd hj;clear hj;rcases ZJ j m with hjl|hjge
   .have q1:decide ((j:Int)<(m:Int))=true:=ZE (by omega);have hbs:=hGr2.below;have hX1:=HX.out.go hbs;have hP1:=HP.out.go hbs;have y0:=hX1.bx.cell 0 _ rfl;have y2:=hX1.bx.cell 2 _ rfl;have yl:=hX1.bx.lt;unfold Qp at y0 y2;dsimp only at y0 y2;rw [<-HL.out] at y2;have p1:i*m+j<L:=by rw [HLM.out];exact Zy HLT.out hjl
    obtain ⟨_,_,hA,hga,hca⟩:=HP.out.oi.rd (by rw [<-HL.out];omega);have KX:=Hd (hca (i*m+j) (by rw [<-HL.out];exact p1));have HGA:=Hd hga;have HV:=Hd (show tv (i*m+j)=if i≠j∧Qe M (i*m+j)≠9223372036854775807 then Zh (Qe M (i*m+j)) (Xr v k i - Xr v k j) else Qe M (i*m+j) by
     rw [HTV.out];dsimp only;have hm0:0<m:=by omega
     rw [show (i*m+j) / m=i by rw [Nat.mul_comm,Nat.mul_add_div hm0,Nat.div_eq_of_lt hjl,Nat.add_zero],show (i*m+j) % m=j by rw [Nat.mul_comm,Nat.mul_add_mod,Nat.mod_eq_of_lt hjl]];rfl)
    have kg:=hGr2.box.box.c2;have hm16:m*m≤16384:=by rw [<-HLM.out];exact HLm.out
    have e1:IntKind.i64.wrap ((m:Int)*(i:Int))=((i*m:Nat):Int):=by
     rw [show (m:Int)*(i:Int)=((i*m:Nat):Int) by rw [Nat.mul_comm];push_cast;rfl];exact QQ _ (by rw [HLM.out] at p1;omega)
    have e2:IntKind.i64.wrap (((i*m:Nat):Int)+(j:Int))=((i*m+j:Nat):Int):=by
     rw [show ((i*m:Nat):Int)+(j:Int)=((i*m+j:Nat):Int) by push_cast;rfl];exact QQ _ (by rw [HLM.out] at p1;omega)
    have HN:=λ(u:Int) (hu:u=tv (i*m+j))=>Hd (show ∀k,k<L->Qe (Y.set (i*m+j) u) k=if k<i*m+(j+1) then tv k else 0 from λk hk=>by
     by_cases h:k=i*m+j
     .subst h;rw [Vl (by rw [hGr2.len];exact hk),ZM (by omega),hu]
     rw [Rw (Ne.symm h),HYv.out k hk];by_cases h2:k<i*m+j
     .rw [ZM h2,ZM (by omega)]
     rw [ZL h2,ZL (by omega)])
    have HG2:=Hd hGr2;have HJL:=Hd hjl;clear hP1 hca hga hbs hGr2 hjl hm16;have p1':((i*m+j:Nat):Int)<(L:Int):=by omega
    have p1'':(0:Int)≤((i*m+j:Nat):Int):=by omega
    have HP1:=Hd p1;clear p1;generalize tv (i*m+j)=tq at*;obtain ⟨u,hu⟩:∃u,Hid (Qe M (i*m+j)=u):=⟨_,Hd rfl⟩;rw [hu.out] at HV KX;obtain ⟨p1,hr1⟩:∃p1,Hid (p1=i*m+j):=⟨_,Hd rfl⟩;rw [<-hr1.out] at e2 p1' p1'' HN HP1 KX;obtain ⟨s1,hs1⟩:∃s1,Hid (s1=i*m):=⟨_,Hd rfl⟩;rw [<-hs1.out] at e1 e2;clear hs1 hr1 hu;rw [hA] at y2;go_upto_region 16 with fail
    have kx:=Qq (HG2.out.below) KX.out;have a0:=Qz.cell y0;have a2:=Qz.cell y2;have a3:=Qz.cell kg;have a4:=Qz.cell kx;clear y0 y2 yl kg kx hX1;refine Qb [(9,1)] (by kernel_rfl) (by kernel_rfl) ?_;simp only [Jl,ZP,ZQ,ZR,ZT]
    repeat (go_big_quiet_step (fail))
    refine wpQuiet_nil ?_;intro w6 hb6;have hG6:=HG2.out.go hb6;have kk:=hG6.row.cellAt (i:=p1) (by rw [hG6.len];exact HP1.out);have kf:=hG6.row.frozenAt p1;have hP6:=Hd (hG6.set p1 u);clear HG2 hG6 hb6 a0 a2 a3 a4;go_wp2_with fail
    refine Qu (wpQuiet_nil ?_);intro w8 hb8;have HG8:=Hd (hP6.out.go hb8);clear hP6 hb8 kk kf;have hX8:=HX.out.go HG8.out.below;have y2:=hX8.bx.cell 2 _ rfl;have yl:=hX8.bx.lt;unfold Qp at y2;dsimp only at y2;rw [<-HL.out,hA] at y2;have kx:=Qq (HG8.out.below) KX.out;by_cases hij:i=j
    .subst hij;rw [ZL (λh=>h.1 rfl)] at HV;have q2:((i:Int)!=(i:Int))=false:=by simp
     clear hX8;go_wp2_with fail
     go_roundw
     case rel=>exact ⟨i+1,by go_num,by have:=HJL.out;omega,Y.set p1 u,HN u HV.out.symm,HG8.out⟩
     have:=HJL.out;simp [Go.RowKit.intOf];omega
    have q2:((i:Int)!=(j:Int))=true:=bne_iff_ne.2 (by omega);by_cases hui:u=9223372036854775807
    .rw [ZL (λh=>h.2 hui)] at HV;have q3:(u !=9223372036854775807)=false:=by simp [hui]
     have HIJ:=Hd hij;clear hX8 hij hui;go_wp2_with fail
     go_roundw
     case rel=>exact ⟨j+1,by go_num,by have:=HJL.out;omega,Y.set p1 u,HN u HV.out.symm,HG8.out⟩
     have:=HJL.out;simp [Go.RowKit.intOf];omega
    rw [ZM ⟨hij,hui⟩] at HV;have q3:(u !=9223372036854775807)=true:=bne_iff_ne.2 hui;have HIJ:=Hd hij;have hY8:=HY.out.go HG8.out.below;have hS8:=HS.out.go HG8.out.below;have v0:=hY8.bx.cell 0 _ rfl;have s0:=hS8.bx.cell 0 _ rfl;have s1':=hS8.bx.cell 1 _ rfl;have kg:=HG8.out.box.box.c2;have cB:=λ(x:Qz w8)=>Vu9 (w.heap.size+1) W.heap.size v k i x.w hv2 (by have:=HLT.out;omega) (Qz.cell v0 x) (Qz.cell s0 x) (Qz.cell s1' x)
    have cB2:=λ(x:Qz w8)=>Vu9 (w.heap.size+1) W.heap.size v k j x.w hv2 (by have:=HJL.out;omega) (Qz.cell v0 x) (Qz.cell s0 x) (Qz.cell s1' x)
    have l1:=Zh7 v k i HK.out;have l2:=Zh7 v k j HK.out;have e5:IntKind.i64.wrap (Xr v k i - Xr v k j)=Xr v k i - Xr v k j:=QQ _ (by omega);clear l1 l2 v0 s0 s1' hX8 hY8 hS8 hij hui;generalize Xr v k i=bi at*;generalize Xr v k j=bj at*;have cP:=λW=>Pu u (bi - bj) W
    rw [<-HV.out] at cP;go_upto_region 18 with fail
    have a2:=Qz.cell y2;have a3:=Qz.cell kg;have a4:=Qz.cell kx;clear y2 yl kg kx;refine Qb [(17,1)] (by kernel_rfl) (by kernel_rfl) ?_;simp only [Jl,ZP,ZQ,ZR,ZT]
    repeat (go_big_quiet_step (first|(go_at_call 308;with_reducible exact Qw (cB _))|(go_at_call 308;with_reducible exact Qw (cB2 _))|(go_at_call 133;with_reducible exact Qw (cP _))))
    refine wpQuiet_nil ?_;intro w9 hb9;have hG9:=HG8.out.go hb9;have kk:=hG9.row.cellAt (i:=p1) (by rw [hG9.len];exact HP1.out);have kf:=hG9.row.frozenAt p1;have hP9:=hG9.set p1 tq;rw [List.set_set] at hP9;have hP9:=Hd hP9;clear HG8 hG9 hb9 a2 a3 a4 cB cB2 cP;go_wp2_with fail
    refine Qu (wpQuiet_nil ?_);intro w10 hb10;have HG10:=Hd (hP9.out.go hb10);clear hP9 hb10 kk kf;go_wp2_with fail
    go_roundw
    case rel=>exact ⟨j+1,by go_num,by have:=HJL.out;omega,Y.set p1 tq,HN tq rfl,HG10.out⟩
    have:=HJL.out;simp [Go.RowKit.intOf];omega
   have hje:j=m:=by have:=HJ.out;omega
   subst hje;have q1:decide ((j:Int)<(j:Int))=false:=by simp
   have HG2:=Hd hGr2;clear hGr2 hjge;go_wp2_with fail
   go_roundw
   case rel=>exact ⟨i+1,by go_num,by have:=HLT.out;omega,Y,Hd (Qt4 HYv.out),HG2.out⟩
   have:=HLT.out;simp [Go.RowKit.intOf];omega
  obtain rfl:i=m:=by have:=HI.out;omega
  have q0:decide ((i:Int)<(i:Int))=false:=by simp
  have hXe:X=Qt6 i v k M:=by
   refine Nm (by rw [HGr.out.len,Qt6,Ur,HLM.out]) λq hq=>?_
   rw [HGr.out.len] at hq;rw [HXv.out q hq,ZM (by rw [<-HLM.out];exact hq),HTV.out];rw [HLM.out] at hq;unfold Qt6 mat Qe;simp [hq]
  have hc:Je ((n:Nat):Int) false X=0:=by
   have hok:Yo (2*2) M:=by
    obtain ⟨k,hk,_,_,h2⟩:=Zz HP.out.ok;have hk:(n:Int)=k:=hk;obtain rfl:k=2:=by have:=HN2.out;omega
    exact (h2 rfl).2
   have hi4:i=4:=by rw [HM2.out,HN2.out]
   rw [hXe,hi4,HN2.out];exact Ox (by rw [Jg2];unfold Us;rw [Ur]) (by rw [Jg2];exact Qq1 hok)
  have hSe:Qo ((n:Int),false,X)=S:=by
   rw [<-hSS.out,hXe];unfold Gz;dsimp only;rw [show (v:Int).toNat=v by omega,show 2*((n:Nat):Int).toNat=i by rw [HM2.out];omega]
  have hG9:=HGr.out;have hXl:=hG9.len;have HO9:Hid (Qi wr (some ⟨g,0,none⟩) L ((n:Int),false,X)):=Hd (Sd (base:=V.heap.size) (by exact hG9.row) hc);have hZ9:=Hd (HZ.out.go hG9.below);have hB9:=Hd (HB.out.trans (hG9.below.mono HB.out.size));have o0:=hG9.box.box.c0;have o1:=hG9.box.box.c1;have o2:=hG9.box.box.c2;have ol:=hG9.box.lt;have cC:=λ(w1:World) (h:Qi w1 (some ⟨g,0,none⟩) L ((n:Int),false,X))=>Yl ((n:Int),false,X) (some ⟨g,0,none⟩) L w1 h
  rw [hSe] at cC;unfold Qf at cC;dsimp only at cC;rw [hXl] at cC;clear hG9 HGr hXe hc hSe hXl y0 yl HXv;go_wp2_with (go_at_call 123;(with_reducible refine (cC _ HO9.out).mono ?_);rintro e _ ⟨A3,c3,he,hO3,hb3⟩;unfold Qf at he;subst he;have hz3:=hZ9.out.go hb3;have z0:=hz3.bx.cell 0 _ rfl;have z1:=hz3.bx.cell 1 _ rfl;have z2:=hz3.bx.cell 2 _ rfl;have zf:=hz3.bx.fr;have zl:=hz3.bx.lt;unfold Jj at z0 z1 z2;have HZ7:=Hd hz3;have HO7:=Hd hO3;have HB7:=Ht hB9 hb3;clear hO3 hb3 hz3)
  obtain ⟨k,kO,kB⟩:=Zx HZ7.out HO7.out HB7.out (by omega);obtain ⟨k0,k1,k2⟩:=k.bx.c2;simp only [Qp,Qm] at k0 k1 k2;exact QL (v:=Qf S A3 c3) (by simp [results,results252,go_sem,k0,k1,k2,Qf]) rfl ⟨A3,c3,rfl,kO,kB⟩
theorem Qw5 (P:Zj) (A:Option Addr) (c:Nat) (v sd:Int) (w:World) (h:Qi w A c P) (hv:nr v):
 Calls prog 184 #[Qf P A c,.int .i64 v,.int .i64 sd] w (Zd w (Rs P v sd)):=by
 obtain ⟨W,hW,hX,hZ,hB,_⟩:=Vu w (Qp P A c) 32 Jj 32;have hP:=h.go hB;obtain ⟨Q,hQ⟩:∃Q:Zj,Hid (My P v=Q):=⟨_,Hd rfl⟩;obtain ⟨R,hR⟩:∃R:Zj,Hid (Yf Q (2*v) sd 0=R):=⟨_,Hd rfl⟩;obtain ⟨T,hT⟩:∃T:Zj,Hid (Yf R sd (2*v) 0=T):=⟨_,Hd rfl⟩;obtain ⟨S,hS⟩:∃S:Zj,Hid (Qo T=S):=⟨_,Hd rfl⟩;have e:Rs P v sd=S:=by rw [<-hS.out,<-hT.out,<-hR.out,<-hQ.out];rfl
 rw [e];have cF:=Hd (Db P A c v W hP (by unfold nr at hv;unfold Zu;omega));rw [hQ.out] at cF;have cp:=λW=>Mp v W hv
 have cL:=λA1 c1 (w1:World) (h:Qi w1 A1 c1 Q)=>Ui Q A1 c1 (2*v) sd 0 w1 h
 rw [hR.out] at cL;have cM:=λA1 c1 (w1:World) (h:Qi w1 A1 c1 R)=>Ui R A1 c1 sd (2*v) 0 w1 h
 rw [hT.out] at cM;have cC:=λA1 c1 (w1:World) (h:Qi w1 A1 c1 T)=>Yl T A1 c1 w1 h
 rw [hS.out] at cC;obtain ⟨y0,y1,y2⟩:=hX.bx.c2;have yl:=hX.bx.lt;have HZ:=Hd hZ;have HB:=Hd hB;unfold Qf;unfold Qp Jj at hW;unfold Qf at cF cL cM cC;clear h hX hZ hB hP e hQ hR hS hT;go_enter func184,ntmps184
 go_upto_region 1 with fail
 rw [<-hW];clear hW;go_upto_region 2 with (first
  |(go_at_call 180;(with_reducible refine cF.out.mono ?_);rintro e w1 ⟨A1,c1,he,hO1,hb1⟩;unfold Qf at he;subst he;have HZ1:=Hd (HZ.out.go hb1);have HO1:=Hd hO1;have HB1:=Ht HB hb1;clear hO1 hb1)
  |(go_at_call 185;(with_reducible refine (cp _).mono ?_);rintro e _ ⟨rfl,rfl⟩)
  |(go_at_call 247;(with_reducible refine (cL _ _ _ HO1.out).mono ?_);rintro e w2 ⟨A2,c2,he,hO2,hb2⟩;unfold Qf at he;subst he;obtain ⟨W2,hW2,hX2,hB2,_⟩:=Zk w2 (Qp R A2 c2) 32;have HZ2:=Hd ((HZ1.out.go hb2).go hB2);have HO2:=Hd (hO2.go hB2);have HB2:=Hd (((Ht HB1 hb2).out).trans (hB2.mono ((Ht HB1 hb2).out).size));unfold Qp at hW2;have HX2:=Hd hX2;clear hO2 hb2 hB2 hX2))
 rw [<-hW2];clear hW2 y0 y1 y2 yl;obtain ⟨y0,y1,y2⟩:=HX2.out.bx.c2;have yl:=HX2.out.bx.lt;go_region_law (first
  |(go_simp;go_at_call 185;(with_reducible refine (cp _).mono ?_);rintro e _ ⟨rfl,rfl⟩)
  |(go_simp;go_at_call 247;(with_reducible refine (cM _ _ _ (HO2.out.go (QK _ W2).drew)).mono ?_);rintro e _ ⟨_,_,he,hO3,hb3⟩;unfold Qf at he;subst he;have HZ3:=Hd ((HZ2.out.go (QK _ W2).drew).go hb3);have HO3:=Hd hO3;have HB3:=Hd (HB2.out.drew.trans (hb3.mono HB2.out.drew.size));clear hO3 hb3)
  |(go_simp;go_at_call 123;(with_reducible refine (cC _ _ _ HO3.out).mono ?_);rintro e _ ⟨A4,c4,he,hO4,hb4⟩;unfold Qf at he;subst he;have hz4:=HZ3.out.go hb4;have:=hz4.bx.cell 0 _ rfl;have:=hz4.bx.cell 1 _ rfl;have:=hz4.bx.cell 2 _ rfl;have:=hz4.bx.fr;have:=hz4.bx.lt;have HZ4:=Hd hz4;have HO4:=Hd hO4;have HB4:=Ht HB3 hb4;clear hO4 hb4 hz4))
 all_goals
  go_wp2_with fail
  obtain ⟨k,kO,kB⟩:=Zx HZ4.out HO4.out HB4.out (by omega);obtain ⟨k0,k1,k2⟩:=k.bx.c2;simp only [Qp,Qm] at k0 k1 k2;exact QL (v:=Qf S A4 c4) (by simp [results,results184,go_sem,k0,k1,k2,Qf]) rfl ⟨A4,c4,rfl,kO,kB⟩
end
