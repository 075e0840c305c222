/- Lemmas for wholeNotEmpty; no conditions. -/
import Derived.Test.YtpggdkenajfjjaaGreatDoorGar
import Derived.Shelf.Spec.BitsCarry
set_option linter.all false
set_option maxRecDepth 100000
set_option maxHeartbeats 16000000
namespace Go.Proofs.YtpggdkenajfjjaaGreatDoor
open Go.RowKit Tryz
open Go.Lib renaming hid → Hd
section
namespace Gn
def St (v hi:Int) (lo:Nat):Prop:=v=hi*18446744073709551616+lo∧lo<18446744073709551616
def Mid (v:Int):Prop:=-73786976294838206464≤v∧v≤73786976294838206464
def Zx2 (x y b:Nat):Nat:=(x+18446744073709551616 - y - b) % 18446744073709551616
def Qj2 (x y b:Nat):Nat:=if x<y+b then 1 else 0
theorem Vy5 (x y b:Nat):Qj2 x y b≤1:=by unfold Qj2;split<;>omega
def Ch (x:Int):Nat:=(x % 18446744073709551616).toNat
theorem Gy (x:Int):IntKind.u64.wrap x=(Ch x:Int):=by
 simp [IntKind.wrap,IntKind.bits,IntKind.signed,Ch];omega
theorem Zi9 {v hi:Int} {lo:Nat} (h:St v hi lo):(lo:Int)≤18446744073709551615:=by unfold St at h;omega
theorem Ly {v hi:Int} {lo:Nat} (h:St v hi lo) (hm:Mid v):-5≤hi∧hi≤5:=by unfold St at h;unfold Mid at hm;omega
theorem Jm5 {va vb ahi bhi:Int} {alo blo:Nat} (ha:St va ahi alo) (hb:St vb bhi blo) (hma:Mid va) (hmb:Mid vb):
 St (va - vb) (wrap64 (Zx2 (Ch ahi) (Ch bhi) (Qj2 alo blo 0):Int)) (Zx2 alo blo 0):=by
 have:=Ly ha hma;have:=Ly hb hmb;obtain ⟨ha,_⟩:=ha;obtain ⟨hb,_⟩:=hb;unfold St wrap64 Zx2 Qj2 Ch;have:((ahi % 18446744073709551616).toNat:Int)=ahi % 18446744073709551616:=Int.toNat_of_nonneg (by omega);have:((bhi % 18446744073709551616).toNat:Int)=bhi % 18446744073709551616:=Int.toNat_of_nonneg (by omega);generalize (ahi % 18446744073709551616).toNat=p at*;generalize (bhi % 18446744073709551616).toNat=q at*;split<;>omega
theorem Jw8 {x:Int} (h:Zu x) (h0:x<0):St x (x / 9223372036854775808) (Ch x):=by
 unfold Zu at h;unfold St Ch;omega
theorem Je9 {x:Int} (h:Zu x) (h0:0≤x):St x (x / 9223372036854775808) x.toNat:=by
 unfold Zu at h;unfold St;omega
theorem Zu.mid {x:Int} (h:Zu x):Mid x:=by unfold Zu at h;unfold Mid;omega
def Nz (a b:Int):Int:=if a<b then -1 else if b<a then 1 else 0
def orI (x y:Int):Int:=if x≠0 then x else y
theorem Jo1 {va vb ahi bhi:Int} {alo blo:Nat} (ha:St va ahi alo) (hb:St vb bhi blo):
 Nz va vb=orI (Nz ahi bhi) (Nz alo blo):=by
 unfold St at ha hb;unfold orI Nz;by_cases h1:ahi<bhi
 .simp only [ZM h1];rw [ZM (show va<vb by omega),ZM (by omega)]
 simp only [ZL h1];by_cases h2:bhi<ahi
 .simp only [ZM h2];rw [ZL (show ¬va<vb by omega),ZM (show vb<va by omega),ZM (by omega)]
 simp only [ZL h2];rw [ZL (show ¬((0:Int)≠0) by simp)];have:ahi=bhi:=by omega
 subst this;by_cases h3:(alo:Int)<blo
 .rw [ZM (show va<vb by omega),ZM h3]
 rw [ZL (show ¬va<vb by omega),ZL h3];by_cases h4:(blo:Int)<alo
 .rw [ZM (show vb<va by omega),ZM h4]
 rw [ZL (show ¬vb<va by omega),ZL h4]
def Ay (v:Int):Int:=v / 18446744073709551616
def Wm (v:Int):Nat:=(v % 18446744073709551616).toNat
theorem Li (v:Int):St v (Ay v) (Wm v):=by unfold St Ay Wm;omega
theorem Vv2 {v hi:Int} {lo:Nat} (h:St v hi lo):hi=Ay v∧lo=Wm v:=by unfold St at h;unfold Ay Wm;omega
def Zo (x:List Int) (i:Nat):Int:=if i % 2=1 then -(Qe x (i / 2)) else Qe x (i / 2)
def Qc (x:List Int) (i j:Nat):Int:=Zo x i - Zo x j
theorem Cz {x:List Int} (h:∀v∈x,Zu v) {i:Nat} (hi:i / 2<x.length):-9223372036854775808≤Zo x i∧Zo x i≤9223372036854775808:=by
 have:=h _ (Ub hi)
 unfold Zu at this;unfold Zo;split<;>omega
end Gn
open Gn
theorem Zc5:Lays7.n26 prog ⟨λ|26=>290|n=>n,λ|22=>94|n=>n,λn=>n⟩:={
 mixed:=by kernel_rfl
 f26:=func290.trans (congrArg some (by kernel_rfl))
 t22:=underlying94
 a22:=Tryz.isAgg94
 z22:=Tryz.sizeOf94
 v22:=Tryz.zeroValue94
 i22:=by kernel_rfl}
theorem Qy3 (x y b:Nat) (hb:b≤1) (w:World):(callFunc 290 #[.int .u64 x,.int .u64 y,.int .u64 b]).run prog w=.ok (.value (.tuple #[.int .u64 (Zx2 x y b:Nat),.int .u64 (Qj2 x y b:Nat)])) w:=
 Any7.bits_Sub64 Zc5 x y b hb w
theorem Ql6 (x y:Nat) (w:World):(callFunc 290 #[.int .u64 x,.int .u64 y,.int .u64 0]).run prog w=.ok (.value (.tuple #[.int .u64 (Zx2 x y 0:Nat),.int .u64 (Qj2 x y 0:Nat)])) w:=Qy3 x y 0 (by omega) w
theorem Qq8 {v hi:Int} {lo:Nat} (h:St v hi lo):Ending.returned (.agg #[.int .i64 hi,.int .u64 (lo:Nat)])=.returned (.agg #[.int .i64 (Ay v),.int .u64 (Wm v:Nat)]):=by
 obtain ⟨rfl,rfl⟩:=Vv2 h;rfl
theorem Qf6 (x:Int) (w:World) (hx:Zu x):
 Calls prog 239 #[.int .i64 x] w λe w'=>e=.returned (.agg #[.int .i64 (Ay x),.int .u64 (Wm x:Nat)])∧Below w.heap.size w w':=by
 have hB:∀cs,Below w.heap.size w (w.alloc (.cells cs 257)):=λcs=>(QK _ _).alloc (ZH _) _
 by_cases h0:x<0
 focus
  have HW:=Hd (Qq8 (Jw8 hx h0));have:=Gy x;obtain ⟨h1,h2⟩:=hx;generalize Ch x=lo at*;obtain ⟨hi,hhi⟩:∃hi,hi=x / 9223372036854775808:=⟨_,rfl⟩
 rotate_left
 focus
  have h0':0≤x:=by omega
  have HW:=Hd (Qq8 (Je9 hx h0'));obtain ⟨h1,h2⟩:=hx;obtain ⟨lo,rfl⟩:=ZV h0';rw [Int.toNat_natCast] at HW;obtain ⟨hi,hhi⟩:∃hi,hi=(lo:Int) / 9223372036854775808:=⟨_,rfl⟩
 all_goals
  rw [<-hhi] at HW;have HH:=Hd hhi;clear hhi;go_enter func239,ntmps239
  go_wp2_with fail
  rw [<-HH.out];exact QL (v:=.agg #[.int .i64 hi,.int .u64 (lo:Nat)]) (by simp [results,results239,go_sem]) rfl ⟨HW.out,hB _⟩
theorem Qy8 (va vb:Int) (w:World) (hma:Mid va) (hmb:Mid vb):
 Calls prog 241 #[.agg #[.int .i64 (Ay va),.int .u64 (Wm va:Nat)],.agg #[.int .i64 (Ay vb),.int .u64 (Wm vb:Nat)]] w λe w'=>e=.returned (.agg #[.int .i64 (Ay (va - vb)),.int .u64 (Wm (va - vb):Nat)])∧Below w.heap.size w w':=by
 have ha:=Li va;have hb:=Li vb;have HW:=Hd (Qq8 (Jm5 ha hb hma hmb));generalize Ay va=ahi at*;generalize Wm va=alo at*;generalize Ay vb=bhi at*;generalize Wm vb=blo at*;have:=Ly ha hma;have:=Ly hb hmb;have:=Zi9 ha;have:=Zi9 hb;have:=Gy ahi;have:=Gy bhi;have hsl:=Vy5 alo blo 0;have:=λW=>Ql6 alo blo W
 have:=λW=>Qy3 (Ch ahi) (Ch bhi) (Qj2 alo blo 0) hsl W
 clear ha hb hma hmb;generalize Zx2 (Ch ahi) (Ch bhi) (Qj2 alo blo 0)=hi at*;generalize Qj2 (Ch ahi) (Ch bhi) (Qj2 alo blo 0)=bo at*;generalize Qj2 alo blo 0=bb at*;generalize Zx2 alo blo 0=lo at*;generalize Ch ahi=pa at*;generalize Ch bhi=pb at*;go_enter func241,ntmps241
 go_wp2_with fail
 exact QL (v:=.agg #[.int .i64 (wrap64 hi),.int .u64 (lo:Nat)]) (by simp [results,results241,go_sem]) rfl ⟨HW.out,(((QK _ _).alloc (ZH _) _).alloc (by simp) _).alloc (by simp;omega) _⟩
theorem Pb (a b:Int) (w:World):Calls prog 288 #[.int .i64 a,.int .i64 b] w λe w'=>e=.returned (.int .i64 (Nz a b))∧w=w':=by
 by_cases h1:a<b
 .have HC:=Hd (show (-1:Int)=Nz a b by unfold Nz;rw [ZM h1]);go_enter func288,ntmps288
  go_wp2
  go_ret
  exact Vo HC.out
 by_cases h2:b<a
 .have HC:=Hd (show (1:Int)=Nz a b by unfold Nz;rw [ZL h1,ZM h2]);go_enter func288,ntmps288
  go_wp2
  go_ret
  exact Vo HC.out
 have HC:=Hd (show (0:Int)=Nz a b by unfold Nz;rw [ZL h1,ZL h2]);go_enter func288,ntmps288
 go_wp2
 go_ret
 exact Vo HC.out
theorem Vs2 (a b:Nat) (w:World):Calls prog 289 #[.int .u64 a,.int .u64 b] w λe w'=>e=.returned (.int .i64 (Nz a b))∧w=w':=by
 by_cases h1:a<b
 .have HC:=Hd (show (-1:Int)=Nz a b by unfold Nz;rw [ZM (by omega)]);go_enter func289,ntmps289
  go_wp2
  go_ret
  exact Vo HC.out
 by_cases h2:b<a
 .have HC:=Hd (show (1:Int)=Nz a b by unfold Nz;rw [ZL (by omega),ZM (by omega)]);go_enter func289,ntmps289
  go_wp2
  go_ret
  exact Vo HC.out
 have HC:=Hd (show (0:Int)=Nz a b by unfold Nz;rw [ZL (by omega),ZL (by omega)]);go_enter func289,ntmps289
 go_wp2
 go_ret
 exact Vo HC.out
theorem Vz2 (x y:Int) (w:World) (g c:Nat) (h0:w.cell? ⟨g,0,none⟩=some (.int .i64 x)) (h1:w.cell? ⟨g,1,none⟩=some (.int .i64 y)):
 Calls prog 287 #[.slice (some ⟨g,0,none⟩) 2 c] w λe w'=>e=.returned (.int .i64 (orI x y))∧w=w':=by
 go_enter func287,ntmps287
 go_wp2
 go_loop [8] (λs=>∃k:Nat,s=.int .i64 k∧k≤2∧(0<k->x=0)∧(1<k->y=0)) (λs=>2 - (intOf s).toNat)
 case atStart=>exact ⟨0,rfl,by omega,λh=>by omega,λh=>by omega⟩
 obtain ⟨k,rfl,_,hx,hy⟩:=hrel;have hk3:k=0∨k=1∨k=2:=by omega
 rcases hk3 with rfl|rfl|rfl
 .clear hx hy;by_cases hx:x=0
  .have hb:(x !=0)=false:=bne_eq_false_iff_eq.2 hx;have HX:=Hd hx;clear hx;go_wp2
   go_round
   case rel=>exact ⟨1,by go_num,by omega,λ_=>HX.out,λh=>by omega⟩
   simp [intOf]
  have hb:(x !=0)=true:=bne_iff_ne.2 hx;have HX:=Hd hx;clear hx;go_wp2
  go_ret
  exact Vo (by unfold orI;rw [ZM HX.out])
 .have hx:=hx (by omega);have HX:=Hd hx;clear hx hy;by_cases hy:y=0
  .have hb:(y !=0)=false:=bne_eq_false_iff_eq.2 hy;have HY:=Hd hy;clear hy;go_wp2
   go_round
   case rel=>exact ⟨2,by go_num,by omega,λ_=>HX.out,λh=>HY.out⟩
   simp [intOf]
  have hb:(y !=0)=true:=bne_iff_ne.2 hy;clear hy;go_wp2
  go_ret
  exact Vo (by unfold orI;rw [ZL (by simp [HX.out])])
 have hx:=hx (by omega);have hy:=hy (by omega);have HX:=Hd hx;have HY:=Hd hy;clear hx hy;go_wp2
 go_ret
 exact Vo (by unfold orI;rw [ZL (by simp [HX.out])]<;>exact HY.out.symm)
theorem Zu.midv {v:Int} (h:-9223372036854775808≤v∧v≤9223372036854775808):Mid v:=by unfold Mid;omega
theorem Ds (va vb:Int) (w:World) (hma:Mid va) (hmb:Mid vb):
 Calls prog 238 #[.agg #[.int .i64 (Ay va),.int .u64 (Wm va:Nat)],.agg #[.int .i64 (Ay vb),.int .u64 (Wm vb:Nat)]] w λe w'=>e=.returned (.int .i64 (Nz va vb))∧Below w.heap.size w w':=by
 have HW:=Hd (Jo1 (Li va) (Li vb));have cI:=λW=>Pb (Ay va) (Ay vb) W
 have cU:=λW=>Vs2 (Wm va) (Wm vb) W
 clear hma hmb;generalize Nz (Ay va) (Ay vb)=x at*;generalize Nz (Wm va) (Wm vb)=y at*;generalize Ay va=ahi at*;generalize Wm va=alo at*;generalize Ay vb=bhi at*;generalize Wm vb=blo at*;obtain ⟨W,hW⟩:∃W,W=(w.alloc (.cells #[.int .i64 ahi,.int .u64 (alo:Nat)] 257)).alloc (.cells #[.int .i64 bhi,.int .u64 (blo:Nat)] 257):=⟨_,rfl⟩;have k0:W.cell? ⟨w.heap.size,0,none⟩=some (.int .i64 ahi):=by rw [hW];simp [go_sem]
 have k1:W.cell? ⟨w.heap.size,1,none⟩=some (.int .u64 (alo:Nat)):=by rw [hW];simp [go_sem]
 have l0:W.cell? ⟨w.heap.size+1,0,none⟩=some (.int .i64 bhi):=by rw [hW];simp [go_sem]
 have l1:W.cell? ⟨w.heap.size+1,1,none⟩=some (.int .u64 (blo:Nat)):=by rw [hW];simp [go_sem]
 have hB:Below w.heap.size w W:=by rw [hW];exact ((QK _ _).alloc (ZH _) _).alloc (by simp) _
 go_enter func238,ntmps238
 go_wp2_with fail
 rw [<-hW];clear hW;have a0:=Qz.cell k0;have a1:=Qz.cell k1;have a2:=Qz.cell l0;have a3:=Qz.cell l1;refine Qb [(10,3)] (by kernel_rfl) (by kernel_rfl) ?_;simp only [Jl,ZP,ZQ,ZR,ZT]
 repeat (go_big_quiet_step (first|(go_at_call 288;with_reducible exact Qw (cI _))|(go_at_call 289;with_reducible exact Qw (cU _))))
 refine wpQuiet_nil ?_;intro w1 hb1;have hB1:=hB.trans (hb1.mono hB.size);clear a0 a1 a2 a3 k0 k1 l0 l1 cI cU hb1 hB;go_wp2_with fail
 refine (Vz2 x y _ w1.heap.size 2 (by simp [QM]) (by simp [QM])).mono ?_;rintro e w' ⟨rfl,rfl⟩;go_wp2_with fail
 refine Qu (wpQuiet_nil ?_);intro w2 hb2;have hB2:Below w.heap.size w w2:=(hB1.alloc hB1.size _).trans (hb2.mono (by have:=hB1.size;simp;omega));clear hb2;go_wp2_with fail
 go_ret
 rw [HW.out];exact ⟨rfl,hB2⟩
end
section
open Gn
theorem Qp7 (A:Option Addr) (c:Nat) (x:List Int) (i:Nat) (w:World) (hr:Rd w w.heap.size .i64 A x.length (Qe x)) (hx:∀v∈x,Zu v) (hi:i / 2<x.length) (hm:(x.length:Int)≤9223372036854775807) (hi2:i<1000000):
 Calls prog 240 #[.slice A x.length c,.int .i64 i] w λe w'=>e=.returned (.agg #[.int .i64 (Ay (Zo x i)),.int .u64 (Wm (Zo x i):Nat)])∧Below w.heap.size w w':=by
 have hv:=hx _ (Ub hi);obtain ⟨g,_,rfl,_,hcell⟩:=hr (by omega);have hcv:=hcell _ hi;have:(i:Int).tmod 2=((i % 2:Nat):Int):=by rw [QH (by omega)];omega
 have:(i:Int) % 2=((i % 2:Nat):Int):=by omega
 have:(i:Int) / 2=((i / 2:Nat):Int):=by omega
 have hS:Zo x i=if i % 2=1 then -(Qe x (i / 2)) else Qe x (i / 2):=rfl
 clear hcell hr hx;generalize Qe x (i / 2)=v at*;have cO:=λW=>Qf6 v W hv
 obtain ⟨w1,hw1⟩:∃w1,w1=w.alloc (.cells #[.int .i64 0,.int .u64 0] 257):=⟨_,rfl⟩;have hb1:Below w.heap.size w w1:=by rw [hw1];exact (QK _ _).alloc (ZH _) _
 have r0:w1.cell? ⟨w.heap.size,0,none⟩=some (.int .i64 0):=by rw [hw1];simp [QM]
 have r1:w1.cell? ⟨w.heap.size,1,none⟩=some (.int .u64 0):=by rw [hw1];simp [QM]
 have rf:∀i,w1.frozen? ⟨w.heap.size,i,none⟩=false:=by intro i;rw [hw1];simp [go_sem]
 have rl:w.heap.size<w1.heap.size:=by rw [hw1];simp
 have hcv1:=Qq hb1 hcv;have:i / 2<x.length:=hi;have:w.heap.size≠g:=by omega
 have cO1:=cO w1;clear hi;generalize i / 2=q at*;by_cases h1:i % 2=1
 .rw [ZM h1] at hS;rw [hS];have hb:(((i % 2:Nat):Int)==1)=true:=by rw [h1];rfl
  have cL:=λW=>Qy8 0 v W (by unfold Mid;omega) hv.mid
  rw [Int.zero_sub] at cL;have cZ:=λW=>Qf6 0 W (by unfold Zu;omega)
  clear hS h1;generalize i % 2=r at*;generalize Ay (-v)=nh at*;generalize Wm (-v)=nl at*;generalize Ay v=vh at*;generalize Wm v=vl at*;generalize Ay 0=zh at*;generalize Wm 0=zl at*;go_enter func240,ntmps240
  go_wp2_with fail
  rw [<-hw1];refine cO1.mono ?_;clear cO1 hw1 hcv hcv1;rintro e w2 ⟨rfl,hb2⟩;obtain ⟨w3,hw3⟩:∃w3,w3=w2.alloc (.cells #[.int .i64 vh,.int .u64 (vl:Nat)] 257):=⟨_,rfl⟩;have hb3:Below w2.heap.size w2 w3:=by rw [hw3];exact (QK _ _).alloc (ZH _) _
  have k0:w3.cell? ⟨w2.heap.size,0,none⟩=some (.int .i64 vh):=by rw [hw3];simp [QM]
  have k1:w3.cell? ⟨w2.heap.size,1,none⟩=some (.int .u64 (vl:Nat)):=by rw [hw3];simp [QM]
  have hb13:=hb2.trans (hb3.mono hb2.size);have r0:=Qq hb13 r0;have r1:=Qq hb13 r1;have rf:=λi=>(hb13.frozen (p:=⟨w.heap.size,i,none⟩) rl).trans (rf i)
  have hB3:=hb1.trans (hb13.mono hb1.size);have rl3:w.heap.size<w3.heap.size:=by have:=hb13.size;omega
  clear hb1 hb2 hb3 hb13;go_wp2_with fail
  rw [<-hw3];clear hw3;have a0:=Qz.cell k0;have a1:=Qz.cell k1;refine Qb [(3,1)] (by kernel_rfl) (by kernel_rfl) ?_;simp only [Jl,ZP,ZQ,ZR,ZT]
  repeat (go_big_quiet_step (first|(go_at_call 239;with_reducible exact Qd (cZ _))|(go_at_call 241;with_reducible exact Qd (cL _))))
  refine wpQuiet_nil ?_;intro w4 hb4;have r0:=Qq hb4 r0;have r1:=Qq hb4 r1;have rf:=λi=>(hb4.frozen (p:=⟨w.heap.size,i,none⟩) rl3).trans (rf i)
  have hB4:=hB3.trans (hb4.mono hB3.size);have:w.heap.size<w4.heap.size:=by have:=hb4.size;omega
  clear a0 a1 k0 k1 cO cZ cL hB3 hb4;go_wp2_with fail
  refine Qu (wpQuiet_nil ?_);intro w5 hb5;have hB5:Below w.heap.size w w5:=((hB4.setCell (p:=⟨w.heap.size,0,none⟩) (by simp) _).setCell (p:=⟨w.heap.size,1,none⟩) (by simp) _).trans (hb5.mono (by simp;omega));have s0:=Qq hb5 (p:=⟨w.heap.size,0,none⟩) (v:=.int .i64 nh) (by simp [go_sem,r0,r1]);have s1:=Qq hb5 (p:=⟨w.heap.size,1,none⟩) (v:=.int .u64 (nl:Nat)) (by simp [go_sem,r0,r1]);clear hb5 r0 r1 hB4;go_wp2_with fail
  exact QL (v:=.agg #[.int .i64 nh,.int .u64 (nl:Nat)]) (by simp [results,results240,go_sem,s0,s1]) rfl ⟨rfl,hB5⟩
 rw [ZL h1] at hS;rw [hS];have hb:(((i % 2:Nat):Int)==1)=false:=beq_eq_false_iff_ne.2 (by omega);clear hS h1;generalize i % 2=r at*;generalize Ay v=vh at*;generalize Wm v=vl at*;go_enter func240,ntmps240
 go_wp2_with fail
 rw [<-hw1];refine cO1.mono ?_;clear cO1 hw1 hcv hcv1;rintro e w2 ⟨rfl,hb2⟩;have r0:=Qq hb2 r0;have r1:=Qq hb2 r1;have rf:=λi=>(hb2.frozen (p:=⟨w.heap.size,i,none⟩) rl).trans (rf i)
 have hB2:=hb1.trans (hb2.mono hb1.size);have rl2:w.heap.size<w2.heap.size:=by have:=hb2.size;omega
 clear hb1 hb2 cO;go_wp2_with fail
 exact QL (v:=.agg #[.int .i64 vh,.int .u64 (vl:Nat)]) (by simp [results,results240,go_sem,r0,r1,rl2]) rfl ⟨rfl,((hB2.setCell (by simp) _).setCell (by simp) _).alloc (by simp;omega) _⟩
theorem Jk7 (A:Option Addr) (c:Nat) (x:List Int) (i j:Nat) (w:World) (hr:Rd w w.heap.size .i64 A x.length (Qe x)) (hx:∀v∈x,Zu v) (hi:i / 2<x.length) (hj:j / 2<x.length) (hm:(x.length:Int)≤9223372036854775807) (hi2:i<1000000) (hj2:j<1000000):
 Calls prog 173 #[.slice A x.length c,.int .i64 i,.int .i64 j] w λe w'=>e=.returned (.agg #[.int .i64 (Ay (Qc x i j)),.int .u64 (Wm (Qc x i j):Nat)])∧Below w.heap.size w w':=by
 obtain ⟨w1,hw1⟩:∃w1,w1=w.alloc (.cells #[.int .i64 0,.int .u64 0] 257):=⟨_,rfl⟩;have hb1:Below w.heap.size w w1:=by rw [hw1];exact (QK _ _).alloc (ZH _) _
 have r0:w1.cell? ⟨w.heap.size,0,none⟩=some (.int .i64 0):=by rw [hw1];simp [QM]
 have r1:w1.cell? ⟨w.heap.size,1,none⟩=some (.int .u64 0):=by rw [hw1];simp [QM]
 have rf:∀i,w1.frozen? ⟨w.heap.size,i,none⟩=false:=by intro i;rw [hw1];simp [go_sem]
 have rl:w.heap.size<w1.heap.size:=by rw [hw1];simp
 have hr1:=(hr.below hb1).more hb1.size;have c1:=Qp7 A c x i w1 hr1 hx hi hm hi2;have m1:=Zu.midv (Cz hx hi);have m2:=Zu.midv (Cz hx hj);have cL:=λW=>Qy8 (Zo x i) (Zo x j) W m1 m2
 have cJ:=λ(W:World) (h:Rd W W.heap.size .i64 A x.length (Qe x))=>Qp7 A c x j W h hx hj hm hj2
 rw [show Zo x i - Zo x j=Qc x i j from rfl] at cL;clear m1 m2 hr hi hj hx;generalize Ay (Qc x i j)=nh at*;generalize Wm (Qc x i j)=nl at*;generalize Ay (Zo x i)=ih at*;generalize Wm (Zo x i)=il at*;generalize Ay (Zo x j)=jh at*;generalize Wm (Zo x j)=jl at*;go_enter func173,ntmps173
 go_wp2_with fail
 rw [<-hw1];clear hw1;refine c1.mono ?_;clear c1;rintro e w2 ⟨rfl,hb2⟩;have c2:=cJ w2 ((hr1.below hb2).more hb2.size);go_wp2_with fail
 refine c2.mono ?_;clear c2 cJ;rintro e _ ⟨rfl,hb3⟩;go_wp2_with fail
 refine (cL _).mono ?_;clear cL;rintro e _ ⟨rfl,hb4⟩;have hb:=(hb2.trans (hb3.mono hb2.size)).trans (hb4.mono (ZO hb2.size hb3.size));have r0:=Qq hb r0;have r1:=Qq hb r1;have rf:=λi=>(hb.frozen (p:=⟨w.heap.size,i,none⟩) rl).trans (rf i)
 have hB:=hb1.trans (hb.mono hb1.size);clear hb hb2 hb3 hb4 hb1;go_wp2_with fail
 exact QL (v:=.agg #[.int .i64 nh,.int .u64 (nl:Nat)]) (by simp [results,results173,go_sem,r0,r1]) rfl ⟨rfl,(hB.setCell (by simp) _).setCell (by simp) _⟩
namespace Gn
def Nx (v:Int):Int:=if 4611686018427387904<v then 9223372036854775807 else if v< -4611686018427387904 then -4611686018427387904 else v
theorem Zm1 {v:Int} (h1:¬4611686018427387904<v) (h2:¬v< -4611686018427387904):wrap64 (Wm v:Int)=v:=by unfold Wm wrap64;omega
theorem Jd4 {a b:Int}:0<Nz a b↔b<a:=by unfold Nz;split<;>(try split)<;>omega
theorem Jp4 {a b:Int}:Nz a b<0↔a<b:=by unfold Nz;split<;>(try split)<;>omega
end Gn
theorem Zu6 (v:Int) (w:World) (hv:Mid v):
 Calls prog 172 #[.agg #[.int .i64 (Ay v),.int .u64 (Wm v:Nat)]] w λe w'=>e=.returned (.int .i64 (Nx v))∧Below w.heap.size w w':=by
 have cO:=λW=>Qf6 4611686018427387904 W (by unfold Zu;omega)
 have cN:=λW=>Qf6 (-4611686018427387904) W (by unfold Zu;omega)
 have cC:=λW=>Ds v 4611686018427387904 W hv (by unfold Mid;omega)
 have cD:=λW=>Ds v (-4611686018427387904) W hv (by unfold Mid;omega)
 have HP0:=Hd (Jd4 (a:=v) (b:=4611686018427387904));have HQ0:=Hd (Jp4 (a:=v) (b:=-4611686018427387904));have HLO0:=Hd (show ¬4611686018427387904<v->¬v< -4611686018427387904->wrap64 (Wm v:Int)=v from Zm1);have e1:4611686018427387904<v->Nx v=9223372036854775807:=λh=>by unfold Nx;rw [ZM h]
 have e2:¬4611686018427387904<v->v< -4611686018427387904->Nx v=-4611686018427387904:=λh h'=>by unfold Nx;rw [ZL h,ZM h']
 have e3:¬4611686018427387904<v->¬v< -4611686018427387904->Nx v=v:=λh h'=>by unfold Nx;rw [ZL h,ZL h']
 have E1:=Hd e1;have E2:=Hd e2;have E3:=Hd e3;clear e1 e2 e3;obtain ⟨w1,hw1⟩:∃w1,w1=w.alloc (.cells #[.int .i64 (Ay v),.int .u64 (Wm v:Nat)] 257):=⟨_,rfl⟩;have hb1:Below w.heap.size w w1:=by rw [hw1];exact (QK _ _).alloc (ZH _) _
 have k0:w1.cell? ⟨w.heap.size,0,none⟩=some (.int .i64 (Ay v)):=by rw [hw1];simp [QM]
 have k1:w1.cell? ⟨w.heap.size,1,none⟩=some (.int .u64 (Wm v:Nat)):=by rw [hw1];simp [QM]
 generalize Nz v 4611686018427387904=x at*;generalize Nz v (-4611686018427387904)=y at*;generalize Ay v=vh at*;generalize Wm v=vl at*;generalize Ay 4611686018427387904=ph at*;generalize Wm 4611686018427387904=pl at*;generalize Ay (-4611686018427387904)=mh at*;generalize Wm (-4611686018427387904)=ml at*;go_enter func172,ntmps172
 go_wp2_with fail
 rw [<-hw1];have a0:=Qz.cell k0;have a1:=Qz.cell k1;refine Qk (by kernel_rfl) (by kernel_rfl) ?_
 repeat (go_big_quiet_step (first|(go_at_call 239;with_reducible exact Qd (cO _))|(go_at_call 238;with_reducible exact Qd (cC _))))
 refine wpQuiet_nil ?_;intro w2 hb2;have k0:=Qq hb2 k0;have k1:=Qq hb2 k1;have hB2:=hb1.trans (hb2.mono hb1.size);clear a0 a1 cO cC hb2 hb1 hw1;by_cases h1:0<x
 .have HE:=Hd (E1.out (HP0.out.1 h1));go_wp2_with fail
  go_ret
  rw [HE.out];exact ⟨rfl,hB2⟩
 have h1':¬4611686018427387904<v:=λh=>h1 (HP0.out.2 h)
 have HE2:=Hd (E2.out (by omega));have HE3:=Hd (E3.out (by omega));have HLO:=Hd (HLO0.out (by omega));clear h1';go_wp2_with fail
 have a0:=Qz.cell k0;have a1:=Qz.cell k1;refine Qk (by kernel_rfl) (by kernel_rfl) ?_
 repeat (go_big_quiet_step (first|(go_at_call 239;with_reducible exact Qd (cN _))|(go_at_call 238;with_reducible exact Qd (cD _))))
 refine wpQuiet_nil ?_;intro w3 hb3;have k0:=Qq hb3 k0;have k1:=Qq hb3 k1;have hB3:=hB2.trans (hb3.mono hB2.size);clear a0 a1 cN cD hb3 hB2;by_cases h2:y<0
 .have HE:=Hd (HE2.out (HQ0.out.1 h2));go_wp2_with fail
  go_ret
  rw [HE.out];exact ⟨rfl,hB3⟩
 have h2':¬v< -4611686018427387904:=λh=>h2 (HQ0.out.2 h)
 have HE:=Hd (HE3.out (by omega));have HL:=Hd (HLO.out (by omega));clear h2';go_wp2_with fail
 go_ret
 rw [HE.out,<-HL.out];exact ⟨rfl,hB3⟩
end
section
open Gn
theorem Jd1 (a:Int):∃q r:Int,a.tdiv 2=q∧a.tmod 2=r∧a=2*q+r∧(0≤a->0≤r∧r≤1∧a / 2=q∧a % 2=r)∧(a<0->-1≤r∧r≤0):=by
 refine ⟨a.tdiv 2,a.tmod 2,rfl,rfl,(Int.mul_tdiv_add_tmod a 2).symm,λh=>?_,λh=>?_⟩
 .rw [Int.tdiv_eq_ediv_of_nonneg h,QH h];omega
 have:=Int.neg_tmod (a:=a) (b:=2);have:=QH (a:=-a) (b:=2) (by omega);omega
namespace Gn
def sg (neg:Bool) (a:Int):Int:=if neg then -a else a
def hh (v:Int):Int:=v / 2
def hl (v:Int):Int:=v % 2
theorem Oy (a:Int):sg false a=a:=rfl
theorem Qf4 (a:Int):sg true a=-a:=rfl
end Gn
theorem Qo4 (a:Int) (neg:Bool) (w:World) (ha:Zu a):
 Calls prog 52 #[.int .i64 a,.bool neg] w λe w'=>e=.returned (.tuple #[.int .i64 (hh (sg neg a)),.int .i64 (hl (sg neg a))])∧w=w':=by
 obtain ⟨q,r,_,_,hs,hp,hn⟩:=Jd1 a;obtain ⟨_,_⟩:=ha;rcases neg with _|_
 .by_cases h0:0≤a
  .obtain ⟨p1,p2,p3,p4⟩:=hp h0;have HS:=Hd (show q=hh (sg false a)∧r=hl (sg false a) by unfold hh hl;rw [Oy];omega);clear hs hp hn;go_enter func52,ntmps52
   go_wp2_with fail
   go_ret2
   exact Xe HS.out.1 HS.out.2
  obtain ⟨p1,p2⟩:=hn (by omega);clear hp hn;by_cases hr0:r<0
  focus
   have HS:=Hd (show q - 1=hh (sg false a)∧1=hl (sg false a) by unfold hh hl;rw [Oy];omega)
  rotate_left
  focus
   have HS:=Hd (show q=hh (sg false a)∧r=hl (sg false a) by unfold hh hl;rw [Oy];omega)
  all_goals
   have b1:-9223372036854775807≤q∧q≤0:=by omega
   clear hs;go_enter func52,ntmps52
   go_wp2_with fail
   go_ret2
   exact Xe HS.out.1 HS.out.2
 .by_cases h0:0≤a
  .obtain ⟨p1,p2,p3,p4⟩:=hp h0;clear hp hn;have b1:0≤q∧q≤4611686018427387904:=by omega
   by_cases hr0:r=0
   .have HS:=Hd (show -q=hh (sg true a)∧0=hl (sg true a) by unfold hh hl;rw [Qf4];omega);have hr1:¬-r<0:=by omega
    clear hs;go_enter func52,ntmps52
    go_wp2_with fail
    all_goals go_ret2
    exact Xe HS.out.1 HS.out.2
   have HS:=Hd (show -q - 1=hh (sg true a)∧1=hl (sg true a) by unfold hh hl;rw [Qf4];omega);have hr1:-r<0:=by omega
   clear hs hr0;go_enter func52,ntmps52
   go_wp2_with fail
   go_ret2
   exact Xe HS.out.1 HS.out.2
  obtain ⟨p1,p2⟩:=hn (by omega);have b1:-4611686018427387904≤q∧q≤0:=by omega
  have HS:=Hd (show -q=hh (sg true a)∧-r=hl (sg true a) by unfold hh hl;rw [Qf4];omega);clear hp hn hs;go_enter func52,ntmps52
  go_wp2_with fail
  go_ret2
  exact Xe HS.out.1 HS.out.2
namespace Gn
def Wg (v:Int):Int:=if 4611686018427387904<v then 0 else if v< -4611686018427387904 then 0 else v
def Sj (v:Int):Int:=if 4611686018427387904<v then 1 else if v< -4611686018427387904 then -1 else 0
theorem Vk4 {v:Int} (h:4611686018427387904<v):0=Wg v∧1=Sj v:=by unfold Wg Sj;rw [ZM h,ZM h];exact ⟨rfl,rfl⟩
theorem Vk5 {v:Int} (h:v< -4611686018427387904):0=Wg v∧-1=Sj v:=by
 have h':¬4611686018427387904<v:=by omega
 unfold Wg Sj;rw [ZL h',ZL h',ZM h,ZM h];exact ⟨rfl,rfl⟩
theorem Jt6 {v u:Int} (h:¬4611686018427387904<v) (h':¬v< -4611686018427387904) (hu:u=v):u=Wg v∧0=Sj v:=by subst hu;unfold Wg Sj;rw [ZL h,ZL h,ZL h',ZL h'];exact ⟨rfl,rfl⟩
theorem Va3 (v:Int):v=2*hh v+hl v∧0≤hl v∧hl v≤1:=by unfold hh hl;omega
end Gn
theorem Vg1 {k l:IntKind} {x y x' y':Int} (h:x=x'∧y=y'):Ending.returned (.tuple #[.int k x,.int l y])=.returned (.tuple #[.int k x',.int l y']):=by rw [h.1,h.2]
theorem Je8 (A:Option Addr) (c:Nat) (x:List Int) (i j:Nat) (w:World) (hr:Rd w w.heap.size .i64 A x.length (Qe x)) (hx:∀v∈x,Zu v) (hi:i / 2<x.length) (hj:j / 2<x.length) (hm:(x.length:Int)≤9223372036854775807) (hi2:i<1000000) (hj2:j<1000000):
 Calls prog 22 #[.slice A x.length c,.int .i64 i,.int .i64 j] w λe w'=>e=.returned (.tuple #[.int .i64 (Wg (Qc x i j)),.int .i64 (Sj (Qc x i j))])∧Below w.heap.size w w':=by
 have ha:=hx _ (Ub hi);have hb:=hx _ (Ub hj);obtain ⟨_,_,rfl,_,hcell⟩:=hr (by omega);have hca:=hcell _ hi;have hcb:=hcell _ hj;have:(i:Int).tmod 2=((i % 2:Nat):Int):=by rw [QH (by omega)];omega
 have:(i:Int) % 2=((i % 2:Nat):Int):=by omega
 have:(j:Int).tmod 2=((j % 2:Nat):Int):=by rw [QH (by omega)];omega
 have:(j:Int) % 2=((j % 2:Nat):Int):=by omega
 have:(i:Int) / 2=((i / 2:Nat):Int):=by omega
 have:(j:Int) / 2=((j / 2:Nat):Int):=by omega
 have hS1:Zo x i=if i % 2=1 then -(Qe x (i / 2)) else Qe x (i / 2):=rfl
 have hS2:Zo x j=if j % 2=1 then -(Qe x (j / 2)) else Qe x (j / 2):=rfl
 have hap:Qc x i j=Zo x i - Zo x j:=rfl;have:i / 2<x.length:=hi;have:j / 2<x.length:=hj;clear hcell hr hx hi hj;generalize Qe x (i / 2)=a at*;generalize Qe x (j / 2)=b at*;obtain ⟨pi,hpi⟩:∃p,p=decide (i % 2=1):=⟨_,rfl⟩;obtain ⟨pj,hpj⟩:∃p,p=decide (j % 2=0):=⟨_,rfl⟩;have:(((i % 2:Nat):Int)==1)=pi:=by rw [hpi,Bool.eq_iff_iff,beq_iff_eq,ZU];omega
 have:(((j % 2:Nat):Int)==0)=pj:=by rw [hpj,Bool.eq_iff_iff,beq_iff_eq,ZU];omega
 have s1:Zo x i=sg pi a:=by rw [hS1,hpi];unfold sg;by_cases h:i % 2=1<;>simp [h]
 have s2:-Zo x j=sg pj b:=by
  rw [hS2,hpj];unfold sg;by_cases h:j % 2=1
  .rw [ZM h];simp [show ¬j % 2=0 by omega]
  rw [ZL h];simp [show j % 2=0 by omega]
 have g1:=Va3 (sg pi a);have g2:=Va3 (sg pj b);have cA:=λW=>Qo4 a pi W ha
 have cB:=λW=>Qo4 b pj W hb
 have e1:Zo x i=2*hh (sg pi a)+hl (sg pi a):=s1.trans g1.1;have e2:-Zo x j=2*hh (sg pj b)+hl (sg pj b):=s2.trans g2.1;obtain ⟨_,_,_⟩:=g1;obtain ⟨_,_,_⟩:=g2;have r1:-9223372036854775808≤Zo x i∧Zo x i≤9223372036854775808:=by unfold Zu at ha;rw [s1];unfold sg;split<;>omega
 have r2:-9223372036854775808≤-Zo x j∧-Zo x j≤9223372036854775808:=by unfold Zu at hb;rw [s2];unfold sg;split<;>omega
 clear hS1 hS2 s1 s2 hpi hpj;generalize hh (sg pi a)=H at*;generalize hl (sg pi a)=L at*;generalize hh (sg pj b)=H2 at*;generalize hl (sg pj b)=L2 at*;have hv:Qc x i j=2*(H+H2)+(L+L2):=by omega
 have hH:-4611686018427387904≤H∧H≤4611686018427387904:=by omega
 have hH2:-4611686018427387904≤H2∧H2≤4611686018427387904:=by omega
 have HV:=Hd hv;generalize Qc x i j=v at*;clear hap hv r1 r2 e1 e2;obtain ⟨_,_⟩:=hH;obtain ⟨_,_⟩:=hH2;generalize i / 2=qi at*;generalize j / 2=qj at*;generalize i % 2=ri at*;generalize j % 2=rj at*;go_enter func22,ntmps22
 go_wp2_with fail
 have a1:=Qz.cell hca;have a2:=Qz.cell hcb;refine Qk (by kernel_rfl) (by kernel_rfl) ?_
 repeat (go_big_quiet_step (fail))
 refine wpQuiet_nil ?_;intro w1 hB;clear a1 a2 hca hcb;go_wp2_with (first|(go_at_call 52;with_reducible refine (cA _).mono ?_;rintro e w' ⟨rfl,rfl⟩)|(go_at_call 52;with_reducible refine (cB _).mono ?_;rintro e w' ⟨rfl,rfl⟩))
 all_goals
  go_ret2
  have hv:=HV.out
  first
  |(refine ⟨Vg1 (Vk4 ?_),hB⟩;omega)
  |(refine ⟨Vg1 (Vk5 ?_),hB⟩;omega)
  |(refine ⟨Vg1 (Jt6 ?_ ?_ ?_),hB⟩<;>omega)
end
section
namespace Gn
def Cr (m:Nat) (M x:List Int) (i j:Nat):Prop:=cl m M i j=9223372036854775807∨Qc x i j≤cl m M i j
def Zr (m:Nat) (M x:List Int):Prop:=∀i,i<m->∀j,j<m->Cr m M x i j
instance (m:Nat) (M x:List Int) (i j:Nat):Decidable (Cr m M x i j):=by unfold Cr;infer_instance
instance (m:Nat) (M x:List Int):Decidable (Zr m M x):=by unfold Zr;infer_instance
def Ys (N:Int) (E:Bool) (M x:List Int):Bool:=decide (Je N E M=0∧E=false∧(x.length:Int)=N∧Zr (2*N.toNat) M x)
theorem Qd9 {N:Int} {E:Bool} {M x:List Int} (h:¬(Je N E M=0∧E=false∧(x.length:Int)=N)):Ys N E M x=false:=ZA (λk=>h ⟨k.1,k.2.1,k.2.2.1⟩)
theorem Js9 {n:Nat} {M x:List Int} (h:Je n false M=0) (hl:x.length=n):Ys n false M x=decide (Zr (2*n) M x):=by
 unfold Ys;rw [Bool.eq_iff_iff,ZU,ZU];exact ⟨λk=>by simpa using k.2.2.2,λk=>⟨h,rfl,by omega,by simpa using k⟩⟩
theorem Za7 {x:List Int} (h:∀v∈x,Zu v) {i j:Nat} (hi:i / 2<x.length) (hj:j / 2<x.length):Mid (Qc x i j):=by
 have:=Cz h hi;have:=Cz h hj;unfold Qc Mid;omega
end Gn
open Gn
end
section
open Gn
theorem Qb7 (N:Int) (E:Bool) (A:Option Addr) (c:Nat) (M:List Int) (A':Option Addr) (c':Nat) (x:List Int) (w:World) (h:Vd w w.heap.size A c N M)
 (hx:Rd w w.heap.size .i64 A' x.length (Qe x)) (hxi:∀v∈x,Zu v) (hxm:(x.length:Int)≤9223372036854775807):
 Calls prog 9 #[.agg #[.int .i64 N,.bool E,.slice A M.length c],.slice A' x.length c'] w λe w'=>e=.returned (.bool (Ys N E M x))∧Below w.heap.size w w':=by
 obtain ⟨W,hW,h1,hB,hs⟩:=Cd w 32 N E (.slice A M.length c);have hW1:=h.go hB;have hx1:=(hx.below hB).more hB.size;have cC:=Qw6 A c N E M W hW1;obtain ⟨k0,k1,k2⟩:=id h1;go_enter func9,ntmps9
 go_wp2_with fail
 rw [<-hW];clear hW;refine cC.mono ?_;clear cC;rintro e w1 ⟨rfl,hb1⟩;have hB1:=hB.trans (hb1.mono (by omega));have HB1:=Hd hB1;have hoct:=hW1.go hb1;have hO1:=h1.below hb1;have hx2:=(hx1.below hb1).more hb1.size;obtain ⟨m0,m1,m2⟩:=id hO1;clear k0 k1 k2 hb1 hB1 hx1 hx hW1 h;by_cases hc:Je N E M=0
 .obtain ⟨n,rfl,hn,hE1,hE0⟩:=Zz hc;have HC:=Hd hc;rw [hc];clear hc;rcases E with _|_
  .by_cases hl:x.length=n
   .have hlb:((x.length:Int)!=n)=false:=bne_eq_false_iff_eq.2 (by omega);have HE:=Hd (Js9 HC.out hl);obtain ⟨hMl,hok⟩:=hE0 rfl;have HMl:=Hd (show M.length=(2*n)*(2*n) by rw [hMl,Bz]);have hMq:M.length≤16384:=by rw [hMl];exact Sc hn
    have HX:=Hd hl;have HOK:=Hd hok;clear hE0 hE1 hMl hok hl;go_wp2_with fail
    go_loopw [6] (λs wr=>∃i:Nat,s=.int .i64 i∧i≤2*n∧Hid (∀i',i'<i->∀j,j<2*n->Cr (2*n) M x i' j)∧Below w1.heap.size w1 wr) (λs _=>2*n - (intOf s).toNat)
    case atStart=>exact ⟨0,rfl,by omega,Hd (λ_ h=>absurd h (by omega)),QK _ _⟩
    rename_i wr _ _
    obtain ⟨i,rfl,hi,HK,hBr⟩:=hrel;rcases ZJ i (2*n) with hlt|hge
    .obtain ⟨p0,p1,p2⟩:=hO1.below hBr;have hltb:decide ((i:Int)<2*(n:Int))=true:=ZE (by omega);go_wp2
     clear p0 p1 p2 hltb;go_loopw [7] (λs wq=>∃j:Nat,s=.int .i64 j∧j≤2*n∧Hid (∀j',j'<j->Cr (2*n) M x i j')∧Below w1.heap.size w1 wq) (λs _=>2*n - (intOf s).toNat)
     case atStart=>exact ⟨0,rfl,by omega,Hd (λ_ h=>absurd h (by omega)),hBr⟩
     clear hBr;rename_i wq _ _
     obtain ⟨j,rfl,hj,HKj,hBq⟩:=hrel;rcases ZJ j (2*n) with hjt|hjge
     .obtain ⟨p0,p1,p2⟩:=hO1.below hBq;have hqs:=hBq.size;have hp:i*(2*n)+j<M.length:=by rw [HMl.out];exact Zy hlt hjt
      have hoq:=hoct.go hBq;obtain ⟨g,off,rfl,hg,hcell⟩:=hoq.rd (by omega);have hcv:=hcell _ hp;have hvb:=(Uu _).1 (HOK.out i hlt j hjt).1;have hv0:i=j->Qe M (i*(2*n)+j)=0:=(HOK.out i hlt j hjt).2.1;have hxq:=(hx2.below hBq).more hBq.size;obtain ⟨v,hv⟩:∃v,v=Qe M (i*(2*n)+j):=⟨_,rfl⟩;have hi2:i / 2<x.length:=by rw [HX.out];omega
      have hj2:j / 2<x.length:=by rw [HX.out];omega
      have HP:=Hd (show Cr (2*n) M x i j↔(v=9223372036854775807∨Qc x i j≤v) by unfold Cr cl;rw [<-hv]);have cP:=Je8 A' c' x i j _ hxq hxi hi2 hj2 hxm (by omega) (by omega);have hself:i=j->Qc x i j=0:=λh=>by subst h;unfold Qc;omega
      rw [<-hv] at hcv;have hvb:Bd v:=by rw [hv];exact hvb
      have hv0:i=j->v=0:=λh=>by rw [hv];exact hv0 h
      have e1:(i:Int)*(2*(n:Int))=((i*(2*n):Nat):Int):=by push_cast;rfl
      have HVB:=Hd hvb;have HV0:=Hd hv0;have HSE:=Hd hself;have HD:=Hd (show Wg (Qc x i j)=Wg (Qc x i j)∧Sj (Qc x i j)=Sj (Qc x i j) from ⟨rfl,rfl⟩);have hdf:(Sj (Qc x i j)=1∧4611686018427387904<Qc x i j)∨(Sj (Qc x i j)=-1∧Qc x i j< -4611686018427387904)∨(Sj (Qc x i j)=0∧Wg (Qc x i j)=Qc x i j∧¬4611686018427387904<Qc x i j∧¬Qc x i j< -4611686018427387904):=by
       unfold Sj Wg;by_cases h1:4611686018427387904<Qc x i j
       .left;rw [ZM h1];exact ⟨rfl,h1⟩
       by_cases h2:Qc x i j< -4611686018427387904
       .right;left;rw [ZL h1,ZM h2];exact ⟨rfl,h2⟩
       right;right;rw [ZL h1,ZL h2,ZL h1,ZL h2];exact ⟨rfl,rfl,h1,h2⟩
      have HDF:=Hd hdf;clear hcell hoq hv hi2 hj2 hvb hv0 hself hdf HD;obtain ⟨dv,hdv⟩:∃d,d=Wg (Qc x i j):=⟨_,rfl⟩;obtain ⟨df,hdf⟩:∃d,d=Sj (Qc x i j):=⟨_,rfl⟩;rw [<-hdv,<-hdf] at HDF cP;clear hdv hdf;generalize Qc x i j=ap at*;have b1:i*(2*n)+j<16384:=by omega
      generalize i*(2*n)=p at*;by_cases hskip:v=9223372036854775807∨i=j
      .have HF:=Hd (HP.out.2 (by
        rcases hskip with h|h
        .exact .inl h
        right;rw [HSE.out h,HV0.out h];omega))
       have HB:=Hd hBq;clear hBq cP;by_cases hinf:v=9223372036854775807
       focus
        have hb:(v==9223372036854775807)=true:=beq_iff_eq.2 hinf
       rotate_left
       focus
        have hb:(v==9223372036854775807)=false:=beq_eq_false_iff_ne.2 hinf;have hb2:(((i:Nat):Int)==j)=true:=beq_iff_eq.2 (by rcases hskip with h|h;exact absurd h hinf;omega)
       all_goals
        clear hinf hskip;go_wp2_with fail
        go_roundw
        case rel=>exact ⟨j+1,by go_num,by omega,Hd (λj' h'=>by
         rcases ZJ j' j with h|h
         .exact HKj.out j' h
         obtain rfl:j'=j:=by omega
         exact HF.out),HB.out⟩
        case measure=>simp [intOf];omega
      have hb:(v==9223372036854775807)=false:=beq_eq_false_iff_ne.2 (λh=>hskip (.inl h));have hb2:(((i:Nat):Int)==j)=false:=beq_eq_false_iff_ne.2 (λh=>hskip (.inr (by omega)));have HI:=Hd (show v≠9223372036854775807 from λh=>hskip (.inl h));clear hskip;go_wp2_with fail
      refine cP.mono ?_;clear cP;rintro e w4 ⟨rfl,hb4⟩;have hB4:=hBq.trans (hb4.mono hBq.size);clear hb4 hBq p0 p1 p2 hcv;have hways:(0<df∧¬Cr (2*n) M x i j)∨(¬0<df∧(df==0)=false∧Cr (2*n) M x i j)∨(¬0<df∧(df==0)=true∧v<dv∧¬Cr (2*n) M x i j)∨(¬0<df∧(df==0)=true∧¬v<dv∧Cr (2*n) M x i j):=by
       have hvb:=HVB.out;have hi:=HI.out;rw [HP.out];unfold Bd at hvb;simp only [beq_iff_eq,ZK];rcases HDF.out with ⟨h1,h2⟩|⟨h1,h2⟩|⟨h1,h2,h3,h4⟩
       .left;omega
       .right;left;omega
       by_cases h5:v<dv
       .right;right;left;omega
       right;right;right;omega
      rcases hways with ⟨d1,d2⟩|⟨d1,d2,d3⟩|⟨d1,d2,d3,d4⟩|⟨d1,d2,d3,d4⟩
      .have HF:=Hd d2;have HB6:=Ht HB1 hB4;clear d2;go_wp2_with fail
       go_ret
       rw [HE.out,ZA (λh=>HF.out (h i hlt j hjt))];exact ⟨rfl,HB6.out⟩
      .have HF:=Hd d3;have HB:=Hd hB4;have d1':decide (0<df)=false:=ZA d1;clear d3 d1 hB4;go_wp2_with fail
       go_roundw
       case rel=>exact ⟨j+1,by go_num,by omega,Hd (λj' h'=>by
        rcases ZJ j' j with h|h
        .exact HKj.out j' h
        obtain rfl:j'=j:=by omega
        exact HF.out),HB.out⟩
       simp [intOf];omega
      .have HF:=Hd d4;have HB6:=Ht HB1 hB4;have d1':decide (0<df)=false:=ZA d1;clear d4 d1;go_wp2_with fail
       go_ret
       rw [HE.out,ZA (λh=>HF.out (h i hlt j hjt))];exact ⟨rfl,HB6.out⟩
      have HF:=Hd d4;have HB:=Hd hB4;have d1':decide (0<df)=false:=ZA d1;have d3':decide (v<dv)=false:=ZA d3;clear d4 d1 d3 hB4;go_wp2_with fail
      go_roundw
      case rel=>exact ⟨j+1,by go_num,by omega,Hd (λj' h'=>by
       rcases ZJ j' j with h|h
       .exact HKj.out j' h
       obtain rfl:j'=j:=by omega
       exact HF.out),HB.out⟩
      simp [intOf];omega
     obtain rfl:j=2*n:=by omega
     go_wp2_with fail
     go_roundw
     case rel=>exact ⟨i+1,by go_num,by omega,Hd (λi' h'=>by
      rcases ZJ i' i with h|h
      .exact HK.out i' h
      obtain rfl:i'=i:=by omega
      exact HKj.out),hBq⟩
     simp [intOf];omega
    obtain rfl:i=2*n:=by omega
    have HBr:=Ht HB1 hBr;go_wp2_with fail
    go_ret
    rw [HE.out,ZE (show Zr (2*n) M x from HK.out)];exact ⟨rfl,HBr.out⟩
   have hlb:((x.length:Int)!=n)=true:=bne_iff_ne.2 (by omega);have HE:=Hd (Qd9 (E:=false) (M:=M) (x:=x) (N:=n) (λh=>hl (by have:=h.2.2;omega)));clear hl hE0 hE1;go_wp2_with fail
   go_ret
   rw [HE.out];exact ⟨rfl,HB1.out⟩
  have HE:=Hd (Qd9 (E:=true) (M:=M) (x:=x) (N:=n) (λh=>by cases h.2.1));clear hE0 hE1;go_wp2_with fail
  go_ret
  rw [HE.out];exact ⟨rfl,HB1.out⟩
 .have HG:=Hd (Qd9 (E:=E) (M:=M) (x:=x) (N:=N) (λh=>hc h.1));have hc':(Je N E M !=0)=true:=bne_iff_ne.2 hc;clear hc;generalize Je N E M=cc at*;go_wp2_with fail
  go_ret
  rw [HG.out];exact ⟨rfl,HB1.out⟩
end
