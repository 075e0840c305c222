/- Lemmas for wholeNotEmpty; no conditions. -/
import Derived.Test.YtpggdkenajfjjaaGreatDoorGar
import Derived.Deep.RegionHeld3
set_option linter.all false
set_option maxRecDepth 100000
set_option maxHeartbeats 16000000
namespace Go.Proofs.YtpggdkenajfjjaaGreatDoor
open Go.RowKit Tryz
open Go.Lib renaming hid → Hd
section
open Gn
theorem Wp (A:Option Addr) (c:Nat) (M:List Int) (w:World) (hr:Rd w w.heap.size .i64 A M.length (Qe M)) (hM:(M.length:Int)≤17592186043904):
 Calls prog 34 #[.slice A M.length c] w λe w'=>∃A' c',e=.returned (.slice A' M.length c')∧Ow w' w.heap.size 2 .i64 A' c' M∧Below w.heap.size w w':=by
 have hE:=elI64;have:=λW n c=>Lib.run_eql_slice_nil (P:=prog) W 30 2 A n c 0 0 underlying30
 rcases A with _|ad
 .have h0:M.length=0:=by
   rcases Nat.eq_zero_or_pos M.length with h|h
   .exact h
   obtain ⟨_,_,e,_⟩:=hr h;cases e
  obtain rfl:=QE h0;go_enter func34,ntmps34
  go_wp2_with fail
  go_ret
  exact ⟨none,0,rfl,Ow.nil _ _ _ _,QK _ _⟩
 .have hB:Below w.heap.size w (w.alloc (.cells #[] 2)):=(QK _ _).alloc (ZH _) _;have hO:Ow (w.alloc (.cells #[] 2)) w.heap.size 2 .i64 (some ⟨w.heap.size,0,none⟩) 0 []:=Ow.lit w w.heap.size 2 .i64 [] (ZH _) (by simp);have hr1:=hr.below hB;have hsz:(([]:List Int).length+M.length)*8≤140737488355328:=by simp;omega
  have hbs:w.heap.size≤(w.alloc (.cells #[] 2)).heap.size:=by simp
  go_enter func34,ntmps34
  go_wp2_with (at_builtin;refine Yu hE (w.alloc (.cells #[] 2)) rfl _ _ rfl w.heap.size .i64 (some ⟨w.heap.size,0,none⟩) 0 [] rfl hO _ (some ad) c M rfl hr1 hsz hbs ?_;intro A' c' w1 ho hb)
  go_ret
  rw [List.nil_append] at ho;exact ⟨A',c',Vo2 (by simp),ho,hB.trans hb⟩
structure Kk (w W:World) (N:Int) (E:Bool) (v:Value):Prop where
 c0:W.cell? ⟨w.heap.size,0,none⟩=some (.int .i64 N)
 c1:W.cell? ⟨w.heap.size,1,none⟩=some (.bool E)
 c2:W.cell? ⟨w.heap.size,2,none⟩=some v
 r0:W.cell? ⟨w.heap.size+1,0,none⟩=some (.int .i64 0)
 r1:W.cell? ⟨w.heap.size+1,1,none⟩=some (.bool false)
 r2:W.cell? ⟨w.heap.size+1,2,none⟩=some (.slice none 0 0)
 fc:∀i,W.frozen? ⟨w.heap.size,i,none⟩=false
 fr:∀i,W.frozen? ⟨w.heap.size+1,i,none⟩=false
 below:Below w.heap.size w W
 lt:w.heap.size+1<W.heap.size
theorem Kk.go {w W W':World} {N:Int} {E:Bool} {v:Value} (h:Kk w W N E v) (hb:Below W.heap.size W W'):Kk w W' N E v:=
 ⟨Qq hb h.c0,Qq hb h.c1,Qq hb h.c2,Qq hb h.r0,Qq hb h.r1,Qq hb h.r2,
  λi=>(hb.frozen (p:=⟨w.heap.size,i,none⟩) (Nat.lt_of_succ_lt h.lt)).trans (h.fc i),λi=>(hb.frozen (p:=⟨w.heap.size+1,i,none⟩) h.lt).trans (h.fr i),
  h.below.trans (hb.mono (Nat.le_of_lt (Nat.lt_of_succ_lt h.lt))),ZI h.lt hb.size⟩
theorem Me (w:World) (t:TypeId) (N:Int) (E:Bool) (v:Value):∃W,W=(w.alloc (.cells #[.int .i64 N,.bool E,v] t)).alloc (.cells #[.int .i64 0,.bool false,.slice none 0 0] t)∧Kk w W N E v∧W.heap.size=w.heap.size+2:=by
 have h1:Jy ((w.alloc (.cells #[.int .i64 N,.bool E,v] t)).alloc (.cells #[.int .i64 0,.bool false,.slice none 0 0] t)) w.heap.size N E v:=(Jy.box _ _ _ _ _).alloc _;have h2:=Jy.box (w.alloc (.cells #[.int .i64 N,.bool E,v] t)) t 0 false (.slice none 0 0);rw [show (w.alloc (.cells #[.int .i64 N,.bool E,v] t)).heap.size=w.heap.size+1 by simp] at h2;exact ⟨_,rfl,⟨h1.c0,h1.c1,h1.c2,h2.c0,h2.c1,h2.c2,λi=>by simp [go_sem],λi=>by simp [go_sem],((QK _ _).alloc (ZH _) _).alloc (by simp) _,by simp⟩,by simp⟩
theorem Ow.low {w:World} {base:Nat} {e:TypeId} {k:IntKind} {A:Option Addr} {c:Nat} {xs:List Int} (h:Ow w base e k A c xs) {p:Addr} (hp:p.block<base) (u:Value):Ow (w.setCell p u) base e k A c xs:=
 ownsRow_setCell_below h hp u
theorem Qf1 (N:Int) (E:Bool) (A:Option Addr) (c:Nat) (M:List Int) (w:World) (hr:Rd w w.heap.size .i64 A M.length (Qe M)) (hM:(M.length:Int)≤17592186043904):
 Calls prog 20 #[.agg #[.int .i64 N,.bool E,.slice A M.length c]] w λe w'=>∃A' c',e=.returned (.agg #[.int .i64 N,.bool E,.slice A' M.length c'])∧Ow w' w.heap.size 2 .i64 A' c' M∧Below w.heap.size w w':=by
 have hE:=elI64;obtain ⟨W,hW,hR,_⟩:=Me w 32 N E (.slice A M.length c);have hr1:=(hr.below hR.below).more hR.below.size;have hsz:(([]:List Int).length+M.length)*8≤140737488355328:=by simp;omega
 have hnil:=Ow.nil W W.heap.size 2 .i64;have hbs:W.heap.size≤W.heap.size:=ZH _;have:=hR.lt;go_enter func20,ntmps20
 subst hW;go_wp2_with (at_builtin;refine Yu hE _ rfl _ _ rfl _ .i64 none 0 [] rfl hnil _ A c M rfl hr1 hsz hbs ?_;intro A' c' w1 ho hb;obtain ⟨_,_,_,r0,r1,r2,_,_,hB,_⟩:=hR.go hb)
 rw [List.nil_append] at ho;refine QL (v:=.agg #[.int .i64 N,.bool E,.slice A' M.length c']) (by simp [results,results20,go_sem,r0,r1,r2]) rfl ?_;refine ⟨A',c',rfl,?_,?_⟩
 .exact ((((ho.low (by simp;omega) _).low (by simp) _).low (by simp) _).low (by simp) _).lower (by omega)
 .exact (((hB.setCell (by simp) _).setCell (by simp) _).setCell (by simp) _).setCell (by simp) _
theorem Di (N:Int) (E:Bool) (A:Option Addr) (c:Nat) (M:List Int) (w:World) (hr:Rd w w.heap.size .i64 A M.length (Qe M)) (hM:(M.length:Int)≤17592186043904):
 Calls prog 340 #[.agg #[.int .i64 N,.bool E,.slice A M.length c]] w λe w'=>∃A' c',e=.returned (.agg #[.int .i64 N,.bool E,.slice A' M.length c'])∧Ow w' w.heap.size 2 .i64 A' c' M∧Below w.heap.size w w':=by
 obtain ⟨W,hW,hR,_⟩:=Me w 32 N E (.slice A M.length c);have hr1:=(hr.below hR.below).more hR.below.size;have:=hR.lt;have cC:=Wp A c M W.drew hr1.drew hM;obtain ⟨k0,k1,k2,_,_,_,_,_,_,_⟩:=id hR;go_enter func340,ntmps340
 go_wp2_with fail
 rw [<-hW];clear hW;go_region_held3 (λX=>X.cell? ⟨w.heap.size,0,none⟩=some (.int .i64 N)∧X.cell? ⟨w.heap.size,1,none⟩=some (.bool E)∧X.cell? ⟨w.heap.size,2,none⟩=some (.slice A M.length c))
  (first|exact ⟨k0,k1,k2⟩|exact ⟨c0,c1,c2⟩|go_keep)
  ((go_at_call 34;refine cC.mono ?_;rintro e w1 ⟨A',c',rfl,ho,hb⟩;obtain ⟨c0,c1,c2,r0,r1,r2,_,_,hB,_⟩:=hR.go ((QK W.heap.size W).drew.trans hb)))
 have ho':Ow w1 W.heap.size 2 .i64 A' c' M:=ho;go_wp2_with fail
 refine QL (v:=.agg #[.int .i64 N,.bool E,.slice A' M.length c']) (by simp [results,results340,go_sem,r0,r1,r2]) rfl ?_;refine ⟨A',c',rfl,?_,?_⟩
 .exact (((ho'.low (by first|(simp;done)|(simp;omega)) _).low (by first|(simp;done)|(simp;omega)) _).low (by first|(simp;done)|(simp;omega)) _).lower (by omega)
 .exact ((hB.setCell (by simp) _).setCell (by simp) _).setCell (by simp) _
end
section
namespace Gn
def Zq (m:Nat) (M:List Int) (i j:Nat) (c:Int):List Int:=(M.set (i*m+j) (min (cl m M i j) (Jn c))).set (ac j*m+ac i) (min (cl m M i j) (Jn c))
theorem Xj (m:Nat) (M:List Int) (i j:Nat) (c:Int):(Zq m M i j c).length=M.length:=by simp [Zq]
theorem Xn {m:Nat} {M:List Int} {i j:Nat} {c:Int} (h:M.length=m*m) (hi:i<m) (hj:j<m) (hi':ac i<m) (hj':ac j<m) {a b:Nat} (hb:b<m):
 cl m (Zq m M i j c) a b=if (a=i∧b=j)∨(a=ac j∧b=ac i) then min (cl m M i j) (Jn c) else cl m M a b:=by
 unfold Zq;rw [Rf (by rw [QJ];exact h) hj' hi' hb,Rf h hi hj hb];by_cases h1:a=ac j∧b=ac i
 .rw [ZM h1,ZM (.inr h1)]
 rw [ZL h1];by_cases h2:a=i∧b=j
 .rw [ZM h2,ZM (.inl h2)]
 rw [ZL h2,ZL (by rintro (h|h);exact h2 h;exact h1 h)]
end Gn
open Gn
structure Zz6 (w W:World) (N:Int) (E:Bool) (v:Value):Prop where
 c0:W.cell? ⟨w.heap.size,0,none⟩=some (.int .i64 N)
 c1:W.cell? ⟨w.heap.size,1,none⟩=some (.bool E)
 c2:W.cell? ⟨w.heap.size,2,none⟩=some v
 r0:W.cell? ⟨w.heap.size+1,0,none⟩=some (.int .i64 0)
 r1:W.cell? ⟨w.heap.size+1,1,none⟩=some (.bool false)
 r2:W.cell? ⟨w.heap.size+1,2,none⟩=some (.slice none 0 0)
 fc:∀i,W.frozen? ⟨w.heap.size,i,none⟩=false
 fr:∀i,W.frozen? ⟨w.heap.size+1,i,none⟩=false
 lt:w.heap.size+1<W.heap.size
theorem Kk.r {w W:World} {N:Int} {E:Bool} {v:Value} (h:Kk w W N E v):Zz6 w W N E v:=⟨h.c0,h.c1,h.c2,h.r0,h.r1,h.r2,h.fc,h.fr,h.lt⟩
theorem Zz6.go {w W W':World} {N:Int} {E:Bool} {v:Value} (h:Zz6 w W N E v) (hb:Below W.heap.size W W'):Zz6 w W' N E v:=
 ⟨Qq hb h.c0,Qq hb h.c1,Qq hb h.c2,Qq hb h.r0,Qq hb h.r1,Qq hb h.r2,
  λi=>(hb.frozen (p:=⟨w.heap.size,i,none⟩) (Nat.lt_of_succ_lt h.lt)).trans (h.fc i),λi=>(hb.frozen (p:=⟨w.heap.size+1,i,none⟩) h.lt).trans (h.fr i),ZI h.lt hb.size⟩
theorem Zz6.only {w W W':World} {N:Int} {E:Bool} {v:Value} {g:Nat} (h:Zz6 w W N E v) (hg:W.grownBy W' (some g)) (h1:g≠w.heap.size) (h2:g≠w.heap.size+1):Zz6 w W' N E v:=
 ⟨Qy hg h.c0 (Ne.symm h1),Qy hg h.c1 (Ne.symm h1),Qy hg h.c2 (Ne.symm h1),Qy hg h.r0 (Ne.symm h2),Qy hg h.r1 (Ne.symm h2),Qy hg h.r2 (Ne.symm h2),
  λi=>Jc hg (h.fc i) (Nat.lt_of_succ_lt h.lt) (Ne.symm h1),λi=>Jc hg (h.fr i) h.lt (Ne.symm h2),ZI h.lt hg.size⟩
theorem Ow.blockOf {w:World} {base c:Nat} {e:TypeId} {k:IntKind} {A:Option Addr} {xs:List Int} (h:Ow w base e k A c xs) (hl:0<xs.length):∃g,A=some ⟨g,0,none⟩∧base≤g∧g<w.heap.size:=by
 rcases h.form with ⟨_,_,rfl⟩|⟨g,hA,h1,h2,_⟩
 .simp at hl
 exact ⟨g,hA,h1,h2⟩
theorem Ig (n:Nat) (A:Option Addr) (ln c:Nat) (i j:Int) (b:Int) (w:World):
 Calls prog 21 #[.agg #[.int .i64 n,.bool true,.slice A ln c],.int .i64 i,.int .i64 j,.int .i64 b] w λe w'=>e=.returned (.agg #[.int .i64 n,.bool true,.slice A ln c])∧Below w.heap.size w w':=by
 go_enter func21,ntmps21
 go_wp2_with fail
 refine QL (v:=.agg #[.int .i64 n,.bool true,.slice A ln c]) (by simp [results,results21,go_sem]) rfl ⟨rfl,?_⟩;exact ((QK _ _).alloc (ZH _) _).alloc (by simp) _
theorem Jq9 (n:Nat) (g c:Nat) (M:List Int) (i j:Nat) (b:Int) (w:World) (base:Nat) (hn:n≤64) (hM:M.length=(2*n)*(2*n)) (ho:Ow w base 2 .i64 (some ⟨g,0,none⟩) c M) (hi:i<2*n) (hj:j<2*n) (hij:i≠j):
 Calls prog 21 #[.agg #[.int .i64 n,.bool false,.slice (some ⟨g,0,none⟩) M.length c],.int .i64 i,.int .i64 j,.int .i64 b] w λe w'=>
  e=.returned (.agg #[.int .i64 n,.bool false,.slice (some ⟨g,0,none⟩) M.length c])∧Ow w' base 2 .i64 (some ⟨g,0,none⟩) c (Zq (2*n) M i j b)∧w.grownBy w' (some g):=by
 have cN:=λW=>Nu b W
 have cI:=λW=>Vp i W (by omega)
 have cJ:=λW=>Vp j W (by omega)
 have hai:=Qg hi;have haj:=Qg hj;have hb1:(((i:Nat):Int)==j)=false:=beq_eq_false_iff_ne.2 (by omega);obtain ⟨W,hW,hR,_⟩:=Me w 32 n false (.slice (some ⟨g,0,none⟩) M.length c);have hoW:=ho.below (hR.below);have hG0:w.grownBy W (some g):=Qr hR.below _;have:=(ho.blockGe).2;have:=hR.lt;obtain ⟨k0,k1,k2,r0,r1,r2,fc,fr,_,_⟩:=id hR;have:M.length≤16384:=by rw [hM,Bz];exact Sc hn
 have hp:i*(2*n)+j<M.length:=by rw [hM];exact Zy hi hj
 have hp':ac j*(2*n)+ac i<M.length:=by rw [hM];exact Zy haj hai
 have hcv:=hoW.cellAt hp;have hfv:=hoW.frozenAt (i*(2*n)+j);have:(i:Int)*(2*(n:Int))=((i*(2*n):Nat):Int):=by push_cast;rfl
 have:((ac j:Nat):Int)*(2*(n:Int))=((ac j*(2*n):Nat):Int):=by push_cast;rfl
 have hbd:Zq (2*n) M i j b=(M.set (i*(2*n)+j) (min (cl (2*n) M i j) (Jn b))).set (ac j*(2*n)+ac i) (min (cl (2*n) M i j) (Jn b)):=rfl;have hcl:cl (2*n) M i j=Qe M (i*(2*n)+j):=rfl;rw [hcl] at hbd;have hvm:∀v d:Int,(d<v->min v d=d)∧(¬d<v->min v d=v):=λv d=>⟨λh=>by omega,λh=>by omega⟩
 have hvm:=hvm (Qe M (i*(2*n)+j)) (Jn b);have HB:=Hd hbd;have:=Hd hM;clear hbd hcl hM;obtain ⟨u,hu⟩:∃u,u=min (Qe M (i*(2*n)+j)) (Jn b):=⟨_,rfl⟩;rw [<-hu] at HB hvm;generalize Qe M (i*(2*n)+j)=v at*;generalize Jn b=d at*;clear hu;have:i*(2*n)+j<16384:=by omega
 have:ac j*(2*n)+ac i<16384:=by omega
 generalize i*(2*n)=p at*;generalize ac j*(2*n)=p' at*;generalize ac i=ai at*;generalize ac j=aj at*;have:=hoW.cap;obtain ⟨hv1,hv2⟩:=hvm;have hgne:g≠w.heap.size:=by omega
 have hgne':g≠w.heap.size+1:=by omega
 have hchoose:(d<v∧u=d)∨(¬d<v∧u=v):=by by_cases h:d<v;exact .inl ⟨h,hv1 h⟩;exact .inr ⟨h,hv2 h⟩
 clear hv1 hv2;go_enter func21,ntmps21
 go_wp2_with (go_at_call 50;with_reducible refine (cN _).mono ?_;rintro e w' ⟨rfl,rfl⟩)
 rw [<-hW];clear hW;have a0:=Qz.cell k0;have a2:=Qz.cell k2;have a3:=Qz.cell hcv;have q1:((p+j:Nat):Int)<(M.length:Int):=by omega
 have q2:(0:Int)≤((p+j:Nat):Int):=by omega
 have q3:((p:Int)+(j:Int))<(M.length:Int):=by omega
 have q4:(0:Int)≤(p:Int)+(j:Int):=by omega
 refine Qb [(19,1)] (by kernel_rfl) (by kernel_rfl) ?_;simp only [Jl,ZP,ZQ,ZR,ZT];have hm:(if d<v then d else v)=u:=by rcases hchoose with ⟨h,rfl⟩|⟨h,rfl⟩;exact ZM h;exact ZL (by omega)
 clear hchoose
 repeat (go_big_quiet_step (fail))
 refine wpQuiet_nil ?_;intro w1 hb1;have hR1:=hR.r.go hb1;have hO1:=hoW.below hb1;have hcv1:=Qq hb1 hcv;have hf1:=hO1.frozenAt (p+j);have hG1:=Qa hG0 hb1;have hO1':=hO1.set (p+j) u;have hG1':=Qv (p:=⟨g,p+j,none⟩) hG1 (.inl rfl) (.int .i64 u);have hR1':=hR1.only (Qv (p:=⟨g,p+j,none⟩) (QN w1 (some g)) (.inl rfl) (.int .i64 u)) hgne hgne';clear hb1 hO1 hG1 hR1 hm a0 a2 a3 k0 k1 k2 hcv hfv hoW hG0 r0 r1 r2 fc fr hR q1 q2 q3 q4;go_wp2_with fail
 refine Qu (wpQuiet_nil ?_);intro w2 hb2;have hO2:=hO1'.below hb2;have hG2:=Qa hG1' hb2;have hR2:=hR1'.go hb2;clear hO1' hG1' hR1' hcv1 hf1 hb2;obtain ⟨k0,k1,k2,r0,r1,r2,fc,fr,hl2⟩:=id hR2;have hl:(M.set (p+j) u).length=M.length:=QJ;have hcv:=hO2.cellAt (i:=p+j) (by rw [hl];exact hp);rw [Vl hp] at hcv;have hcv':=hO2.cellAt (i:=p'+ai) (by rw [hl];exact hp');have hfv':=hO2.frozenAt (p'+ai);go_wp2_with fail
 have a0:=Qz.cell k0;have a2:=Qz.cell k2;have a3:=Qz.cell hcv;have q3:((p:Int)+(j:Int))<(M.length:Int):=by omega
 have q4:(0:Int)≤(p:Int)+(j:Int):=by omega
 have q5:((p':Int)+(ai:Int))<(M.length:Int):=by omega
 have q6:(0:Int)≤(p':Int)+(ai:Int):=by omega
 refine Qb [(19,1)] (by kernel_rfl) (by kernel_rfl) ?_;simp only [Jl,ZP,ZQ,ZR,ZT]
 repeat (go_big_quiet_step (first|(go_at_call 19;with_reducible exact Qw (cJ _))|(go_at_call 19;with_reducible exact Qw (cI _))))
 refine wpQuiet_nil ?_;intro w3 hb3;have hO3:=hO2.below hb3;have hG3:=Qa hG2 hb3;have hR3:=hR2.go hb3;have hcv3:=Qq hb3 hcv';have hf3:=hO3.frozenAt (p'+ai);have hO3':=hO3.set (p'+ai) u;have hG3':=Qv (p:=⟨g,p'+ai,none⟩) hG3 (.inl rfl) (.int .i64 u);have hR3':=hR3.only (Qv (p:=⟨g,p'+ai,none⟩) (QN w3 (some g)) (.inl rfl) (.int .i64 u)) hgne hgne';clear hb3 hO3 hG3 hR3 a0 a2 a3 k0 k1 k2 hcv hcv' hfv' hO2 hG2 r0 r1 r2 fc fr hR2 q3 q4 q5 q6 hl2;go_wp2_with fail
 refine Qu (wpQuiet_nil ?_);intro w4 hb4;have hO4:=hO3'.below hb4;have hG4:=Qa hG3' hb4;obtain ⟨k0,k1,k2,r0,r1,r2,fc,fr,_⟩:=hR3'.go hb4;clear hO3' hG3' hR3' hb4 hcv3 hf3;go_wp2_with fail
 refine QL (v:=.agg #[.int .i64 n,.bool false,.slice (some ⟨g,0,none⟩) M.length c]) (by simp [results,results21,go_sem,r0,r1,r2]) rfl ⟨rfl,?_,?_⟩
 .rw [HB.out];have s:=λ(X:World) (o:Nat) (v:Value)=>Qv (p:=⟨w.heap.size+1,o,none⟩) (QN X (some (w.heap.size+1))) (.inl rfl) v
  exact ((hO4.other' (s _ 0 _) (Ne.symm hgne')).other' (s _ 1 _) (Ne.symm hgne')).other' (s _ 2 _) (Ne.symm hgne')
 .exact Qv (Qv (Qv hG4 (.inr (by simp)) _) (.inr (by simp)) _) (.inr (by simp)) _
end
section
namespace Gn
def Up (N:Int) (E:Bool) (M:List Int) (i j c:Int):(Int×Bool×List Int)×Int:=
 if Je N E M≠0 then ((0,false,[]),Je N E M)
 else if Hn N.toNat i j=false then ((0,false,[]),122)
 else if E=true then ((N,true,[]),0)
 else if i=j then (if c<0 then ((N,true,[]),0) else ((N,false,M),0))
 else ((N,false,Zq (2*N.toNat) M i.toNat j.toNat c),0)
variable {N:Int} {n:Nat} {E:Bool} {M:List Int} {i j c:Int} {a b:Nat}
theorem Zr9 (h:Je N E M≠0):Up N E M i j c=((0,false,[]),Je N E M):=by unfold Up;rw [ZM h]
theorem Zp9 (h:Je n E M=0) (h':Hn n i j=false):Up n E M i j c=((0,false,[]),122):=by
 unfold Up;rw [ZL (by omega),ZM (by simpa using h')]
theorem Hc (h:Je n true M=0) (h':Hn n i j=true):Up n true M i j c=(((n:Int),true,[]),0):=by
 unfold Up;rw [ZL (by omega),ZL (by simpa using h'),ZM rfl]
theorem Zu3 (h:Je n false M=0) (h':Hn n i i=true) (hc:c<0):Up n false M i i c=(((n:Int),true,[]),0):=by
 unfold Up;rw [ZL (by omega),ZL (by simpa using h'),ZL (by simp),ZM rfl,ZM hc]
theorem Za5 (h:Je n false M=0) (h':Hn n i i=true) (hc:¬c<0):Up n false M i i c=(((n:Int),false,M),0):=by
 unfold Up;rw [ZL (by omega),ZL (by simpa using h'),ZL (by simp),ZM rfl,ZL hc]
theorem Qs1 (h:Je n false M=0) (h':Hn n a b=true) (hab:a≠b):Up n false M a b c=(((n:Int),false,Zq (2*n) M a b c),0):=by
 unfold Up;rw [ZL (by omega),ZL (by simpa using h'),ZL (by simp),ZL (by omega)];simp
end Gn
open Gn
def Pv (w:World) (P:(Int×Bool×List Int)×Int) (e:Ending) (w':World):Prop:=
 ∃A c,e=.returned (.tuple #[.agg #[.int .i64 P.1.1,.bool P.1.2.1,.slice A P.1.2.2.length c],.int .i64 P.2])∧Ow w' w.heap.size 2 .i64 A c P.1.2.2∧Below w.heap.size w w'
theorem Ij {w w':World} {P:(Int×Bool×List Int)×Int} {N:Int} {E:Bool} {M:List Int} {x:Int} {A:Option Addr} {l c:Nat} {e:Ending} (hP:P=((N,E,M),x)) (hl:l=M.length)
 (he:e=.returned (.tuple #[.agg #[.int .i64 N,.bool E,.slice A l c],.int .i64 x])) (ho:Ow w' w.heap.size 2 .i64 A c M) (hb:Below w.heap.size w w'):Pv w P e w':=by
 subst hP hl he;exact ⟨A,c,rfl,ho,hb⟩
end
section
open Gn
namespace Gn
def Uk (M:List Int) (p:Nat) (c:Int):List Int:=M.set p (Jr (Qe M p) c)
theorem Jz7 {n:Nat} {M:List Int} {i j:Nat} {c:Int} (hl:M.length=(2*n)*(2*n)) (hok:Yo (2*n) M) (hi:i<2*n) (hj:j<2*n):
 Uk (Uk M (i*(2*n)+j) c) (ac j*(2*n)+ac i) c=Zq (2*n) M i j c:=by
 have h1:=hok i hi j hj;have hb:=Zi ((Uu _).1 h1.1);have hai:=Qg hi;have haj:=Qg hj;have hp:=Zy hi hj;have hp':=Zy haj hai;have e1:Jr (Qe M (i*(2*n)+j)) c=min (cl (2*n) M i j) (Jn c):=by
  unfold Jr;rw [show Qe M (i*(2*n)+j)=cl (2*n) M i j from rfl,hb]
 have hcb:=Vy c;have e2:Jr (Qe (Uk M (i*(2*n)+j) c) (ac j*(2*n)+ac i)) c=min (cl (2*n) M i j) (Jn c):=by
  by_cases h:i*(2*n)+j=ac j*(2*n)+ac i
  .unfold Uk;rw [<-h,Vl (by omega),e1];unfold Jr;rw [Zi (show Bd (min (cl (2*n) M i j) (Jn c)) by
    have:=(Uu _).1 h1.1
    unfold Bd at*;omega)]
   omega
  unfold Uk;rw [Rw h];have:Qe M (ac j*(2*n)+ac i)=cl (2*n) M i j:=h1.2.2.symm
  rw [this];unfold Jr;rw [hb]
 unfold Zq;rw [<-e1] at e2 |-
 show (Uk M (i*(2*n)+j) c).set _ _=_
 rw [e2];rfl
theorem Qu1 (M:List Int) (p:Nat) (c:Int):(Uk M p c).length=M.length:=by simp [Uk]
end Gn
theorem Jr9 (N:Int) (E:Bool) (A:Option Addr) (c:Nat) (M:List Int) (i j b:Int) (w:World) (h:Vd w w.heap.size A c N M) (hM:(M.length:Int)≤17592186043904):
 Calls prog 298 #[.agg #[.int .i64 N,.bool E,.slice A M.length c],.int .i64 i,.int .i64 j,.int .i64 b] w (Pv w (Up N E M i j b)):=by
 obtain ⟨W,hW,hR,hs⟩:=Me w 32 N E (.slice A M.length c);have hW1:=h.go hR.below;have hR:=(⟨hR.c0,hR.c1,hR.c2,hR.r0,hR.r1,hR.r2,hR.fc,hR.fr,hR.below.mono (ZH _),hR.lt⟩:Kk w W N E (.slice A M.length c));have cC:=Ul A c N E M W hW1;obtain ⟨k0,k1,k2,_,_,_,_,_,_,_⟩:=id hR;go_enter func298,ntmps298
 go_wp2_with fail
 rw [<-hW];clear hW;refine cC.mono ?_;clear cC;rintro e w1 ⟨rfl,hb1⟩;have hoct:=hW1.go hb1;have hR1:=hR.go hb1;obtain ⟨m0,m1,m2,r0,r1,r2,fc,fr,hB1,hl1⟩:=id hR1;clear k0 k1 k2 hb1 hR hW1;by_cases hc:Je N E M=0
 .obtain ⟨n,rfl,hn,hE1,hE0⟩:=Zz hc;have HC:=Hd hc;rw [hc];clear hc;have cI:=λW=>Po n E (.slice A M.length c) i j W hn
  clear r0 r1 r2 fc fr hB1 hl1;by_cases hin:Hn n i j=true
  .rw [hin] at cI;go_wp2_with fail
   refine (cI _).mono ?_;clear cI m0 m1 m2;rintro e w2 ⟨rfl,hb2⟩;have hoct2:=hoct.go hb2;have hR2:=hR1.go hb2;clear hb2 hR1 hoct;obtain ⟨m0,m1,m2,_,_,_,_,_,_,hl2⟩:=id hR2;have hl2':w.heap.size<w2.heap.size:=by omega
   rcases E with _|_
   .obtain ⟨hl,hok⟩:=hE0 rfl;by_cases hij:i=j
    .subst hij;obtain ⟨a,b',rfl,hab0,ha,hab1⟩:=Lm.1 hin;clear hab0 hab1 hl hok;by_cases hneg:b<0
     .have HG:=Hd (Zu3 HC.out hin hneg);have cE:=λW=>Rv n W hn
      clear hE0 hE1 hin;go_wp2_with fail
      refine (cE _).mono ?_;clear cE m0 m1 m2;rintro e w4 ⟨rfl,hb4⟩;obtain ⟨m0,m1,m2,r0,r1,r2,fc,fr,hB5,hl5⟩:=(hR2.go ((QK _ _).alloc (ZH _) _)).go hb4;clear hb4 hl2 hl2' hneg;go_wp2_with fail
      refine QL (v:=.tuple #[.agg #[.int .i64 n,.bool true,.slice none 0 0],.int .i64 0]) (by simp [results,results298,go_sem,r0,r1,r2]) rfl (Ij HG.out rfl rfl (Ow.nil _ _ _ _) ?_);exact ((hB5.setCell (by simp) _).setCell (by simp) _).setCell (by simp) _
     have HG:=Hd (Za5 HC.out hin hneg);have cK:=λ(X:World) (h:Rd X X.heap.size .i64 A M.length (Qe M))=>Di n false A c M X h hM
     clear hE0 hE1 hin;go_wp2_with fail
     have hal:=(QK w2.heap.size w2).alloc (ZH _) (.cells #[.int .i64 a,.int .i64 a] 133);refine (cK _ ((hoct2.rd.below hal).more hal.size)).mono ?_;clear cK m0 m1 m2;rintro e w4 ⟨A4,c4,rfl,ho4,hb4⟩;obtain ⟨m0,m1,m2,r0,r1,r2,fc,fr,hB5,hl5⟩:=(hR2.go hal).go hb4;have hs4:=hal.size;clear hb4 hal hneg;go_wp2_with fail
     refine QL (v:=.tuple #[.agg #[.int .i64 n,.bool false,.slice A4 M.length c4],.int .i64 0]) (by simp [results,results298,go_sem,r0,r1,r2]) rfl (Ij HG.out rfl rfl ?_ ?_)
     .have ho5:=ho4.lower (b':=w2.heap.size) hs4;exact (((ho5.low (by simp;omega) _).low (by simp;omega) _).low (by simp;omega) _).lower (by omega)
     exact ((hB5.setCell (by simp) _).setCell (by simp) _).setCell (by simp) _
    obtain ⟨a,b',rfl,rfl,ha,hb'⟩:=Lm.1 hin;have hab:a≠b':=λh=>hij (by rw [h])
    have HG:=Hd (Qs1 (c:=b) HC.out hin hab);have hbb:(((a:Nat):Int)==b')=false:=beq_eq_false_iff_ne.2 (by omega);have HMl:=Hd (show M.length=(2*n)*(2*n) by rw [hl,Bz]);have HOK:=Hd hok;have cK:=λ(X:World) (h:Rd X X.heap.size .i64 A M.length (Qe M))=>Di n false A c M X h hM
    clear hE0 hE1 hin hl hok hij;go_wp2_with fail
    have hal:=(QK w2.heap.size w2).alloc (ZH _) (.cells #[.int .i64 a,.int .i64 b'] 133);have d0:(w2.alloc (.cells #[.int .i64 a,.int .i64 b'] 133)).cell? ⟨w2.heap.size,0,none⟩=some (.int .i64 a):=by simp [QM]
    have d1:(w2.alloc (.cells #[.int .i64 a,.int .i64 b'] 133)).cell? ⟨w2.heap.size,1,none⟩=some (.int .i64 b'):=by simp [QM]
    have hs3:(w2.alloc (.cells #[.int .i64 a,.int .i64 b'] 133)).heap.size=w2.heap.size+1:=by simp
    refine (cK _ ((hoct2.rd.below hal).more hal.size)).mono ?_;clear cK m0 m1 m2;have hR3:=hR2.go hal;have hM':=hoct2.len;clear hal hR2 hoct2;generalize (w2.alloc (.cells #[.int .i64 a,.int .i64 b'] 133))=w3 at*;rintro e w4 ⟨A4,c4,rfl,ho4,hb4⟩;have hR4:=hR3.go hb4;have e0:=Qq hb4 d0;have e1:=Qq hb4 d1;have hs4:=hb4.size;obtain ⟨g,rfl,hg1,hg2⟩:=ho4.blockOf (by have:=Zy ha hb';rw [HMl.out];omega);obtain ⟨w5,hw5⟩:∃w5,w5=w4.alloc (.cells #[.int .i64 n,.bool false,.slice (some ⟨g,0,none⟩) M.length c4] 32):=⟨_,rfl⟩;have hal:Below w4.heap.size w4 w5:=by rw [hw5];exact (QK _ _).alloc (ZH _) _
    have hO:Jy w5 w4.heap.size n false (.slice (some ⟨g,0,none⟩) M.length c4):=by rw [hw5];exact Jy.box _ _ _ _ _
    have hs5:w5.heap.size=w4.heap.size+1:=by rw [hw5];simp
    have hR5:=hR4.go hal;have ho5:=ho4.below hal;have f0:=Qq hal e0;have f1:=Qq hal e1;clear hb4 hR4 ho4 e0 e1 d0 d1 hal hR3;go_wp2_with fail
    rw [<-hw5];clear hw5;have cMi:=λW=>Hx a b' W (by omega) (by omega)
    have a0:=Qz.cell f0;have a1:=Qz.cell f1;refine Qk (by kernel_rfl) (by kernel_rfl) ?_
    repeat (go_big_quiet_step ((go_at_call 74;with_reducible exact Qd (cMi _))))
    refine wpQuiet_nil ?_;intro w6 hb6;have hR6:=hR5.go hb6;have hO6:=hO.below hb6;have ho6:=ho5.below hb6;have hs6:=hb6.size;clear hb6 hR5 hO ho5 a0 a1 f0 f1 cMi;have i0:∀(p q r s:Int) (W:World),(Instr.index 407 (.agg #[.int .i64 p,.int .i64 q,.int .i64 r,.int .i64 s]) (.int .i64 0)).run prog W=.ok (.agg #[.int .i64 p,.int .i64 q]) W:=λ_ _ _ _ _=>by kernel_rfl
    have i1:∀(p q r s:Int) (W:World),(Instr.index 407 (.agg #[.int .i64 p,.int .i64 q,.int .i64 r,.int .i64 s]) (.int .i64 1)).run prog W=.ok (.agg #[.int .i64 r,.int .i64 s]) W:=λ_ _ _ _ _=>by kernel_rfl
    have hai:=Qg ha;have hbi:=Qg hb';have hp1:a*(2*n)+b'<M.length:=by rw [HMl.out];exact Zy ha hb'
    have hp2:ac b'*(2*n)+ac a<M.length:=by rw [HMl.out];exact Zy hbi hai
    have hMq:M.length≤16384:=by rw [HMl.out,Bz];exact Sc hn
    go_wp2_with fail
    go_loopw [53] (λs wr=>∃k:Nat,s=.int .i64 k∧k≤2∧Kk w wr n false (.slice A M.length c)∧Jy wr w4.heap.size n false (.slice (some ⟨g,0,none⟩) M.length c4)∧∃X:List Int,X.length=M.length∧Ow wr w3.heap.size 2 .i64 (some ⟨g,0,none⟩) c4 X∧
     Hid ((k=0->X=M)∧(k=1->X=Uk M (a*(2*n)+b') b)∧(k=2->X=Uk (Uk M (a*(2*n)+b') b) (ac b'*(2*n)+ac a) b))) (λs _=>2 - (intOf s).toNat)
    case atStart=>exact ⟨0,rfl,by omega,hR6,hO6,M,rfl,ho6,Hd ⟨λ_=>rfl,λh=>by omega,λh=>by omega⟩⟩
    clear hR6 hO6 ho6;rename_i wr _ _
    obtain ⟨k,rfl,hk,hR,hO,X,hX,ho,HX⟩:=hrel;have hk3:k=0∨k=1∨k=2:=by omega
    rcases hk3 with hk0|hk1|hk2
    .have cA:=λW=>Wx a b' n W (by omega) (by omega) (by omega)
     have HP:=Hd (Qu1 X (a*(2*n)+b') b);have HS:=Hd (show Uk X (a*(2*n)+b') b=X.set (a*(2*n)+b') (Jr (Qe X (a*(2*n)+b')) b) from rfl);have HXX:=Hd hX;have hpX:a*(2*n)+b'<X.length:=by rw [hX];exact hp1
     obtain ⟨v,hv⟩:∃v,v=Qe X (a*(2*n)+b'):=⟨_,rfl⟩;obtain ⟨Z,hZ⟩:∃Z,Z=Uk X (a*(2*n)+b') b:=⟨_,rfl⟩;rw [<-hv,<-hZ] at HS;have HZ:Hid ((k=0->Z=Uk M (a*(2*n)+b') b)∧(k=1->Z=Uk (Uk M (a*(2*n)+b') b) (ac b'*(2*n)+ac a) b)):=Hd (by
      subst hk0;rw [hZ];exact ⟨λ_=>by rw [HX.out.1 rfl],λh=>by omega⟩)
     have HZl:=Hd (show Z.length=M.length by rw [hZ,HP.out,hX]);have cL:=λW=>Ru v b W
     have hcv:=ho.cellAt hpX;rw [<-hv] at hcv;have q1:((a*(2*n)+b':Nat):Int)<(M.length:Int):=by have:=hp1;omega
     have q2:(0:Int)≤((a*(2*n)+b':Nat):Int):=by omega
     clear hv hZ hX HX HP;generalize Jr v b=lv at*;generalize a*(2*n)+b'=p at*;subst hk0;obtain ⟨m0,m1,m2,_,_,_,_,_,_,hl5⟩:=id hR;have hl5':w.heap.size<wr.heap.size:=by omega
     go_wp2_with fail
     have hal:=(QK wr.heap.size wr).alloc (ZH _) (.cells #[.int .i64 a,.int .i64 b'] 133);refine (cA _).mono ?_;clear cA m0 m1 m2 hl5 hl5';rintro e w7 ⟨rfl,hb7⟩;have hR7:=(hR.go hal).go hb7;have hO7:=(hO.below hal).below hb7;have ho7:=(ho.below hal).below hb7;have hcv7:=Qq hb7 (Qq hal hcv);obtain ⟨o0,o1,o2⟩:=id hO7;clear hR hO ho hcv hal hb7;go_wp2_with fail
     have a2:=Qz.cell o2;have a3:=Qz.cell hcv7;refine Qb [(11,1)] (by kernel_rfl) (by kernel_rfl) ?_;simp only [Jl,ZP,ZQ,ZR,ZT]
     repeat (go_big_quiet_step ((go_at_call 76;with_reducible exact Qw (cL _))))
     refine wpQuiet_nil ?_;intro w8 hb8;have hR8:=hR7.go hb8;have hO8:=hO7.below hb8;have ho8:=ho7.below hb8;have hcv8:=Qq hb8 hcv7;have hf8:=ho8.frozenAt p;have ho8':=ho8.set p lv;have hR8':=hR8.below.setCell (p:=⟨g,p,none⟩) (by simp;omega) (.int .i64 lv);have hS8:=Qv (p:=⟨g,p,none⟩) (QN w8 (some g)) (.inl rfl) (.int .i64 lv);have hRr:=hR8.r.only hS8 (by omega) (by omega);have hO8':=hO8.only hS8 (by omega);rw [<-HS.out] at ho8';clear hb8 hR7 hO7 ho7 hcv7 a2 a3 ho8 hO8 hR8 hS8 o0 o1 o2;go_wp2_with fail
     refine Qu (wpQuiet_nil ?_);intro w9 hb9;have hR9:Kk w w9 n false (.slice A M.length c):=(⟨hRr.c0,hRr.c1,hRr.c2,hRr.r0,hRr.r1,hRr.r2,hRr.fc,hRr.fr,hR8',hRr.lt⟩:Kk w (w8.setCell ⟨g,p,none⟩ (.int .i64 lv)) n false (.slice A M.length c)).go hb9;have hO9:=hO8'.below hb9;have ho9:=ho8'.below hb9;clear hb9 hRr hR8' hO8' ho8' hf8 hcv8;go_wp2_with fail
     go_roundw
     case rel=>exact ⟨1,by go_num,by omega,hR9,hO9,Z,HZl.out,ho9,Hd ⟨λh=>by omega,λh=>HZ.out.1 (by trivial),λh=>by omega⟩⟩
     simp [intOf]
    .have cA:=λW=>Wx (ac b') (ac a) n W (by omega) (by omega) (by omega)
     have HP:=Hd (Qu1 X (ac b'*(2*n)+ac a) b);have HS:=Hd (show Uk X (ac b'*(2*n)+ac a) b=X.set (ac b'*(2*n)+ac a) (Jr (Qe X (ac b'*(2*n)+ac a)) b) from rfl);have HXX:=Hd hX;have hpX:ac b'*(2*n)+ac a<X.length:=by rw [hX];exact hp2
     obtain ⟨v,hv⟩:∃v,v=Qe X (ac b'*(2*n)+ac a):=⟨_,rfl⟩;obtain ⟨Z,hZ⟩:∃Z,Z=Uk X (ac b'*(2*n)+ac a) b:=⟨_,rfl⟩;rw [<-hv,<-hZ] at HS;have HZ:Hid ((k=0->Z=Uk M (a*(2*n)+b') b)∧(k=1->Z=Uk (Uk M (a*(2*n)+b') b) (ac b'*(2*n)+ac a) b)):=Hd (by
      subst hk1;rw [hZ];exact ⟨λh=>by omega,λ_=>by rw [HX.out.2.1 rfl]⟩)
     have HZl:=Hd (show Z.length=M.length by rw [hZ,HP.out,hX]);have cL:=λW=>Ru v b W
     have hcv:=ho.cellAt hpX;rw [<-hv] at hcv;have q1:((ac b'*(2*n)+ac a:Nat):Int)<(M.length:Int):=by have:=hp2;omega
     have q2:(0:Int)≤((ac b'*(2*n)+ac a:Nat):Int):=by omega
     clear hv hZ hX HX HP;generalize Jr v b=lv at*;generalize ac b'*(2*n)+ac a=p at*;subst hk1;obtain ⟨m0,m1,m2,_,_,_,_,_,_,hl5⟩:=id hR;have hl5':w.heap.size<wr.heap.size:=by omega
     go_wp2_with fail
     have hal:=(QK wr.heap.size wr).alloc (ZH _) (.cells #[.int .i64 (ac b'),.int .i64 (ac a)] 133);refine (cA _).mono ?_;clear cA m0 m1 m2 hl5 hl5';rintro e w7 ⟨rfl,hb7⟩;have hR7:=(hR.go hal).go hb7;have hO7:=(hO.below hal).below hb7;have ho7:=(ho.below hal).below hb7;have hcv7:=Qq hb7 (Qq hal hcv);obtain ⟨o0,o1,o2⟩:=id hO7;clear hR hO ho hcv hal hb7;go_wp2_with fail
     have a2:=Qz.cell o2;have a3:=Qz.cell hcv7;refine Qb [(11,1)] (by kernel_rfl) (by kernel_rfl) ?_;simp only [Jl,ZP,ZQ,ZR,ZT]
     repeat (go_big_quiet_step ((go_at_call 76;with_reducible exact Qw (cL _))))
     refine wpQuiet_nil ?_;intro w8 hb8;have hR8:=hR7.go hb8;have hO8:=hO7.below hb8;have ho8:=ho7.below hb8;have hcv8:=Qq hb8 hcv7;have hf8:=ho8.frozenAt p;have ho8':=ho8.set p lv;have hR8':=hR8.below.setCell (p:=⟨g,p,none⟩) (by simp;omega) (.int .i64 lv);have hS8:=Qv (p:=⟨g,p,none⟩) (QN w8 (some g)) (.inl rfl) (.int .i64 lv);have hRr:=hR8.r.only hS8 (by omega) (by omega);have hO8':=hO8.only hS8 (by omega);rw [<-HS.out] at ho8';clear hb8 hR7 hO7 ho7 hcv7 a2 a3 ho8 hO8 hR8 hS8 o0 o1 o2;go_wp2_with fail
     refine Qu (wpQuiet_nil ?_);intro w9 hb9;have hR9:Kk w w9 n false (.slice A M.length c):=(⟨hRr.c0,hRr.c1,hRr.c2,hRr.r0,hRr.r1,hRr.r2,hRr.fc,hRr.fr,hR8',hRr.lt⟩:Kk w (w8.setCell ⟨g,p,none⟩ (.int .i64 lv)) n false (.slice A M.length c)).go hb9;have hO9:=hO8'.below hb9;have ho9:=ho8'.below hb9;clear hb9 hRr hR8' hO8' ho8' hf8 hcv8;go_wp2_with fail
     go_roundw
     case rel=>exact ⟨2,by go_num,by omega,hR9,hO9,Z,HZl.out,ho9,Hd ⟨λh=>by omega,λh=>by omega,λh=>HZ.out.2 (by trivial)⟩⟩
     simp [intOf]
    subst hk2;have hXe:=HX.out.2.2 rfl;rw [Jz7 HMl.out HOK.out ha hb'] at hXe;have HXe:=Hd hXe;have HXl:=Hd hX;clear hXe HX hX;obtain ⟨m0,m1,m2,r0,r1,r2,fc,fr,hB9,hl9⟩:=hR;obtain ⟨o0,o1,o2⟩:=hO;go_wp2_with fail
    refine QL (v:=.tuple #[.agg #[.int .i64 n,.bool false,.slice (some ⟨g,0,none⟩) M.length c4],.int .i64 0]) (by simp [results,results298,go_sem,r0,r1,r2]) rfl (Ij HG.out (by rw [<-HXe.out,HXl.out]) rfl ?_ ?_)
    .rw [<-HXe.out];exact (((ho.low (by simp;omega) _).low (by simp;omega) _).low (by simp;omega) _).lower (by omega)
    exact ((hB9.setCell (by simp) _).setCell (by simp) _).setCell (by simp) _
   obtain rfl:=hE1 rfl;have HG:=Hd (Hc (c:=b) HC.out hin);have cK:=Di n true A c [] w2 hoct2.rd hM;clear hE0 hE1 hin;go_wp2_with fail
   refine cK.mono ?_;clear cK m0 m1 m2;rintro e w4 ⟨A4,c4,rfl,ho4,hb4⟩;obtain ⟨m0,m1,m2,r0,r1,r2,fc,fr,hB5,hl5⟩:=hR2.go hb4;have hs4:=hR2.lt;clear hb4;go_wp2_with fail
   refine QL (v:=.tuple #[.agg #[.int .i64 n,.bool true,.slice A4 0 c4],.int .i64 0]) (by simp [results,results298,go_sem,r0,r1,r2]) rfl (Ij HG.out rfl rfl ?_ ?_)
   .exact (((ho4.low (by simp;omega) _).low (by simp;omega) _).low (by simp;omega) _).lower (by omega)
   exact ((hB5.setCell (by simp) _).setCell (by simp) _).setCell (by simp) _
  have hin':Hn n i j=false:=by simpa using hin
  rw [hin'] at cI;have HG:=Hd (Zp9 (c:=b) HC.out hin');clear hin hin';go_wp2_with fail
  refine (cI _).mono ?_;clear cI m0 m1 m2;rintro e w2 ⟨rfl,hb2⟩;obtain ⟨m0,m1,m2,r0,r1,r2,fc,fr,hB2,hl2⟩:=hR1.go hb2;clear hb2 hR1 hoct;go_wp2_with fail
  refine QL (v:=.tuple #[.agg #[.int .i64 0,.bool false,.slice none 0 0],.int .i64 122]) (by simp [results,results298,go_sem,r0,r1,r2]) rfl (Ij HG.out rfl rfl (Ow.nil _ _ _ _) ?_);exact ((hB2.setCell (by simp) _).setCell (by simp) _).setCell (by simp) _
 .have HG:=Hd (Zr9 (i:=i) (j:=j) (c:=b) hc);have hc':(Je N E M !=0)=true:=bne_iff_ne.2 hc;clear hc;generalize Je N E M=cc at*;go_wp2_with fail
  refine QL (v:=.tuple #[.agg #[.int .i64 0,.bool false,.slice none 0 0],.int .i64 cc]) (by simp [results,results298,go_sem,r0,r1,r2]) rfl (Ij HG.out rfl rfl (Ow.nil _ _ _ _) ?_);exact ((hB1.setCell (by simp) _).setCell (by simp) _).setCell (by simp) _
end
section
open Gn
structure Mx (w0 w:World) (B b:Nat) (A:Option Addr) (n:Int) (c:Nat) (X:List Int) (s:Bool) (e:Option Bool):Prop where
 c0:w.cell? ⟨b,0,none⟩=some (.int .i64 n)
 c1:w.cell? ⟨b,1,none⟩=some (.slice A X.length c)
 c2:w.cell? ⟨b,2,none⟩=some (.bool s)
 c3:∀e',e=some e'->w.cell? ⟨b,3,none⟩=some (.bool e')
 fz:∀i,w.frozen? ⟨b,i,none⟩=false
 ow:Ow w B 2 .i64 A c X
 ne:∀g,A=some ⟨g,0,none⟩->g≠b
 hb:B≤b
 hB:B≤w0.heap.size
 below:Below B w0 w
section
variable {w0 w w':World} {B b g:Nat} {A:Option Addr} {n:Int} {c:Nat} {X:List Int} {s:Bool} {e:Option Bool}
theorem Mx.lt (h:Mx w0 w B b A n c X s e):b<w.heap.size:=QO w ⟨b,0,none⟩ h.c0
theorem Mx.go (h:Mx w0 w B b A n c X s e) (hb:Below w.heap.size w w'):Mx w0 w' B b A n c X s e:=
 ⟨Qq hb h.c0,Qq hb h.c1,Qq hb h.c2,λe' he=>Qq hb (h.c3 e' he),λi=>(hb.frozen (p:=⟨b,i,none⟩) h.lt).trans (h.fz i),h.ow.below hb,h.ne,h.hb,h.hB,
  h.below.trans (hb.mono (ZO h.hB h.below.size))⟩
theorem Mx.ow_turn (h:Mx w0 w B b A n c X s e) (hg:w.grownBy w' (some b)):Ow w' B 2 .i64 A c X:=by
 rcases h.ow.form with ⟨rfl,rfl,rfl⟩|⟨g,rfl,h1,h2,_⟩
 .exact Ow.nil _ _ _ _
 exact h.ow.other' hg (λe=>h.ne g rfl e.symm)
theorem Mx.sat (h:Mx w0 w B b A n c X s e) (s':Bool):Mx w0 (w.setCell ⟨b,2,none⟩ (.bool s')) B b A n c X s' e:=by
 have hg:=Qv (QN w (some b)) (p:=⟨b,2,none⟩) (.inl rfl) (.bool s');exact ⟨(QP _ _ _ _ (by simp)).trans h.c0,(QP _ _ _ _ (by simp)).trans h.c1,World.cell?_setCell_same _ _ _ h.c2,
  λe' he=>(QP _ _ _ _ (by simp)).trans (h.c3 e' he),λi=>(World.frozen?_setCell _ _ _ _).trans (h.fz i),h.ow_turn hg,h.ne,h.hb,h.hB,h.below.setCell h.hb _⟩
theorem Mx.emp {e0:Bool} (h:Mx w0 w B b A n c X s (some e0)) (e1:Bool):Mx w0 (w.setCell ⟨b,3,none⟩ (.bool e1)) B b A n c X s (some e1):=by
 have hg:=Qv (QN w (some b)) (p:=⟨b,3,none⟩) (.inl rfl) (.bool e1);exact ⟨(QP _ _ _ _ (by simp)).trans h.c0,(QP _ _ _ _ (by simp)).trans h.c1,(QP _ _ _ _ (by simp)).trans h.c2,
  λe' he=>by injection he with he;subst he;exact World.cell?_setCell_same _ _ _ (h.c3 _ rfl),λi=>(World.frozen?_setCell _ _ _ _).trans (h.fz i),h.ow_turn hg,h.ne,h.hb,h.hB,h.below.setCell h.hb _⟩
theorem Mx.put (h:Mx w0 w B b (some ⟨g,0,none⟩) n c X s e) (p:Nat) (u:Int) (hgB:B≤g):Mx w0 (w.setCell ⟨g,p,none⟩ (.int .i64 u)) B b (some ⟨g,0,none⟩) n c (X.set p u) s e:=by
 have hne:=h.ne g rfl;have hn:∀q,(⟨g,p,none⟩:Addr)≠⟨b,q,none⟩:=λq hq=>hne (by injection hq)
 exact ⟨(QP _ _ _ _ (hn 0)).trans h.c0,(QP _ _ _ _ (hn 1)).trans (by rw [QJ];exact h.c1),(QP _ _ _ _ (hn 2)).trans h.c2,
  λe' he=>(QP _ _ _ _ (hn 3)).trans (h.c3 e' he),λi=>(World.frozen?_setCell _ _ _ _).trans (h.fz i),h.ow.set' p u,h.ne,h.hb,h.hB,h.below.setCell hgB _⟩
theorem Mx.blockOf (h:Mx w0 w B b A n c X s e) (hl:0<X.length):∃g,A=some ⟨g,0,none⟩∧B≤g∧g<w.heap.size:=h.ow.blockOf hl
theorem Mx.cellAt (h:Mx w0 w B b (some ⟨g,0,none⟩) n c X s e) {p:Nat} (hp:p<X.length):w.cell? ⟨g,p,none⟩=some (.int .i64 (Qe X p)):=h.ow.cellAt hp
theorem Mx.frozenAt (h:Mx w0 w B b (some ⟨g,0,none⟩) n c X s e) (p:Nat):w.frozen? ⟨g,p,none⟩=false:=h.ow.frozenAt p
end
theorem Wo {w:World} {b g c n i j l:Nat} (h0:w.cell? ⟨b,0,none⟩=some (.int .i64 n)) (h1:w.cell? ⟨b,1,none⟩=some (.slice (some ⟨g,0,none⟩) l c)) (hi:i<1000) (hj:j<1000) (hn:n<1000) (hp:i*(2*n)+j<l):
 Calls prog 75 #[.pointer (some ⟨b,0,none⟩),.int .i64 i,.int .i64 j] w λe w'=>e=.returned (.pointer (some ⟨g,i*(2*n)+j,none⟩))∧∃m,w'=w.drewN m:=by
 have:i*(2*n)≤1000*2000:=QA (by omega) (by omega);have:(2*(n:Int))*(i:Int)=((i*(2*n):Nat):Int):=by push_cast;rw [Int.mul_comm]
 generalize i*(2*n)=p at*;have:((p+j:Nat):Int)<(l:Int):=by omega
 go_enter func75,ntmps75
 go_wp2_with fail
 go_quiet (fail)
 go_wp2_with fail
 go_ret
 exact ⟨by push_cast;rfl,_,rfl⟩
theorem Qq9 {w0 w:World} {B b:Nat} {A:Option Addr} {n:Int} {c:Nat} {X:List Int} {s:Bool} {e:Option Bool} (h:Mx w0 w B b A n c X s e) (p q:Int):
 Calls prog 77 #[.pointer (some ⟨b,0,none⟩),.int .i64 p,.int .i64 q] w λr w'=>r=.returned (.int .i64 (Zh p q))∧Mx w0 w' B b A n c X (s||Yj p q) e:=by
 have cS:=λW=>Ia p q W
 have cP:=λW=>Pu p q W
 have hX:=h.sat (s||Yj p q);obtain ⟨_,_,_,_,fz,_,_,_,_,_⟩:=h;have:=fz 2;clear fz;generalize Zh p q=pl at*;generalize Yj p q=sa at*;rcases s with _|_
 all_goals
  go_enter func77,ntmps77
  go_wp2_with (first|(go_at_call 132;with_reducible refine (cS _).mono ?_;rintro r w1 ⟨rfl,rfl⟩)|(go_at_call 133;with_reducible refine (cP _).mono ?_;rintro r w1 ⟨rfl,rfl⟩))
  go_ret
  exact ⟨rfl,hX⟩
theorem Qf8 {w0 w:World} {B b:Nat} {A:Option Addr} {n:Int} {c:Nat} {X:List Int} {s:Bool} {e:Option Bool} (h:Mx w0 w B b A n c X s e) (p q:Int):
 Calls prog 99 #[.pointer (some ⟨b,0,none⟩),.int .i64 p,.int .i64 q] w λr w'=>r=.returned (.int .i64 (Zh p q))∧Mx w0 w' B b A n c X (s||Yj p q) e:=by
 have cS:=λW=>Qx5 p q W
 have cP:=λW=>Jm7 p q W
 have hX:=h.sat true;have hX0:=h;obtain ⟨_,_,_,_,fz,_,_,_,_,_⟩:=h;have:=fz 2;clear fz;generalize Zh p q=pl at*;cases hs:Yj p q
 .rw [hs] at cS;rw [Bool.or_false];go_enter func99,ntmps99
  go_wp2_with (first|(go_at_call 162;with_reducible refine (cS _).mono ?_;rintro r w1 ⟨rfl,rfl⟩)|(go_at_call 163;with_reducible refine (cP _).mono ?_;rintro r w1 ⟨rfl,rfl⟩))
  go_ret
  exact ⟨rfl,hX0⟩
 rw [hs] at cS;rw [Bool.or_true];go_enter func99,ntmps99
 go_wp2_with (first|(go_at_call 162;with_reducible refine (cS _).mono ?_;rintro r w1 ⟨rfl,rfl⟩)|(go_at_call 163;with_reducible refine (cP _).mono ?_;rintro r w1 ⟨rfl,rfl⟩))
 go_ret
 exact ⟨rfl,hX⟩
end
section
open Gn
theorem Vw (w:World) (m:Nat):Below w.heap.size w (w.drewN m):=⟨rfl,rfl,rfl,ZH _,λ_ _=>rfl⟩
theorem Jf1 {w0 w:World} {B b n c:Nat} {A:Option Addr} {X:List Int} {s:Bool} {e:Option Bool} (h:Mx w0 w B b A n c X s e) (hn:n≤64) (hl:X.length=(2*n)*(2*n)):
 Calls prog 35 #[.pointer (some ⟨b,0,none⟩)] w λr w'=>r=.returned (.tuple #[])∧Mx w0 w' B b A n c (Jo (2*n) (X,s)).1 (Jo (2*n) (X,s)).2 e:=by
 have c0:=h.c0;go_enter func35,ntmps35
 go_wp2_with fail
 go_loopw [11] (λs' wr=>∃k:Nat,s'=.int .i64 k∧k≤2*n∧∃S:MS,Hid (S=pK (2*n) k (X,s))∧Mx w0 wr B b A n c S.1 S.2 e) (λs _=>2*n - (intOf s).toNat)
 case atStart=>exact ⟨0,rfl,by omega,(X,s),Hd rfl,h⟩
 case round=>
  obtain ⟨k,rfl,_,S,HS,hM⟩:=hrel;clear h c0;have c0:=hM.c0;rcases ZJ k (2*n) with hkt|hge
  .have dk:decide ((k:Int)<2*(n:Int))=true:=ZE (by omega);go_wp2_with fail
   go_loopw [19] (λs' wr=>∃i:Nat,s'=.int .i64 i∧i≤2*n∧∃S':MS,Hid (S'=pI (2*n) k i S)∧Mx w0 wr B b A n c S'.1 S'.2 e) (λs _=>2*n - (intOf s).toNat)
   case atStart=>exact ⟨0,rfl,by omega,S,Hd rfl,hM⟩
   obtain ⟨i,rfl,_,S',HS',hM'⟩:=hrel;clear hM c0;have c0:=hM'.c0;rcases ZJ i (2*n) with hit|hige
   .have di:decide ((i:Int)<2*(n:Int))=true:=ZE (by omega);go_wp2_with fail
    go_loopw [27] (λs' wr=>∃j:Nat,s'=.int .i64 j∧j≤2*n∧∃S'':MS,Hid (S''=pJ (2*n) k i j S')∧Mx w0 wr B b A n c S''.1 S''.2 e) (λs _=>2*n - (intOf s).toNat)
    case atStart=>exact ⟨0,rfl,by omega,S',Hd rfl,hM'⟩
    obtain ⟨j,rfl,_,Y,HY,hN⟩:=hrel;clear hM' c0;rcases ZJ j (2*n) with hjt|hjge
    .have HJ:=Hd (show Kg (2*n) k i j Y=pJ (2*n) k i (j+1) S' by rw [HY.out];rfl);have hl2:Y.1.length=(2*n)*(2*n):=by rw [HY.out,Zj3,HS'.out,Zw5,HS.out,Gw];exact hl
     have hp1:i*(2*n)+j<Y.1.length:=by rw [hl2];exact Zy hit hjt
     have hp2:i*(2*n)+k<Y.1.length:=by rw [hl2];exact Zy hit hkt
     have hp3:k*(2*n)+j<Y.1.length:=by rw [hl2];exact Zy hkt hjt
     obtain ⟨g,rfl,hg1,_⟩:=hN.blockOf (by omega);have c0:=hN.c0;have c1:=hN.c1;have cA:=λ(p q:Nat) (hp:p<1000) (hq:q<1000) (hpq:p*(2*n)+q<Y.1.length)=>Wo (i:=p) (j:=q) c0 c1 hp hq (by omega) hpq
     go_wp2_with (go_at_call 75;with_reducible refine (cA i j (by omega) (by omega) hp1).mono ?_;rintro r _ ⟨rfl,m,rfl⟩)
     have hN4:=hN.go (w':=wr.drewN m) (Vw _ m);clear hN c0 c1 cA;generalize wr.drewN m=w4 at*;have v1:=λ(W:World) (s':Bool) (h:Mx w0 W B b (some ⟨g,0,none⟩) n c Y.1 s' e)=>h.cellAt hp1
     have v2:=λ(W:World) (s':Bool) (h:Mx w0 W B b (some ⟨g,0,none⟩) n c Y.1 s' e)=>h.cellAt hp2
     have v3:=λ(W:World) (s':Bool) (h:Mx w0 W B b (some ⟨g,0,none⟩) n c Y.1 s' e)=>h.cellAt hp3
     have hSt:Kg (2*n) k i j Y=(Y.1.set (i*(2*n)+j) (Jr (Qe Y.1 (i*(2*n)+j)) (Zh (Qe Y.1 (i*(2*n)+k)) (Qe Y.1 (k*(2*n)+j)))),Y.2||Yj (Qe Y.1 (i*(2*n)+k)) (Qe Y.1 (k*(2*n)+j))):=rfl;rw [hSt] at HJ;clear hSt;generalize Qe Y.1 (i*(2*n)+j)=x1 at*;generalize Qe Y.1 (i*(2*n)+k)=x2 at*;generalize Qe Y.1 (k*(2*n)+j)=x3 at*;have cA1:=λW (h0:W.cell? ⟨b,0,none⟩=some (.int .i64 n)) h1=>Wo (w:=W) (b:=b) (g:=g) (c:=c) (n:=n) (i:=i) (j:=k) (l:=Y.1.length) h0 h1 (by omega) (by omega) (by omega) hp2
     have cA2:=λW (h0:W.cell? ⟨b,0,none⟩=some (.int .i64 n)) h1=>Wo (w:=W) (b:=b) (g:=g) (c:=c) (n:=n) (i:=k) (j:=j) (l:=Y.1.length) h0 h1 (by omega) (by omega) (by omega) hp3
     have cL:=λW=>Ru x1 (Zh x2 x3) W
     have cS:=λW (h:Mx w0 W B b (some ⟨g,0,none⟩) n c Y.1 Y.2 e)=>Qq9 h x2 x3
     have cS':=λW (h:Mx w0 W B b (some ⟨g,0,none⟩) n c Y.1 (Y.2||Yj x2 x3) e)=>Qq9 h x2 x3
     generalize i*(2*n)+j=p1 at*;generalize i*(2*n)+k=p2 at*;generalize k*(2*n)+j=p3 at*;obtain ⟨T,hT⟩:∃T:Bool->World->Prop,T=λt W=>Mx w0 W B b (some ⟨g,0,none⟩) n c Y.1 (bif t then (Y.2||Yj x2 x3) else Y.2) e:=⟨_,rfl⟩
     have hT':∀t W,T t W↔Mx w0 W B b (some ⟨g,0,none⟩) n c Y.1 (bif t then (Y.2||Yj x2 x3) else Y.2) e:=λt W=>by rw [hT]
     clear hT;have l1:∀x:TW T,x.w.cell? ⟨g,p1,none⟩=some (.int .i64 x1):=λx=>v1 _ _ ((hT' _ _).1 x.h)
     have l2:∀x:TW T,x.w.cell? ⟨g,p2,none⟩=some (.int .i64 x2):=λx=>v2 _ _ ((hT' _ _).1 x.h)
     have l3:∀x:TW T,x.w.cell? ⟨g,p3,none⟩=some (.int .i64 x3):=λx=>v3 _ _ ((hT' _ _).1 x.h)
     haveI:Nonempty (TW T):=⟨⟨false,w4,(hT' _ _).2 hN4⟩⟩
     refine Yi T 17 20 (by kernel_rfl) (by kernel_rfl) ((hT' _ _).2 (hN4.go (QK _ _).drew)) ?_;simp only [ZP,ZQ,ZR,ZT]
     iterate 8 ((first|refine Jh (by decide) (by rfl) rfl ?_|refine Ji (by decide) (by rfl) rfl rfl ?_|refine Vb (by decide) (by rfl) ?_);intro K hK;go_big_quiet_op;go_big_quiet_on)
     refine Vf 75 #[.pointer (some ⟨b,0,none⟩),.int .i64 i,.int .i64 k] (.pointer (some ⟨g,p2,none⟩)) (by kernel_rfl) (λw=>by kernel_rfl) ?_ ?_
     .intro t W hW;have hW:=(hT' _ _).1 hW;refine (cA1 W hW.c0 hW.c1).mono ?_;rintro r W' ⟨rfl,m,rfl⟩;exact ⟨rfl,(hT' _ _).2 (by rw [show (t||decide (8=17))=t by simp];exact hW.go (Vw _ m))⟩
     (intro K hK;go_big_quiet_op;go_big_quiet_on)
     iterate 5 ((first|refine Jh (by decide) (by rfl) rfl ?_|refine Ji (by decide) (by rfl) rfl rfl ?_|refine Vb (by decide) (by rfl) ?_);intro K hK;go_big_quiet_op;go_big_quiet_on)
     refine Vf 75 #[.pointer (some ⟨b,0,none⟩),.int .i64 k,.int .i64 j] (.pointer (some ⟨g,p3,none⟩)) (by kernel_rfl) (λw=>by kernel_rfl) ?_ ?_
     .intro t W hW;have hW:=(hT' _ _).1 hW;refine (cA2 W hW.c0 hW.c1).mono ?_;rintro r W' ⟨rfl,m,rfl⟩;exact ⟨rfl,(hT' _ _).2 (by rw [show (t||decide (14=17))=t by simp];exact hW.go (Vw _ m))⟩
     (intro K hK;go_big_quiet_op;go_big_quiet_on)
     iterate 2 ((first|refine Jh (by decide) (by rfl) rfl ?_|refine Ji (by decide) (by rfl) rfl rfl ?_|refine Vb (by decide) (by rfl) ?_);intro K hK;go_big_quiet_op;go_big_quiet_on)
     refine Vf 77 #[.pointer (some ⟨b,0,none⟩),.int .i64 x2,.int .i64 x3] (.int .i64 (Zh x2 x3)) (by kernel_rfl) (λw=>by kernel_rfl) ?_ ?_
     .intro t W hW;have hW:=(hT' _ _).1 hW;refine (Qq9 hW x2 x3).mono ?_;rintro r W' ⟨rfl,hW'⟩;refine ⟨rfl,(hT' _ _).2 ?_⟩;rw [show (t||decide (17=17))=true by simp];cases t
      .exact hW'
      rw [show ((bif true then (Y.2||Yj x2 x3) else Y.2)||Yj x2 x3)=(Y.2||Yj x2 x3) by cases Y.2<;>cases Yj x2 x3<;>rfl] at hW';exact hW'
     (intro K hK;go_big_quiet_op;go_big_quiet_on)
     refine Vf 76 #[.int .i64 x1,.int .i64 (Zh x2 x3)] (.int .i64 (Jr x1 (Zh x2 x3))) (by kernel_rfl) (λw=>by kernel_rfl) ?_ ?_
     .intro t W hW;refine (cL W).mono ?_;rintro r W' ⟨rfl,rfl⟩;exact ⟨rfl,by rw [show (t||decide (18=17))=t by simp];exact hW⟩
     (intro K hK;go_big_quiet_op;go_big_quiet_on)
     iterate 1 ((first|refine Jh (by decide) (by rfl) rfl ?_|refine Ji (by decide) (by rfl) rfl rfl ?_|refine Vb (by decide) (by rfl) ?_);intro K hK;go_big_quiet_op;go_big_quiet_on)
     refine Bn ?_;intro w5 hw5;have hN5:=(hT' _ _).1 hw5;have:=v1 _ _ hN5;have:=hN5.frozenAt p1;have hN6:=hN5.put p1 (Jr x1 (Zh x2 x3)) hg1;clear hN5 hw5 hN4 l1 l2 l3 v1 v2 v3 cA1 cA2 cL cS cS' hT';rw [show (bif true then (Y.2||Yj x2 x3) else Y.2)=(Y.2||Yj x2 x3) from rfl] at hN6;generalize Jr x1 (Zh x2 x3)=x4 at*;generalize (Y.2||Yj x2 x3)=s4 at*;go_wp2_with fail
     refine Qu ?_;go_wp2_with fail
     go_roundw
     case rel=>exact ⟨j+1,by go_num,by omega,(Y.1.set p1 x4,s4),Hd HJ.out,hN6⟩
     simp [intOf];omega
    obtain rfl:j=2*n:=by omega
    go_wp2_with fail
    go_roundw
    case rel=>exact ⟨i+1,by go_num,by omega,Y,Hd (by rw [HY.out,HS'.out];rfl),hN⟩
    simp [intOf];omega
   obtain rfl:i=2*n:=by omega
   clear c0;go_wp2_with fail
   go_roundw
   case rel=>exact ⟨k+1,by go_num,by omega,S',Hd (by rw [HS'.out,HS.out];rfl),hM'⟩
   simp [intOf];omega
  obtain rfl:k=2*n:=by omega
  clear c0;go_wp2_with fail
  go_end0
  refine ⟨rfl,?_⟩;rw [<-show S=Jo (2*n) (X,s) from HS.out];exact hM
theorem Jw9 {w0 w:World} {B b n c:Nat} {A:Option Addr} {X:List Int} {s:Bool} (h:Mx w0 w B b A n c X s (some false)) (hn:n≤64) (hl:X.length=(2*n)*(2*n)):
 Calls prog 37 #[.pointer (some ⟨b,0,none⟩)] w λr w'=>r=.returned (.tuple #[])∧Mx w0 w' B b A n c X s (some (Ki (2*n) X)):=by
 have c0:=h.c0;go_enter func37,ntmps37
 go_wp2_with fail
 go_loopw [8] (λs' wr=>∃k:Nat,s'=.int .i64 k∧k≤2*n∧∃e:Bool,Hid (e=Qu4 (2*n) X k false)∧Mx w0 wr B b A n c X s (some e)) (λs _=>2*n - (intOf s).toNat)
 case atStart=>exact ⟨0,rfl,by omega,false,Hd rfl,h⟩
 case round=>
  obtain ⟨k,rfl,_,e,HS,hM⟩:=hrel;clear h c0;have c0:=hM.c0;rcases ZJ k (2*n) with hkt|hge
  .have hp:k*(2*n)+k<X.length:=by rw [hl];exact Zy hkt hkt
   have hSt:Qu4 (2*n) X (k+1) false=(e||decide (Qe X (k*(2*n)+k)<0)):=by rw [HS.out];rfl
   have HJ:=Hd hSt;clear hSt;obtain ⟨_,rfl,_,_⟩:=hM.blockOf (by omega);have c1:=hM.c1;have c3:=hM.c3 _ rfl;have:=hM.cellAt hp;have fz:=hM.fz 3;generalize Qe X (k*(2*n)+k)=x at*;have cA:=Wo (i:=k) (j:=k) c0 c1 (by omega) (by omega) (by omega) hp;generalize k*(2*n)+k=p at*;rcases e with _|_
   .by_cases hx:x<0
    .have hd:decide (x<0)=true:=ZE hx;rw [hd,Bool.false_or] at HJ;have hE:=λm:Nat=>(hM.go (Vw wr m)).emp true
     have HE:=Hd hE;clear hE hM;go_wp2_with (go_at_call 75;with_reducible refine cA.mono ?_;rintro r w3 ⟨rfl,m,rfl⟩)
     go_roundw
     case rel=>exact ⟨k+1,by go_num,by omega,true,Hd HJ.out.symm,HE.out m⟩
     simp [intOf];omega
    have hd:decide (x<0)=false:=ZA hx;rw [hd,Bool.false_or] at HJ;have hE:=λm:Nat=>(hM.go (Vw wr m)).emp false
    have HE:=Hd hE;clear hE hM;go_wp2_with (go_at_call 75;with_reducible refine cA.mono ?_;rintro r w3 ⟨rfl,m,rfl⟩)
    go_roundw
    case rel=>exact ⟨k+1,by go_num,by omega,false,Hd HJ.out.symm,HE.out m⟩
    simp [intOf];omega
   rw [Bool.true_or] at HJ;have hE:=hM.emp true;have HE:=Hd hE;clear hE hM;go_wp2_with fail
   go_roundw
   case rel=>exact ⟨k+1,by go_num,by omega,true,Hd HJ.out.symm,HE.out⟩
   simp [intOf];omega
  obtain rfl:k=2*n:=by omega
  clear c0;go_wp2_with fail
  go_end0
  refine ⟨rfl,?_⟩;rw [<-show e=Ki (2*n) X from HS.out];exact hM
theorem Jd3 {w0 w:World} {B b n c:Nat} {A:Option Addr} {X:List Int} {s:Bool} {e:Option Bool} (h:Mx w0 w B b A n c X s e) (hn:n≤64) (hl:X.length=(2*n)*(2*n)):
 Calls prog 38 #[.pointer (some ⟨b,0,none⟩)] w λr w'=>r=.returned (.tuple #[])∧Mx w0 w' B b A n c (Uz (2*n) X) s e:=by
 have c0:=h.c0;go_enter func38,ntmps38
 go_wp2_with fail
 go_loopw [9] (λs' wr=>∃k:Nat,s'=.int .i64 k∧k≤2*n∧∃S:List Int,Hid (S=eI (2*n) k X)∧Mx w0 wr B b A n c S s e) (λs _=>2*n - (intOf s).toNat)
 case atStart=>exact ⟨0,rfl,by omega,X,Hd rfl,h⟩
 case round=>
  obtain ⟨k,rfl,_,Y,HY,hM⟩:=hrel;clear h c0;have c0:=hM.c0;rcases ZJ k (2*n) with hkt|hge
  .have hl2:Y.length=(2*n)*(2*n):=by rw [HY.out,Ab];exact hl
   have hak:=Qg hkt;have hp:k*(2*n)+ac k<Y.length:=by rw [hl2];exact Zy hkt hak
   have hSt:eI (2*n) (k+1) X=Y.set (k*(2*n)+ac k) (Rl (Qe Y (k*(2*n)+ac k))):=by rw [HY.out];rfl
   have HJ:=Hd hSt;clear hSt hl2;obtain ⟨_,rfl,hg1,_⟩:=hM.blockOf (by omega);have c1:=hM.c1;have:=hM.cellAt hp;have:=hM.frozenAt (k*(2*n)+ac k);generalize Qe Y (k*(2*n)+ac k)=x at*;have cA:=Wo (i:=k) (j:=ac k) c0 c1 (by omega) (by omega) (by omega) hp;have:=Xp (x:=k) (by omega);have cE:=λW=>Zd5 x W
   generalize Rl x=y at*;have HM:=Hd (λm:Nat=>(hM.go (Vw wr m)).put (k*(2*n)+ac k) y hg1);generalize k*(2*n)+ac k=p at*;generalize ac k=ak at*;clear hM;go_wp2_with (first|(go_at_call 75;with_reducible refine cA.mono ?_;rintro r w3 ⟨rfl,m,rfl⟩)|(go_at_call 78;with_reducible refine (cE _).mono ?_;rintro r w3 ⟨rfl,rfl⟩))
   go_roundw
   case rel=>exact ⟨k+1,by go_num,by omega,_,Hd HJ.out.symm,HM.out _⟩
   simp [intOf];omega
  obtain rfl:k=2*n:=by omega
  clear c0;go_wp2_with fail
  go_end0
  refine ⟨rfl,?_⟩;rw [<-show Y=Uz (2*n) X from HY.out];exact hM
theorem Zv9 {w0 w:World} {B b n c:Nat} {A:Option Addr} {X:List Int} {s:Bool} {e:Option Bool} (h:Mx w0 w B b A n c X s e) (hn:n≤64) (hl:X.length=(2*n)*(2*n)):
 Calls prog 36 #[.pointer (some ⟨b,0,none⟩)] w λr w'=>r=.returned (.tuple #[])∧Mx w0 w' B b A n c (Jq (2*n) X) s e:=by
 have c0:=h.c0;go_enter func36,ntmps36
 go_wp2_with fail
 go_loopw [11] (λs' wr=>∃i:Nat,s'=.int .i64 i∧i≤2*n∧∃S:List Int,Hid (S=mI (2*n) i X)∧Mx w0 wr B b A n c S s e) (λs _=>2*n - (intOf s).toNat)
 case atStart=>exact ⟨0,rfl,by omega,X,Hd rfl,h⟩
 case round=>
  obtain ⟨i,rfl,_,S,HS,hM⟩:=hrel;clear h c0;have c0:=hM.c0;rcases ZJ i (2*n) with hit|hge
  .have di:decide ((i:Int)<2*(n:Int))=true:=ZE (by omega);go_wp2_with fail
   go_loopw [19] (λs' wr=>∃j:Nat,s'=.int .i64 j∧j≤2*n∧∃S':List Int,Hid (S'=mJ (2*n) i j S)∧Mx w0 wr B b A n c S' s e) (λs _=>2*n - (intOf s).toNat)
   case atStart=>exact ⟨0,rfl,by omega,S,Hd rfl,hM⟩
   obtain ⟨j,rfl,_,Y,HY,hN⟩:=hrel;clear hM c0;have c0:=hN.c0;rcases ZJ j (2*n) with hjt|hjge
   .have hl2:Y.length=(2*n)*(2*n):=by rw [HY.out,Zb9,HS.out,Bj];exact hl
    have hai:=Qg hit;have haj:=Qg hjt;have hp1:i*(2*n)+j<Y.length:=by rw [hl2];exact Zy hit hjt
    have hp2:ac j*(2*n)+ac i<Y.length:=by rw [hl2];exact Zy haj hai
    have hSt:mJ (2*n) i (j+1) S=Bv (2*n) i j Y:=by rw [HY.out];rfl
    unfold Bv at hSt;obtain ⟨g,rfl,hg1,_⟩:=hN.blockOf (by omega);have c1:=hN.c1;have cA1:=Wo (i:=i) (j:=j) c0 c1 (by omega) (by omega) (by omega) hp1;have cA2:=λm:Nat=>Wo (w:=wr.drewN m) (i:=ac j) (j:=ac i) c0 c1 (by omega) (by omega) (by omega) hp2
    have:=Xp (x:=i) (by omega);have:=Xp (x:=j) (by omega);have V1:=λ(W:World) (h:Mx w0 W B b (some ⟨g,0,none⟩) n c Y s e)=>h.cellAt hp1
    have V2:=λ(W:World) (h:Mx w0 W B b (some ⟨g,0,none⟩) n c Y s e)=>h.cellAt hp2
    have cL:=λW=>Ru (Qe Y (i*(2*n)+j)) (Qe Y (ac j*(2*n)+ac i)) W
    generalize hx4:Jr (Qe Y (i*(2*n)+j)) (Qe Y (ac j*(2*n)+ac i))=x4 at*;clear hx4;generalize Qe Y (i*(2*n)+j)=x1 at*;generalize Qe Y (ac j*(2*n)+ac i)=x2 at*;generalize i*(2*n)+j=p1 at*;generalize ac j*(2*n)+ac i=p2 at*;generalize ac i=ai at*;generalize ac j=aj at*;obtain ⟨Z,hZ⟩:∃Z,Z=Y.set p1 x4:=⟨_,rfl⟩;have hZl:Z.length=Y.length:=by rw [hZ,QJ]
    have hZ1:Qe Z p1=x4:=by rw [hZ];exact Vl hp1
    rw [<-hZ,hZ1] at hSt;have HJ:=Hd hSt;have HZ:=Hd hZ;have HZ1:=Hd hZ1;have HZl:=Hd hZl;have Hp1:=Hd hp1;have Hp2:=Hd hp2;clear hSt hl2 hZ hZ1 hZl;go_wp2_with (first|(go_at_call 75;with_reducible refine cA1.mono ?_;rintro r w3 ⟨rfl,m,rfl⟩)|(go_at_call 75;with_reducible refine (cA2 _).mono ?_;rintro r w3 ⟨rfl,m',rfl⟩))
    have hN1:=hN.go (Vw _ (m+m'));clear hN c0 c1;generalize wr.drewN (m+m')=w4 at*;have a1:=Qz.cell (V1 _ hN1);have a2:=Qz.cell (V2 _ hN1);refine Qb [(9,1)] (by kernel_rfl) (by kernel_rfl) ?_;simp only [Jl,ZP,ZQ,ZR,ZT]
    repeat (go_big_quiet_step ((go_at_call 76;with_reducible exact Qw (cL _))))
    refine wpQuiet_nil ?_;intro w6 hb6;have hN6:=hN1.go hb6;have k1:=V1 _ hN6;have k2:=V2 _ hN6;have kf:=hN6.frozenAt p1;have hP:=hN6.put p1 x4 hg1;rw [<-HZ.out] at hP;clear hN1 hN6 hb6 a1 a2;go_wp2_with fail
    refine Qu (wpQuiet_nil ?_);intro w7 hb7;have hN7:=hP.go hb7;clear hP hb7 k1 k2 kf;have k1:=hN7.cellAt (p:=p1) (by rw [HZl.out];exact Hp1.out);have k2:=hN7.cellAt (p:=p2) (by rw [HZl.out];exact Hp2.out);have kf:=hN7.frozenAt p2;rw [HZ1.out] at k1;have hP:=Hd (hN7.put p2 x4 hg1);clear hN7;go_wp2_with fail
    go_roundw
    case rel=>exact ⟨j+1,by go_num,by omega,_,Hd HJ.out.symm,hP.out⟩
    simp [intOf];omega
   obtain rfl:j=2*n:=by omega
   go_wp2_with fail
   go_roundw
   case rel=>exact ⟨i+1,by go_num,by omega,Y,Hd (by rw [HY.out,HS.out];rfl),hN⟩
   simp [intOf];omega
  obtain rfl:i=2*n:=by omega
  clear c0;go_wp2_with fail
  go_end0
  refine ⟨rfl,?_⟩;rw [<-show S=Jq (2*n) X from HS.out];exact hM
theorem Zx4 (m i:Nat) (S:MS):Mk m i i S=S:=ZM rfl
theorem Qj7 {w0 w:World} {B b n c:Nat} {A:Option Addr} {X:List Int} {s:Bool} {e:Option Bool} (h:Mx w0 w B b A n c X s e) (hn:n≤64) (hl:X.length=(2*n)*(2*n)):
 Calls prog 40 #[.pointer (some ⟨b,0,none⟩)] w λr w'=>r=.returned (.tuple #[])∧Mx w0 w' B b A n c (Nt (2*n) (X,s)).1 (Nt (2*n) (X,s)).2 e:=by
 have c0:=h.c0;go_enter func40,ntmps40
 go_wp2_with fail
 go_loopw [10] (λs' wr=>∃i:Nat,s'=.int .i64 i∧i≤2*n∧∃S:MS,Hid (S=tI (2*n) i (X,s))∧Mx w0 wr B b A n c S.1 S.2 e) (λs _=>2*n - (intOf s).toNat)
 case atStart=>exact ⟨0,rfl,by omega,(X,s),Hd rfl,h⟩
 case round=>
  obtain ⟨i,rfl,_,S,HS,hM⟩:=hrel;clear h c0;have c0:=hM.c0;rcases ZJ i (2*n) with hit|hge
  .have di:decide ((i:Int)<2*(n:Int))=true:=ZE (by omega);go_wp2_with fail
   go_loopw [18] (λs' wr=>∃j:Nat,s'=.int .i64 j∧j≤2*n∧∃S':MS,Hid (S'=tJ (2*n) i j S)∧Mx w0 wr B b A n c S'.1 S'.2 e) (λs _=>2*n - (intOf s).toNat)
   case atStart=>exact ⟨0,rfl,by omega,S,Hd rfl,hM⟩
   obtain ⟨j,rfl,_,Y,HY,hN⟩:=hrel;clear hM c0;have c0:=hN.c0;rcases ZJ j (2*n) with hjt|hjge
   .by_cases hij:i=j
    .subst hij;have HJ:=Hd (show tJ (2*n) i (i+1) S=Y by rw [HY.out];exact Zx4 _ _ _);clear c0;go_wp2_with fail
     go_roundw
     case rel=>exact ⟨i+1,by go_num,by omega,Y,Hd HJ.out.symm,hN⟩
     simp [intOf];omega
    have:((i:Int)!=j)=true:=bne_iff_ne.2 (by omega);have hSt:tJ (2*n) i (j+1) S=Mk (2*n) i j Y:=by rw [HY.out];rfl
    unfold Mk at hSt;rw [ZL hij] at hSt;have hl2:Y.1.length=(2*n)*(2*n):=by rw [HY.out,Za4,HS.out,Qq6];exact hl
    have hai:=Qg hit;have haj:=Qg hjt;have hp1:i*(2*n)+j<Y.1.length:=by rw [hl2];exact Zy hit hjt
    have hp2:i*(2*n)+ac i<Y.1.length:=by rw [hl2];exact Zy hit hai
    have hp3:ac j*(2*n)+j<Y.1.length:=by rw [hl2];exact Zy haj hjt
    obtain ⟨g,rfl,hg1,_⟩:=hN.blockOf (by omega);have c1:=hN.c1;have cA:=Wo (i:=i) (j:=j) c0 c1 (by omega) (by omega) (by omega) hp1;have:=Xp (x:=i) (by omega);have:=Xp (x:=j) (by omega);have HJ:=Hd hSt;clear hSt hl2 hij;go_wp2_with (go_at_call 75;with_reducible refine cA.mono ?_;rintro r _ ⟨rfl,m,rfl⟩)
    have hN4:=hN.go (Vw wr m);clear hN c0 c1 cA;generalize wr.drewN m=w4 at*;have v1:=λ(W:World) (s':Bool) (h:Mx w0 W B b (some ⟨g,0,none⟩) n c Y.1 s' e)=>h.cellAt hp1
    have v2:=λ(W:World) (s':Bool) (h:Mx w0 W B b (some ⟨g,0,none⟩) n c Y.1 s' e)=>h.cellAt hp2
    have v3:=λ(W:World) (s':Bool) (h:Mx w0 W B b (some ⟨g,0,none⟩) n c Y.1 s' e)=>h.cellAt hp3
    generalize Qe Y.1 (i*(2*n)+j)=x1 at*;generalize Qe Y.1 (i*(2*n)+ac i)=x2 at*;generalize Qe Y.1 (ac j*(2*n)+j)=x3 at*;have cA1:=λW (h0:W.cell? ⟨b,0,none⟩=some (.int .i64 n)) h1=>Wo (w:=W) (b:=b) (g:=g) (c:=c) (n:=n) (i:=i) (j:=ac i) (l:=Y.1.length) h0 h1 (by omega) (by omega) (by omega) hp2
    have cA2:=λW (h0:W.cell? ⟨b,0,none⟩=some (.int .i64 n)) h1=>Wo (w:=W) (b:=b) (g:=g) (c:=c) (n:=n) (i:=ac j) (j:=j) (l:=Y.1.length) h0 h1 (by omega) (by omega) (by omega) hp3
    have cL:=λW=>Ru x1 (Ju (Zh x2 x3)) W
    have cH:=λW=>Ts (Zh x2 x3) W
    generalize Ju (Zh x2 x3)=x5 at*;generalize i*(2*n)+j=p1 at*;generalize i*(2*n)+ac i=p2 at*;generalize ac j*(2*n)+j=p3 at*;generalize ac i=ai at*;generalize ac j=aj at*;obtain ⟨T,hT⟩:∃T:Bool->World->Prop,T=λt W=>Mx w0 W B b (some ⟨g,0,none⟩) n c Y.1 (bif t then (Y.2||Yj x2 x3) else Y.2) e:=⟨_,rfl⟩
    have hT':∀t W,T t W↔Mx w0 W B b (some ⟨g,0,none⟩) n c Y.1 (bif t then (Y.2||Yj x2 x3) else Y.2) e:=λt W=>by rw [hT]
    clear hT;have l1:∀x:TW T,x.w.cell? ⟨g,p1,none⟩=some (.int .i64 x1):=λx=>v1 _ _ ((hT' _ _).1 x.h)
    have l2:∀x:TW T,x.w.cell? ⟨g,p2,none⟩=some (.int .i64 x2):=λx=>v2 _ _ ((hT' _ _).1 x.h)
    have l3:∀x:TW T,x.w.cell? ⟨g,p3,none⟩=some (.int .i64 x3):=λx=>v3 _ _ ((hT' _ _).1 x.h)
    haveI:Nonempty (TW T):=⟨⟨false,w4,(hT' _ _).2 hN4⟩⟩
    refine Yi T 19 23 (by kernel_rfl) (by kernel_rfl) ((hT' _ _).2 (hN4.go (QK _ _).drew)) ?_;simp only [ZP,ZQ,ZR,ZT]
    iterate 9 ((first|refine Jh (by decide) (by rfl) rfl ?_|refine Ji (by decide) (by rfl) rfl rfl ?_|refine Vb (by decide) (by rfl) ?_);intro K hK;go_big_quiet_op;go_big_quiet_on)
    refine Vf 75 #[.pointer (some ⟨b,0,none⟩),.int .i64 i,.int .i64 ai] (.pointer (some ⟨g,p2,none⟩)) (by kernel_rfl) (λw=>by kernel_rfl) ?_ ?_
    .intro t W hW;have hW:=(hT' _ _).1 hW;refine (cA1 W hW.c0 hW.c1).mono ?_;rintro r W' ⟨rfl,m,rfl⟩;exact ⟨rfl,(hT' _ _).2 (by rw [show (t||decide (9=19))=t by simp];exact hW.go (Vw _ m))⟩
    (intro K hK;go_big_quiet_op;go_big_quiet_on)
    iterate 6 ((first|refine Jh (by decide) (by rfl) rfl ?_|refine Ji (by decide) (by rfl) rfl rfl ?_|refine Vb (by decide) (by rfl) ?_);intro K hK;go_big_quiet_op;go_big_quiet_on)
    refine Vf 75 #[.pointer (some ⟨b,0,none⟩),.int .i64 aj,.int .i64 j] (.pointer (some ⟨g,p3,none⟩)) (by kernel_rfl) (λw=>by kernel_rfl) ?_ ?_
    .intro t W hW;have hW:=(hT' _ _).1 hW;refine (cA2 W hW.c0 hW.c1).mono ?_;rintro r W' ⟨rfl,m,rfl⟩;exact ⟨rfl,(hT' _ _).2 (by rw [show (t||decide (16=19))=t by simp];exact hW.go (Vw _ m))⟩
    (intro K hK;go_big_quiet_op;go_big_quiet_on)
    iterate 2 ((first|refine Jh (by decide) (by rfl) rfl ?_|refine Ji (by decide) (by rfl) rfl rfl ?_|refine Vb (by decide) (by rfl) ?_);intro K hK;go_big_quiet_op;go_big_quiet_on)
    refine Vf 77 #[.pointer (some ⟨b,0,none⟩),.int .i64 x2,.int .i64 x3] (.int .i64 (Zh x2 x3)) (by kernel_rfl) (λw=>by kernel_rfl) ?_ ?_
    .intro t W hW;have hW:=(hT' _ _).1 hW;refine (Qq9 hW x2 x3).mono ?_;rintro r W' ⟨rfl,hW'⟩;refine ⟨rfl,(hT' _ _).2 ?_⟩;rw [show (t||decide (19=19))=true by simp];cases t
     .exact hW'
     rw [show ((bif true then (Y.2||Yj x2 x3) else Y.2)||Yj x2 x3)=(Y.2||Yj x2 x3) by cases Y.2<;>cases Yj x2 x3<;>rfl] at hW';exact hW'
    (intro K hK;go_big_quiet_op;go_big_quiet_on)
    refine Vf 79 #[.int .i64 (Zh x2 x3)] (.int .i64 x5) (by kernel_rfl) (λw=>by kernel_rfl) ?_ ?_
    .intro t W hW;refine (cH W).mono ?_;rintro r W' ⟨rfl,rfl⟩;exact ⟨rfl,by rw [show (t||decide (20=19))=t by simp];exact hW⟩
    (intro K hK;go_big_quiet_op;go_big_quiet_on)
    refine Vf 76 #[.int .i64 x1,.int .i64 x5] (.int .i64 (Jr x1 x5)) (by kernel_rfl) (λw=>by kernel_rfl) ?_ ?_
    .intro t W hW;refine (cL W).mono ?_;rintro r W' ⟨rfl,rfl⟩;exact ⟨rfl,by rw [show (t||decide (21=19))=t by simp];exact hW⟩
    (intro K hK;go_big_quiet_op;go_big_quiet_on)
    iterate 1 ((first|refine Jh (by decide) (by rfl) rfl ?_|refine Ji (by decide) (by rfl) rfl rfl ?_|refine Vb (by decide) (by rfl) ?_);intro K hK;go_big_quiet_op;go_big_quiet_on)
    refine Bn ?_;intro w5 hw5;have hN5:=(hT' _ _).1 hw5;have:=v1 _ _ hN5;have:=hN5.frozenAt p1;have hN6:=hN5.put p1 (Jr x1 x5) hg1;clear hN5 hw5 hN4 l1 l2 l3 v1 v2 v3 cA1 cA2 cL cH hT';rw [show (bif true then (Y.2||Yj x2 x3) else Y.2)=(Y.2||Yj x2 x3) from rfl] at hN6;generalize Jr x1 x5=x4 at*;generalize (Y.2||Yj x2 x3)=s4 at*;go_wp2_with fail
    refine Qu ?_;go_wp2_with fail
    go_roundw
    case rel=>exact ⟨j+1,by go_num,by omega,(Y.1.set p1 x4,s4),Hd HJ.out.symm,hN6⟩
    simp [intOf];omega
   obtain rfl:j=2*n:=by omega
   go_wp2_with fail
   go_roundw
   case rel=>exact ⟨i+1,by go_num,by omega,Y,Hd (by rw [HY.out,HS.out];rfl),hN⟩
   simp [intOf];omega
  obtain rfl:i=2*n:=by omega
  clear c0;go_wp2_with fail
  go_end0
  refine ⟨rfl,?_⟩;rw [<-show S=Nt (2*n) (X,s) from HS.out];exact hM
theorem Jy8 {w0 w:World} {B b n c:Nat} {A:Option Addr} {X:List Int} {s:Bool} (h:Mx w0 w B b A n c X s (some false)) (hn:n≤64) (hl:X.length=(2*n)*(2*n)):
 Calls prog 39 #[.pointer (some ⟨b,0,none⟩)] w λr w'=>r=.returned (.tuple #[])∧Mx w0 w' B b A n c X (Xq (2*n) X s).2 (some (Xq (2*n) X s).1):=by
 have c0:=h.c0;go_enter func39,ntmps39
 go_wp2_with fail
 go_loopw [8] (λs' wr=>∃i:Nat,s'=.int .i64 i∧i≤2*n∧∃S:Bool×Bool,Hid (S=sI (2*n) X i (false,s))∧Mx w0 wr B b A n c X S.2 (some S.1)) (λs _=>2*n - (intOf s).toNat)
 case atStart=>exact ⟨0,rfl,by omega,(false,s),Hd rfl,h⟩
 case round=>
  obtain ⟨i,rfl,_,Y,HY,hN⟩:=hrel;clear h c0;have c0:=hN.c0;rcases ZJ i (2*n) with hit|hge
  .have hSt:sI (2*n) X (i+1) (false,s)=Qw1 (2*n) X i Y:=by rw [HY.out];rfl
   unfold Qw1 at hSt;have hai:=Qg hit;have hp2:i*(2*n)+ac i<X.length:=by rw [hl];exact Zy hit hai
   have hp3:ac i*(2*n)+i<X.length:=by rw [hl];exact Zy hai hit
   obtain ⟨g,rfl,_,_⟩:=hN.blockOf (by omega);have:=Xp (x:=i) (by omega);obtain ⟨e0,s0⟩:=Y;have HJ:=Hd hSt;clear hSt HY;go_wp2_with fail
   have v2:=λ(W:World) (s':Bool) (h:Mx w0 W B b (some ⟨g,0,none⟩) n c X s' (some e0))=>h.cellAt hp2
   have v3:=λ(W:World) (s':Bool) (h:Mx w0 W B b (some ⟨g,0,none⟩) n c X s' (some e0))=>h.cellAt hp3
   generalize Qe X (i*(2*n)+ac i)=x2 at*;generalize Qe X (ac i*(2*n)+i)=x3 at*;have cA1:=λW (h0:W.cell? ⟨b,0,none⟩=some (.int .i64 n)) h1=>Wo (w:=W) (b:=b) (g:=g) (c:=c) (n:=n) (i:=i) (j:=ac i) (l:=X.length) h0 h1 (by omega) (by omega) (by omega) hp2
   have cA2:=λW (h0:W.cell? ⟨b,0,none⟩=some (.int .i64 n)) h1=>Wo (w:=W) (b:=b) (g:=g) (c:=c) (n:=n) (i:=ac i) (j:=i) (l:=X.length) h0 h1 (by omega) (by omega) (by omega) hp3
   generalize i*(2*n)+ac i=p2 at*;generalize ac i*(2*n)+i=p3 at*;generalize ac i=ai at*;obtain ⟨T,hT⟩:∃T:Bool->World->Prop,T=λt W=>Mx w0 W B b (some ⟨g,0,none⟩) n c X (bif t then (s0||Yj x2 x3) else s0) (some e0):=⟨_,rfl⟩
   have hT':∀t W,T t W↔Mx w0 W B b (some ⟨g,0,none⟩) n c X (bif t then (s0||Yj x2 x3) else s0) (some e0):=λt W=>by rw [hT]
   clear hT;have l2:∀x:TW T,x.w.cell? ⟨g,p2,none⟩=some (.int .i64 x2):=λx=>v2 _ _ ((hT' _ _).1 x.h)
   have l3:∀x:TW T,x.w.cell? ⟨g,p3,none⟩=some (.int .i64 x3):=λx=>v3 _ _ ((hT' _ _).1 x.h)
   have l4:∀x:TW T,x.w.cell? ⟨b,3,none⟩=some (.bool e0):=λx=>((hT' _ _).1 x.h).c3 _ rfl
   haveI:Nonempty (TW T):=⟨⟨false,wr,(hT' _ _).2 hN⟩⟩
   by_cases hx:Zh x2 x3<0
   all_goals
    first
     |(have hd:decide (Zh x2 x3<0)=true:=ZE hx)
     |(have hd:decide (Zh x2 x3<0)=false:=ZA hx)
    rw [hd] at HJ;refine Yi T 16 24 (by kernel_rfl) (by kernel_rfl) ((hT' _ _).2 (hN.go (QK _ _).drew)) ?_;simp only [ZP,ZQ,ZR,ZT]
    iterate 6 ((first|refine Jh (by decide) (by rfl) rfl ?_|refine Ji (by decide) (by rfl) rfl rfl ?_|refine Vb (by decide) (by rfl) ?_);intro K hK;go_big_quiet_op;go_big_quiet_on)
    refine Vf 75 #[.pointer (some ⟨b,0,none⟩),.int .i64 i,.int .i64 ai] (.pointer (some ⟨g,p2,none⟩)) (by kernel_rfl) (λw=>by kernel_rfl) ?_ ?_
    .intro t W hW;have hW:=(hT' _ _).1 hW;refine (cA1 W hW.c0 hW.c1).mono ?_;rintro r W' ⟨rfl,m,rfl⟩;exact ⟨rfl,(hT' _ _).2 (by rw [show (t||decide (6=16))=t by simp];exact hW.go (Vw _ m))⟩
    (intro K hK;go_big_quiet_op;go_big_quiet_on)
    iterate 6 ((first|refine Jh (by decide) (by rfl) rfl ?_|refine Ji (by decide) (by rfl) rfl rfl ?_|refine Vb (by decide) (by rfl) ?_);intro K hK;go_big_quiet_op;go_big_quiet_on)
    refine Vf 75 #[.pointer (some ⟨b,0,none⟩),.int .i64 ai,.int .i64 i] (.pointer (some ⟨g,p3,none⟩)) (by kernel_rfl) (λw=>by kernel_rfl) ?_ ?_
    .intro t W hW;have hW:=(hT' _ _).1 hW;refine (cA2 W hW.c0 hW.c1).mono ?_;rintro r W' ⟨rfl,m,rfl⟩;exact ⟨rfl,(hT' _ _).2 (by rw [show (t||decide (13=16))=t by simp];exact hW.go (Vw _ m))⟩
    (intro K hK;go_big_quiet_op;go_big_quiet_on)
    iterate 2 ((first|refine Jh (by decide) (by rfl) rfl ?_|refine Ji (by decide) (by rfl) rfl rfl ?_|refine Vb (by decide) (by rfl) ?_);intro K hK;go_big_quiet_op;go_big_quiet_on)
    refine Vf 77 #[.pointer (some ⟨b,0,none⟩),.int .i64 x2,.int .i64 x3] (.int .i64 (Zh x2 x3)) (by kernel_rfl) (λw=>by kernel_rfl) ?_ ?_
    .intro t W hW;have hW:=(hT' _ _).1 hW;refine (Qq9 hW x2 x3).mono ?_;rintro r W' ⟨rfl,hW'⟩;refine ⟨rfl,(hT' _ _).2 ?_⟩;rw [show (t||decide (16=16))=true by simp];cases t
     .exact hW'
     rw [show ((bif true then (s0||Yj x2 x3) else s0)||Yj x2 x3)=(s0||Yj x2 x3) by cases s0<;>cases Yj x2 x3<;>rfl] at hW';exact hW'
    (intro K hK;go_big_quiet_op;go_big_quiet_on)
    iterate 7 ((first|refine Jh (by decide) (by rfl) rfl ?_|refine Ji (by decide) (by rfl) rfl rfl ?_|refine Vb (by decide) (by rfl) ?_);intro K hK;go_big_quiet_op;go_big_quiet_on)
    refine Bn ?_;intro w5 hw5;have hN5:=(hT' _ _).1 hw5;have:=hN5.c3 _ rfl;have:=hN5.fz 3;rw [show (bif true then (s0||Yj x2 x3) else s0)=(s0||Yj x2 x3) from rfl] at hN5;have H1:=Hd (hN5.emp true);have H2:=Hd (hN5.emp e0);clear hN5 hw5 hN l2 l3 l4 v2 v3 cA1 cA2 hT' c0;generalize (s0||Yj x2 x3)=s4 at*;go_wp2_with fail
    refine Qu ?_;go_wp2_with fail
    go_roundw
    case rel=>exact ⟨i+1,by go_num,by omega,_,Hd HJ.out.symm,by first|exact H1.out|exact H2.out⟩
    case measure=>simp [intOf];omega
  obtain rfl:i=2*n:=by omega
  clear c0;go_wp2_with fail
  go_end0
  refine ⟨rfl,?_⟩;rw [<-show Y=Xq (2*n) X s from HY.out];exact hN
def Ww (w:World) (P:((Int×Bool×List Int)×Bool)×Int) (e:Ending) (w':World):Prop:=
 ∃A c,e=.returned (.tuple #[.agg #[.int .i64 P.1.1.1,.bool P.1.1.2.1,.slice A P.1.1.2.2.length c],.bool P.1.2,.int .i64 P.2])∧Ow w' w.heap.size 2 .i64 A c P.1.1.2.2∧Below w.heap.size w w'
theorem Fq {w w':World} {P:((Int×Bool×List Int)×Bool)×Int} {N:Int} {E:Bool} {M:List Int} {s:Bool} {x:Int} {A:Option Addr} {l c:Nat} {e:Ending} (hP:P=(((N,E,M),s),x)) (hl:l=M.length)
 (he:e=.returned (.tuple #[.agg #[.int .i64 N,.bool E,.slice A l c],.bool s,.int .i64 x])) (ho:Ow w' w.heap.size 2 .i64 A c M) (hb:Below w.heap.size w w'):Ww w P e w':=by
 subst hP hl he;exact ⟨A,c,rfl,ho,hb⟩
theorem Mx.box {w0 w:World} {B:Nat} {A:Option Addr} {n:Int} {c:Nat} {X:List Int} (ho:Ow w B 2 .i64 A c X) (hB:B≤w0.heap.size) (hb:Below B w0 w) (t:TypeId):
 Mx w0 (w.alloc (.cells #[.int .i64 n,.slice A X.length c,.bool false,.bool false] t)) B w.heap.size A n c X false (some false):=
 ⟨by simp [QM],by simp [QM],by simp [QM],λe' he=>by injection he with he;subst he;simp [QM],λi=>by simp [go_sem],ho.alloc _,
  λg hg e=>by
   subst hg e;rcases ho.form with ⟨h,_⟩|⟨g',h,_,h2,_⟩
   .cases h
   injection h with h;injection h with h;omega,ZO hB hb.size,hB,hb.alloc (ZO hB hb.size) _⟩
theorem Nd (N:Int) (E:Bool) (A:Option Addr) (c:Nat) (M:List Int) (w:World) (h:Vd w w.heap.size A c N M) (hM:(M.length:Int)≤17592186043904):
 Calls prog 12 #[.agg #[.int .i64 N,.bool E,.slice A M.length c]] w (Ww w (Zp N E M)):=by
 obtain ⟨W,hW,hR,_⟩:=Me w 32 N E (.slice A M.length c);have hW1:=h.go hR.below;have hR:=(⟨hR.c0,hR.c1,hR.c2,hR.r0,hR.r1,hR.r2,hR.fc,hR.fr,hR.below.mono (ZH _),hR.lt⟩:Kk w W N E (.slice A M.length c));have cC:=Ul A c N E M W hW1;obtain ⟨k0,k1,k2,_,_,_,_,_,_,_⟩:=id hR;go_enter func12,ntmps12
 go_wp2_with fail
 rw [<-hW];clear hW;refine cC.mono ?_;clear cC;rintro e w1 ⟨rfl,hb1⟩;have hoct:=hW1.go hb1;have hR1:=hR.go hb1;obtain ⟨m0,m1,m2,r0,r1,r2,fc,fr,hB1,hl1⟩:=id hR1;clear k0 k1 k2 hb1 hR hW1;by_cases hc:Je N E M=0
 .obtain ⟨n,rfl,hn,hE1,hE0⟩:=Zz hc;have HC:=Hd hc;rw [hc];clear hc;rcases E with _|_
  .have HL:=Hd (hE0 rfl).1;clear hE0 hE1;have cK:=λW h=>Wp A c M W h hM
   clear r0 r1 r2 fc fr hB1 hl1;go_wp2_with fail
   go_region_held3 (λX=>X.cell? ⟨w.heap.size,0,none⟩=some (.int .i64 n)∧X.cell? ⟨w.heap.size,1,none⟩=some (.bool false)∧X.cell? ⟨w.heap.size,2,none⟩=some (.slice A M.length c))
    (first|exact ⟨m0,m1,m2⟩|exact ⟨c0,c1,c2⟩|go_keep)
    ((go_at_call 34;refine (cK _ hoct.rd.drew).mono ?_;rintro e w3 ⟨A',c',rfl,ho,hb⟩;obtain ⟨c0,c1,c2,r0,r1,r2,fc,fr,hB,hl⟩:=hR1.go ((QK w1.heap.size w1).drew.trans hb)))
   have hM4:=Mx.box (w0:=w1) (n:=(n:Int)) ho (ZH _) ((QK w1.heap.size w1).drew.trans hb) 82;generalize (w3.alloc _)=w4 at*;clear c0 c1 c2 r0 r1 r2 fc fr hB hl hb ho cK m0 m1 m2;generalize w3.heap.size=b at*;have HLm:=Hd (show M.length=(2*n)*(2*n) by rw [HL.out,Bz]);have hb4:=hM4.lt;have:∀W:World,(Instr.index 83 (.agg #[.func (.func 35) #[.pointer (some ⟨b,0,none⟩)] #[],.func (.func 36) #[.pointer (some ⟨b,0,none⟩)] #[],.func (.func 37) #[.pointer (some ⟨b,0,none⟩)] #[],.func (.func 38) #[.pointer (some ⟨b,0,none⟩)] #[],.func (.func 39) #[.pointer (some ⟨b,0,none⟩)] #[],.func (.func 40) #[.pointer (some ⟨b,0,none⟩)] #[]]) (.int .i64 0)).run prog W=.ok (.func (.func 35) #[.pointer (some ⟨b,0,none⟩)] #[]) W:=λW=>by kernel_rfl
   have:∀W:World,(Instr.index 83 (.agg #[.func (.func 35) #[.pointer (some ⟨b,0,none⟩)] #[],.func (.func 36) #[.pointer (some ⟨b,0,none⟩)] #[],.func (.func 37) #[.pointer (some ⟨b,0,none⟩)] #[],.func (.func 38) #[.pointer (some ⟨b,0,none⟩)] #[],.func (.func 39) #[.pointer (some ⟨b,0,none⟩)] #[],.func (.func 40) #[.pointer (some ⟨b,0,none⟩)] #[]]) (.int .i64 1)).run prog W=.ok (.func (.func 36) #[.pointer (some ⟨b,0,none⟩)] #[]) W:=λW=>by kernel_rfl
   have:∀W:World,(Instr.index 83 (.agg #[.func (.func 35) #[.pointer (some ⟨b,0,none⟩)] #[],.func (.func 36) #[.pointer (some ⟨b,0,none⟩)] #[],.func (.func 37) #[.pointer (some ⟨b,0,none⟩)] #[],.func (.func 38) #[.pointer (some ⟨b,0,none⟩)] #[],.func (.func 39) #[.pointer (some ⟨b,0,none⟩)] #[],.func (.func 40) #[.pointer (some ⟨b,0,none⟩)] #[]]) (.int .i64 2)).run prog W=.ok (.func (.func 37) #[.pointer (some ⟨b,0,none⟩)] #[]) W:=λW=>by kernel_rfl
   have:∀W:World,(Instr.index 83 (.agg #[.func (.func 35) #[.pointer (some ⟨b,0,none⟩)] #[],.func (.func 36) #[.pointer (some ⟨b,0,none⟩)] #[],.func (.func 37) #[.pointer (some ⟨b,0,none⟩)] #[],.func (.func 38) #[.pointer (some ⟨b,0,none⟩)] #[],.func (.func 39) #[.pointer (some ⟨b,0,none⟩)] #[],.func (.func 40) #[.pointer (some ⟨b,0,none⟩)] #[]]) (.int .i64 3)).run prog W=.ok (.func (.func 38) #[.pointer (some ⟨b,0,none⟩)] #[]) W:=λW=>by kernel_rfl
   have:∀W:World,(Instr.index 83 (.agg #[.func (.func 35) #[.pointer (some ⟨b,0,none⟩)] #[],.func (.func 36) #[.pointer (some ⟨b,0,none⟩)] #[],.func (.func 37) #[.pointer (some ⟨b,0,none⟩)] #[],.func (.func 38) #[.pointer (some ⟨b,0,none⟩)] #[],.func (.func 39) #[.pointer (some ⟨b,0,none⟩)] #[],.func (.func 40) #[.pointer (some ⟨b,0,none⟩)] #[]]) (.int .i64 4)).run prog W=.ok (.func (.func 39) #[.pointer (some ⟨b,0,none⟩)] #[]) W:=λW=>by kernel_rfl
   have:∀W:World,(Instr.index 83 (.agg #[.func (.func 35) #[.pointer (some ⟨b,0,none⟩)] #[],.func (.func 36) #[.pointer (some ⟨b,0,none⟩)] #[],.func (.func 37) #[.pointer (some ⟨b,0,none⟩)] #[],.func (.func 38) #[.pointer (some ⟨b,0,none⟩)] #[],.func (.func 39) #[.pointer (some ⟨b,0,none⟩)] #[],.func (.func 40) #[.pointer (some ⟨b,0,none⟩)] #[]]) (.int .i64 5)).run prog W=.ok (.func (.func 40) #[.pointer (some ⟨b,0,none⟩)] #[]) W:=λW=>by kernel_rfl
   go_wp2_with fail
   go_loopw [48] (λs' wr=>∃k:Nat,s'=.int .i64 k∧k≤6∧Hid (Vb8 (2*n) M k)∧∃S:MS,Hid (S=Mz (2*n) M k)∧Mx w1 wr w1.heap.size b A' n c' S.1 S.2 (some false)) (λs _=>6 - (intOf s).toNat)
   case atStart=>exact ⟨0,rfl,by omega,Hd ⟨λh=>by omega,λh=>by omega⟩,(M,false),Hd rfl,hM4⟩
   clear hM4 hb4;obtain ⟨k,rfl,hk,HO,S,HS,hN⟩:=hrel;have HSl:=Hd (show S.1.length=(2*n)*(2*n) by rw [HS.out,Jp9];exact HLm.out);have hk7:k=0∨k=1∨k=2∨k=3∨k=4∨k=5∨k=6:=by omega
   clear hk;rcases hk7 with rfl|rfl|rfl|rfl|rfl|rfl|rfl
   .have cP:=Jf1 hN hn HSl.out;go_wp2_with fail
    refine cP.mono ?_;clear cP hN;rintro r w6 ⟨rfl,hN⟩;have m3:=hN.c3 _ rfl;go_wp2_with fail
    go_roundw
    case rel=>exact ⟨1,by go_num,by omega,Hd ⟨λh=>by omega,λh=>by omega⟩,_,Hd (by rw [HS.out];rfl),hN⟩
    simp [intOf]
   .have cP:=Zv9 hN hn HSl.out;go_wp2_with fail
    refine cP.mono ?_;clear cP hN;rintro r w6 ⟨rfl,hN⟩;have m3:=hN.c3 _ rfl;go_wp2_with fail
    go_roundw
    case rel=>exact ⟨2,by go_num,by omega,Hd ⟨λh=>by omega,λh=>by omega⟩,(_,S.2),Hd (by rw [HS.out];rfl),hN⟩
    simp [intOf]
   .have cP:=Jw9 hN hn HSl.out;cases hE:Ki (2*n) S.1
    .rw [hE] at cP;have HE:=Hd hE;clear hE;go_wp2_with fail
     refine cP.mono ?_;clear cP hN;rintro r w6 ⟨rfl,hN⟩;have m3:=hN.c3 _ rfl;go_wp2_with fail
     go_roundw
     case rel=>exact ⟨3,by go_num,by omega,Hd ⟨λ_=>by rw [<-HS.out];exact HE.out,λh=>by omega⟩,S,Hd HS.out,hN⟩
     simp [intOf]
    rw [hE] at cP;have HP:Hid (Zp n false M=((((n:Int),true,[]),S.2),0)):=Hd (by
     unfold Zp;rw [HC.out,ZL (by simp),ZL (by simp)];simp only [Int.toNat_natCast];rw [Fy (by rw [<-HS.out];exact hE),<-HS.out])
    have cE:=λW=>Rv n W hn
    clear hE;go_wp2_with fail
    refine cP.mono ?_;clear cP hN;rintro r w6 ⟨rfl,hN⟩;have m3:=hN.c3 _ rfl;have hb6:=hN.lt;have hbB:=hN.hb;obtain ⟨m0,m1,m2,r0,r1,r2,fc,fr,hB6,hl6⟩:=hR1.go hN.below;clear r0 r1 r2 fc fr hB6 hl6 m1 m2;go_wp2_with fail
    refine (cE _).mono ?_;clear cE m0 m3;rintro r w7 ⟨rfl,hb7⟩;have hN7:=hN.go hb7;have hR7:=hR1.go hN7.below;have q2:=hN7.c2;have hbl:w.heap.size+1<b:=ZI hR1.lt hN7.hb;have hb8:=hN7.lt;have hl7':w.heap.size<w7.heap.size:=by omega
    clear hb7 hN;go_wp2_with fail
    obtain ⟨w8,hw8⟩:∃w8,w8=w7.alloc (.cells #[.int .i64 n,.bool true,.slice none 0 0] 32):=⟨_,rfl⟩;have hal:Below w7.heap.size w7 w8:=by rw [hw8];exact (QK _ _).alloc (ZH _) _
    have hO:Jy w8 w7.heap.size n true (.slice none 0 0):=by rw [hw8];exact Jy.box _ _ _ _ _
    have hR8:=hR7.go hal;have q2':=Qq hal q2;obtain ⟨_,_,_,r0,r1,r2,fc,fr,hB8,hl8⟩:=id hR8;obtain ⟨o0,o1,o2⟩:=id hO;have hl8':w.heap.size+1<w7.heap.size:=by omega
    generalize hsv:S.2=sv at*;rw [<-hw8];clear hw8 hal hR7 hR8 hO q2 hN7 hsv;go_region
    all_goals go_wp2_with fail
    all_goals refine QL (v:=.tuple #[.agg #[.int .i64 n,.bool true,.slice none 0 0],.bool sv,.int .i64 0]) (by simp [results,results12,go_sem,r0,r1,r2,o0,o1,o2]) rfl (Fq HP.out rfl rfl (Ow.nil _ _ _ _) ?_)
    all_goals exact ((hB8.drew.setCell (by simp) _).setCell (by simp) _).setCell (by simp) _
   .have cP:=Jd3 hN hn HSl.out;go_wp2_with fail
    refine cP.mono ?_;clear cP hN;rintro r w6 ⟨rfl,hN⟩;have m3:=hN.c3 _ rfl;go_wp2_with fail
    go_roundw
    case rel=>exact ⟨4,by go_num,by omega,Hd ⟨λ_=>HO.out.1 (by omega),λh=>by omega⟩,(_,S.2),Hd (by rw [HS.out];rfl),hN⟩
    simp [intOf]
   .have cP:=Jy8 hN hn HSl.out;cases hE:(Xq (2*n) S.1 S.2).1
    .rw [hE] at cP;have HE:=Hd hE;clear hE;go_wp2_with fail
     refine cP.mono ?_;clear cP hN;rintro r w6 ⟨rfl,hN⟩;have m3:=hN.c3 _ rfl;go_wp2_with fail
     go_roundw
     case rel=>exact ⟨5,by go_num,by omega,Hd ⟨λ_=>HO.out.1 (by omega),λ_=>by rw [<-HS.out];exact HE.out⟩,(S.1,(Xq (2*n) S.1 S.2).2),Hd (by rw [HS.out];rfl),hN⟩
     simp [intOf]
    rw [hE] at cP;have HP:Hid (Zp n false M=((((n:Int),true,[]),(Xq (2*n) S.1 S.2).2),0)):=Hd (by
     unfold Zp;rw [HC.out,ZL (by simp),ZL (by simp)];simp only [Int.toNat_natCast];rw [Ee HO.out (by rw [<-HS.out];exact hE),HS.out];rfl)
    have cE:=λW=>Rv n W hn
    clear hE;go_wp2_with fail
    refine cP.mono ?_;clear cP hN;rintro r w6 ⟨rfl,hN⟩;have m3:=hN.c3 _ rfl;have hb6:=hN.lt;have hbB:=hN.hb;obtain ⟨m0,m1,m2,r0,r1,r2,fc,fr,hB6,hl6⟩:=hR1.go hN.below;clear r0 r1 r2 fc fr hB6 hl6 m1 m2;go_wp2_with fail
    refine (cE _).mono ?_;clear cE m0 m3;rintro r w7 ⟨rfl,hb7⟩;have hN7:=hN.go hb7;have hR7:=hR1.go hN7.below;have q2:=hN7.c2;have hbl:w.heap.size+1<b:=ZI hR1.lt hN7.hb;have hb8:=hN7.lt;have hl7':w.heap.size<w7.heap.size:=by omega
    clear hb7 hN;go_wp2_with fail
    obtain ⟨w8,hw8⟩:∃w8,w8=w7.alloc (.cells #[.int .i64 n,.bool true,.slice none 0 0] 32):=⟨_,rfl⟩;have hal:Below w7.heap.size w7 w8:=by rw [hw8];exact (QK _ _).alloc (ZH _) _
    have hO:Jy w8 w7.heap.size n true (.slice none 0 0):=by rw [hw8];exact Jy.box _ _ _ _ _
    have hR8:=hR7.go hal;have q2':=Qq hal q2;obtain ⟨_,_,_,r0,r1,r2,fc,fr,hB8,hl8⟩:=id hR8;obtain ⟨o0,o1,o2⟩:=id hO;have hl8':w.heap.size+1<w7.heap.size:=by omega
    generalize hsv:(Xq (2*n) S.1 S.2).2=sv at*;rw [<-hw8];clear hw8 hal hR7 hR8 hO q2 hN7 hsv;go_region
    all_goals go_wp2_with fail
    all_goals refine QL (v:=.tuple #[.agg #[.int .i64 n,.bool true,.slice none 0 0],.bool sv,.int .i64 0]) (by simp [results,results12,go_sem,r0,r1,r2,o0,o1,o2]) rfl (Fq HP.out rfl rfl (Ow.nil _ _ _ _) ?_)
    all_goals exact ((hB8.drew.setCell (by simp) _).setCell (by simp) _).setCell (by simp) _
   .have cP:=Qj7 hN hn HSl.out;go_wp2_with fail
    refine cP.mono ?_;clear cP hN;rintro r w6 ⟨rfl,hN⟩;have m3:=hN.c3 _ rfl;go_wp2_with fail
    go_roundw
    case rel=>exact ⟨6,by go_num,by omega,Hd ⟨λ_=>HO.out.1 (by omega),λ_=>HO.out.2 (by omega)⟩,_,Hd (by rw [HS.out];rfl),hN⟩
    simp [intOf]
   have HP:Hid (Zp n false M=((((n:Int),false,S.1),S.2),0)):=Hd (by
    unfold Zp;rw [HC.out,ZL (by simp),ZL (by simp)];simp only [Int.toNat_natCast];rw [Qa1 HO.out,<-HS.out])
   have hR8:=hR1.go hN.below;obtain ⟨m0,m1,m2,r0,r1,r2,fc,fr,hB8,hl8⟩:=id hR8;have:=hN.c0;have:=hN.c1;have q2:=hN.c2;have ho:=hN.ow;have hbl:w.heap.size+1<b:=ZI hR1.lt hN.hb;have:w.heap.size+1<w1.heap.size:=hR1.lt;clear hR8 hN;generalize S.2=sv at*;generalize S.1=Y at*;go_wp2_with fail
   go_region
   all_goals go_wp2_with fail
   all_goals refine QL (v:=.tuple #[.agg #[.int .i64 n,.bool false,.slice A' Y.length c'],.bool sv,.int .i64 0]) (by simp [results,results12,go_sem,r0,r1,r2]) rfl (Fq HP.out rfl rfl ?_ ?_)
   all_goals first
    |exact ((hB8.drew.setCell (by simp) _).setCell (by simp) _).setCell (by simp) _
    |exact (((ho.drew.low (by simp;omega) _).low (by simp;omega) _).low (by simp;omega) _).lower (by omega)
  have cE:=λW=>Rv n W hn
  have HP:Hid (Zp n true M=((((n:Int),true,[]),false),0)):=Hd (by unfold Zp;rw [HC.out];rfl);clear hE0 hE1;clear r0 r1 r2 fc fr hB1 hl1;go_wp2_with fail
  refine (cE _).mono ?_;clear cE m0 m1 m2;rintro e w2 ⟨rfl,hb2⟩;obtain ⟨m0,m1,m2,r0,r1,r2,fc,fr,hB2,hl2⟩:=hR1.go hb2;have hl2':w.heap.size<w2.heap.size:=by omega
  clear hb2;go_wp2_with fail
  refine QL (v:=.tuple #[.agg #[.int .i64 n,.bool true,.slice none 0 0],.bool false,.int .i64 0]) (by simp [results,results12,go_sem,r0,r1,r2,hl2,hl2']) rfl (Fq HP.out rfl rfl (Ow.nil _ _ _ _) ?_);exact (((hB2.setCell (by simp) _).setCell (by simp) _).setCell (by simp) _).alloc (by simp;omega) _
 .have HP:Hid (Zp N E M=(((0,false,[]),false),Je N E M)):=Hd (by unfold Zp;rw [ZM hc]);have hb:(Je N E M !=0)=true:=bne_iff_ne.2 hc;clear hc;generalize Je N E M=x at*;go_wp2_with fail
  refine QL (v:=.tuple #[.agg #[.int .i64 0,.bool false,.slice none 0 0],.bool false,.int .i64 x]) (by simp [results,results12,go_sem,r0,r1,r2]) rfl (Fq HP.out rfl rfl (Ow.nil _ _ _ _) ?_);exact ((hB1.setCell (by simp) _).setCell (by simp) _).setCell (by simp) _
namespace Gn
def Rn (n:Int):Int:=if n<0∨64<n then 0 else 8*n*n*n
end Gn
theorem Oz (n:Int) (w:World):Calls prog 66 #[.int .i64 n] w λe w'=>e=.returned (.int .i64 (Rn n))∧Below w.heap.size w w':=by
 by_cases h1:n<0
 .rw [show Rn n=0 by unfold Rn;rw [ZM (.inl h1)]];go_enter func66,ntmps66
  go_wp2_with fail
  go_ret
  exact ⟨rfl,QK _ _⟩
 by_cases h2:64<n
 focus
  rw [show Rn n=0 by unfold Rn;rw [ZM (.inr h2)]]
 rotate_left
 focus
  have hv:Rn n=8*n*n*n:=by unfold Rn;rw [ZL (by omega)]
  rw [hv];clear hv;obtain ⟨m,rfl⟩:=ZV (show 0≤n by omega);have hm:m≤64:=by omega
  have e1:8*(m:Int)=((8*m:Nat):Int):=by push_cast;rfl
  have l1:8*m≤512:=by omega
  rw [e1];generalize 8*m=a at*;have e2:(a:Int)*(m:Int)=((a*m:Nat):Int):=by push_cast;rfl
  have l2:a*m≤512*64:=QA l1 hm;rw [e2];generalize a*m=b at*;have e3:(b:Int)*(m:Int)=((b*m:Nat):Int):=by push_cast;rfl
  have:b*m≤512*64*64:=QA l2 hm;rw [e3];generalize b*m=c at*
 all_goals
  go_enter func66,ntmps66
  go_wp2_with fail
  go_ret
  exact ⟨rfl,QK _ _⟩
end
