/- Lemmas for wholeNotEmpty; no conditions. -/
import Derived.Deep.OwnRows
import Derived.Test.YtpggdkenajfjjaaGreatDoorGaq
set_option linter.all false
set_option maxRecDepth 100000
set_option maxHeartbeats 16000000
namespace Go.Proofs.YtpggdkenajfjjaaGreatDoor
open Go.RowKit Tryz
open Go.Lib renaming hid → Hd
section
open Gn
theorem elI64:Ga prog 30 2 (.int .i64 0) 8:=⟨underlying30,by kernel_rfl,rfl,by decide⟩
theorem Sc {n:Nat} (h:n≤64):4*n*n≤16384:=by
 have:=QA h h
 rw [Nat.mul_assoc];omega
theorem Au (q:Nat) (h:q≤16384) (w:World):
 (Instr.makeSlice 30 (.int .i64 (q:Int)) (.int .i64 (q:Int))).run prog w=.ok (.slice (some ⟨w.heap.size,0,none⟩) q q) (w.alloc (.cells (madeCells #[.int .i64 0] q) 2)):=
 run_make_row' (P:=prog) 30 2 (.int .i64 0) 8 elI64.ht elI64.info rfl .i64 .i64 q (by omega) (by omega) w
theorem Rv (n:Nat) (w:World) (hn:n≤64):
 Calls prog 33 #[.int .i64 n] w λe w'=>e=.returned (.tuple #[.agg #[.int .i64 n,.bool true,.slice none 0 0],.int .i64 0])∧Below w.heap.size w w':=by
 have cR:=λW=>Bl n W
 rw [show decide ((0:Int)≤n∧(n:Int)≤64)=true from ZE (by omega)] at cR;go_enter func33,ntmps33
 go_wp2_with (go_at_call 71;with_reducible refine (cR _).mono ?_;rintro e w' ⟨rfl,rfl⟩)
 exact QL (v:=.tuple #[.agg #[.int .i64 n,.bool true,.slice none 0 0],.int .i64 0]) (by simp [results,results33,go_sem]) rfl ⟨rfl,(QK _ _).alloc (ZH _) _⟩
theorem Hz (n:Int) (w:World):
 Calls prog 51 #[.int .i64 n] w λe w'=>e=.returned (.agg #[.int .i64 n,.bool true,.slice none 0 0])∧Below w.heap.size w w':=by
 go_enter func51,ntmps51
 go_wp2_with fail
 exact QL (v:=.agg #[.int .i64 n,.bool true,.slice none 0 0]) (by simp [results,results51,go_sem]) rfl ⟨rfl,(QK _ _).alloc (ZH _) _⟩
theorem Vy6 {m:Nat} {X:List Int} (hx:X.length=m*m) (h:∀i,i<m->∀j,j<m->cl m X i j=if i=j then 0 else 9223372036854775807):X=Gj m:=Vd8 hx h
theorem Qe7 (n:Nat) (w:World) (hn:n≤64):
 Calls prog 119 #[.int .i64 n] w λe w'=>∃g M,M=Gj (2*n)∧e=.returned (.tuple #[.agg #[.int .i64 n,.bool false,.slice (some ⟨g,0,none⟩) M.length M.length],.int .i64 0])∧Ow w' w.heap.size 2 .i64 (some ⟨g,0,none⟩) M.length M∧Below w.heap.size w w':=by
 have hq:=Sc hn;have hlen:4*n*n=(2*n)*(2*n):=(Bz n).symm;have eq:4*(n:Int)*(n:Int)=((4*n*n:Nat):Int):=by push_cast;rfl
 have hmk:=Au (4*n*n) hq;have HL:=Hd hlen;have cR:=λW=>Bl n W
 rw [show decide ((0:Int)≤n∧(n:Int)≤64)=true from ZE (by omega)] at cR;clear hlen;generalize 4*n*n=q at*;go_enter func119,ntmps119
 go_wp2_with (go_at_call 71;with_reducible refine (cR _).mono ?_;rintro e w' ⟨rfl,rfl⟩)
 obtain ⟨w1,hw1⟩:∃w1,w1=((w.alloc (.cells #[.int .i64 0,.bool false,.slice none 0 0] 32)).alloc (.cells (madeCells #[.int .i64 0] q) 2)).alloc (.cells #[.int .i64 n,.bool false,.slice (some ⟨w.heap.size+1,0,none⟩) q q] 32):=⟨_,rfl⟩;have hs:w1.heap.size=w.heap.size+3:=by rw [hw1];simp
 have k0:w1.cell? ⟨w.heap.size+1+1,0,none⟩=some (.int .i64 n):=by rw [hw1];simp [go_sem]
 have k1:w1.cell? ⟨w.heap.size+1+1,1,none⟩=some (.bool false):=by rw [hw1];simp [go_sem]
 have k2:w1.cell? ⟨w.heap.size+1+1,2,none⟩=some (.slice (some ⟨w.heap.size+1,0,none⟩) q q):=by rw [hw1];simp [go_sem]
 have r0:w1.cell? ⟨w.heap.size,0,none⟩=some (.int .i64 0):=by rw [hw1];simp [go_sem]
 have r1:w1.cell? ⟨w.heap.size,1,none⟩=some (.bool false):=by rw [hw1];simp [go_sem]
 have r2:w1.cell? ⟨w.heap.size,2,none⟩=some (.slice none 0 0):=by rw [hw1];simp [go_sem]
 have f0:∀i,w1.frozen? ⟨w.heap.size,i,none⟩=false:=by intro i;rw [hw1];simp [go_sem]
 have ho:Ow w1 w.heap.size 2 .i64 (some ⟨w.heap.size+1,0,none⟩) q (List.replicate q 0):=by
  rw [hw1];have:=Ow.made (w.alloc (.cells #[.int .i64 0,.bool false,.slice none 0 0] 32)) w.heap.size q 2 .i64 (by simp) (by unfold maxLen;omega)
  rw [show (w.alloc (.cells #[.int .i64 0,.bool false,.slice none 0 0] 32)).heap.size=w.heap.size+1 by simp] at this;exact this.alloc _
 have hB:Below w.heap.size w w1:=by rw [hw1];exact (((QK _ _).alloc (ZH _) _).alloc (by simp) _).alloc (by simp;omega) _
 rw [<-hw1];clear hw1 hmk cR;go_loopw [21] (λs wr=>∃i:Nat,s=.int .i64 i∧i≤q∧w1.grownBy wr (some (w.heap.size+1))∧∃X:List Int,X.length=q∧Ow wr w.heap.size 2 .i64 (some ⟨w.heap.size+1,0,none⟩) q X∧∀a,a<i->Qe X a=9223372036854775807) (λs _=>q - (intOf s).toNat)
 case atStart=>exact ⟨0,rfl,by omega,QN _ _,_,List.length_replicate,ho,λa ha=>absurd ha (by omega)⟩
 case round=>
  rename_i wr _ _
  obtain ⟨i,rfl,hi,hG,X,hX,hO,hXc⟩:=hrel;rcases ZJ i q with hlt|hge
  .have HXc:=Hd hXc;have HG:=Hd hG;have c2:=Qy hG k2 (by simp);have cx:=hO.cellAt' hX (i:=i) hlt;have cf:=hO.frozenAt' i;have hO':=hO.set' i 9223372036854775807;have hG':=Qv (p:=⟨w.heap.size+1,i,none⟩) hG (.inl rfl) (.int .i64 9223372036854775807);have hsl:(X.set i 9223372036854775807).length=q:=by rw [QJ,hX]
   have hcl:∀a,a<i+1->Qe (X.set i 9223372036854775807) a=9223372036854775807:=λa ha=>by
    rcases ZJ a i with h|h
    .rw [Rw (by omega)];exact hXc a h
    obtain rfl:a=i:=by omega
    exact Vl (by omega)
   have HC:=Hd hcl;have HS:=Hd hsl;have HO':=Hd hO';have HG':=Hd hG';clear hXc hG hO hO' hG' hcl hsl hX;go_wp2_with fail
   go_roundw
   case rel=>exact ⟨i+1,by go_num,by omega,HG'.out,_,HS.out,HO'.out,HC.out⟩
   simp [intOf];omega
  obtain rfl:q=i:=by omega
  have hcell:∀a,a<2*n->∀b,b<2*n->cl (2*n) X a b=9223372036854775807:=λa ha b hb=>hXc _ (by rw [HL.out];exact Zy ha hb)
  have HC:=Hd hcell;have HX:=Hd hX;have c2:=Qy hG k2 (by simp);clear hX hXc hcell;go_wp2
  clear c2;rename_i wr0 _ _ _
  go_loopw [31] (λs wr=>∃i:Nat,s=.int .i64 i∧i≤2*n∧w1.grownBy wr (some (w.heap.size+1))∧∃X:List Int,X.length=q∧Ow wr w.heap.size 2 .i64 (some ⟨w.heap.size+1,0,none⟩) q X∧∀a,a<2*n->∀b,b<2*n->cl (2*n) X a b=if a<i∧a=b then 0 else 9223372036854775807) (λs _=>2*n - (intOf s).toNat)
  case atStart=>
   exact ⟨0,rfl,by omega,hG,X,HX.out,hO,λa ha b hb=>by rw [HC.out a ha b hb,ZL (by omega)]⟩
  rename_i wr _ _
  clear hG hO HC HX;obtain ⟨i,rfl,hi,hG,X,hX,hO,hXc⟩:=hrel;rcases ZJ i (2*n) with hlt|hge
  .have HXc:=Hd hXc;have hlt':=HL.out▸Zy hlt hlt;have c2:=Qy hG k2 (by simp);have cx:=hO.cellAt' hX (i:=i*(2*n)+i) hlt';have hXl:X.length=(2*n)*(2*n):=by rw [hX,HL.out]
   have hcl:=λa b (hb:b<2*n)=>Rf (i':=a) (v:=0) hXl hlt hlt hb
   have hsl:(X.set (i*(2*n)+i) 0).length=q:=by rw [QJ,hX]
   have HC:=Hd hcl;have HS:=Hd hsl;have HG:=Hd hG;have HO:=Hd hO;have cA:=λW=>Wx i i n W (by omega) (by omega) (by omega)
   clear hXc hG hO hcl hsl hX hXl;generalize i*(2*n)+i=p at*;go_wp2_with fail
   have a2:=Qz.cell c2;have q1:(p:Int)<(q:Int):=by omega
   have q2:(0:Int)≤(p:Int):=by omega
   refine Qb [(8,1)] (by kernel_rfl) (by kernel_rfl) ?_;simp only [Jl,ZP,ZQ,ZR,ZT]
   repeat (go_big_quiet_step ((go_at_call 72;with_reducible exact Qd (cA _))))
   refine wpQuiet_nil ?_;intro w' hb';have cx':=Qq hb' cx;have hO2:=HO.out.below hb';have cf:=hO2.frozenAt' p;have hO':=hO2.set' p 0;have hG':=Qv (p:=⟨w.heap.size+1,p,none⟩) (Qa HG.out hb') (.inl rfl) (.int .i64 0);have HO':=Hd hO';have HG':=Hd hG';clear hO2 hO' hG' hb' a2;go_wp2_with fail
   refine Qu (wpQuiet_nil ?_);intro w2 hb2;have HO2:=Hd (HO'.out.below hb2);have HG2:=Hd (Qa HG'.out hb2);clear hb2;go_wp2_with fail
   go_roundw
   case rel=>exact ⟨i+1,by go_num,by omega,HG2.out,_,HS.out,HO2.out,λa ha b hb=>by
    rw [HC.out a b hb];by_cases hc:a=i∧b=i
    .rw [ZM hc,ZM (by omega)]
    rw [ZL hc,HXc.out a ha b hb];congr 1;simp;omega⟩
   simp [intOf];omega
  obtain rfl:i=2*n:=by omega
  have hM:X=Gj (2*n):=Vy6 (by rw [hX,HL.out]) (λa ha b hb=>by rw [hXc a ha b hb];by_cases h:a=b<;>simp [h,ha];omega);have HM:=Hd hM;have HX:=Hd hX;have c0:=Qy hG k0 (by simp);have c1:=Qy hG k1 (by simp);have c2:=Qy hG k2 (by simp);have s0:=Qy hG r0 (by simp);have s1:=Qy hG r1 (by simp);have s2:=Qy hG r2 (by simp);have sf:=λi=>Jc hG (f0 i) (by simp;omega) (by simp)
  have hGs:=hG.size;have hB':Below w.heap.size w wr:=hB.trans (Cv hG (by omega) (by omega));clear hM hX hXc hG k0 k1 k2 r0 r1 r2 f0;go_wp2_with fail
  refine QL (v:=.tuple #[.agg #[.int .i64 n,.bool false,.slice (some ⟨w.heap.size+1,0,none⟩) q q],.int .i64 0]) (by simp [results,results119,go_sem,s0,s1,s2]) rfl ?_;refine ⟨w.heap.size+1,X,HM.out,by rw [HX.out],?_,?_⟩
  .rw [HX.out];exact ((((hO.other' (Qv (QN _ _) (.inl rfl) _) (by simp)).other' (Qv (QN _ _) (.inl rfl) _) (by simp)).other' (Qv (QN _ _) (.inl rfl) _) (by simp)))
  exact ((hB'.setCell (by simp) _).setCell (by simp) _).setCell (by simp) _
end
section
open Gn
theorem Qw4 (w:World) (t:TypeId) (N N':Int) (E E':Bool) (v v':Value):∃W,W=(w.alloc (.cells #[.int .i64 N,.bool E,v] t)).alloc (.cells #[.int .i64 N',.bool E',v'] t)∧
 Jy W w.heap.size N E v∧Jy W (w.heap.size+1) N' E' v'∧Below w.heap.size w W∧W.heap.size=w.heap.size+2:=
 ⟨_,rfl,(Jy.box _ _ _ _ _).alloc _,by
   have:=Jy.box (w.alloc (.cells #[.int .i64 N,.bool E,v] t)) t N' E' v'
   rwa [show (w.alloc (.cells #[.int .i64 N,.bool E,v] t)).heap.size=w.heap.size+1 by simp] at this,((QK _ _).alloc (ZH _) _).alloc (by simp) _,by simp⟩
end
section
open Gn
theorem Jz1 {c:Nat} (h:c≤maxLen):(c:Int)≤9223372036854775807:=by unfold maxLen at h;omega
section
variable {w w':World} {B:Nat} {A:Option Addr} {c:Nat} {N:Int} {M:List Int}
theorem Vd.below (h:Vd w B A c N M) (hb:Below B w w'):Vd w' B A c N M:=⟨h.hN,h.rd.below hb,h.i64,h.le,h.max⟩
theorem Vd.more (h:Vd w B A c N M) {B':Nat} (hB:B≤B'):Vd w B' A c N M:=⟨h.hN,h.rd.more hB,h.i64,h.le,h.max⟩
theorem Vd.go (h:Vd w w.heap.size A c N M) (hb:Below w.heap.size w w'):Vd w' w'.heap.size A c N M:=(h.below hb).more hb.size
theorem Vd.len (h:Vd w B A c N M):(M.length:Int)≤9223372036854775807:=by
 have:=Jz1 h.max
 have:=h.le
 omega
end
end
section
open Gn
theorem Zz {N:Int} {E:Bool} {M:List Int} (h:Je N E M=0):∃n:Nat,N=n∧n≤64∧(E=true->M=[])∧(E=false->M.length=4*n*n∧Yo (2*n) M):=by
 unfold Je at h;split at h
 .cases h
 rename_i hs
 have hN:0≤N∧N≤64:=by omega
 obtain ⟨n,rfl⟩:=ZV hN.1;refine ⟨n,rfl,by omega,λhE=>?_,λhE=>?_⟩
 .exact QE (by
   rcases Nat.eq_zero_or_pos M.length with h0|h0
   .exact h0
   exact absurd (.inr (.inr (.inl ⟨hE,h0⟩))) hs)
 refine ⟨?_,?_⟩
 .have:¬((M.length:Int)≠4*(n:Int)*n):=λhne=>hs (.inr (.inr (.inr ⟨hE,hne⟩)))
  have:(M.length:Int)=4*(n:Int)*n:=by omega
  have e:4*(n:Int)*n=((4*n*n:Nat):Int):=by push_cast;rfl
  omega
 rw [ZL (by simp [hE])] at h;split at h
 .rename_i hk;simpa using hk
 cases h
def Hn (n:Nat) (i j:Int):Bool:=decide (0≤i∧i<2*n∧0≤j∧j<2*n)
theorem Lm {n:Nat} {i j:Int}:Hn n i j=true↔∃a b:Nat,i=a∧j=b∧a<2*n∧b<2*n:=by
 unfold Hn;rw [ZU];constructor
 .rintro ⟨h1,h2,h3,h4⟩;exact ⟨i.toNat,j.toNat,by omega,by omega,by omega,by omega⟩
 rintro ⟨a,b,rfl,rfl,h1,h2⟩;omega
theorem Po (n:Nat) (E:Bool) (v:Value) (i j:Int) (w:World) (hn:n≤64):
 Calls prog 309 #[.agg #[.int .i64 n,.bool E,v],.int .i64 i,.int .i64 j] w λe w'=>e=.returned (.bool (Hn n i j))∧Below w.heap.size w w':=by
 have hB:Below w.heap.size w (w.alloc (.cells #[.int .i64 n,.bool E,v] 32)):=(QK _ _).alloc (ZH _) _;by_cases h1:0≤i
 .by_cases h2:i<2*n
  .by_cases h3:0≤j
   .by_cases h4:j<2*n
    .rw [show Hn n i j=true from ZE ⟨h1,h2,h3,h4⟩];go_enter func309,ntmps309
     go_wp2_with fail
     go_ret
     exact ⟨rfl,hB⟩
    rw [show Hn n i j=false from ZA (by omega)];go_enter func309,ntmps309
    go_wp2_with fail
    go_ret
    exact ⟨rfl,hB⟩
   rw [show Hn n i j=false from ZA (by omega)];go_enter func309,ntmps309
   go_wp2_with fail
   go_ret
   exact ⟨rfl,hB⟩
  rw [show Hn n i j=false from ZA (by omega)];go_enter func309,ntmps309
  go_wp2_with fail
  go_ret
  exact ⟨rfl,hB⟩
 rw [show Hn n i j=false from ZA (by omega)];go_enter func309,ntmps309
 go_wp2_with fail
 go_ret
 exact ⟨rfl,hB⟩
def Qm7 (N:Int) (E:Bool) (M:List Int) (i j:Int):Int×Int:=
 if Je N E M≠0 then (0,Je N E M) else if Hn N.toNat i j=true∧E=false then (cl (2*N.toNat) M i.toNat j.toNat,0) else (0,122)
theorem Jh7 {N:Int} {E:Bool} {M:List Int} (i j:Int) (h:Je N E M≠0):Qm7 N E M i j=(0,Je N E M):=by unfold Qm7;rw [ZM h]
theorem Qp1 {n:Nat} {E:Bool} {M:List Int} {i j:Int} (h:Je n E M=0) (h':¬(Hn n i j=true∧E=false)):Qm7 n E M i j=(0,122):=by
 unfold Qm7;rw [ZL (by omega),ZL (by simpa using h')]
theorem Qf2 {n a b:Nat} {M:List Int} (h:Je n false M=0) (ha:a<2*n) (hb:b<2*n):Qm7 n false M a b=(cl (2*n) M a b,0):=by
 unfold Qm7;rw [ZL (by omega),ZM ⟨by rw [Int.toNat_natCast];exact Lm.2 ⟨a,b,rfl,rfl,ha,hb⟩,rfl⟩];simp
theorem Cd (w:World) (t:TypeId) (N:Int) (E:Bool) (v:Value):∃W,W=w.alloc (.cells #[.int .i64 N,.bool E,v] t)∧Jy W w.heap.size N E v∧Below w.heap.size w W∧W.heap.size=w.heap.size+1:=
 ⟨_,rfl,Jy.box _ _ _ _ _,(QK _ _).alloc (ZH _) _,by simp⟩
theorem Zf4 (N:Int) (E:Bool) (A:Option Addr) (c:Nat) (M:List Int) (i j:Int) (w:World) (h:Vd w w.heap.size A c N M):
 Calls prog 256 #[.agg #[.int .i64 N,.bool E,.slice A M.length c],.int .i64 i,.int .i64 j] w λe w'=>e=.returned (.tuple #[.int .i64 (Qm7 N E M i j).1,.int .i64 (Qm7 N E M i j).2])∧Below w.heap.size w w':=by
 obtain ⟨W,hW,h1,hB,_⟩:=Cd w 32 N E (.slice A M.length c);have hW1:=h.go hB;have cC:=Ul A c N E M W hW1;obtain ⟨k0,k1,k2⟩:=id h1;go_enter func256,ntmps256
 go_wp2_with fail
 rw [<-hW];clear hW;refine cC.mono ?_;clear cC;rintro e _ ⟨rfl,hb1⟩;have hB1:=hB.trans (hb1.mono (by omega));have HB1:=Hd hB1;have hoct:=hW1.go hb1;obtain ⟨m0,m1,m2⟩:=id (h1.below hb1);clear k0 k1 k2 hb1 hB1;by_cases hc:Je N E M=0
 .obtain ⟨n,rfl,hn,hE1,hE0⟩:=Zz hc;have hc':(Je n E M !=0)=false:=bne_eq_false_iff_eq.2 hc;have HC:=Hd hc;rw [hc];clear hc hc';have cW:=λW=>Po n E (.slice A M.length c) i j W hn
  by_cases hin:Hn n i j=true
  .rw [hin] at cW;go_wp2_with fail
   refine (cW _).mono ?_;clear cW;rintro e w2 ⟨rfl,hb2⟩;have hB2:=(Ht HB1 hb2).out;have HB2:=Hd hB2;have hoct2:=hoct.go hb2;have p0:=Qq hb2 m0;have:=Qq hb2 m1;have p2:=Qq hb2 m2;clear m0 m1 m2 hb2 hB2;rcases E with _|_
   .obtain ⟨a,b,rfl,rfl,ha,hb⟩:=Lm.1 hin;obtain ⟨hl,hok⟩:=hE0 rfl;have hg0:=Qf2 HC.out ha hb;unfold cl at hg0;have hp:a*(2*n)+b<M.length:=by rw [hl,<-Bz];exact Zy ha hb
    obtain ⟨_,_,rfl,_,hcell⟩:=hoct2.rd (by omega);have hcv:=hcell _ hp;have cA:=λW=>Wx a b n W (by omega) (by omega) (by omega)
    have:(M.length:Int)≤9223372036854775807:=hoct2.len;clear hcell hok hl hE0 hE1 hin;generalize Qe M (a*(2*n)+b)=v at*;generalize a*(2*n)+b=p at*;have HG:=Hd hg0;clear hg0;go_wp2_with fail
    have:=Qz.cell p0;have:=Qz.cell p2;have:=Qz.cell hcv;have:(p:Int)<(M.length:Int):=by omega
    have:(0:Int)≤(p:Int):=by omega
    refine Qk (by kernel_rfl) (by kernel_rfl) ?_
    repeat (go_big_quiet_step ((go_at_call 72;with_reducible exact Qd (cA _))))
    refine wpQuiet_nil ?_;intro w3 hb3;go_wp2_with fail
    go_ret2
    rw [HG.out];exact ⟨rfl,(Ht HB2 hb3).out⟩
   go_wp2_with fail
   go_ret2
   rw [Qp1 HC.out (by simp)];exact ⟨rfl,HB2.out⟩
  have hin':Hn n i j=false:=by simpa using hin
  rw [hin'] at cW;have HG:=Hd (Qp1 HC.out (i:=i) (j:=j) (by simp [hin']));clear hin hin';go_wp2_with fail
  refine (cW _).mono ?_;clear cW;rintro e w2 ⟨rfl,hb2⟩;have hB2:=(Ht HB1 hb2).out;have HB2:=Hd hB2;go_wp2_with fail
  go_ret2
  rw [HG.out];exact ⟨rfl,HB2.out⟩
 .have HG:=Hd (Jh7 i j hc);have hc':(Je N E M !=0)=true:=bne_iff_ne.2 hc;clear hc;generalize Je N E M=cc at*;go_wp2_with fail
  go_ret2
  rw [HG.out];exact ⟨rfl,HB1.out⟩
end
