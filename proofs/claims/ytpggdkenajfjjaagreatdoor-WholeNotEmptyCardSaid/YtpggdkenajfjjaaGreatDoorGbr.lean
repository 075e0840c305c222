/- Lemmas for wholeNotEmpty; no conditions. -/
import Derived.Test.YtpggdkenajfjjaaGreatDoorGbq
import Derived.Test.YtpggdkenajfjjaaGreatDoorGae
import Derived.Deep.CutBlock
import Derived.Lib.SliceRun
set_option linter.all false
set_option maxRecDepth 100000
set_option maxHeartbeats 16000000
namespace Go.Proofs.YtpggdkenajfjjaaGreatDoor
open Go.RowKit Tryz
open Go.Lib renaming hid → Hd
theorem Qu3 (w:World):Calls prog 144 #[.agg #[.string sX,.int .i64 0]] w λe w'=>e=.returned (.int .i64 1)∧Below w.heap.size w w':=by
 go_enter func144,ntmps144
 go_wp2
 go_ret
 exact ⟨rfl,by go_grown⟩
theorem Vu1 (W:World):(Instr.makeMap 143 none).run prog W=.ok (.map (some W.heap.size)) (W.alloc (.map #[] 0)):=by kernel_rfl
theorem Vn5 (W:World):(Instr.makeMap 228 none).run prog W=.ok (.map (some W.heap.size)) (W.alloc (.map #[] 0)):=by kernel_rfl
def Zj2 (v:Int):List MapEntry:=[⟨.string sX,.int .i64 v,0⟩]
def Qh9 (a:Int):List MapEntry:=[⟨.int .i64 1,.int .i64 a,0⟩,⟨.int .i64 2,.int .i64 16,1⟩]
theorem Ju2 (w:World):(zeroValue 3).run prog w=.ok (.int .i64 0) w:=by kernel_rfl
theorem Zv3 (w:World):∃W4,(∃W3,(Instr.mapUpdate 228 (.map (some (w.heap.size+1))) (.int .i64 1) (.int .i64 32)).run prog ((w.alloc (.map #[] 0)).alloc (.map #[] 0))=.ok () W3∧
 (Instr.mapUpdate 228 (.map (some (w.heap.size+1))) (.int .i64 2) (.int .i64 16)).run prog W3=.ok () W4)∧
 Vj W4 (w.heap.size+1) (Qh9 32) 2∧Vj W4 w.heap.size [] 0∧Below w.heap.size w W4:=by
 have h1:(w.alloc (.map #[] 0)).heap.size=w.heap.size+1:=by simp
 have hm1:=Vj.new w;have hb1:=(QK w.heap.size w).alloc (ZH _) (.map #[] 0);have hb1':=(QK (w.alloc (.map #[] 0)).heap.size (w.alloc (.map #[] 0))).alloc (ZH _) (.map #[] 0);have hm2:Vj ((w.alloc (.map #[] 0)).alloc (.map #[] 0)) (w.heap.size+1) [] 0:=by rw [<-h1];exact Vj.new _
 have hm1':=hm1.go hb1';have u1:=Rr (P:=prog) underlying228 (.int .i64) underlying3 (.inr rfl) hm2 (key:=.int .i64 1) rfl (.int .i64 32);have hm3:=hm2.put (es':=[]++[⟨.int .i64 1,.int .i64 32,0⟩]) (c':=1);have u2:=Rr (P:=prog) underlying228 (.int .i64) underlying3 (.inr rfl) hm3 (key:=.int .i64 2) rfl (.int .i64 16);refine ⟨_,⟨_,u1,u2⟩,?_,?_,?_⟩
 .exact hm3.put (es':=Qh9 32) (c':=2)
 .exact (hm1'.only (Ug _ _) (by omega)).only (Ug _ _) (by omega)
 exact Ms _ _ (Ms _ _ (hb1.trans (hb1'.mono (by simp))) (by omega)) (by omega)
theorem Qv4 (gd cd:Nat) (w:World) (h:Cl w gd Zm):Calls prog 83 #[.slice (some ⟨gd,0,none⟩) 1 cd] w λe w'=>e=.returned (.tuple #[.map (some w.heap.size),.string ⟨#[]⟩,.int .i64 0])∧Vj w' w.heap.size (Zj2 1) 1∧Below w.heap.size w w':=by
 obtain ⟨W4,⟨_,u1,u2⟩,hL4,hN4,hB4⟩:=Zv3 w;have hD4:Cl W4 gd Zm:=⟨ZI h.1 hB4.size,λj u hu=>(hB4.cell (p:=⟨gd,j,none⟩) h.1).trans (h.2 j u hu)⟩;have m1:=λW=>Vu1 W
 have m2:=λW=>Vn5 W
 have:=h.1;clear h;have y0:=hD4.2 0 _ rfl;have y1:=hD4.2 1 _ rfl;have hl:=hD4.1;obtain ⟨W5,hW5,hX5,hB5⟩:=Qh W4 Zm 51;have cK:=Qu3 W5;unfold Zm at hW5;go_enter func83,ntmps83
 go_wp2_with fail
 refine wp_loop_rounds 2 ?_;rw [QX];go_upto_region 6 with fail
 rw [<-hW5];clear hW5 u1 u2 m1 m2 y0 y1 hl;have:=hL4.lt;have:=hN4.lt;obtain ⟨h5,h6⟩:=hX5.c1;have hl5:=hX5.lt;go_wp2_with fail
 with_reducible refine cK.mono ?_
 clear cK;rintro e w6 ⟨rfl,hb6⟩;have hL6:=(hL4.go hB5).go hb6;have hN6:=(hN4.go hB5).go hb6;have hX6:=hX5.below hb6;have hB6:=(hB4.trans (hB5.mono hB4.size)).trans (hb6.mono (ZO hB4.size hB5.size));have:=Dp (P:=prog) underlying228 (.int .i64) underlying3 (.inr rfl) hL6 (key:=.int .i64 1) (v:=.int .i64 32) 0 rfl;have u3:=Qt7 (P:=prog) underlying228 (.int .i64) underlying3 (.inr rfl) hL6 (key:=.int .i64 1) (v:=.int .i64 32) 0 rfl (.int .i64 31) (Qh9 31) (.int .i64 1) rfl rfl rfl;obtain ⟨W7,hW7⟩:∃W7,W7=Ky w6 (w.heap.size+1) (Qh9 31) 2:=⟨_,rfl⟩;have hL7:Vj W7 (w.heap.size+1) (Qh9 31) 2:=hW7▸hL6.put;have hN7:Vj W7 w.heap.size [] 0:=hW7▸hN6.only (Ug _ _) (by omega);have hX7:Bx W7 W4.heap.size Zm:=hW7▸hX6.only (Ug _ _) (by omega);have hB7:Below w.heap.size w W7:=hW7▸Ms _ _ hB6 (by omega);rw [<-hW7] at u3;clear hW7 hL4 hN4 hB4 hD4 hX5 hB5 hb6 hL6 hN6 hX6 hB6 h5 h6 hl5;have:=Qx4 (P:=prog) underlying143 .string underlying9 (.inl rfl) hN7 (key:=.string sX) rfl Ju2;have:=Dp (P:=prog) underlying228 (.int .i64) underlying3 (.inr rfl) hL7 (key:=.int .i64 1) (v:=.int .i64 31) 0 rfl;have u4':=Rr (P:=prog) underlying143 .string underlying9 (.inl rfl) hN7 (key:=.string sX) rfl (.int .i64 1);obtain ⟨W8,hW8⟩:∃W8,W8=Ky W7 w.heap.size (Zj2 1) 1:=⟨_,rfl⟩
 have hN8:Vj W8 w.heap.size (Zj2 1) 1:=hW8▸hN7.put;have hB8:Below w.heap.size w W8:=hW8▸Ms _ _ hB7 (ZH _);have:(Instr.mapUpdate 143 (.map (some w.heap.size)) (.string sX) (.int .i64 1)).run prog W7=.ok () W8:=hW8▸u4';clear u4';obtain ⟨_,_⟩:=hX7.c1;have:=hX7.lt;have HN8:=Hd hN8;have HB8:=Hd hB8;clear hW8 hL7 hN7 hX7 hB7 hN8 hB8;go_wp2_with fail
 rw [QX];go_wp2_with fail
 exact QL (v:=.tuple #[.map (some w.heap.size),.string ⟨#[]⟩,.int .i64 0]) (by simp [results,results83,go_sem]) rfl ⟨rfl,HN8.out,HB8.out⟩
theorem Zm7 (b:Nat) (w:World):Calls prog 146 #[.pointer (some ⟨b,0,none⟩),Jt.inner] w λe w'=>e=.returned (.tuple #[])∧Below w.heap.size w w':=by
 unfold Jt Value.inner;go_enter func146,ntmps146
 go_wp2
 go_rounds 1
 go_wp2
 go_end0
 exact ⟨rfl,by go_grown⟩
theorem Bb (b:Nat) (w:World):Calls prog 84 #[.pointer (some ⟨b,0,none⟩),.slice none 0 0] w λe w'=>e=.returned (.tuple #[])∧Below w.heap.size w w':=by
 go_enter func84,ntmps84
 go_wp2
 go_rounds 1
 go_wp2
 go_end0
 exact ⟨rfl,by go_grown⟩
def Qd5:List Value:=[.string sX,.int .i64 1]
theorem elUse:Ni prog 147 152 (.agg #[.string ⟨#[]⟩,.int .i64 0]) 2 24:=⟨underlying147,by kernel_rfl,rfl,by decide,by decide⟩
theorem Jy4 (w:World) (t:TypeId):∀i u,Qd5[i]? =some u->(w.alloc (.cells #[.string sX,.int .i64 1] t)).cell? ((⟨w.heap.size,0,none⟩:Addr).add i)=some u:=by
 intro i u h;rw [show ((⟨w.heap.size,0,none⟩:Addr).add i)=⟨w.heap.size,i,none⟩ by unfold Addr.add;split<;>simp_all,QM];simpa [Qd5] using h
theorem Vz9:∀u∈Qd5,u.oneCell'=true:=by simp [Qd5,Value.oneCell']
theorem Zk3 (b gb cb ge ce:Nat) (w:World) (hX:Bx w b [.slice none 0 0]) (hS:Cl w gb (Ja ge ce)) (hE:Cl w ge Zw) (hn1:gb≠b) (hn2:ge≠b):Calls prog 84 #[.pointer (some ⟨b,0,none⟩),.slice (some ⟨gb,0,none⟩) 1 cb] w λe w'=>∃g c,e=.returned (.tuple #[])∧Bx w' b [.slice (some ⟨g,0,none⟩) 1 c]∧Cl w' g Qd5∧w.heap.size≤g∧w.grownBy w' (some b):=by
 obtain ⟨W,hW,hX1,hB1⟩:=Qh w (Ja ge ce) 222;have y0:=hS.2 0 _ rfl;have y1:=hS.2 1 _ rfl;have y2:=hS.2 2 _ rfl;have y3:=hS.2 3 _ rfl;have y4:=hS.2 4 _ rfl;have y5:=hS.2 5 _ rfl;have hl:=hS.1;unfold Ja at hW;go_enter func84,ntmps84
 go_wp2_with fail
 refine wp_loop_rounds 2 ?_;rw [QX];go_upto_block 2 with fail
 rw [<-hW];have HXb:=Hd (hX.below hB1);have HEx:=Hd (hE.go hB1);have HSb:=Hd hX1;have HBW:=Hd hB1;have hbl:=hX.lt;have hwl:=hX1.lt;have hel:=hE.1;clear hW y0 y1 y2 y3 y4 y5 hl;obtain ⟨_,_⟩:=hX1.c1;have z2:=HXb.out.cell 0 _ rfl;have z3:=HXb.out.lt;clear hX hS hE hX1 hB1;go_cut [] (λwx=>∃g c,Bx wx b [.slice (some ⟨g,0,none⟩) 1 c]∧Cl wx g Qd5∧W.heap.size≤g∧Bx wx w.heap.size (Ja ge ce)∧W.grownBy wx (some b))
 case first=>
  go_wp2_with fail
  go_region_law (refine Ye elUse ((W.alloc (.cells #[.string sX,.int .i64 1] 152)).drew) rfl (.tmp 24) (.tmp 28) rfl (W.heap.size+1) none 0 0 [] rfl (QV _ _ _ _) Qd5 W.heap.size rfl rfl (Jy4 W _) Vz9 (by omega) (by simp) ?_;intro A' c' w9 hr9 hb9 hg9;have k0:=(HXb.out.below ((QK _ W).alloc (ZH _) (.cells #[.string sX,.int .i64 1] 152)).drew).under hb9 (by omega);have k1:=(HSb.out.below ((QK _ W).alloc (ZH _) (.cells #[.string sX,.int .i64 1] 152)).drew).under hb9 (by omega);have q0:=k0.cell 0 _ rfl;have q1:=k0.fr 0;have q2:=k0.lt;have q3:=k1.cell 1 _ rfl;have q4:=k1.lt;have K0:=Hd k0;have K1:=Hd k1;have HR:=Hd hr9;have HB9:=Hd hb9;clear k0 k1 hr9 hb9 hg9)
  all_goals
   obtain ⟨g,rfl,_,hle,hcl⟩:=Xh HR.out (by omega);have Hcl:=Hd hcl;clear hcl q0 q1 q3;go_wp2_with fail
   go_meet
   case rel=>
    have hg1:=Qv (p:=⟨b,0,none⟩) (QN w9 (some b)) (.inl rfl) (.slice (some ⟨g,0,none⟩) 1 c');have hbb:Below W.heap.size W w9:=((QK _ W).alloc (ZH _) (.cells #[.string sX,.int .i64 1] 152)).drew.trans (HB9.out.mono (Nat.le_succ _));refine ⟨g,c',?_,Cl.only ⟨hle,λj u hu=>Hcl.out j u (by simpa using hu)⟩ hg1 (by omega),by omega,K1.out.only hg1 (by omega),(Qr hbb (some b)).trans hg1⟩;have:=K0.out.set (i:=0) (by simp) (.slice (some ⟨g,0,none⟩) 1 c')
    simpa using this
 obtain ⟨g,c,hX2,hC2,_,hS2,hG2⟩:=hcut;have z2:=hS2.cell 2 _ rfl;have z3:=hS2.cell 3 _ rfl;have zl:=hS2.lt;have HX2:=Hd hX2;have HC2:=Hd hC2;have HS2:=Hd hS2;have HG2:=Hd hG2;have hE2:=HEx.out.only hG2 hn2;have HE2:=Hd hE2;have e0:=hE2.2 0 _ rfl;have e1:=hE2.2 1 _ rfl;have e2:=hE2.2 2 _ rfl;have e3:=hE2.2 3 _ rfl;have el:=hE2.1;obtain ⟨W4,hW4,hX4,hB4⟩:=Qh wc Zw 234;have cE:=Zm7 b W4;unfold Jt Value.inner at cE;unfold Zw at hW4;clear hX2 hC2 hS2 hG2 hE2;go_wp2_with fail
 go_rounds 1
 go_wp2_with fail
 refine wp_loop_rounds 2 ?_;rw [QX];go_upto_region 16 with fail
 rw [<-hW4];obtain ⟨w0,w1,w2,w3⟩:=hX4.c3;have wl:=hX4.lt;clear hW4 e0 e1 e2 e3 el z2 z3 zl;have HB4:=Hd hB4;clear hX4 hB4;go_wp2_with fail
 with_reducible refine cE.mono ?_
 clear cE;rintro e w5 ⟨rfl,hb5⟩;have HB5:=Ht HB4 hb5;clear hb5 w0 w1 w2 w3 wl;have hS5:=HS2.out.below HB5.out;have z4:=hS5.cell 4 _ rfl;have z5:=hS5.cell 5 _ rfl;have zl:=hS5.lt;have cN:=Bb b w5;clear hS5;go_wp2_with fail
 rw [QX];go_wp2_with fail
 with_reducible refine cN.mono ?_
 clear cN;rintro e w6 ⟨rfl,hb6⟩;have HB6:=Ht HB5 hb6;clear hb6 z4 z5 zl;have hS6:=HS2.out.below HB6.out;have z5:=hS6.cell 5 _ rfl;have zl:=hS6.lt;have cN:=Bb b w6;clear hS6;go_wp2_with fail
 with_reducible refine cN.mono ?_
 clear cN;rintro e _ ⟨rfl,hb7⟩;have HB7:=Ht HB6 hb7;clear hb7 z5 zl;go_wp2_with fail
 rw [QX];go_wp2_with fail
 go_end0
 have hs:=HBW.out.size;exact ⟨g,c,rfl,HX2.out.below HB7.out,HC2.out.go HB7.out,by omega,(Qr HBW.out (some b)).trans (Qa HG2.out HB7.out)⟩
theorem Vl7 (w:World) (a:Option Addr) (n c n' c':Nat):(binOp .eql 23 (.slice a n c) (.slice none n' c')).run prog w=.ok (.bool a.isNone) w:=Lib.run_eql_slice_nil w _ _ a n c n' c' underlying23
theorem Vb6:∀u∈Zm,u.oneCell'=true:=by simp [Zm,Value.oneCell']
theorem Zs3 (w:World) (e:TypeId) (size:Nat):(w.alloc (.cells #[] e)).ownsRow w.heap.size e size (.slice (some ⟨w.heap.size,0,none⟩) 0 0) 0 []:=World.ownsRow_made w #[] 0 (ZH _) (Nat.zero_le _) (by simp)
theorem _root_.Go.World.ownsRow.capMax {w:World} {B n c size:Nat} {e:TypeId} {A:Option Addr} {vs:List Value} (h:w.ownsRow B e size (.slice A n c) n vs):c≤maxLen:=by
 rcases h.2 with ⟨hv,_⟩|⟨g,cap,cur,hv,_,_,_,hcm,_⟩
 .injection hv with h1 h2 h3;omega
 injection hv with h1 h2 h3;omega
theorem Cl.at' {w:World} {g:Nat} {vs:List Value} (h:Cl w g vs):∀j u,vs[j]? =some u->w.cell? ((⟨g,0,none⟩:Addr).add j)=some u:=by
 intro j u hu;rw [show ((⟨g,0,none⟩:Addr).add j)=⟨g,j,none⟩ by unfold Addr.add;split<;>simp_all];exact h.2 j u hu
theorem Og (gd cd:Nat) (w:World) (h:Cl w gd Zm):Calls prog 224 #[.slice (some ⟨gd,0,none⟩) 1 cd] w λe w'=>∃g c,e=.returned (.slice (some ⟨g,0,none⟩) 1 c)∧w.heap.size≤g∧(1≤c∧c≤maxLen)∧Bx w' g Zm∧Below w.heap.size w w':=by
 have hC:=h.go ((QK w.heap.size w).alloc (ZH _) (.cells #[] 51));have:=h.1;have:=Vl7;have HC:=Hd hC.at';clear h hC;go_enter func224,ntmps224
 go_wp2_with (at_builtin;refine Rq elDecl (w.alloc (.cells #[] 51)) rfl (.tmp 5) (.tmp 6) rfl w.heap.size (some ⟨w.heap.size,0,none⟩) 0 0 [] rfl (Zs3 w _ _) Zm gd cd rfl rfl HC.out Vb6 (by omega) (by simp) ?_;intro A' c' w9 hr9 hb9 hg9)
 obtain ⟨g,rfl,_,hle,hcl⟩:=Xh hr9 (by omega);have hfr:∀i,w9.frozen? ⟨g,i,none⟩=false:=λi=>World.ownsRow.frozenAt hr9 i
 have hb:=((QK w.heap.size w).alloc (ZH _) (.cells #[] 51)).trans hb9;go_ret
 exact ⟨g,c',rfl,by omega,⟨Lv hr9,World.ownsRow.capMax hr9⟩,⟨λj u hu=>hcl j u (by simpa using hu),hfr,hle⟩,hb⟩
theorem Jb6 (k:Int) (b:Bool) (hb:((1:Int)!=k)=b) (g:Nat) (w:World) (hg:w.cell? ⟨g,0,none⟩=some (.int .i64 k)):Calls prog 225 #[.agg #[.string sX,.int .i64 0],.pointer (some ⟨g,0,none⟩)] w λe w'=>e=.returned (.bool b)∧Below w.heap.size w w':=by
 obtain ⟨W,hW,hX,hB⟩:=Qh w Zm 51;have x0:=Qz.cell (hX.cell 0 _ rfl);have x1:=Qz.cell (hX.cell 1 _ rfl);have x2:=Qz.cell (Qq hB hg);have cK:=λW=>Qu3 W
 have HB:=Hd hB;unfold Zm at hW;clear hX hB hg;go_enter func225,ntmps225
 go_wp2_with fail
 rw [<-hW];clear hW;refine Qk (by kernel_rfl) (by kernel_rfl) ?_
 repeat (go_big_quiet_step ((go_at_call 144;with_reducible exact Qd (cK _))))
 refine wpQuiet_nil ?_;intro w2 hb2;have HB2:=Ht HB hb2;clear hb2 x0 x1 x2;go_wp2_with fail
 go_ret
 exact ⟨rfl,HB2.out⟩
def ofF (g:Nat):Value:=.func (.func 225) #[] #[.pointer (some ⟨g,0,none⟩)]
theorem Qk2 (k:Int) (hb:((1:Int)!=k)=false) (g gd cd:Nat) (w:World) (hg:w.cell? ⟨g,0,none⟩=some (.int .i64 k)) (hD:Cl w gd Zm):Calls prog 281 #[.slice (some ⟨gd,0,none⟩) 1 cd,ofF g] w λe w'=>e=.returned (.int .i64 (-1))∧Below w.heap.size w w':=by
 have:=hD.2 0 _ rfl;have:=hD.2 1 _ rfl;have:=hD.1;have cL:=Hd (Jb6 k false hb g w hg);unfold ofF;clear hD hg hb;go_enter func281,ntmps281
 go_wp2_with fail
 refine wp_loop_rounds 2 ?_;rw [QX];go_wp2_with fail
 with_reducible refine cL.out.mono ?_
 rintro e _ ⟨rfl,hb1⟩;go_wp2_with fail
 rw [QX];go_wp2_with fail
 go_ret
 exact ⟨rfl,hb1⟩
theorem Od (k:Int) (hb:((1:Int)!=k)=true) (g gd cd:Nat) (w:World) (hg:w.cell? ⟨g,0,none⟩=some (.int .i64 k)) (hD:Cl w gd Zm):Calls prog 281 #[.slice (some ⟨gd,0,none⟩) 1 cd,ofF g] w λe w'=>e=.returned (.int .i64 0)∧Below w.heap.size w w':=by
 have:=hD.2 0 _ rfl;have:=hD.2 1 _ rfl;have:=hD.1;have cL:=Hd (Jb6 k true hb g w hg);unfold ofF;clear hD hg hb;go_enter func281,ntmps281
 go_wp2_with fail
 refine wp_loop_rounds 2 ?_;rw [QX];go_wp2_with fail
 with_reducible refine cL.out.mono ?_
 rintro e _ ⟨rfl,hb1⟩;go_wp2_with fail
 go_ret
 exact ⟨rfl,hb1⟩
theorem Jo3 (g c:Nat) (w:World) (h:Bx w g Zm) (ty:TypeId):(Builtin.clear_ #[23] ty #[.slice (some ⟨g,0,none⟩) 1 c]).run prog w=.ok (.tuple #[]) ((w.setCell ⟨g,0,none⟩ (.string ⟨#[]⟩)).setCell ⟨g,1,none⟩ (.int .i64 0)):=by
 have hz:∀w,(zeroValue 51).run prog w=.ok (.agg #[.string ⟨#[]⟩,.int .i64 0]) w:=λw=>by kernel_rfl
 obtain ⟨x0,x1⟩:=h.c1;have xf:=h.fr;have:=h.lt;have z1:(w.setCell ⟨g,0,none⟩ (.string ⟨#[]⟩)).cell? ⟨g,1,none⟩=some (.int .i64 0):=by rw [QP _ _ _ _ (by simp)];exact x1
 unfold Builtin.clear_;simp [Sem.run_bind,run_underlying underlying23,hz,Builtin.zeroCells,Value.cells,List.range_succ,storeCells,store,Sem.run,Addr.add,x0,x1,z1,xf,Result.andThen]
theorem Ou (k:Int) (hb:((1:Int)!=k)=false) (g gd cd:Nat) (w:World) (hg:w.cell? ⟨g,0,none⟩=some (.int .i64 k)) (hD:Cl w gd Zm):Calls prog 223 #[.slice (some ⟨gd,0,none⟩) 1 cd,ofF g] w λe w'=>e=.returned (.slice (some ⟨gd,0,none⟩) 1 cd)∧Below w.heap.size w w':=by
 have cI:=Hd (Qk2 k hb g gd cd w hg hD);unfold ofF at*;clear hD hg hb;go_enter func223,ntmps223
 go_wp2_with fail
 with_reducible refine cI.out.mono ?_
 rintro e _ ⟨rfl,hb1⟩;go_wp2_with fail
 go_ret
 exact ⟨rfl,hb1⟩
theorem Ic (k:Int) (hb:((1:Int)!=k)=true) (g gd cd:Nat) (w:World) (hc:1≤cd∧cd≤maxLen) (hg:w.cell? ⟨g,0,none⟩=some (.int .i64 k)) (hD:Bx w gd Zm):Calls prog 223 #[.slice (some ⟨gd,0,none⟩) 1 cd,ofF g] w λe w'=>e=.returned (.slice (some ⟨gd,0,none⟩) 0 cd)∧w.grownBy w' (some gd):=by
 have cI:=Hd (Od k hb g gd cd w hg ⟨hD.lt,hD.cell⟩);have HD:=Hd hD;unfold ofF at*;clear hD hg hb;have hcm:(cd:Int)≤9223372036854775807:=by have:=hc.2;unfold maxLen at this;omega
 have hc1:1≤cd:=hc.1;clear hc;go_enter func223,ntmps223
 go_wp2_with fail
 with_reducible refine cI.out.mono ?_
 rintro e w1 ⟨rfl,hb1⟩;have hD1:=HD.out.below hb1;have qc:=λty=>Jo3 gd cd w1 hD1 ty
 have G:=Hd (Qv (p:=⟨gd,1,none⟩) (Qv (p:=⟨gd,0,none⟩) (Qr hb1 (some gd)) (.inl rfl) (.string ⟨#[]⟩)) (.inl rfl) (.int .i64 0));clear hb1 hD1;go_wp2_with fail
 go_rounds 1
 go_wp2_with fail
 go_ret
 exact ⟨rfl,G.out⟩
theorem Vj.drew {w:World} {b c:Nat} {es:List MapEntry} (h:Vj w b es c):Vj w.drew b es c:=h
theorem Du (gd cd gb cb ge ce:Nat) (w:World) (h:Va w gd gb ge ce):Calls prog 43 #[Wl gd cd gb cb] w λe w'=>e=.returned (.tuple #[.string ⟨#[]⟩,.int .i64 0])∧Below w.heap.size w w':=by
 obtain ⟨W,hW,hX,hB⟩:=Qh w (Qs gd cd gb cb) 86;have hP:PgB w gd cd gb cb ge ce W:=⟨hX,h.go hB,hB⟩;have cT:=Is gd cd gb cb ge ce W hP.pr;obtain ⟨y0,y1⟩:=hX.c1;have hl:=hX.lt;have HP:=Hd hP;unfold Wl Qs at*;clear hX hB h hP;go_enter func43,ntmps43
 go_wp2_with fail
 rw [<-hW];clear hW;go_step3
 go_wp2_with fail
 with_reducible refine cT.mono ?_
 clear cT;rintro e w1 ⟨rfl,hb1⟩;have h1:=HP.out.go hb1;have H1:=Hd h1;have cD:=Qv4 gd cd w1 h1.pr.decls;clear hb1 y0 y1 hl HP;obtain ⟨y0,y1⟩:=h1.bx.c1;have hl:=h1.bx.lt;clear h1;go_wp2_with fail
 with_reducible refine cD.mono ?_
 clear cD;rintro e w2 ⟨rfl,hm2,hb2⟩;have h2:=H1.out.go hb2;have:=hm2.lt;obtain ⟨W3,hW3,hX3,hB3⟩:=Qh w2 [.slice none 0 0] 149;have h3:=h2.go hB3;have hm3:=hm2.go hB3;have cS:=Zk3 w2.heap.size gb cb ge ce W3 hX3 h3.pr.body h3.pr.expr (by have:=h2.pr.body.1;omega) (by have:=h2.pr.expr.1;omega);have H3:=Hd h3;have HM3:=Hd hm3;have:w.heap.size<w2.heap.size:=h2.bx.lt;clear hb2 y0 y1 hl H1;obtain ⟨y0,y1⟩:=h2.bx.c1;have hl:=h2.bx.lt;go_upto_region 8 with fail
 rw [<-hW3];clear hW3 hX3 hB3 hm2 hm3 h2 y0 y1 hl;have y1:=h3.bx.cell 1 _ rfl;have hl:=h3.bx.lt;clear h3;go_wp2_with fail
 with_reducible refine cS.mono ?_
 clear cS;rintro e w4 ⟨_,_,rfl,hX4,hC4,_,hG4⟩;have hm4:=HM3.out.only hG4 (by omega);have HB4:=Hd (H3.out.bl.grown hG4 H3.out.bl.size (λk e=>by cases e;omega));have x0:=hX4.cell 0 _ rfl;have xl:=hX4.lt;have z0:=hC4.2 0 _ rfl;have z1:=hC4.2 1 _ rfl;have zl:=hC4.1;obtain ⟨_,hW5,hX5,hB5⟩:=Qh w4 Qd5 152;have hm5:=hm4.go hB5;have:=Dp (P:=prog) underlying143 .string underlying9 (.inl rfl) hm5 (key:=.string sX) (v:=.int .i64 1) 0 rfl;have HB5:=Ht HB4 hB5;unfold Qd5 at hW5;clear hX4 hC4 hG4 hm4 hm5 hB5 H3 HM3 HB4 y1 hl;go_wp2_with fail
 go_step3
 go_wp2_with fail
 refine wp_loop_rounds 2 ?_;rw [QX];go_upto_region 13 with fail
 rw [<-hW5];clear hW5 x0 xl z0 z1 zl;obtain ⟨z0,z1⟩:=hX5.c1;have zl:=hX5.lt;clear hX5;go_wp2_with fail
 rw [QX];go_wp2_with fail
 rw [Exit.noGoto_ret];go_ret2
 exact ⟨rfl,HB5.out⟩
theorem Qo8 (gd cd gb cb ge ce:Nat) (k:Int) (w:World) (h:Va w gd gb ge ce) (t1 t2:TypeId):∃W,W=(w.alloc (.cells #[.slice (some ⟨gd,0,none⟩) 1 cd,.slice (some ⟨gb,0,none⟩) 1 cb] t1)).alloc (.cells #[.int .i64 k] t2)∧PgB w gd cd gb cb ge ce W∧Bx W (w.heap.size+1) [.int .i64 k]:=by
 obtain ⟨W1,hW1,hX1,hB1⟩:=Qh w (Qs gd cd gb cb) t1;obtain ⟨W2,hW2,hX2,hB2⟩:=Qh W1 [.int .i64 k] t2;have h1:W1.heap.size=w.heap.size+1:=by rw [hW1];simp
 rw [h1] at hX2;exact ⟨W2,by rw [hW2,hW1];rfl,⟨hX1.below hB2,(h.go hB1).go hB2,hB1.trans (hB2.mono hB1.size)⟩,hX2⟩
theorem Vw9 (gd cd gb cb ge ce:Nat) (w:World) (h:Va w gd gb ge ce):Calls prog 147 #[Wl gd cd gb cb,.int .i64 1] w λe w'=>∃g c,e=.returned (.tuple #[.slice (some ⟨g,0,none⟩) 1 c,.int .i64 0])∧Cl w' g Zm∧Below w.heap.size w w':=by
 obtain ⟨W,hW,hP,hK⟩:=Qo8 gd cd gb cb ge ce 1 w h 86 3;have cC:=Du gd cd gb cb ge ce W hP.pr;obtain ⟨y0,y1⟩:=hP.bx.c1;have hl:=hP.bx.lt;have HP:=Hd hP;have HK:=Hd hK;unfold Wl at*;clear h hP hK;go_enter func147,ntmps147
 go_upto_region 1 with fail
 rw [<-hW];clear hW;go_wp2_with fail
 with_reducible refine cC.mono ?_
 clear cC;rintro e w1 ⟨rfl,hb1⟩;have h1:=HP.out.go hb1;have hk1:=HK.out.below hb1;have cD:=Og gd cd w1 h1.pr.decls;have H1:=Hd h1;have HK1:=Hd hk1;clear hb1 y0 y1 hl HP HK;have y0:=h1.bx.cell 0 _ rfl;have hl:=h1.bx.lt;clear h1 hk1;go_wp2_with fail
 with_reducible refine cD.mono ?_
 clear cD;rintro e w2 ⟨g,c,rfl,_,_,hX2,hb2⟩;have hk2:=HK1.out.below hb2;have HB2:=Hd (H1.out.bl.trans (hb2.mono H1.out.bl.size));have cE:=Ou 1 (by decide) (w.heap.size+1) g c w2 (hk2.cell 0 _ rfl) ⟨hX2.lt,hX2.cell⟩;have HX2:=Hd hX2;unfold ofF at cE;clear hb2 y0 hl H1 HK1 hk2 hX2;go_wp2_with fail
 with_reducible refine cE.mono ?_
 clear cE;rintro e _ ⟨rfl,hb3⟩;have HX3:=Hd (HX2.out.below hb3);have HB3:=Ht HB2 hb3;clear hb3;go_wp2_with fail
 go_ret2
 exact ⟨g,c,rfl,⟨HX3.out.lt,HX3.out.cell⟩,HB3.out⟩
theorem Jw3 (gd cd gb cb ge ce:Nat) (w:World) (h:Va w gd gb ge ce):Calls prog 147 #[Wl gd cd gb cb,.int .i64 2] w λe w'=>∃g c,e=.returned (.tuple #[.slice (some ⟨g,0,none⟩) 0 c,.int .i64 0])∧c≤maxLen∧Below w.heap.size w w':=by
 obtain ⟨W,hW,hP,hK⟩:=Qo8 gd cd gb cb ge ce 2 w h 86 3;have cC:=Du gd cd gb cb ge ce W hP.pr;obtain ⟨y0,y1⟩:=hP.bx.c1;have hl:=hP.bx.lt;have HP:=Hd hP;have HK:=Hd hK;unfold Wl at*;clear h hP hK;go_enter func147,ntmps147
 go_upto_region 1 with fail
 rw [<-hW];clear hW;go_wp2_with fail
 with_reducible refine cC.mono ?_
 clear cC;rintro e w1 ⟨rfl,hb1⟩;have h1:=HP.out.go hb1;have hk1:=HK.out.below hb1;have cD:=Og gd cd w1 h1.pr.decls;have H1:=Hd h1;have HK1:=Hd hk1;clear hb1 y0 y1 hl HP HK;have y0:=h1.bx.cell 0 _ rfl;have hl:=h1.bx.lt;clear h1 hk1;go_wp2_with fail
 with_reducible refine cD.mono ?_
 clear cD;rintro e w2 ⟨g,c,rfl,_,hc,hX2,hb2⟩;have hk2:=HK1.out.below hb2;have HB2:=Hd (H1.out.bl.trans (hb2.mono H1.out.bl.size));have cE:=Ic 2 (by decide) (w.heap.size+1) g c w2 hc (hk2.cell 0 _ rfl) hX2;have:=hX2.lt;have:=H1.out.bl.size;unfold ofF at cE;clear hb2 y0 hl H1 HK1 hk2 hX2;have hcm:=hc.2;clear hc;go_wp2_with fail
 with_reducible refine cE.mono ?_
 clear cE;rintro e _ ⟨rfl,hg3⟩;have HB3:=Hd (HB2.out.grown hg3 HB2.out.size (λk e=>by cases e;omega));clear hg3;go_wp2_with fail
 go_ret2
 exact ⟨g,c,rfl,hcm,HB3.out⟩
theorem Ql9 (gd cd gb cb ge ce:Nat) (w:World) (h:Va w gd gb ge ce):Calls prog 86 #[Wl gd cd gb cb] w λe w'=>∃g c,e=.returned (.tuple #[.slice (some ⟨g,0,none⟩) 0 c,.int .i64 0])∧c≤maxLen∧Below w.heap.size w w':=by
 obtain ⟨W,hW,hX,hB⟩:=Qh w (Qs gd cd gb cb) 86;have cC:=Jw3 gd cd gb cb ge ce W (h.go hB);obtain ⟨y0,y1⟩:=hX.c1;have hl:=hX.lt;have HB:=Hd hB;unfold Wl Qs at*;clear h hX hB;go_enter func86,ntmps86
 go_upto_region 1 with fail
 rw [<-hW];clear hW;go_wp2_with fail
 with_reducible refine cC.mono ?_
 clear cC;rintro e _ ⟨g,c,rfl,hg,hb1⟩;have HB1:=Ht HB hb1;clear hb1 y0 y1 hl;go_wp2_with fail
 go_ret2
 exact ⟨g,c,rfl,hg,HB1.out⟩
theorem Zm3 (gd cd gb cb ge ce:Nat) (w:World) (h:Va w gd gb ge ce):Calls prog 85 #[Wl gd cd gb cb] w λe w'=>∃g c,e=.returned (.tuple #[.slice (some ⟨g,0,none⟩) 1 c,.int .i64 0])∧Cl w' g [.string sX]∧(1≤c∧c≤maxLen)∧Below w.heap.size w w':=by
 obtain ⟨W,hW,hX,hB⟩:=Qh w (Qs gd cd gb cb) 86;have cC:=Vw9 gd cd gb cb ge ce W (h.go hB);obtain ⟨y0,y1⟩:=hX.c1;have hl:=hX.lt;have HB:=Hd hB;unfold Wl Qs at*;clear h hX hB;go_enter func85,ntmps85
 go_upto_region 1 with fail
 rw [<-hW];clear hW;go_wp2_with fail
 with_reducible refine cC.mono ?_
 clear cC;rintro e w1 ⟨_,c,rfl,hC1,hb1⟩;have HB1:=Ht HB hb1;clear hb1 y0 y1 hl;have y0:=hC1.2 0 _ rfl;have y1:=hC1.2 1 _ rfl;have hl:=hC1.1;obtain ⟨W2,hW2,hX2,hB2⟩:=Qh w1 Zm 51;have HB2:=Ht HB1 hB2;unfold Zm at hW2;clear hC1 hB2;go_wp2_with fail
 refine wp_loop_rounds 2 ?_;rw [QX];go_upto_region 6 with fail
 rw [<-hW2];clear hW2 y0 y1 hl;have:=hX2.cell 0 _ rfl;have:=hX2.lt;clear hX2;go_wp2_with (at_builtin;refine Ku elStr (W2.alloc (.cells #[.string sX] 9)) rfl (.tmp 20) (.tmp 23) rfl (W2.heap.size+1) none 0 0 [] rfl (QV _ _ _ _) [.string sX] W2.heap.size rfl rfl (cell_one_new _ _ _) (by intro u hu;simp at hu;subst hu;rfl) (by omega) (by simp) ?_;intro A' c' w9 hr9 hb9 hg9;have HR9:=Hd hr9;have HB9:=Hd hb9;clear hr9 hb9 hg9)
 obtain ⟨g,rfl,_,hle,hcl⟩:=Xh HR9.out (by omega);have Hcl:=Hd hcl;clear hcl;rw [QX];go_wp2_with fail
 have hb:=((QK W2.heap.size W2).alloc (ZH _) (.cells #[.string sX] 9)).trans (HB9.out.mono (Nat.le_succ _));go_ret2
 exact ⟨g,c',rfl,⟨hle,λj u hu=>Hcl.out j u (by simpa using hu)⟩,⟨Lv HR9.out,World.ownsRow.capMax HR9.out⟩,(Ht HB2 hb).out⟩
