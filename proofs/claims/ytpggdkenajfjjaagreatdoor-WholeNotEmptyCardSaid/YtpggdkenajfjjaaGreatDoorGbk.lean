/- Lemmas for wholeNotEmpty; no conditions. -/
import Derived.Test.YtpggdkenajfjjaaGreatDoorGbf
import Derived.Test.YtpggdkenajfjjaaGreatDoorGaf
import Derived.Test.YtpggdkenajfjjaaGreatDoorGam
import Derived.Laws.StructEq
import Derived.Handy
import Derived.Deep.DeepCutAuto
import Derived.Deep.CutBlock
import Derived.Outline
set_option linter.all false
set_option maxRecDepth 100000
set_option maxHeartbeats 16000000
namespace Go.Proofs.YtpggdkenajfjjaaGreatDoor
open Go.RowKit Tryz
open Go.Lib renaming hid → Hd
section
open Gn
def Qj (e:Ql):List Value:=[.int .i64 e.fr,.int .i64 e.tg,.int .i64 e.kind,.int .i64 e.dst,.int .i64 e.arr,.int .i64 e.op,.int .i64 e.av,.int .i64 e.an,.int .i64 e.bv,.int .i64 e.bn]
theorem Nn (a b c d:Int) (w:World):(Op.equalIn 10000 54 (.agg #[.int .i64 a,.int .i64 b]) (.agg #[.int .i64 c,.int .i64 d])).run prog w=.ok (decide (a=c∧b=d)) w:=by
 have he:∀a b:Int,∀W:World,(Op.equalIn 9999 3 (.int .i64 a) (.int .i64 b)).run prog W=.ok (a==b) W:=λa b W=>run_equalIn_int W 9998 3 .i64 .i64 a b (by kernel_rfl)
 have he2:∀a b:Int,∀W:World,(Op.equalIn 9999 2 (.int .i64 a) (.int .i64 b)).run prog W=.ok (a==b) W:=λa b W=>run_equalIn_int W 9998 2 .i64 .i64 a b (by kernel_rfl)
 have p0:∀(a b:Int) (W:World),(part 3 #[.int .i64 a,.int .i64 b] 0).run prog W=.ok (.int .i64 a) W:=λ_ _ _=>by kernel_rfl
 have p1:∀(a b:Int) (W:World),(part 2 #[.int .i64 a,.int .i64 b] 1).run prog W=.ok (.int .i64 b) W:=λ_ _ _=>by kernel_rfl
 rw [show (10000:Nat)=9999+1 from rfl,run_equalIn_struct w 9999 54 _ _ (by kernel_rfl) (by kernel_rfl)];simp [Program.fieldsOf,underlying54,Op.eqFields,p0,p1,he,he2,Sem.run_bind]
 by_cases h1:a=c<;>by_cases h2:b=d<;>simp [h1,h2]
theorem Jj4 (w:World):Calls prog 98 #[] w λe w'=>e=.returned (.agg #[.int .i64 (-1),.int .i64 0])∧Below w.heap.size w w':=by
 go_enter func98,ntmps98
 go_wp2
 exact QL (v:=.agg #[.int .i64 (-1),.int .i64 0]) (by simp [results,results98,go_sem]) rfl ⟨rfl,by go_grown⟩
theorem Wz (v x n:Int) (t:Bool) (w:World) (b:Bool) (hb:Vx v x n t=b):Calls prog 48 #[.agg #[.int .i64 v,.int .i64 x],.bool t,.int .i64 n] w λe w'=>e=.returned (.bool b)∧Below w.heap.size w w':=by
 obtain ⟨W,hW,hX,hB⟩:=Qh w [.int .i64 v,.int .i64 x] 54;obtain ⟨x0,x1⟩:=hX.c1;have:=hX.lt;have HB:=Hd hB;clear hX hB;cases t
 .have hb:decide (v=-1∧x=0)=b:=hb;have cN:=λW=>Jj4 W
  have qe:=λW=>Nn v x (-1) 0 W
  rw [hb] at qe;have a0:=Qz.cell x0;have a1:=Qz.cell x1;clear hb;go_enter func48,ntmps48
  go_wp2_with fail
  rw [<-hW];clear hW;refine Qk (by kernel_rfl) (by kernel_rfl) ?_
  repeat (go_big_quiet_step ((go_at_call 98;with_reducible exact Qd (cN _))))
  refine wpQuiet_nil ?_;intro w2 hb2;have HB2:=Ht HB hb2;clear hb2 a0 a1 qe cN;go_wp2_with fail
  go_ret
  exact ⟨rfl,HB2.out⟩
 have hb:(decide (v=-1)||(decide (0≤v∧v<n)&&decide (x=0)))=b:=hb;by_cases h1:v=-1
 .subst h1;have hb:true=b:=by simpa using hb
  subst hb;go_enter func48,ntmps48
  go_wp2_with fail
  rw [<-hW];clear hW;go_wp2
  go_ret
  exact ⟨rfl,HB.out⟩
 rw [ZA h1,Bool.false_or] at hb;have:(v==-1)=false:=by simpa using h1
 by_cases h2:0≤v
 .have q2:decide (0≤v)=true:=ZE h2;by_cases h3:v<n
  focus
   have q3:decide (v<n)=true:=ZE h3;rw [ZE (show 0≤v∧v<n from ⟨h2,h3⟩),Bool.true_and] at hb;have:(x==0)=b:=by rw [<-hb];rfl
   clear hb h1 h2 h3
  rotate_left
  focus
   have q3:decide (v<n)=false:=ZA h3;rw [ZA (show ¬(0≤v∧v<n) from λk=>h3 k.2),Bool.false_and] at hb;subst hb;clear h1 h2 h3
  all_goals
   go_enter func48,ntmps48
   go_wp2_with fail
   rw [<-hW];clear hW;go_wp2
   go_ret
   exact ⟨rfl,HB.out⟩
 have q2:decide (0≤v)=false:=ZA h2;rw [ZA (show ¬(0≤v∧v<n) from λk=>h2 k.1),Bool.false_and] at hb;subst hb;clear h1 h2;go_enter func48,ntmps48
 go_wp2_with fail
 rw [<-hW];clear hW;go_wp2
 go_ret
 exact ⟨rfl,HB.out⟩
theorem Zb6 {n a:Int} {e:Ql} {b:Bool} (h:Uv n a e=b):(decide (1≤e.kind∧e.kind≤14)&&(Zn (kD e.kind) (decide (0≤e.dst∧e.dst<n)) (decide (e.dst=-1))&&(Zn (kR e.kind) (decide (0≤e.arr∧e.arr<a)) (decide (e.arr=-1))&&
 (Zn (kO e.kind) (decide (1≤e.op∧e.op≤6)) (decide (e.op=0))&&(Vx e.av e.an n (kA e.kind)&&Vx e.bv e.bn n (kB e.kind))))))=b:=h
theorem eqk {x k j:Int} (h:x=k):(x==j)=(k==j):=by rw [h]
theorem Zj8 (e:Ql) (n a:Int) (b:Bool) (hb:Uv n a e=b) (w:World):Calls prog 16 #[.agg (Qj e).toArray,.int .i64 n,.int .i64 a] w λe w'=>e=.returned (.bool b)∧Below w.heap.size w w':=by
 obtain ⟨W,hW,hX,hB⟩:=Qh w (Qj e) 56;obtain ⟨x0,x1,x2,x3,x4,x5,x6,x7,x8,x9⟩:=hX.c9;have hl:=hX.lt;have HX:=Hd hX;have HB:=Hd hB;clear hX hB;unfold Qj at hW |-
 go_enter func16,ntmps16
 go_upto_block 0 with fail
 rw [<-hW];clear hW;have hr:=Hd (Zb6 hb);clear hb;go_cut [7,8,9] (λs7 s8 s9 wx=>Hid (decide (1≤e.kind∧e.kind≤14)=true)∧∃d f g,Hid (kD e.kind=d)∧Hid (kA e.kind=f)∧Hid (kB e.kind=g)∧s7=.bool d∧s8=.bool f∧s9=.bool g∧W=wx)
 case first=>
  clear x0 x1 x3 x4 x5 x6 x7 x8 x9;by_cases hk:1≤e.kind∧e.kind≤14
  .rcases (show e.kind=1∨e.kind=2∨e.kind=3∨e.kind=4∨e.kind=5∨e.kind=6∨e.kind=7∨e.kind=8∨e.kind=9∨e.kind=10∨e.kind=11∨e.kind=12∨e.kind=13∨e.kind=14 by omega) with h|h|h|h|h|h|h|h|h|h|h|h|h|h
   all_goals
    have q1:=eqk (j:=1) h;have q2:=eqk (j:=2) h;have q3:=eqk (j:=3) h;have q4:=eqk (j:=4) h;have q5:=eqk (j:=5) h;have q6:=eqk (j:=6) h;have q7:=eqk (j:=7) h;have q8:=eqk (j:=8) h;have q9:=eqk (j:=9) h;have q10:=eqk (j:=10) h;have q11:=eqk (j:=11) h;have q12:=eqk (j:=12) h;have q13:=eqk (j:=13) h;have q14:=eqk (j:=14) h;have HK:=Hd h;have HK2:=Hd (ZE hk);clear hk hr h;as_aux_lemma=>
     go_wp2_with fail
     go_meet
     exact ⟨HK2,_,_,_,Hd (by rw [HK.out];rfl),Hd (by rw [HK.out];rfl),Hd (by rw [HK.out];rfl),rfl,rfl,rfl,rfl⟩
  have hf:false=b:=by have:=hr.out;rw [ZA hk,Bool.false_and] at this;exact this
  subst hf;obtain ⟨k,hk2⟩:∃k,k=e.kind:=⟨_,rfl⟩;rw [<-hk2] at x2 hk |-
  clear hk2 hr;have q1:(k==1)=false:=by simp;omega
  have q2:(k==2)=false:=by simp;omega
  have q3:(k==3)=false:=by simp;omega
  have q4:(k==4)=false:=by simp;omega
  have q5:(k==5)=false:=by simp;omega
  have q6:(k==6)=false:=by simp;omega
  have q7:(k==7)=false:=by simp;omega
  have q8:(k==8)=false:=by simp;omega
  have q9:(k==9)=false:=by simp;omega
  have q10:(k==10)=false:=by simp;omega
  have q11:(k==11)=false:=by simp;omega
  have q12:(k==12)=false:=by simp;omega
  have q13:(k==13)=false:=by simp;omega
  have q14:(k==14)=false:=by simp;omega
  clear hk;as_aux_lemma=>
   go_wp2_with fail
   go_ret
   exact ⟨rfl,HB.out⟩
 obtain ⟨hk1,d,f,g,hd,hf,hg,rfl,rfl,rfl,rfl⟩:=hcut;have hr1:=Hd (show (Zn d (decide (0≤e.dst∧e.dst<n)) (decide (e.dst=-1))&&(Zn (kR e.kind) (decide (0≤e.arr∧e.arr<a)) (decide (e.arr=-1))&&(Zn (kO e.kind) (decide (1≤e.op∧e.op≤6)) (decide (e.op=0))&&(Vx e.av e.an n f&&Vx e.bv e.bn n g))))=b by
  have:=hr.out;rw [hk1.out,Bool.true_and,hd.out,hf.out,hg.out] at this;exact this)
 clear hr hd hf hg hk1;go_upto_region 23 with fail
 go_cut [53] (λs wx=>s=.bool (!Zn d (decide (0≤e.dst∧e.dst<n)) (decide (e.dst=-1)))∧W=wx)
 case first=>
  clear x0 x1 x2 x4 x5 x6 x7 x8 x9;clear hr1;cases d
  .by_cases h:e.dst=-1
   focus
    have q:(e.dst !=-1)=false:=by simpa using h
    have HR:Hid (Zn false (decide (0≤e.dst∧e.dst<n)) (decide (e.dst=-1))=true):=Hd (ZE h)
   rotate_left
   focus
    have q:(e.dst !=-1)=true:=by simpa using h
    have HR:Hid (Zn false (decide (0≤e.dst∧e.dst<n)) (decide (e.dst=-1))=false):=Hd (ZA h)
   all_goals
    clear h;as_aux_lemma=>
     go_wp2_with fail
     go_meet
     exact ⟨by rw [HR.out];rfl,rfl⟩
  by_cases h:0≤e.dst
  .have q:decide (e.dst<0)=false:=by simpa using h
   by_cases h2:e.dst<n
   focus
    have q2:decide (n≤e.dst)=false:=by simpa using h2
    have HR:Hid (Zn true (decide (0≤e.dst∧e.dst<n)) (decide (e.dst=-1))=true):=Hd (ZE ⟨h,h2⟩)
   rotate_left
   focus
    have q2:decide (n≤e.dst)=true:=by simpa using h2
    have HR:Hid (Zn true (decide (0≤e.dst∧e.dst<n)) (decide (e.dst=-1))=false):=Hd (ZA (λk=>h2 k.2))
   all_goals
    clear h h2;as_aux_lemma=>
     go_wp2_with fail
     go_meet
     exact ⟨by rw [HR.out];rfl,rfl⟩
  have q:decide (e.dst<0)=true:=by simpa using h
  have HR:Hid (Zn true (decide (0≤e.dst∧e.dst<n)) (decide (e.dst=-1))=false):=Hd (ZA (λk=>h k.1));clear h;as_aux_lemma=>
   go_wp2_with fail
   go_meet
   exact ⟨by rw [HR.out];rfl,rfl⟩
 obtain ⟨rfl,rfl⟩:=hcut;cases ht:Zn d (decide (0≤e.dst∧e.dst<n)) (decide (e.dst=-1))
 .have hf:false=b:=by have:=hr1.out;rw [ht,Bool.false_and] at this;exact this
  subst hf;clear ht hr1;as_aux_lemma=>
   go_wp2_with fail
   go_ret
   exact ⟨rfl,HB.out⟩
 have hr2:=Hd (show (Zn (kR e.kind) (decide (0≤e.arr∧e.arr<a)) (decide (e.arr=-1))&&(Zn (kO e.kind) (decide (1≤e.op∧e.op≤6)) (decide (e.op=0))&&(Vx e.av e.an n f&&Vx e.bv e.bn n g)))=b by have:=hr1.out;rw [ht,Bool.true_and] at this;exact this);clear hr1 ht;go_upto_region 25 with fail
 go_cut [10] (λs wx=>(∃r,Hid (kR e.kind=r)∧s=.bool r)∧W=wx)
 case first=>
  clear x0 x1 x3 x4 x5 x6 x7 x8 x9 hr2;by_cases h:e.kind=10
  .have q:(e.kind==10)=true:=by simpa using h
   have HR:=Hd h;clear h;as_aux_lemma=>
    go_wp2_with fail
    go_meet
    exact ⟨⟨_,Hd (by rw [HR.out];rfl),rfl⟩,rfl⟩
  have q:(e.kind==10)=false:=by simpa using h
  have q2:(e.kind==11)=kR e.kind:=by unfold kR;simp [h];rfl
  clear h;as_aux_lemma=>
   go_wp2_with fail
   go_meet
   exact ⟨⟨_,Hd rfl,rfl⟩,rfl⟩
 obtain ⟨⟨r,hR,rfl⟩,rfl⟩:=hcut;have hr2:=Hd (show (Zn r (decide (0≤e.arr∧e.arr<a)) (decide (e.arr=-1))&&(Zn (kO e.kind) (decide (1≤e.op∧e.op≤6)) (decide (e.op=0))&&(Vx e.av e.an n f&&Vx e.bv e.bn n g)))=b by have:=hr2.out;rw [hR.out] at this;exact this);clear hR;go_upto_region 26 with fail
 go_cut [82] (λs wx=>s=.bool (!Zn r (decide (0≤e.arr∧e.arr<a)) (decide (e.arr=-1)))∧W=wx)
 case first=>
  clear x0 x1 x2 x3 x5 x6 x7 x8 x9;clear hr2;cases r
  .by_cases h:e.arr=-1
   focus
    have q:(e.arr !=-1)=false:=by simpa using h
    have HR:Hid (Zn false (decide (0≤e.arr∧e.arr<a)) (decide (e.arr=-1))=true):=Hd (ZE h)
   rotate_left
   focus
    have q:(e.arr !=-1)=true:=by simpa using h
    have HR:Hid (Zn false (decide (0≤e.arr∧e.arr<a)) (decide (e.arr=-1))=false):=Hd (ZA h)
   all_goals
    clear h;as_aux_lemma=>
     go_wp2_with fail
     go_meet
     exact ⟨by rw [HR.out];rfl,rfl⟩
  by_cases h:0≤e.arr
  .have q:decide (e.arr<0)=false:=by simpa using h
   by_cases h2:e.arr<a
   focus
    have q2:decide (a≤e.arr)=false:=by simpa using h2
    have HR:Hid (Zn true (decide (0≤e.arr∧e.arr<a)) (decide (e.arr=-1))=true):=Hd (ZE ⟨h,h2⟩)
   rotate_left
   focus
    have q2:decide (a≤e.arr)=true:=by simpa using h2
    have HR:Hid (Zn true (decide (0≤e.arr∧e.arr<a)) (decide (e.arr=-1))=false):=Hd (ZA (λk=>h2 k.2))
   all_goals
    clear h h2;as_aux_lemma=>
     go_wp2_with fail
     go_meet
     exact ⟨by rw [HR.out];rfl,rfl⟩
  have q:decide (e.arr<0)=true:=by simpa using h
  have HR:Hid (Zn true (decide (0≤e.arr∧e.arr<a)) (decide (e.arr=-1))=false):=Hd (ZA (λk=>h k.1));clear h;as_aux_lemma=>
   go_wp2_with fail
   go_meet
   exact ⟨by rw [HR.out];rfl,rfl⟩
 obtain ⟨rfl,rfl⟩:=hcut;cases ht:Zn r (decide (0≤e.arr∧e.arr<a)) (decide (e.arr=-1))
 .have hf:false=b:=by have:=hr2.out;rw [ht,Bool.false_and] at this;exact this
  subst hf;clear ht hr2;as_aux_lemma=>
   go_wp2_with fail
   go_ret
   exact ⟨rfl,HB.out⟩
 have hr3:=Hd (show (Zn (kO e.kind) (decide (1≤e.op∧e.op≤6)) (decide (e.op=0))&&(Vx e.av e.an n f&&Vx e.bv e.bn n g))=b by have:=hr2.out;rw [ht,Bool.true_and] at this;exact this);clear hr2 ht;go_upto_region 28 with fail
 go_cut [105] (λs wx=>s=.bool (!Zn (kO e.kind) (decide (1≤e.op∧e.op≤6)) (decide (e.op=0)))∧W=wx)
 case first=>
  clear x0 x1 x3 x4 x6 x7 x8 x9;clear hr3;by_cases hk:e.kind=12
  .have q0:(e.kind==12)=true:=by simpa using hk
   have q9:(e.kind !=12)=false:=by simpa using hk
   have ho:kO e.kind=true:=by rw [hk];rfl
   clear hk;by_cases h:1≤e.op
   .have q:decide (e.op<1)=false:=by simpa using h
    by_cases h2:e.op≤6
    focus
     have q2:decide (6<e.op)=false:=by simpa using h2
     have HR:Hid (Zn (kO e.kind) (decide (1≤e.op∧e.op≤6)) (decide (e.op=0))=true):=Hd (by rw [ho];exact ZE ⟨h,h2⟩)
    rotate_left
    focus
     have q2:decide (6<e.op)=true:=by simpa using h2
     have HR:Hid (Zn (kO e.kind) (decide (1≤e.op∧e.op≤6)) (decide (e.op=0))=false):=Hd (by rw [ho];exact ZA (λk=>h2 k.2))
    all_goals
     clear h h2 ho;as_aux_lemma=>
      go_wp2_with fail
      go_meet
      exact ⟨by rw [HR.out];rfl,rfl⟩
   have q:decide (e.op<1)=true:=by simpa using h
   have HR:Hid (Zn (kO e.kind) (decide (1≤e.op∧e.op≤6)) (decide (e.op=0))=false):=Hd (by rw [ho];exact ZA (λk=>h k.1));clear h ho;as_aux_lemma=>
    go_wp2_with fail
    go_meet
    exact ⟨by rw [HR.out];rfl,rfl⟩
  have q0:(e.kind==12)=false:=by simpa using hk
  have q9:(e.kind !=12)=true:=by simpa using hk
  have ho:kO e.kind=false:=by unfold kO;simpa using hk
  clear hk;by_cases h:e.op=0
  focus
   have q:(e.op !=0)=false:=by simpa using h
   have HR:Hid (Zn (kO e.kind) (decide (1≤e.op∧e.op≤6)) (decide (e.op=0))=true):=Hd (by rw [ho];exact ZE h)
  rotate_left
  focus
   have q:(e.op !=0)=true:=by simpa using h
   have HR:Hid (Zn (kO e.kind) (decide (1≤e.op∧e.op≤6)) (decide (e.op=0))=false):=Hd (by rw [ho];exact ZA h)
  all_goals
   clear h ho;as_aux_lemma=>
    go_wp2_with fail
    go_meet
    exact ⟨by rw [HR.out];rfl,rfl⟩
 obtain ⟨rfl,rfl⟩:=hcut;cases ht:Zn (kO e.kind) (decide (1≤e.op∧e.op≤6)) (decide (e.op=0))
 .have hf:false=b:=by have:=hr3.out;rw [ht,Bool.false_and] at this;exact this
  subst hf;clear ht hr3;as_aux_lemma=>
   go_wp2_with fail
   go_ret
   exact ⟨rfl,HB.out⟩
 have hr4:=Hd (show (Vx e.av e.an n f&&Vx e.bv e.bn n g)=b by have:=hr3.out;rw [ht,Bool.true_and] at this;exact this);clear hr3 ht;cases hA:Vx e.av e.an n f
 .have hf:false=b:=by have:=hr4.out;rw [hA,Bool.false_and] at this;exact this
  subst hf;have c1:=λW=>Wz e.av e.an n f W _ hA
  clear hr4 hA;go_wp2_with fail
  with_reducible refine (c1 _).mono ?_
  rintro e1 w1 ⟨rfl,hb1⟩;go_wp2_with fail
  go_ret
  exact ⟨rfl,(Ht HB hb1).out⟩
 have hB2:Vx e.bv e.bn n g=b:=by have:=hr4.out;rw [hA,Bool.true_and] at this;exact this
 have c1:=λW=>Wz e.av e.an n f W _ hA
 have c2:=λW=>Wz e.bv e.bn n g W _ hB2
 clear hr4 hA hB2;go_wp2_with fail
 with_reducible refine (c1 _).mono ?_
 rintro e1 w1 ⟨rfl,hb1⟩;have hX1:=HX.out.below hb1;have HB1:=Ht HB hb1;clear hb1 x0 x1 x2 x3 x4 x5 x6 x7 x8 x9 HX HB hl;have x8:=hX1.cell 8 _ rfl;have x9:=hX1.cell 9 _ rfl;have hl:=hX1.lt;clear hX1;go_wp2_with fail
 with_reducible refine (c2 _).mono ?_
 rintro _ _ ⟨rfl,hb2⟩;have HB2:=Ht HB1 hb2;clear hb2;go_wp2_with fail
 go_ret
 exact ⟨rfl,HB2.out⟩
structure GM where
 va:Option Addr
 vc:Nat
 aa:Option Addr
 ac:Nat
 ea:Option Addr
 ec:Nat
def Qt (m:GM) (g:Zv):List Value:=[.slice m.va g.nv m.vc,.int .i64 g.temps,.slice m.aa g.sizes.length m.ac,.int .i64 g.points,.int .i64 g.exit,.slice m.ea g.edges.length m.ec]
def Jm (m:GM) (g:Zv):Value:=.agg (Qt m g).toArray
theorem Gg (m:GM) (g:Zv) (p:Int) (b:Bool) (hb:decide (0≤p∧p<g.points)=b) (w:World):Calls prog 62 #[Jm m g,.int .i64 p] w λe w'=>e=.returned (.bool b)∧Below w.heap.size w w':=by
 by_cases h:0≤p
 focus
  have q1:decide (0≤p)=true:=ZE h;have q2:decide (p<g.points)=b:=by rw [<-hb];simp [h]
 rotate_left
 focus
  have q1:decide (0≤p)=false:=ZA h;have q2:false=b:=by rw [<-hb];simp [h]
  subst q2
 all_goals
  clear hb h;unfold Jm Qt;go_enter func62,ntmps62
  go_wp2
  go_ret
  exact ⟨rfl,by go_grown⟩
theorem Wy (m:GM) (g:Zv) (p:Int) (b:Bool) (h0:0≤g.temps) (h1:g.temps≤64) (h2:g.nv≤64) (hb:decide (0≤p∧p<g.n)=b) (w:World):Calls prog 114 #[Jm m g,.int .i64 p] w λe w'=>e=.returned (.bool b)∧Below w.heap.size w w':=by
 unfold Zv.n at hb;by_cases h:0≤p
 focus
  have q1:decide (0≤p)=true:=ZE h;have q2:decide (p<g.nv+g.temps)=b:=by rw [<-hb];simp [h]
 rotate_left
 focus
  have q1:decide (0≤p)=false:=ZA h;have q2:false=b:=by rw [<-hb];simp [h]
  subst q2
 all_goals
  clear hb h;unfold Jm Qt;go_enter func114,ntmps114
  go_wp2
  go_ret
  exact ⟨rfl,by go_grown⟩
theorem Zn5 (m:GM) (g:Zv) (p:Int) (b:Bool) (hb:decide (0≤p∧p<g.sizes.length)=b) (w:World):Calls prog 115 #[Jm m g,.int .i64 p] w λe w'=>e=.returned (.bool b)∧Below w.heap.size w w':=by
 by_cases h:0≤p
 focus
  have q1:decide (0≤p)=true:=ZE h;have q2:decide (p<(g.sizes.length:Int))=b:=by rw [<-hb];simp [h]
 rotate_left
 focus
  have q1:decide (0≤p)=false:=ZA h;have q2:false=b:=by rw [<-hb];simp [h]
  subst q2
 all_goals
  clear hb h;unfold Jm Qt;go_enter func115,ntmps115
  go_wp2
  go_ret
  exact ⟨rfl,by go_grown⟩
theorem Vr8 (m:GM) (g:Zv) (v x:Int) (b:Bool) (h0:0≤g.temps) (h1:g.temps≤64) (h2:g.nv≤64) (hb:Vx v x g.n true=b) (w:World):Calls prog 116 #[Jm m g,.agg #[.int .i64 v,.int .i64 x]] w λe w'=>e=.returned (.bool b)∧Below w.heap.size w w':=by
 have hb:(decide (v=-1)||(decide (0≤v∧v<g.n)&&decide (x=0)))=b:=hb;by_cases hv:v=-1
 .subst hv;have hb:true=b:=by simpa using hb
  subst hb;unfold Jm Qt;go_enter func116,ntmps116
  go_wp2
  go_ret
  exact ⟨rfl,by go_grown⟩
 have:(v==-1)=false:=by simpa using hv
 rw [ZA hv,Bool.false_or] at hb;obtain ⟨W1,hW1,hX1,hB1⟩:=Qh w (Qt m g) 123;obtain ⟨_,hW2,hX2,hB2⟩:=Qh W1 [.int .i64 v,.int .i64 x] 54;have hX:=hX1.below hB2;have hs:W1.heap.size=w.heap.size+1:=by rw [hW1];simp
 have HB:=Hd (hB1.trans (hB2.mono hB1.size));rw [hW1] at hW2;clear hX1 hB1 hB2 hW1;rw [hs] at hX2;clear hs;cases hc:decide (0≤v∧v<g.n)
 .have hf:false=b:=by rw [hc] at hb;simpa using hb
  subst hf;have cV:=λW=>Wy m g v _ h0 h1 h2 hc W
  obtain ⟨x0,x1,x2,x3,x4,x5⟩:=hX.c5;obtain ⟨y0,y1⟩:=hX2.c1;have hl:=hX.lt;have hl2:=hX2.lt;clear hX hX2 hb hc hv h0 h1 h2;unfold Jm Qt at*;go_enter func116,ntmps116
  go_upto_region 1 with fail
  rw [<-hW2];clear hW2;go_wp2_with fail
  with_reducible refine (cV _).mono ?_
  rintro e w1 ⟨rfl,hb1⟩;have HB1:=Ht HB hb1;clear hb1;go_wp2_with fail
  go_ret
  exact ⟨rfl,HB1.out⟩
 have hf:decide (x=0)=b:=by rw [hc] at hb;simpa using hb
 have:(x==0)=b:=by rw [<-hf];rfl
 have cV:=λW=>Wy m g v _ h0 h1 h2 hc W
 obtain ⟨x0,x1,x2,x3,x4,x5⟩:=hX.c5;obtain ⟨y0,y1⟩:=hX2.c1;have hl:=hX.lt;have hl2:=hX2.lt;clear hX hb hc hv h0 h1 h2 hf;have HX2:=Hd hX2;clear hX2;unfold Jm Qt at*;go_enter func116,ntmps116
 go_upto_region 1 with fail
 rw [<-hW2];clear hW2;go_wp2_with fail
 with_reducible refine (cV _).mono ?_
 rintro e w1 ⟨rfl,hb1⟩;have HB1:=Ht HB hb1;have hX3:=HX2.out.below hb1;clear hb1 x0 x1 x2 x3 x4 x5 y0 y1 hl hl2 HX2;have y1:=hX3.cell 1 _ rfl;have hl:=hX3.lt;clear hX3;go_wp2_with fail
 go_ret
 exact ⟨rfl,HB1.out⟩
def Gx (k:Int):Value:=.agg #[.bool (kD k),.bool (kR k),.bool (kO k),.bool (kA k),.bool (kB k)]
theorem Qt8 (k:Int) (hk:1≤k∧k≤14) (w:World):Calls prog 112 #[.int .i64 k] w λe w'=>e=.returned (Gx k)∧Below w.heap.size w w':=by
 unfold Gx;rcases (show k=1∨k=2∨k=3∨k=4∨k=5∨k=6∨k=7∨k=8∨k=9∨k=10∨k=11∨k=12∨k=13∨k=14 by omega) with rfl|rfl|rfl|rfl|rfl|rfl|rfl|rfl|rfl|rfl|rfl|rfl|rfl|rfl
 all_goals
  as_aux_lemma=>
   go_enter func112,ntmps112
   go_wp2
   exact QL (by simp [results,results112,go_sem];decide) rfl ⟨rfl,by go_grown⟩
theorem Cw (a b c r:Bool) (h:Zn a b c=r) (w:World):Calls prog 113 #[.bool a,.bool b,.bool c] w λe w'=>e=.returned (.bool r)∧w=w':=by
 cases a
 .have h:c=r:=h;subst h;go_enter func113,ntmps113
  go_wp2
  go_ret
  exact ⟨rfl,rfl⟩
 have h:b=r:=h;subst h;go_enter func113,ntmps113
 go_wp2
 go_ret
 exact ⟨rfl,rfl⟩
theorem He (w:World):Calls prog 117 #[] w λe w'=>e=.returned (.agg #[.int .i64 (-1),.int .i64 0])∧Below w.heap.size w w':=by
 go_enter func117,ntmps117
 go_wp2
 exact QL (v:=.agg #[.int .i64 (-1),.int .i64 0]) (by simp [results,results117,go_sem]) rfl ⟨rfl,by go_grown⟩
structure Hg (w:World) (m:GM) (g:Zv):Prop where
 edges:0<g.edges.length->∃b off,m.ea=some ⟨b,off,none⟩∧b<w.heap.size∧∀i,i<g.edges.length->∀j u,(Qj (Qx g.edges i))[j]? =some u->w.cell? ⟨b,off+i*10+j,none⟩=some u
 arrs:0<g.sizes.length->∃b off,m.aa=some ⟨b,off,none⟩∧b<w.heap.size∧∀i,i<g.sizes.length->w.cell? ⟨b,off+i*2+1,none⟩=some (.int .i64 (Qe g.sizes i))
 ce:g.edges.length≤m.ec∧m.ec≤maxLen
 ca:g.sizes.length≤m.ac∧m.ac≤maxLen
 cv:g.nv≤m.vc∧m.vc≤maxLen
 it:Zu g.temps
 ip:Zu g.points
 ix:Zu g.exit
 ie:∀i,i<g.edges.length->∀(j:Nat) (n:Int),(Qj (Qx g.edges i))[j]? =some (Value.int .i64 n)->Zu n
 is:∀i,i<g.sizes.length->Zu (Qe g.sizes i)
theorem Hg.go {w w':World} {m:GM} {g:Zv} (h:Hg w m g) (hb:Below w.heap.size w w'):Hg w' m g:=by
 refine ⟨λhn=>?_,λhn=>?_,h.ce,h.ca,h.cv,h.it,h.ip,h.ix,h.ie,h.is⟩
 .obtain ⟨b,off,e,hl,hc⟩:=h.edges hn;exact ⟨b,off,e,ZI hl hb.size,λi hi j u hu=>Qq hb (hc i hi j u hu)⟩
 obtain ⟨b,off,e,hl,hc⟩:=h.arrs hn;exact ⟨b,off,e,ZI hl hb.size,λi hi=>Qq hb (hc i hi)⟩
structure Gr (w:World) (b o:Nat) (e:Ql):Prop where
 c0:w.cell? ⟨b,o,none⟩=some (.int .i64 e.fr)
 c1:w.cell? ⟨b,o+1,none⟩=some (.int .i64 e.tg)
 c2:w.cell? ⟨b,o+2,none⟩=some (.int .i64 e.kind)
 c3:w.cell? ⟨b,o+3,none⟩=some (.int .i64 e.dst)
 c4:w.cell? ⟨b,o+4,none⟩=some (.int .i64 e.arr)
 c5:w.cell? ⟨b,o+5,none⟩=some (.int .i64 e.op)
 c6:w.cell? ⟨b,o+6,none⟩=some (.int .i64 e.av)
 c7:w.cell? ⟨b,o+7,none⟩=some (.int .i64 e.an)
 c8:w.cell? ⟨b,o+8,none⟩=some (.int .i64 e.bv)
 c9:w.cell? ⟨b,o+9,none⟩=some (.int .i64 e.bn)
theorem Gr.of {w:World} {b o:Nat} {e:Ql} (h:∀j u,(Qj e)[j]? =some u->w.cell? ⟨b,o+j,none⟩=some u):Gr w b o e:=
 ⟨h 0 _ rfl,h 1 _ rfl,h 2 _ rfl,h 3 _ rfl,h 4 _ rfl,h 5 _ rfl,h 6 _ rfl,h 7 _ rfl,h 8 _ rfl,h 9 _ rfl⟩
theorem Gr.go {w w':World} {b o:Nat} {e:Ql} (h:Gr w b o e) (hb:Below w.heap.size w w'):Gr w' b o e:=
 ⟨Qq hb h.c0,Qq hb h.c1,Qq hb h.c2,Qq hb h.c3,Qq hb h.c4,Qq hb h.c5,Qq hb h.c6,Qq hb h.c7,Qq hb h.c8,Qq hb h.c9⟩
theorem Hg.edge {w:World} {m:GM} {g:Zv} (h:Hg w m g) {i:Nat} (hi:i<g.edges.length):∃b off,m.ea=some ⟨b,off,none⟩∧b<w.heap.size∧Gr w b (off+i*10) (Qx g.edges i):=by
 obtain ⟨b,off,e,hl,hc⟩:=h.edges (by omega);exact ⟨b,off,e,hl,.of (hc i hi)⟩
theorem Jn1 (a:Ql):Ut [a]=(a.kind !=12):=by
 show decide (a.kind≠12)=_
 by_cases h:a.kind=12<;>simp [h]
theorem Jq1 {es:List Ql} (h:3≤es.length):Ut es=false:=by
 match es,h with
 |_::_::_::_,_=>rfl
def Rh (l:List Nat) (i:Nat):Nat:=l.getD i 0
def Dn (l:List Nat):List Int:=l.map (λk:Nat=>(k:Int))
theorem Qb9 {l:List Nat} {i:Nat}:Qe (Dn l) i=(Rh l i:Int):=by
 unfold Qe Dn Rh;simp only [ZG,List.getElem?_map];cases l[i]?<;>simp
theorem Cq {l:List Nat}:(Dn l).length=l.length:=by simp [Dn]
theorem Vk1 {l:List Nat} {es:List Ql} (h:l.length=2):l.map (Qx es)=[Qx es (Rh l 0),Qx es (Rh l 1)]:=by
 match l,h with
 |[a,b],_=>rfl
theorem Vx6 {l:List Nat} {es:List Ql} (h:l.length=1):l.map (Qx es)=[Qx es (Rh l 0)]:=by
 match l,h with
 |[a],_=>rfl
theorem Zr5 (m:GM) (g:Zv) (A:Option Addr) (c:Nat) (l:List Nat) (b:Bool) (hb:Ut (l.map (Qx g.edges))=b) (w:World) (hG:Hg w m g) (hA:Rd w w.heap.size .i64 A (Dn l).length (Qe (Dn l))) (hl:∀i,i<l.length->Rh l i<g.edges.length):
 Calls prog 17 #[Jm m g,.slice A l.length c] w λe w'=>e=.returned (.bool b)∧Below w.heap.size w w':=by
 have hem:(g.edges.length:Int)≤9223372036854775807:=by have:=hG.ce;unfold maxLen at this;omega
 have hW0:Hid (Qt m g=Qt m g):=Hd rfl;obtain ⟨W,hW,hX,hB⟩:=Qh w (Qt m g) 26;have hG1:=hG.go hB;have hA1:Rd W w.heap.size .i64 A (Dn l).length (Qe (Dn l)):=hA.keep (λp hp=>hB.cell hp);have x5:=hX.cell 5 _ rfl;have hlt:=hX.lt;have HB:=Hd hB;have HX:=Hd hX;clear hX hB hG hA hW0;rw [Cq] at hA1;unfold Jm Qt at*;by_cases h0:l.length=0
 .have hb0:true=b:=by rw [<-hb,QE h0];rfl
  subst hb0;clear hA1 hl hb hG1;generalize l.length=ll at*;subst h0;go_enter func17,ntmps17
  go_wp2_with fail
  rw [<-hW];clear hW;go_wp2
  go_ret
  exact ⟨rfl,HB.out⟩
 by_cases h1:l.length=1
 .rw [Vx6 h1,Jn1] at hb;obtain ⟨lb,lo,rfl,hlb,hc⟩:=hA1 (by omega);have k0:=hc 0 (by omega);rw [Qb9,Nat.add_zero] at k0;have hi:=hl 0 (by omega);obtain ⟨eb,eo,he,hle,hE⟩:=hG1.edge hi;generalize Rh l 0=i0 at*;generalize Qx g.edges i0=ed at*;generalize g.edges.length=el at*;rw [he] at x5 hW |-
  clear hc hl hG1 he h0;generalize l.length=ll at*;subst h1;obtain ⟨e0,e1,e2,e3,e4,e5,e6,e7,e8,e9⟩:=hE;have hlb2:lb<W.heap.size:=by omega
  have q0:(i0:Int)<(el:Int):=by omega
  have q1:(0:Int)≤(i0:Int):=by omega
  clear hi;go_enter func17,ntmps17
  go_wp2_with fail
  rw [<-hW];clear hW;go_region
  all_goals
   go_wp2
   go_ret
   exact ⟨rfl,HB.out.trans (Below.mono (B:=W.heap.size) (by go_grown) HB.out.size)⟩
 have hgt:2≤l.length:=by omega
 obtain ⟨lb,lo,rfl,hlb,hc⟩:=hA1 (by omega);have k0:=hc 0 (by omega);have k1:=hc 1 (by omega);rw [Qb9,Nat.add_zero] at k0;rw [Qb9] at k1;have hi:=hl 0 (by omega);have hj:=hl 1 (by omega);obtain ⟨eb,eo,he,hle,hE⟩:=hG1.edge hi;obtain ⟨eb2,eo2,he2,hle2,hF⟩:=hG1.edge hj;obtain ⟨rfl,rfl⟩:eb2=eb∧eo2=eo:=by rw [he] at he2;injection he2 with h;injection h with h1 h2;exact ⟨h1.symm,h2.symm⟩
 have hb2:Hid (l.length=2->Ut [Qx g.edges (Rh l 0),Qx g.edges (Rh l 1)]=b):=Hd (λh=>by rw [Vk1 h] at hb;exact hb);have hb3:Hid (l.length≠2->false=b):=Hd (λh=>by rw [<-hb,Jq1 (by simp;omega)]);generalize Rh l 0=i0 at*;generalize Rh l 1=i1 at*;generalize Qx g.edges i0=ed at*;generalize Qx g.edges i1=fd at*;generalize g.edges.length=el at*;rw [he] at x5 hW |-
 clear hc hl hG1 he he2 hle2 h0 h1 hb;generalize l.length=ll at*;obtain ⟨e0,e1,e2,e3,e4,e5,e6,e7,e8,e9⟩:=hE;have HF:=Hd hF;have K1:=Hd k1;clear hF k1;have hlb2:lb<W.heap.size:=by omega
 have q0:(i0:Int)<(el:Int):=by omega
 have q1:(0:Int)≤(i0:Int):=by omega
 have q2:(i1:Int)<(el:Int):=by omega
 have q3:(0:Int)≤(i1:Int):=by omega
 have p0:(0:Int)<(ll:Int):=by omega
 have p1:(1:Int)<(ll:Int):=by omega
 have p2:((ll:Int)==0)=false:=by simp;omega
 have p3:((ll:Int)==1)=false:=by simp;omega
 clear hi hj;go_enter func17,ntmps17
 go_upto_region 3 with fail
 rw [<-hW];clear hW;go_cut [5] (λs wx=>s=.pointer (some ⟨W.heap.size,0,none⟩)∧Bx wx W.heap.size (Qj ed)∧Below W.heap.size W wx)
 case first=>
  go_region
  all_goals
   go_wp2_with fail
   go_meet
   case rel=>
    exact ⟨rfl,(Bx.new W (Qj ed) _).drew,by go_grown⟩
 case rest=>
  obtain ⟨rfl,hXa,hBa⟩:=hcut;have HB3:=Ht HB hBa;have hF3:=HF.out.go hBa;have k1:=Qq hBa K1.out;have x5:=Qq hBa x5;have hs3:=hBa.size;have hX3:=HX.out.below hBa;clear HB HX HF K1 hBa e0 e1 e2 e3 e4 e5 e6 e7 e8 e9 k0 q0 q1 i0;obtain ⟨f0,f1,f2,f3,f4,f5,f6,f7,f8,f9⟩:=hF3;have hlc:lb<wc.heap.size:=by omega
  have hlw:w.heap.size<wc.heap.size:=by omega
  have hle':eb2<wc.heap.size:=by omega
  go_upto_region 6 with fail
  go_cut [6] (λs wx=>s=.pointer (some ⟨wc.heap.size,0,none⟩)∧Bx wx wc.heap.size (Qj fd)∧Below wc.heap.size wc wx)
  case first=>
   go_region
   all_goals
    go_wp2_with fail
    go_meet
    case rel=>exact ⟨rfl,(Bx.new wc (Qj fd) _).drew,by go_grown⟩
  obtain ⟨rfl,hXb,hBb⟩:=hcut;have HB4:=Ht HB3 hBb;have hXa':=hXa.below hBb;clear hXa f0 f1 f2 f3 f4 f5 f6 f7 f8 f9 k1 x5 hX3 HB3 hBb q2 q3 i1;have a2:=Qz.cell (hXa'.cell 2 _ rfl);have a5:=Qz.cell (hXa'.cell 5 _ rfl);have a6:=Qz.cell (hXa'.cell 6 _ rfl);have a7:=Qz.cell (hXa'.cell 7 _ rfl);have a8:=Qz.cell (hXa'.cell 8 _ rfl);have a9:=Qz.cell (hXa'.cell 9 _ rfl);have b2:=Qz.cell (hXb.cell 2 _ rfl);have b5:=Qz.cell (hXb.cell 5 _ rfl);have b6:=Qz.cell (hXb.cell 6 _ rfl);have b7:=Qz.cell (hXb.cell 7 _ rfl);have b8:=Qz.cell (hXb.cell 8 _ rfl);have b9:=Qz.cell (hXb.cell 9 _ rfl);clear hXa' hXb;by_cases h2:ll=2
  .have hb:(decide (ed.kind=12)&&(decide (fd.kind=12)&&((decide (ed.av=fd.av∧ed.an=fd.an)&&decide (ed.bv=fd.bv∧ed.bn=fd.bn))&&decide (fd.op=Ry ed.op))))=b:=hb2.out h2;have p4:((ll:Int)==2)=true:=by simp;omega
   clear hb2 hb3 h2 p0 p1 p2 p3 hgt;by_cases ka:ed.kind=12
   .have q0:(ed.kind==12)=true:=by simpa using ka
    rw [ZE ka,Bool.true_and] at hb;by_cases kb:fd.kind=12
    .have q1:(fd.kind==12)=true:=by simpa using kb
     rw [ZE kb,Bool.true_and] at hb;have cA:=λW=>Nn ed.av ed.an fd.av fd.an W
     have cB:=λW=>Nn ed.bv ed.bn fd.bv fd.bn W
     have cN:=λW=>Vy3 ed.op W
     cases hA:decide (ed.av=fd.av∧ed.an=fd.an)
     .have hf:false=b:=by rw [hA] at hb;simpa using hb
      subst hf;rw [hA] at cA;clear hA hb ka kb cB cN;as_aux_lemma=>
       go_wp2_with fail
       refine Qk (by kernel_rfl) (by kernel_rfl) ?_
       repeat (go_big_quiet_step (fail))
       refine wpQuiet_nil ?_;intro w2 hb2;have HB2:=Ht HB4 hb2;clear hb2;go_wp2_with fail
       go_ret
       exact ⟨rfl,HB2.out⟩
     rw [hA,Bool.true_and] at hb;rw [hA] at cA;cases hBB:decide (ed.bv=fd.bv∧ed.bn=fd.bn)
     .have hf:false=b:=by rw [hBB] at hb;simpa using hb
      subst hf;rw [hBB] at cB;clear hA hb ka kb cN hBB;as_aux_lemma=>
       go_wp2_with fail
       refine Qk (by kernel_rfl) (by kernel_rfl) ?_
       repeat (go_big_quiet_step (fail))
       refine wpQuiet_nil ?_;intro w2 hb2;have HB2:=Ht HB4 hb2;clear hb2;go_wp2_with fail
       go_ret
       exact ⟨rfl,HB2.out⟩
     rw [hBB,Bool.true_and] at hb;rw [hBB] at cB;have q2:(fd.op==Ry ed.op)=b:=by rw [<-hb];rfl
     clear hA hb ka kb hBB;as_aux_lemma=>
      go_wp2_with fail
      refine Qk (by kernel_rfl) (by kernel_rfl) ?_
      repeat (go_big_quiet_step ((go_at_call 49;with_reducible exact Qw (cN _))))
      refine wpQuiet_nil ?_;intro w2 hb2;have HB2:=Ht HB4 hb2;clear hb2;go_wp2_with fail
      go_ret
      exact ⟨rfl,HB2.out⟩
    have q1:(fd.kind==12)=false:=by simpa using kb
    have hf:false=b:=by rw [ZA kb] at hb;simpa using hb
    subst hf;clear ka kb hb;as_aux_lemma=>
     go_wp2_with fail
     refine Qk (by kernel_rfl) (by kernel_rfl) ?_
     repeat (go_big_quiet_step (fail))
     refine wpQuiet_nil ?_;intro w2 hb2;have HB2:=Ht HB4 hb2;clear hb2;go_wp2_with fail
     go_ret
     exact ⟨rfl,HB2.out⟩
   have q0:(ed.kind==12)=false:=by simpa using ka
   have hf:false=b:=by rw [ZA ka] at hb;simpa using hb
   subst hf;clear ka hb;as_aux_lemma=>
    go_wp2_with fail
    refine Qk (by kernel_rfl) (by kernel_rfl) ?_
    repeat (go_big_quiet_step (fail))
    refine wpQuiet_nil ?_;intro w2 hb2;have HB2:=Ht HB4 hb2;clear hb2;go_wp2_with fail
    go_ret
    exact ⟨rfl,HB2.out⟩
  have hf:=hb3.out h2;have p4:((ll:Int)==2)=false:=by simp;omega
  clear hb2 hb3 h2 p0 p1 p2 p3 hgt;subst hf;as_aux_lemma=>
   go_wp2_with fail
   refine Qk (by kernel_rfl) (by kernel_rfl) ?_
   repeat (go_big_quiet_step (fail))
   refine wpQuiet_nil ?_;intro w2 hb2;have HB2:=Ht HB4 hb2;clear hb2;go_wp2_with fail
   go_ret
   exact ⟨rfl,HB2.out⟩
theorem Jq6 (m:GM) (g:Zv) (e:Ql) (t0:0≤g.temps) (t1:g.temps≤64) (t2:g.nv≤64) (he:Xa g e=true) (w:World):
 Calls prog 63 #[Jm m g,.agg (Qj e).toArray] w λr w'=>r=.returned (.bool true)∧Below w.heap.size w w':=by
 unfold Xa at he;simp only [ZX] at he;obtain ⟨hf,ht,hx,hr⟩:=he;obtain ⟨⟨k1,k2⟩,rD,rR,rO,rA,rB⟩:=Yh hr;obtain ⟨W1,hW1,hX1,hB1⟩:=Qh w (Qt m g) 123;obtain ⟨W,hW,hY,hB2⟩:=Qh W1 (Qj e) 56;have hX:=hX1.below hB2;have hs:W1.heap.size=w.heap.size+1:=by rw [hW1];simp
 have HB:=Hd (hB1.trans (hB2.mono hB1.size));rw [hW1] at hW;rw [hs] at hY;clear hX1 hB1 hB2 hW1 hs;have cP:=λW=>Gg m g e.fr true hf W
 have cP2:=λW=>Gg m g e.tg true ht W
 have cW:=λW=>Qt8 e.kind ⟨k1,k2⟩ W
 obtain ⟨bd,hbd⟩:∃b,decide (0≤e.dst∧e.dst<g.n)=b:=⟨_,rfl⟩;obtain ⟨br,hbr⟩:∃b,decide (0≤e.arr∧e.arr<(g.sizes.length:Int))=b:=⟨_,rfl⟩;obtain ⟨ba,hba⟩:∃b,Vx e.av e.an g.n true=b:=⟨_,rfl⟩;obtain ⟨bb,hbb⟩:∃b,Vx e.bv e.bn g.n true=b:=⟨_,rfl⟩;obtain ⟨pa,hpa⟩:∃b,decide (e.av=-1∧e.an=0)=b:=⟨_,rfl⟩;obtain ⟨pb,hpb⟩:∃b,decide (e.bv=-1∧e.bn=0)=b:=⟨_,rfl⟩;have cV:=λW=>Wy m g e.dst bd t0 t1 t2 hbd W
 have cAr:=λW=>Zn5 m g e.arr br hbr W
 have cA:=λW=>Vr8 m g e.av e.an ba t0 t1 t2 hba W
 have cB:=λW=>Vr8 m g e.bv e.bn bb t0 t1 t2 hbb W
 have hEA:=λW=>Nn e.av e.an (-1) 0 W
 have hEB:=λW=>Nn e.bv e.bn (-1) 0 W
 rw [hpa] at hEA;rw [hpb] at hEB;have cN:=λW=>He W
 have hA:Zn (kA e.kind) ba pa=true:=by
  rw [<-hba,<-hpa];have:=rA;unfold Vx Zn at this |-;cases hk:kA e.kind<;>simp [hk] at this |-<;>exact this
 have hBo:Zn (kB e.kind) bb pb=true:=by
  rw [<-hbb,<-hpb];have:=rB;unfold Vx Zn at this |-;cases hk:kB e.kind<;>simp [hk] at this |-<;>exact this
 have hD:Zn (kD e.kind) bd (e.dst==-1)=true:=by
  rw [<-hbd];have:=rD;unfold Zn at this |-;cases hk:kD e.kind<;>simp [hk] at this |-<;>exact this
 have hR:Zn (kR e.kind) br (e.arr==-1)=true:=by
  rw [<-hbr];have:=rR;unfold Zn at this |-;cases hk:kR e.kind<;>simp [hk] at this |-<;>exact this
 have cHD:=λW=>Cw _ _ _ _ hD W
 have cHR:=λW=>Cw _ _ _ _ hR W
 have cHA:=λW=>Cw _ _ _ _ hA W
 have cHB:=λW=>Cw _ _ _ _ hBo W
 have q0:decide (e.kind<1)=false:=ZA (by omega);have q1:decide (e.kind>14)=false:=ZA (by omega);have q2:(e.fr==g.exit)=false:=by have:=ZN hx;simpa using this
 have HX:=Hd hX;have HY:=Hd hY;unfold Gx at cW;unfold Jm Qt at*;unfold Qj at*;clear hf ht hx hr rD rR rA rB k1 k2 hX hY hA hBo hD hR hbd hbr hba hbb hpa hpb;obtain ⟨g0,g1,g2,g3,g4,g5⟩:=HX.out.c5;obtain ⟨x0,x1,x2,x3,x4,x5,x6,x7,x8,x9⟩:=HY.out.c9;have gl:=HX.out.lt;have xl:=HY.out.lt;cases hk:kO e.kind
 focus
  rw [hk] at cW rO;have o1:e.op=0:=ZN rO;have p1:decide (e.op≥1)=false:=ZA (by omega);have p3:(e.op==0)=true:=by simp [o1]
  have cHO:=λW=>Cw false false true true rfl W
  clear o1 rO hk;generalize kD e.kind=dD at*;generalize kR e.kind=dR at*;generalize kA e.kind=dA at*;generalize kB e.kind=dB at*;go_enter func63,ntmps63
  go_upto_region 1 with fail
  rw [<-hW];clear hW;go_upto_region 3 with (go_at_call 62;(first|(with_reducible refine (cP _).mono ?_)|(with_reducible refine (cP2 _).mono ?_));rintro r1 w1 ⟨rfl,hb1⟩;clear g0 g1 g2 g3 g4 g5 x0 x1 x2 x3 x4 x5 x6 x7 x8 x9 gl xl;have hX9:=HX.out.below hb1;have hY9:=HY.out.below hb1;have HB9:=Ht HB hb1;clear HX HY HB;have HX:=Hd hX9;have HY:=Hd hY9;have HB:=Hd HB9.out;clear hX9 hY9 HB9 hb1;have g0:=HX.out.cell 0 _ rfl;have g1:=HX.out.cell 1 _ rfl;have g2:=HX.out.cell 2 _ rfl;have g3:=HX.out.cell 3 _ rfl;have g4:=HX.out.cell 4 _ rfl;have g5:=HX.out.cell 5 _ rfl;have x0:=HY.out.cell 0 _ rfl;have x1:=HY.out.cell 1 _ rfl;have x2:=HY.out.cell 2 _ rfl;have x3:=HY.out.cell 3 _ rfl;have x4:=HY.out.cell 4 _ rfl;have x5:=HY.out.cell 5 _ rfl;have x6:=HY.out.cell 6 _ rfl;have x7:=HY.out.cell 7 _ rfl;have x8:=HY.out.cell 8 _ rfl;have x9:=HY.out.cell 9 _ rfl;have gl:=HX.out.lt;have xl:=HY.out.lt)
  go_upto_region 4 with (go_at_call 112;(with_reducible refine (cW _).mono ?_);rintro r1 w1 ⟨rfl,hb1⟩;clear g0 g1 g2 g3 g4 g5 x0 x1 x2 x3 x4 x5 x6 x7 x8 x9 gl xl;have hX9:=HX.out.below hb1;have hY9:=HY.out.below hb1;have HB9:=Ht HB hb1;clear HX HY HB;have HX:=Hd hX9;have HY:=Hd hY9;have HB:=Hd HB9.out;clear hX9 hY9 HB9 hb1;have g0:=HX.out.cell 0 _ rfl;have g1:=HX.out.cell 1 _ rfl;have g2:=HX.out.cell 2 _ rfl;have g3:=HX.out.cell 3 _ rfl;have g4:=HX.out.cell 4 _ rfl;have g5:=HX.out.cell 5 _ rfl;have x0:=HY.out.cell 0 _ rfl;have x1:=HY.out.cell 1 _ rfl;have x2:=HY.out.cell 2 _ rfl;have x3:=HY.out.cell 3 _ rfl;have x4:=HY.out.cell 4 _ rfl;have x5:=HY.out.cell 5 _ rfl;have x6:=HY.out.cell 6 _ rfl;have x7:=HY.out.cell 7 _ rfl;have x8:=HY.out.cell 8 _ rfl;have x9:=HY.out.cell 9 _ rfl;have gl:=HX.out.lt;have xl:=HY.out.lt;obtain ⟨W3,hW3,hV3,hB3⟩:=Qh w1 [.bool dD,.bool dR,.bool false,.bool dA,.bool dB] 190)
 rotate_left
 focus
  rw [hk] at cW rO;have o1:1≤e.op∧e.op≤6:=ZN rO;have p1:decide (e.op≥1)=true:=ZE (by omega);have p2:decide (e.op≤6)=true:=ZE (by omega);have p3:(e.op==0)=false:=by simp;omega
  have cHO:=λW=>Cw true true false true rfl W
  clear o1 rO hk;generalize kD e.kind=dD at*;generalize kR e.kind=dR at*;generalize kA e.kind=dA at*;generalize kB e.kind=dB at*;go_enter func63,ntmps63
  go_upto_region 1 with fail
  rw [<-hW];clear hW;go_upto_region 3 with (go_at_call 62;(first|(with_reducible refine (cP _).mono ?_)|(with_reducible refine (cP2 _).mono ?_));rintro r1 w1 ⟨rfl,hb1⟩;clear g0 g1 g2 g3 g4 g5 x0 x1 x2 x3 x4 x5 x6 x7 x8 x9 gl xl;have hX9:=HX.out.below hb1;have hY9:=HY.out.below hb1;have HB9:=Ht HB hb1;clear HX HY HB;have HX:=Hd hX9;have HY:=Hd hY9;have HB:=Hd HB9.out;clear hX9 hY9 HB9 hb1;have g0:=HX.out.cell 0 _ rfl;have g1:=HX.out.cell 1 _ rfl;have g2:=HX.out.cell 2 _ rfl;have g3:=HX.out.cell 3 _ rfl;have g4:=HX.out.cell 4 _ rfl;have g5:=HX.out.cell 5 _ rfl;have x0:=HY.out.cell 0 _ rfl;have x1:=HY.out.cell 1 _ rfl;have x2:=HY.out.cell 2 _ rfl;have x3:=HY.out.cell 3 _ rfl;have x4:=HY.out.cell 4 _ rfl;have x5:=HY.out.cell 5 _ rfl;have x6:=HY.out.cell 6 _ rfl;have x7:=HY.out.cell 7 _ rfl;have x8:=HY.out.cell 8 _ rfl;have x9:=HY.out.cell 9 _ rfl;have gl:=HX.out.lt;have xl:=HY.out.lt)
  go_upto_region 4 with (go_at_call 112;(with_reducible refine (cW _).mono ?_);rintro r1 w1 ⟨rfl,hb1⟩;clear g0 g1 g2 g3 g4 g5 x0 x1 x2 x3 x4 x5 x6 x7 x8 x9 gl xl;have hX9:=HX.out.below hb1;have hY9:=HY.out.below hb1;have HB9:=Ht HB hb1;clear HX HY HB;have HX:=Hd hX9;have HY:=Hd hY9;have HB:=Hd HB9.out;clear hX9 hY9 HB9 hb1;have g0:=HX.out.cell 0 _ rfl;have g1:=HX.out.cell 1 _ rfl;have g2:=HX.out.cell 2 _ rfl;have g3:=HX.out.cell 3 _ rfl;have g4:=HX.out.cell 4 _ rfl;have g5:=HX.out.cell 5 _ rfl;have x0:=HY.out.cell 0 _ rfl;have x1:=HY.out.cell 1 _ rfl;have x2:=HY.out.cell 2 _ rfl;have x3:=HY.out.cell 3 _ rfl;have x4:=HY.out.cell 4 _ rfl;have x5:=HY.out.cell 5 _ rfl;have x6:=HY.out.cell 6 _ rfl;have x7:=HY.out.cell 7 _ rfl;have x8:=HY.out.cell 8 _ rfl;have x9:=HY.out.cell 9 _ rfl;have gl:=HX.out.lt;have xl:=HY.out.lt;obtain ⟨W3,hW3,hV3,hB3⟩:=Qh w1 [.bool dD,.bool dR,.bool true,.bool dA,.bool dB] 190)
 all_goals
  rw [<-hW3];clear hW3;clear g0 g1 g2 g3 g4 g5 x0 x1 x2 x3 x4 x5 x6 x7 x8 x9 gl xl;have hX9:=HX.out.below hB3;have hY9:=HY.out.below hB3;have HB9:=Ht HB hB3;clear HX HY HB;have HX:=Hd hX9;have HY:=Hd hY9;have HB:=Hd HB9.out;have HV:=Hd hV3;clear hX9 hY9 HB9 hB3 hV3;have ag0:=Qz.cell (HX.out.cell 0 _ rfl);have ag1:=Qz.cell (HX.out.cell 1 _ rfl);have ag2:=Qz.cell (HX.out.cell 2 _ rfl);have ag3:=Qz.cell (HX.out.cell 3 _ rfl);have ag4:=Qz.cell (HX.out.cell 4 _ rfl);have ag5:=Qz.cell (HX.out.cell 5 _ rfl);have ax0:=Qz.cell (HY.out.cell 0 _ rfl);have ax1:=Qz.cell (HY.out.cell 1 _ rfl);have ax2:=Qz.cell (HY.out.cell 2 _ rfl);have ax3:=Qz.cell (HY.out.cell 3 _ rfl);have ax4:=Qz.cell (HY.out.cell 4 _ rfl);have ax5:=Qz.cell (HY.out.cell 5 _ rfl);have ax6:=Qz.cell (HY.out.cell 6 _ rfl);have ax7:=Qz.cell (HY.out.cell 7 _ rfl);have ax8:=Qz.cell (HY.out.cell 8 _ rfl);have ax9:=Qz.cell (HY.out.cell 9 _ rfl);have av0:=Qz.cell (HV.out.cell 0 _ rfl);have av1:=Qz.cell (HV.out.cell 1 _ rfl);have av2:=Qz.cell (HV.out.cell 2 _ rfl);have av3:=Qz.cell (HV.out.cell 3 _ rfl);have av4:=Qz.cell (HV.out.cell 4 _ rfl);refine Qk (by kernel_rfl) (by kernel_rfl) ?_;dsimp only [List.append]
  repeat (go_big_quiet_step (first|(go_at_call 113;first|with_reducible exact Qw (cHO _)|with_reducible exact Qw (cHD _)|with_reducible exact Qw (cHR _)|with_reducible exact Qw (cHA _)|with_reducible exact Qw (cHB _))|(go_at_call 114;with_reducible exact Qd (cV _))|(go_at_call 115;with_reducible exact Qd (cAr _))|(go_at_call 116;first|with_reducible exact Qd (cA _)|with_reducible exact Qd (cB _))|(go_at_call 117;with_reducible exact Qd (cN _))))
  refine wpQuiet_nil ?_;intro w5 hb5;go_wp2_with fail
  go_ret
  exact ⟨rfl,(Ht HB hb5).out⟩
theorem Hv (v x:Int) (w:World) (b:Bool) (hb:Ie v x=b):Calls prog 53 #[.agg #[.int .i64 v,.int .i64 x]] w λe w'=>e=.returned (.bool b)∧Below w.heap.size w w':=by
 obtain ⟨_,hW,hX,hB⟩:=Qh w [.int .i64 v,.int .i64 x] 54;obtain ⟨_,_⟩:=hX.c1;have:=hX.lt;have HB:=Hd hB;clear hX hB;by_cases hv:0≤v
 .have q0:decide (0≤v)=true:=ZE hv;have HV:Hid (true=b):=Hd (by rw [<-hb];unfold Ie;rw [q0];rfl);clear hb hv;go_enter func53,ntmps53
  go_upto_region 1 with fail
  rw [<-hW];clear hW;go_wp2_with fail
  go_ret
  exact ⟨by rw [HV.out];rfl,HB.out⟩
 have q0:decide (0≤v)=false:=ZA hv;by_cases h1:-2305843009213693952≤x
 focus
  have q1:decide (-2305843009213693952≤x)=true:=ZE h1;have HV:Hid (decide (x≤2305843009213693952)=b):=Hd (by rw [<-hb];unfold Ie;rw [q0,Bool.false_or];simp [h1])
 rotate_left
 focus
  have q1:decide (-2305843009213693952≤x)=false:=ZA h1;have HV:Hid (false=b):=Hd (by rw [<-hb];unfold Ie;rw [q0,Bool.false_or];symm;exact ZA (λk=>h1 k.1))
 all_goals
  clear hb hv h1;go_enter func53,ntmps53
  go_upto_region 1 with fail
  rw [<-hW];clear hW;go_wp2_with fail
  go_ret
  exact ⟨by rw [HV.out];rfl,HB.out⟩
theorem Jn2 {e:Ql} (h1:Ie e.av e.an=true) (h2:Ie e.bv e.bn=true) (h:(decide (e.kind=1∨e.kind=11∨e.kind=13∨e.kind=14∨e.kind=9∨e.kind=10∨e.kind=2∨e.kind=3)||(decide (e.kind=12)&&decide (e.op≠4∨(e.av<0∧e.bv<0)))||(decide (e.kind=4)&&decide ((0≤e.av)≠(0≤e.bv)))||(decide (e.kind=5)&&decide (0≤e.av∧e.bv<0)))=true):Vm e=true:=by
 unfold Vm;rw [h1,h2,h];rfl
def Ju6 (P:Ql) (w:World) (e:Ending) (w':World):Prop:=∃b,e=.returned (.bool b)∧Below w.heap.size w w'∧(b=true->Vm P=true)
theorem Qi6 (P:Ql) (w:World):Calls prog 23 #[.agg (Qj P).toArray] w (Ju6 P w):=by
 obtain ⟨W,hW,hX,hB⟩:=Qh w (Qj P) 56;have cA:=λ(b:Bool) (h:Ie P.av P.an=b) (W:World)=>Hv P.av P.an W b h
 have cB:=λ(b:Bool) (h:Ie P.bv P.bn=b) (W:World)=>Hv P.bv P.bn W b h
 have HE:=@Jn2 P;obtain ⟨_,_,kind,_,_,op,av,an,bv,bn⟩:=P;unfold Qj at*;dsimp only at*;have HX:=Hd hX;have HB:=Hd hB;have HE:=Hd HE;clear hX hB;have x2:=HX.out.cell 2 _ rfl;have x5:=HX.out.cell 5 _ rfl;have x6:=HX.out.cell 6 _ rfl;have x7:=HX.out.cell 7 _ rfl;have x8:=HX.out.cell 8 _ rfl;have x9:=HX.out.cell 9 _ rfl;have xl:=HX.out.lt;go_enter func23,ntmps23
 go_upto_region 1 with fail
 rw [<-hW];clear hW;rcases hfA:Ie av an with _|_
 .have cA1:=cA false hfA;clear cA cB hfA;go_wp2_with (go_at_call 53;with_reducible refine (cA1 _).mono ?_;rintro e1 w1 ⟨rfl,hb1⟩;have HB1:=Ht HB hb1;clear hb1)
  go_ret
  exact ⟨false,rfl,HB1.out,λh=>absurd h (by decide)⟩
 have cA1:=cA true hfA;have HA:=Hd hfA;clear cA hfA;rcases hfB:Ie bv bn with _|_
 .have cB1:=cB false hfB;clear cB hfB;go_wp2_with fail
  with_reducible refine (cA1 _).mono ?_
  rintro e1 w1 ⟨rfl,hb1⟩;have HX1:=Hd (HX.out.below hb1);have HB1:=Ht HB hb1;clear hb1 x2 x5 x6 x7 x8 x9 xl;have x8:=HX1.out.cell 8 _ rfl;have x9:=HX1.out.cell 9 _ rfl;have xl:=HX1.out.lt;go_wp2_with fail
  with_reducible refine (cB1 _).mono ?_
  rintro e1 w2 ⟨rfl,hb1⟩;have HB2:=Ht HB1 hb1;clear hb1;go_wp2_with fail
  go_ret
  exact ⟨false,rfl,HB2.out,λh=>absurd h (by decide)⟩
 have cB1:=cB true hfB;have HBt:=Hd hfB;clear cB hfB;go_wp2_with fail
 with_reducible refine (cA1 _).mono ?_
 rintro e1 w1 ⟨rfl,hb1⟩;have HX1:=Hd (HX.out.below hb1);have HB1:=Ht HB hb1;clear hb1 x2 x5 x6 x7 x8 x9 xl HX HB cA1;have x8:=HX1.out.cell 8 _ rfl;have x9:=HX1.out.cell 9 _ rfl;have xl:=HX1.out.lt;go_upto_region 3 with (with_reducible refine (cB1 _).mono ?_;rintro e1 w2 ⟨rfl,hb1⟩;have HX2:=Hd (HX1.out.below hb1);have HB2:=Ht HB1 hb1;clear hb1)
 clear x8 x9 xl HX1 HB1 cB1;have x2:=HX2.out.cell 2 _ rfl;have x5:=HX2.out.cell 5 _ rfl;have x6:=HX2.out.cell 6 _ rfl;have x8:=HX2.out.cell 8 _ rfl;have xl:=HX2.out.lt;by_cases h1:kind=1
 .subst h1;go_wp2_with fail
  go_ret
  exact ⟨true,rfl,HB2.out,λ_=>HE.out HA.out HBt.out (by simp)⟩
 have b1:(kind==1)=false:=beq_eq_false_iff_ne.2 h1;by_cases h11:kind=11
 .subst h11;go_wp2_with fail
  go_ret
  exact ⟨true,rfl,HB2.out,λ_=>HE.out HA.out HBt.out (by simp)⟩
 have b11:(kind==11)=false:=beq_eq_false_iff_ne.2 h11;by_cases h13:kind=13
 .subst h13;go_wp2_with fail
  go_ret
  exact ⟨true,rfl,HB2.out,λ_=>HE.out HA.out HBt.out (by simp)⟩
 have b13:(kind==13)=false:=beq_eq_false_iff_ne.2 h13;by_cases h14:kind=14
 .subst h14;go_wp2_with fail
  go_ret
  exact ⟨true,rfl,HB2.out,λ_=>HE.out HA.out HBt.out (by simp)⟩
 have b14:(kind==14)=false:=beq_eq_false_iff_ne.2 h14;by_cases h9:kind=9
 .subst h9;go_wp2_with fail
  go_ret
  exact ⟨true,rfl,HB2.out,λ_=>HE.out HA.out HBt.out (by simp)⟩
 have b9:(kind==9)=false:=beq_eq_false_iff_ne.2 h9;by_cases h10:kind=10
 .subst h10;go_wp2_with fail
  go_ret
  exact ⟨true,rfl,HB2.out,λ_=>HE.out HA.out HBt.out (by simp)⟩
 have b10:(kind==10)=false:=beq_eq_false_iff_ne.2 h10;by_cases h2:kind=2
 .subst h2;go_wp2_with fail
  go_ret
  exact ⟨true,rfl,HB2.out,λ_=>HE.out HA.out HBt.out (by simp)⟩
 have b2:(kind==2)=false:=beq_eq_false_iff_ne.2 h2;by_cases h3:kind=3
 .subst h3;go_wp2_with fail
  go_ret
  exact ⟨true,rfl,HB2.out,λ_=>HE.out HA.out HBt.out (by simp)⟩
 have b3:(kind==3)=false:=beq_eq_false_iff_ne.2 h3;by_cases h12:kind=12
 .subst h12;clear h1 b1 h11 b11 h13 b13 h14 b14 h9 b9 h10 b10 h2 b2 h3 b3;by_cases ho:op=4
  .subst ho;by_cases ha:av<0
   .have q0:decide (av<0)=true:=ZE ha;by_cases hb:bv<0
    .have q1:decide (bv<0)=true:=ZE hb;have HR:=Hd ha;have HR2:=Hd hb;clear ha hb;go_wp2_with fail
     go_ret
     exact ⟨true,rfl,HB2.out,λ_=>HE.out HA.out HBt.out (by have:=HR.out;have:=HR2.out;simp;omega)⟩
    have q1:decide (bv<0)=false:=ZA hb;clear ha hb;go_wp2_with fail
    go_ret
    exact ⟨false,rfl,HB2.out,λh=>absurd h (by decide)⟩
   have q0:decide (av<0)=false:=ZA ha;clear ha;go_wp2_with fail
   go_ret
   exact ⟨false,rfl,HB2.out,λh=>absurd h (by decide)⟩
  have q0:(op==4)=false:=beq_eq_false_iff_ne.2 ho;have HR:=Hd ho;clear ho;go_wp2_with fail
  go_ret
  exact ⟨true,rfl,HB2.out,λ_=>HE.out HA.out HBt.out (by have:=HR.out;simp;omega)⟩
 have b12:(kind==12)=false:=beq_eq_false_iff_ne.2 h12;by_cases h4:kind=4
 .subst h4;clear h1 b1 h11 b11 h13 b13 h14 b14 h9 b9 h10 b10 h2 b2 h3 b3 h12 b12;by_cases ha:0≤av
  .have q0:decide (0≤av)=true:=ZE ha;by_cases hb:0≤bv
   .have q1:decide (0≤bv)=true:=ZE hb;clear ha hb;go_wp2_with fail
    go_ret
    exact ⟨false,rfl,HB2.out,λh=>absurd h (by decide)⟩
   have q1:decide (0≤bv)=false:=ZA hb;have HR:=Hd ha;have HR2:=Hd hb;clear ha hb;go_wp2_with fail
   go_ret
   exact ⟨true,rfl,HB2.out,λ_=>HE.out HA.out HBt.out (by have h1:=HR.out;have h2:=HR2.out;simp [h1,h2];try omega)⟩
  have q0:decide (0≤av)=false:=ZA ha;by_cases hb:0≤bv
  .have q1:decide (0≤bv)=true:=ZE hb;have HR:=Hd ha;have HR2:=Hd hb;clear ha hb;go_wp2_with fail
   go_ret
   exact ⟨true,rfl,HB2.out,λ_=>HE.out HA.out HBt.out (by have h1:=HR.out;have h2:=HR2.out;simp [h1,h2];try omega)⟩
  have q1:decide (0≤bv)=false:=ZA hb;clear ha hb;go_wp2_with fail
  go_ret
  exact ⟨false,rfl,HB2.out,λh=>absurd h (by decide)⟩
 have b4:(kind==4)=false:=beq_eq_false_iff_ne.2 h4;by_cases h5:kind=5
 .subst h5;clear h1 b1 h11 b11 h13 b13 h14 b14 h9 b9 h10 b10 h2 b2 h3 b3 h12 b12 h4 b4;by_cases ha:0≤av
  .have q0:decide (0≤av)=true:=ZE ha;by_cases hb:bv<0
   .have q1:decide (bv<0)=true:=ZE hb;have HR:=Hd ha;have HR2:=Hd hb;clear ha hb;go_wp2_with fail
    go_ret
    exact ⟨true,rfl,HB2.out,λ_=>HE.out HA.out HBt.out (by have h1:=HR.out;have h2:=HR2.out;simp [h1,h2];try omega)⟩
   have q1:decide (bv<0)=false:=ZA hb;clear ha hb;go_wp2_with fail
   go_ret
   exact ⟨false,rfl,HB2.out,λh=>absurd h (by decide)⟩
  have q0:decide (0≤av)=false:=ZA ha;clear ha;go_wp2_with fail
  go_ret
  exact ⟨false,rfl,HB2.out,λh=>absurd h (by decide)⟩
 have:(kind==5)=false:=beq_eq_false_iff_ne.2 h5;clear h1 h11 h13 h14 h9 h10 h2 h3 h12 h4 h5;go_wp2_with fail
 go_ret
 exact ⟨false,rfl,HB2.out,λh=>absurd h (by decide)⟩
end
