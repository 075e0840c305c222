/- Lemmas for wholeNotEmpty; no conditions. -/
import Derived.Test.YtpggdkenajfjjaaGreatDoorGal
import Derived.Test.YtpggdkenajfjjaaGreatDoorGad
set_option linter.all false
set_option maxRecDepth 100000
set_option maxHeartbeats 16000000
namespace Go.Proofs.YtpggdkenajfjjaaGreatDoor
open Go.RowKit Tryz
section
open Gn
theorem elU8:Ga prog 47 5 (.int .u8 0) 1:=⟨underlying47,by kernel_rfl,rfl,by decide⟩
theorem Qw8 {A:Option Addr} {m n c:Nat} (h:m=n):Ending.returned (.slice A m c)=.returned (.slice A n c):=by rw [h]
theorem Cx {A:Option Addr} {m n c:Nat} (h:m=n):Value.slice A m c=.slice A n c:=by rw [h]
theorem Ri {k l m:IntKind} {x y z x' y' z':Int} {w:World} (h1:x=x') (h2:y=y') (h3:z=z'):(Ending.returned (.tuple #[.int k x,.int l y,.int m z])=.returned (.tuple #[.int k x',.int l y',.int m z']))∧w=w:=by subst h1 h2 h3;exact ⟨rfl,rfl⟩
theorem Qn3 (n:Nat) (w:World) (hn:(n:Int)≤18446744073709551615):
 Calls prog 159 #[.int .u64 n] w λe w'=>∃A c,e=.returned (.slice A (Aq n).length c)∧Ow w' w.heap.size 5 .u8 A c (Aq n)∧Below w.heap.size w w':=by
 have:=Sr hn;have hE:=elU8;go_enter func159,ntmps159
 go_wp2
 go_loopw [0,3] (λx v wr=>∃m:Nat,x=.int .u64 m∧(m:Int)≤18446744073709551615∧∃A c,∃xs:List Int,xs++Aq m=Aq n∧v=.slice A xs.length c∧Ow wr w.heap.size 5 .u8 A c xs∧Below w.heap.size w wr)
  (λx _ _=>(intOf x).toNat)
 case atStart=>exact ⟨n,rfl,hn,none,0,[],rfl,rfl,Ow.nil _ _ _ _,QK _ _⟩
 case round=>
  obtain ⟨m,rfl,_,A,c,xs,hx,rfl,hown,hb⟩:=hrel;have hbs:=hb.size;have hxl:xs.length+(Aq m).length=(Aq n).length:=by rw [<-hx,ZC]
  have hpm:=Vw7 m;have hsz:(xs.length+1)*1≤140737488355328:=by omega
  clear hxl hpm;have HX:Hid (xs++Aq m=Aq n):=hx;clear hx;by_cases h:m<128
  .go_wp2_with (at_builtin;refine Nh hE wr rfl _ _ rfl w.heap.size .u8 A c xs rfl hown m rfl hsz hbs ?_;intro A' c' w1 hown' hb')
   go_ret
   have hx:=HX.out;rw [Ca h] at hx;rw [hx] at hown';exact ⟨A',c',Qw8 (by rw [<-hx];simp),hown',hb.trans hb'⟩
  have ho:=Vh3 m;have HO:Hid (bits .or .u8 ((m:Int) % 256) 128=((128+m % 128:Nat):Int)):=ho;clear ho;go_wp2_with (at_builtin;refine Nh hE wr rfl _ _ rfl w.heap.size .u8 A c xs rfl hown _ rfl hsz hbs ?_;intro A' c' w1 hown' hb';rw [HO.out] at hown')
  refine ⟨⟨m / 128,by go_num,by omega,A',c',xs++[((128+m % 128:Nat):Int)],?_,Cx (by simp),hown',hb.trans hb'⟩,by simp [intOf];omega⟩;rw [<-HX.out,Ld h,List.append_assoc];rfl
theorem Vg3 (i acc:Nat):tk i acc []=(0,0,180):=rfl
theorem Qa9 {i acc:Nat} {x:Int} {r:List Int} (h:(i=9∧1<x)∨(0<i∧x=0)):tk i acc (x::r)=(0,0,181):=by rw [tk,ZM h]
theorem Qc2 {i acc:Nat} {x:Int} {r:List Int} (h:¬((i=9∧1<x)∨(0<i∧x=0))) (h1:x<128):tk i acc (x::r)=(acc+x.toNat % 128*128 ^ i,i+1,0):=by rw [tk,ZL h,ZM h1]
theorem Va4 {i acc:Nat} {x:Int} {r:List Int} (h:¬((i=9∧1<x)∨(0<i∧x=0))) (h1:¬x<128):tk i acc (x::r)=tk (i+1) (acc+x.toNat % 128*128 ^ i) r:=by rw [tk,ZL h,ZL h1]
theorem Jx6 (A:Option Addr) (c:Nat) (b:List Int) (w:World) (hb:Bts b) (hr:Rd w w.heap.size .u8 A b.length (Qe b)) (hl:(b.length:Int)≤140737488351232):
 Calls prog 286 #[.slice A b.length c] w λe w'=>e=.returned (.tuple #[.int .u64 (Uo b).1,.int .i64 (Uo b).2.1,.int .i64 (Uo b).2.2])∧w=w':=by
 go_enter func286,ntmps286
 go_wp2
 go_step3
 go_wp2
 go_step3
 go_wp2
 go_loop [5,6,7] (λn e at_=>∃i acc:Nat,n=.int .u64 acc∧e=.int .i64 180∧at_=.int .i64 i∧i≤b.length∧i≤9∧acc<128 ^ i∧tk i acc (b.drop i)=Uo b)
  (λ_ _ at_=>b.length - (intOf at_).toNat)
 case atStart=>exact ⟨0,0,rfl,rfl,rfl,by omega,by omega,by omega,rfl⟩
 case round=>
  obtain ⟨i,acc,rfl,rfl,rfl,_,hi9,hacc,ht⟩:=hrel;rcases ZJ i b.length with hlt|hge
  .obtain ⟨g,off,rfl,_,hc⟩:=hr (by omega);have:=hc i hlt;clear hc hr;have hx:=hb _ (Ub hlt);obtain ⟨hx0,hx1⟩:=hx;generalize hxv:Qe b i=x at*;rw [Jm8 hlt,hxv] at ht;have HT:Hid (tk i acc (x::b.drop (i+1))=Uo b):=ht;clear ht hxv hb;by_cases hbad:(i=9∧1<x)∨(0<i∧x=0)
   .rcases hbad with ⟨rfl,h1⟩|⟨h1,rfl⟩
    .go_wp2_with fail
     go_ret3
     rw [<-HT.out,Qa9 (by omega)];exact Ri rfl rfl rfl
    rcases ZJ i 9 with h9|h9
    focus
     have g9:((i:Int)==9)=false:=beq_eq_false_iff_ne.2 (by omega)
    rotate_left
    focus
     obtain rfl:i=9:=by omega
    all_goals
     go_wp2_with fail
     go_ret3
     rw [<-HT.out,Qa9 (by omega)];exact Ri rfl rfl rfl
   have hx9:i=9->x≤1:=λh=>by omega
   have hx00:0<i->x≠0:=λh=>by omega
   have HG:=Zc1 hx0 hx1 hi9 hx9 hacc;have HG':Hid (bits .or .u64 (acc:Int) (IntKind.u64.wrap (IntKind.u64.wrap (bits .andNot .u8 x 128)*2 ^ (7*i)))=((acc+x.toNat % 128*128 ^ i:Nat):Int)):=HG;clear HG;have hacc':Hid (acc<128 ^ i):=hacc;clear hacc;have hbad':Hid (¬((i=9∧1<x)∨(0<i∧x=0))):=hbad;clear hbad;by_cases h128:x<128
   .rcases ZJ i 9 with h9|h9
    .have g9:((i:Int)==9)=false:=beq_eq_false_iff_ne.2 (by omega);by_cases h0:i=0
     focus
      have g0:¬(0<i):=by omega
     rotate_left
     focus
      have g0:0<i:=by omega
      have gx:(x==0)=false:=beq_eq_false_iff_ne.2 (hx00 g0)
     all_goals
      clear h0 hx9 hx00;go_wp2_with fail
      go_ret3
      rw [<-HT.out,Qc2 hbad'.out h128];exact Ri HG'.out (by simp) rfl
    obtain rfl:i=9:=by omega
    have gx:(x==0)=false:=beq_eq_false_iff_ne.2 (hx00 (by omega));have:¬1<x:=by have:=hx9 rfl;omega
    clear hx9 hx00;go_wp2_with fail
    go_ret3
    rw [<-HT.out,Qc2 (by have:x≠0:=by simpa using gx
                         omega) h128]
    exact Ri HG'.out (by simp) rfl
   have h9:i<9:=by
    rcases ZJ i 9 with h9|h9
    .exact h9
    have:=hx9 (by omega);omega
   have g9:((i:Int)==9)=false:=beq_eq_false_iff_ne.2 (by omega);have gx:(x==0)=false:=beq_eq_false_iff_ne.2 (by omega);clear hx9 hx00;have hn:=Jh9 (y:=x.toNat % 128) (by omega) hacc'.out;have hn':Hid (acc+x.toNat % 128*128 ^ i<128 ^ (i+1)):=hn;clear hn;by_cases h0:i=0
   focus
    have g0:¬(0<i):=by omega
   rotate_left
   focus
    have g0:0<i:=by omega
   all_goals
    clear h0;go_wp2_with fail
    refine ⟨⟨i+1,acc+x.toNat % 128*128 ^ i,?_,rfl,by go_num,by omega,by omega,hn'.out,?_⟩,by simp [intOf];omega⟩
    .exact congrArg _ HG'.out
    .rw [<-HT.out,Va4 hbad'.out h128]
  obtain rfl:i=b.length:=by omega
  rw [List.drop_length,Vg3] at ht;have HT:Hid ((0,0,180)=Uo b):=ht;clear ht;go_wp2_with fail
  go_ret3
  rw [<-HT.out];exact Ri rfl rfl rfl
theorem Jg7 {a:Nat} (h:a<18446744073709551616):a ^^^ 18446744073709551615=18446744073709551615 - a:=by
 have e:=congrArg BitVec.toNat (BitVec.xor_allOnes (x:=BitVec.ofNat 64 a));rw [BitVec.toNat_xor,BitVec.toNat_not,BitVec.toNat_allOnes,BitVec.toNat_ofNat,Nat.mod_eq_of_lt (by omega)] at e;omega
theorem Jo7 {n:Int} (h1:-9223372036854775808≤n) (h0:n<0):
 bits .xor .u64 (IntKind.u64.wrap (IntKind.u64.wrap n*2)) (IntKind.u64.wrap (n / 9223372036854775808))=Te n:=by
 have e1:IntKind.u64.wrap n=n+18446744073709551616:=by
  simp [IntKind.wrap,IntKind.bits,IntKind.signed];omega
 have e2:IntKind.u64.wrap ((n+18446744073709551616)*2)=((2*n+18446744073709551616).toNat:Int):=by
  simp [IntKind.wrap,IntKind.bits,IntKind.signed];omega
 have e3:n / 9223372036854775808=-1:=by omega
 have e4:IntKind.u64.wrap (-1)=((18446744073709551615:Nat):Int):=by decide
 rw [e1,e2,e3,e4,u64_xor_nat _ _ (by omega) (by omega),Jg7 (by omega)];unfold Te;rw [ZM h0];omega
theorem Jf5 {n:Int} (h1:n≤9223372036854775807) (h0:0≤n):bits .xor .u64 (n*2) (n / 9223372036854775808)=Te n:=by
 have e3:n / 9223372036854775808=((0:Nat):Int):=by omega
 have e2:n*2=(((n*2).toNat:Nat):Int):=by omega
 rw [e3,e2,u64_xor_nat _ _ (by omega) (by omega),Nat.xor_zero];unfold Te;rw [ZL (by omega)];omega
theorem Qm8 {n:Int} (h0:0≤n) (h1:n≤18446744073709551615):
 bits .xor .i64 (n / 2) (wrap64 (-wrap64 (bits .and .u64 n 1)))=Xx n:=by
 have e1:bits .and .u64 n 1=n % 2:=by
  have:=u64_and_nat n.toNat 1 (by omega) (by omega)
  rw [show ((n.toNat:Nat):Int)=n by omega,show ((1:Nat):Int)=1 from rfl] at this;rw [this,Nat.and_one_is_mod];omega
 rw [e1,Qk8 (x:=n % 2) (by unfold Zu;omega),Qk8 (x:=-(n % 2)) (by unfold Zu;omega)];have eN:(BitVec.ofInt 64 (n / 2)).toNat=(n / 2).toNat:=by
  rw [show n / 2=((n / 2).toNat:Int) by omega,BitVec.ofInt_natCast,BitVec.toNat_ofNat];omega
 unfold Xx;by_cases h:n % 2=1
 .rw [h,ZM rfl];show IntKind.i64.wrap ((BitVec.ofInt 64 (n / 2) ^^^ BitVec.ofInt 64 (-1)).toNat:Int)=_
  rw [show BitVec.ofInt 64 (-1)=BitVec.allOnes 64 by decide,BitVec.xor_allOnes,BitVec.toNat_not,eN,IntKind.wrap_i64];omega
 rw [show n % 2=0 by omega];show IntKind.i64.wrap ((BitVec.ofInt 64 (n / 2) ^^^ BitVec.ofInt 64 (-0)).toNat:Int)=_
 rw [show BitVec.ofInt 64 (-0)=0#64 by decide,BitVec.xor_zero,eN,IntKind.wrap_i64];simp;omega
theorem Jy9 (n:Int) (w:World) (h:Zu n):Calls prog 161 #[.int .i64 n] w λe w'=>e=.returned (.int .u64 (Te n))∧w=w':=by
 obtain ⟨h1,h2⟩:=h;by_cases h0:n<0
 focus
  have HF:Hid (bits .xor .u64 (IntKind.u64.wrap (IntKind.u64.wrap n*2)) (IntKind.u64.wrap (n / 9223372036854775808))=Te n):=Jo7 h1 h0
 rotate_left
 focus
  have HF:Hid (bits .xor .u64 (n*2) (n / 9223372036854775808)=Te n):=Jf5 h2 (by omega)
 all_goals
  go_enter func161,ntmps161
  go_wp2_with fail
  go_ret
  exact Vo HF.out
theorem Zd9 (n:Int) (w:World) (h0:0≤n) (h1:n≤18446744073709551615):Calls prog 233 #[.int .u64 n] w λe w'=>e=.returned (.int .i64 (Xx n))∧w=w':=by
 have HF:Hid (bits .xor .i64 (n / 2) (wrap64 (-wrap64 (bits .and .u64 n 1)))=Xx n):=Qm8 h0 h1;go_enter func233,ntmps233
 go_wp2_with fail
 go_ret
 exact Vo HF.out
end
