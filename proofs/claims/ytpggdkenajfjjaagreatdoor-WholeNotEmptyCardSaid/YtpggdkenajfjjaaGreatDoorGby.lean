/- Lemmas for wholeNotEmpty; no conditions. -/
import Derived.Test.YtpggdkenajfjjaaGreatDoorGax
import Derived.Test.YtpggdkenajfjjaaGreatDoorGbx
import Derived.Test.YtpggdkenajfjjaaGreatDoorGbh
import Derived.Test.YtpggdkenajfjjaaGreatDoorGbl
set_option linter.all false
set_option maxRecDepth 100000
set_option maxHeartbeats 16000000
namespace Go.Proofs.YtpggdkenajfjjaaGreatDoor
open Go.RowKit Tryz
open Go.Lib renaming hid → Hd
section
open Gn
def enV (r:Rg):Value:=.agg #[.int .i64 (Sh r),.int .i64 (Tg r)]
def enC (r:Rg):List Value:=[.int .i64 (Sh r),.int .i64 (Tg r)]
theorem Hh (r:Rg) (w:World):Calls prog 194 #[Kx r] w λe w'=>e=.returned (enV r)∧Below w.heap.size w w':=by
 obtain ⟨W,hW,hX,hY,hB,hs⟩:=Vu w (Xm r) 112 [.int .i64 0,.int .i64 0] 274;obtain ⟨_,hV,hZ,hBV,hsV⟩:=Zk W [.int .i64 (-9223372036854775808),.int .i64 9223372036854775807] 274;have hX:=hX.go hBV;have hY:=hY.go hBV;have hB:=hB.trans (hBV.mono hB.size);obtain ⟨lo,hi,hl,hh⟩:=r;obtain ⟨y0,y1,y2,y3⟩:=hX.bx.c3;have:=hX.bx.lt;obtain ⟨z0,z1⟩:=hZ.bx.c1;have:=hZ.bx.fr;have:=hZ.bx.lt;obtain ⟨r0,r1⟩:=hY.bx.c1;have:=hY.bx.fr;have:=hY.bx.lt;have:=Hd hY;have:=Hd hZ;have HB:=Hd hB;have HWs:=Hd (show w.heap.size+1<W.heap.size by omega);have hne:w.heap.size+1≠W.heap.size:=by omega
 have hne2:w.heap.size≠W.heap.size:=by omega
 have hne3:W.heap.size≠w.heap.size+1:=by omega
 unfold Kx;unfold Xm at hW;dsimp only at hW y0 y1 y2 y3 |-
 clear hX hY hZ hB hBV hsV hs;cases hl<;>cases hh
 all_goals
  go_enter func194,ntmps194
  go_upto_region 1 with fail
  rw [<-hW];clear hW;go_upto_region 2 with fail
  rw [<-hV];clear hV;have hz1:w.heap.size≤W.heap.size:=by have:=HWs.out;omega
  have hz2:w.heap.size≤w.heap.size+1:=by omega
  go_wp2_with fail
 .exact QL (v:=enV ⟨lo,hi,false,false⟩) (by simp [results,results194,go_sem,r0,r1,z0,z1,enV,Sh,Tg,hne,hne2,hne3]) rfl ⟨rfl,((HB.out.setCell (p:=⟨w.heap.size+1,0,none⟩) hz2 _).setCell (p:=⟨w.heap.size+1,1,none⟩) hz2 _)⟩
 .exact QL (v:=enV ⟨lo,hi,false,true⟩) (by simp [results,results194,go_sem,r0,r1,z0,z1,enV,Sh,Tg,hne,hne2,hne3]) rfl ⟨rfl,(((HB.out.setCell (p:=⟨W.heap.size,1,none⟩) hz1 _).setCell (p:=⟨w.heap.size+1,0,none⟩) hz2 _).setCell (p:=⟨w.heap.size+1,1,none⟩) hz2 _)⟩
 .exact QL (v:=enV ⟨lo,hi,true,false⟩) (by simp [results,results194,go_sem,r0,r1,z0,z1,enV,Sh,Tg,hne,hne2,hne3]) rfl ⟨rfl,(((HB.out.setCell (p:=⟨W.heap.size,0,none⟩) hz1 _).setCell (p:=⟨w.heap.size+1,0,none⟩) hz2 _).setCell (p:=⟨w.heap.size+1,1,none⟩) hz2 _)⟩
 exact QL (v:=enV ⟨lo,hi,true,true⟩) (by simp [results,results194,go_sem,r0,r1,z0,z1,enV,Sh,Tg,hne,hne2,hne3]) rfl ⟨rfl,((((HB.out.setCell (p:=⟨W.heap.size,0,none⟩) hz1 _).setCell (p:=⟨W.heap.size,1,none⟩) hz1 _).setCell (p:=⟨w.heap.size+1,0,none⟩) hz2 _).setCell (p:=⟨w.heap.size+1,1,none⟩) hz2 _)⟩
theorem Va7 (a b c d:Int) (p q:Bool) (w:World):(Op.equalIn 10000 112 (.agg #[.int .i64 a,.int .i64 b,.bool p,.bool q]) (.agg #[.int .i64 a,.int .i64 b,.bool true,.bool true])).run prog w=.ok (p&&q) w:=by
 have he2:∀a b:Int,∀W:World,(Op.equalIn 9999 2 (.int .i64 a) (.int .i64 b)).run prog W=.ok (a==b) W:=λa b W=>run_equalIn_int W 9998 2 .i64 .i64 a b (by kernel_rfl)
 have he3:∀a b:Bool,∀W:World,(Op.equalIn 9999 4 (.bool a) (.bool b)).run prog W=.ok (a==b) W:=λa b W=>run_equalIn_bool W 9998 4 a b (by kernel_rfl)
 have p0:∀(a b:Int) (p q:Bool) (W:World),(part 2 #[.int .i64 a,.int .i64 b,.bool p,.bool q] 0).run prog W=.ok (.int .i64 a) W:=λ_ _ _ _ _=>by kernel_rfl
 have p1:∀(a b:Int) (p q:Bool) (W:World),(part 2 #[.int .i64 a,.int .i64 b,.bool p,.bool q] 1).run prog W=.ok (.int .i64 b) W:=λ_ _ _ _ _=>by kernel_rfl
 have p2:∀(a b:Int) (p q:Bool) (W:World),(part 4 #[.int .i64 a,.int .i64 b,.bool p,.bool q] 2).run prog W=.ok (.bool p) W:=λ_ _ _ _ _=>by kernel_rfl
 have p3:∀(a b:Int) (p q:Bool) (W:World),(part 4 #[.int .i64 a,.int .i64 b,.bool p,.bool q] 3).run prog W=.ok (.bool q) W:=λ_ _ _ _ _=>by kernel_rfl
 rw [show (10000:Nat)=9999+1 from rfl,run_equalIn_struct w 9999 112 _ _ (by kernel_rfl) (by kernel_rfl)];simp [Program.fieldsOf,underlying112,Op.eqFields,p0,p1,p2,p3,he2,he3,Sem.run_bind]
 cases p<;>cases q<;>simp
theorem Zx7 (r:Rg) (w:World):Calls prog 126 #[Kx r] w λe w'=>e=.returned (.bool (r.hl&&r.hh))∧Below w.heap.size w w':=by
 obtain ⟨W,hW,hX,hB,_⟩:=Zk w (Xm r) 112;obtain ⟨_,_,_,_⟩:=hX.bx.c3;have:=hX.bx.lt;have HB:=Hd hB;have:=λW=>Va7 r.lo r.hi 0 0 r.hl r.hh W
 unfold Kx;unfold Xm at hW;clear hX hB;go_enter func126,ntmps126
 go_upto_region 1 with fail
 rw [<-hW];clear hW;go_wp2_with fail
 go_ret
 exact ⟨rfl,HB.out⟩
def doR (k a b:Int):Int:=if k=5 then -a else if k=6 then a+b else a - b
theorem Ir (k a b:Int) (w:World) (hk:k=5∨k=6∨k=7) (ha:Zu a) (hb:Zu b):
 Calls prog 110 #[.int .i64 k,.int .i64 a,.int .i64 b] w λe w'=>e=.returned (.tuple #[.int .i64 (Kd (doR k a b)),.int .i64 (Xy (doR k a b))])∧w=w':=by
 have c1:=λW=>Vw6 a W ha
 have c2:=λW=>Vj6 a b W ha hb
 have c3:=λW=>Vz6 a b W ha hb
 rcases hk with rfl|rfl|rfl
 .have HR:Hid (doR 5 a b=-a):=Hd rfl;clear ha hb;go_enter func110,ntmps110
  go_wp2_with (go_at_call 164;with_reducible refine (c1 _).mono ?_;rintro e1 w1 ⟨rfl,rfl⟩)
  exact QL (v:=.tuple #[.int .i64 (Kd (-a)),.int .i64 (Xy (-a))]) (by simp [results,results110,go_sem]) rfl ⟨by rw [HR.out],rfl⟩
 .have HR:Hid (doR 6 a b=a+b):=Hd rfl;clear ha hb;go_enter func110,ntmps110
  go_wp2_with (go_at_call 165;with_reducible refine (c2 _).mono ?_;rintro e1 w1 ⟨rfl,rfl⟩)
  exact QL (v:=.tuple #[.int .i64 (Kd (a+b)),.int .i64 (Xy (a+b))]) (by simp [results,results110,go_sem]) rfl ⟨by rw [HR.out],rfl⟩
 .have HR:Hid (doR 7 a b=a - b):=Hd rfl;clear ha hb;go_enter func110,ntmps110
  go_wp2_with (go_at_call 166;with_reducible refine (c3 _).mono ?_;rintro e1 w1 ⟨rfl,rfl⟩)
  exact QL (v:=.tuple #[.int .i64 (Kd (a - b)),.int .i64 (Xy (a - b))]) (by simp [results,results110,go_sem]) rfl ⟨by rw [HR.out],rfl⟩
theorem Vc3 (x:Int):(Xy x==0)=Wf x:=by
 unfold Xy Wf;by_cases h:Zu x
 .rw [ZM h];unfold Zu at h;symm;exact ZE h
 rw [ZL h];unfold Zu at h;symm;exact ZA h
theorem Wb (k a b:Int) (w:World) (hk:k=6∨k=7) (ha:Zu a) (hb:Zu b) (z:Bool) (hz:Wf (doR k a b)=z):
 Calls prog 105 #[.int .i64 k,.int .i64 a,.int .i64 b] w λe w'=>e=.returned (.bool z)∧w=w':=by
 have c:=λW=>Ir k a b W (by omega) ha hb
 rw [<-Vc3] at hz;generalize Xy (doR k a b)=f at*;generalize Kd (doR k a b)=g at*;have HZ:=Hd hz;clear hz hk ha hb;go_enter func105,ntmps105
 go_wp2_with (go_at_call 110;with_reducible refine (c _).mono ?_;rintro _ _ ⟨rfl,rfl⟩)
 go_ret
 exact ⟨by rw [HZ.out];rfl,rfl⟩
theorem Qz1 (r:Rg) (w:World):Calls prog 104 #[Kx r] w λe w'=>e=.returned (.tuple #[.int .i64 (Sh r),.int .i64 (Tg r)])∧Below w.heap.size w w':=by
 obtain ⟨_,hW,hX,hB,hs⟩:=Zk w (Xm r) 112;obtain ⟨_,_,hl,hh⟩:=r;obtain ⟨y0,y1,y2,y3⟩:=hX.bx.c3;have:=hX.bx.lt;have HB:=Hd hB;unfold Kx;unfold Xm at hW;dsimp only at hW y0 y1 y2 y3 |-
 clear hX hB hs;cases hl<;>cases hh
 all_goals
  go_enter func104,ntmps104
  go_upto_region 1 with fail
  rw [<-hW];clear hW;go_wp2_with fail
  exact QL (by simp [results,results104,go_sem];exact ⟨rfl,rfl⟩) rfl ⟨rfl,HB.out⟩
def Vb9 (k:Int) (a b:Rg) (w:World) (e:Ending) (w':World):Prop:=∃z,e=.returned (.bool z)∧Below w.heap.size w w'∧(z=true->Wi k a b=true)
theorem Dl (k:Int) (hk:k=3∨k=4∨k=5) (a b:Rg) (w:World) (ia:Zu (Sh a)∧Zu (Tg a)) (ib:Zu (Sh b)∧Zu (Tg b)):
 Calls prog 56 #[.int .i64 k,Kx a,Kx b] w (Vb9 k a b w):=by
 obtain ⟨W,hW,hX,hY,hB,hs⟩:=Vu w (Xm a) 112 (Xm b) 112;have cA:=λW=>Qz1 a W
 have cB:=λW=>Qz1 b W
 have HF:Hid (∀z,(z=true->(¬(Sh a>Tg a∨Sh b>Tg b)∧(k=3->Sh a>-9223372036854775808)∧(k=4->Wf (Sh a+Sh b)=true∧Wf (Tg a+Tg b)=true)∧(k=5->Wf (Sh a - Tg b)=true∧Wf (Tg a - Sh b)=true)))->(z=true->Wi k a b=true)):=Hd (λz h hz=>by
  obtain ⟨h0,h3,h4,h5⟩:=h hz;unfold Wi;rw [ZL h0];rcases hk with rfl|rfl|rfl
  .rw [ZM rfl];exact ZE (h3 rfl)
  .rw [ZL (by decide),ZM rfl,(h4 rfl).1,(h4 rfl).2];rfl
  rw [ZL (by decide),ZL (by decide),ZM rfl,(h5 rfl).1,(h5 rfl).2];rfl)
 obtain ⟨y0,y1,y2,y3⟩:=hX.bx.c3;have yl:=hX.bx.lt;have HY:=Hd hY;have HB:=Hd hB;have cW1:=λ(z:Bool) (h:Wf (Sh a+Sh b)=z) (W:World)=>Wb 6 (Sh a) (Sh b) W (.inl rfl) ia.1 ib.1 z h
 have cW2:=λ(z:Bool) (h:Wf (Tg a+Tg b)=z) (W:World)=>Wb 6 (Tg a) (Tg b) W (.inl rfl) ia.2 ib.2 z h
 have cW3:=λ(z:Bool) (h:Wf (Sh a - Tg b)=z) (W:World)=>Wb 7 (Sh a) (Tg b) W (.inr rfl) ia.1 ib.2 z h
 have cW4:=λ(z:Bool) (h:Wf (Tg a - Sh b)=z) (W:World)=>Wb 7 (Tg a) (Sh b) W (.inr rfl) ia.2 ib.1 z h
 generalize Sh a=la at*;generalize Tg a=ha at*;generalize Sh b=lb at*;generalize Tg b=hb at*;unfold Kx at*;unfold Xm at hW;have HKK:=Hd hk;clear hX hY hB hs ia ib hk;go_enter func56,ntmps56
 go_upto_region 1 with fail
 rw [<-hW];clear hW;go_upto_region 2 with (go_at_call 104;(with_reducible refine (cA _).mono ?_);rintro e1 _ ⟨rfl,hb1⟩;have HY1:=Hd (HY.out.go hb1);have HB1:=Ht HB hb1;clear hb1)
 clear y0 y1 y2 y3 yl HY HB cA;obtain ⟨y0,y1,y2,y3⟩:=HY1.out.bx.c3;have yl:=HY1.out.bx.lt;go_upto_region 3 with (go_at_call 104;(with_reducible refine (cB _).mono ?_);rintro e1 _ ⟨rfl,hb1⟩;have HB2:=Ht HB1 hb1;clear hb1)
 clear y0 y1 y2 y3 yl HY1 HB1 cB;by_cases g0:la>ha
 .have q0:decide (la>ha)=true:=ZE g0;clear g0;go_wp2_with fail
  go_ret
  exact ⟨false,rfl,HB2.out,λh=>absurd h (by decide)⟩
 have q0:decide (la>ha)=false:=ZA g0;by_cases g1:lb>hb
 .have q1:decide (lb>hb)=true:=ZE g1;clear g0 g1;go_wp2_with fail
  go_ret
  exact ⟨false,rfl,HB2.out,λh=>absurd h (by decide)⟩
 have q1:decide (lb>hb)=false:=ZA g1;have HG:Hid (¬(la>ha∨lb>hb)):=Hd (by omega);clear g0 g1;rcases HKK.out with rfl|rfl|rfl
 .go_wp2_with fail
  go_ret
  exact ⟨_,rfl,HB2.out,HF.out _ (λh=>⟨HG.out,λ_=>ZN h,λk=>absurd k (by decide),λk=>absurd k (by decide)⟩)⟩
 .rcases h1:Wf (la+lb) with _|_
  .have d1:=cW1 false h1;clear cW1 cW2 cW3 cW4 h1;go_wp2_with (go_at_call 105;with_reducible refine (d1 _).mono ?_;rintro e1 w3 ⟨rfl,rfl⟩)
   go_ret
   exact ⟨false,rfl,HB2.out,λh=>absurd h (by decide)⟩
  have d1:=cW1 true h1;rcases h2:Wf (ha+hb) with _|_
  .have d2:=cW2 false h2;clear cW1 cW2 cW3 cW4 h1 h2;go_wp2_with (first|(go_at_call 105;with_reducible refine (d1 _).mono ?_;rintro e1 w3 ⟨rfl,rfl⟩)|(go_at_call 105;with_reducible refine (d2 _).mono ?_;rintro e1 w3 ⟨rfl,rfl⟩))
   go_ret
   exact ⟨false,rfl,HB2.out,λh=>absurd h (by decide)⟩
  have d2:=cW2 true h2;have H1:=Hd h1;have H2:=Hd h2;clear cW1 cW2 cW3 cW4 h1 h2;go_wp2_with (first|(go_at_call 105;with_reducible refine (d1 _).mono ?_;rintro e1 w3 ⟨rfl,rfl⟩)|(go_at_call 105;with_reducible refine (d2 _).mono ?_;rintro e1 w3 ⟨rfl,rfl⟩))
  go_ret
  exact ⟨true,rfl,HB2.out,HF.out _ (λh=>⟨HG.out,λk=>absurd k (by decide),λ_=>⟨H1.out,H2.out⟩,λk=>absurd k (by decide)⟩)⟩
 .rcases h1:Wf (la - hb) with _|_
  .have d1:=cW3 false h1;clear cW1 cW2 cW3 cW4 h1;go_wp2_with (go_at_call 105;with_reducible refine (d1 _).mono ?_;rintro e1 w3 ⟨rfl,rfl⟩)
   go_ret
   exact ⟨false,rfl,HB2.out,λh=>absurd h (by decide)⟩
  have d1:=cW3 true h1;rcases h2:Wf (ha - lb) with _|_
  .have d2:=cW4 false h2;clear cW1 cW2 cW3 cW4 h1 h2;go_wp2_with (first|(go_at_call 105;with_reducible refine (d1 _).mono ?_;rintro e1 w3 ⟨rfl,rfl⟩)|(go_at_call 105;with_reducible refine (d2 _).mono ?_;rintro e1 w3 ⟨rfl,rfl⟩))
   go_ret
   exact ⟨false,rfl,HB2.out,λh=>absurd h (by decide)⟩
  have d2:=cW4 true h2;have H1:=Hd h1;have H2:=Hd h2;clear cW1 cW2 cW3 cW4 h1 h2;go_wp2_with (first|(go_at_call 105;with_reducible refine (d1 _).mono ?_;rintro e1 w3 ⟨rfl,rfl⟩)|(go_at_call 105;with_reducible refine (d2 _).mono ?_;rintro e1 w3 ⟨rfl,rfl⟩))
  go_ret
  exact ⟨true,rfl,HB2.out,HF.out _ (λh=>⟨HG.out,λk=>absurd k (by decide),λk=>absurd k (by decide),λ_=>⟨H1.out,H2.out⟩⟩)⟩
structure LR where
 a:Option Addr
 c:Nat
 xs:List Int
def LR.val (r:LR):Value:=.slice r.a r.xs.length r.c
def Mh (rs:List LR) (i:Nat):LR:=rs.getD i ⟨none,0,[]⟩
theorem Fb {rs:List LR} {i:Nat} (h:i<rs.length):Mh rs i∈rs:=by unfold Mh;simp [h]
theorem elLL:Ni prog 65 30 (.slice none 0 0) 1 24:=⟨underlying65,by kernel_rfl,rfl,by decide,by decide⟩
structure Ff (w:World) (base:Nat) (A:Option Addr) (c:Nat) (rs:List LR):Prop where
 row:w.ownsRow base 30 1 (.slice A rs.length c) rs.length (rs.map LR.val)
 each:∀r∈rs,Ow w base 2 .i64 r.a r.c r.xs
theorem Ff.nil (w:World) (base:Nat):Ff w base none 0 []:=⟨QV _ _ _ _,λr hr=>by cases hr⟩
theorem Ff.go {w w':World} {base:Nat} {A:Option Addr} {c:Nat} {rs:List LR} (h:Ff w base A c rs) (hb:Below w.heap.size w w'):Ff w' base A c rs:=
 ⟨Yx h.row hb,λr hr=>(h.each r hr).below hb⟩
theorem Ff.lower {w:World} {base base':Nat} {A:Option Addr} {c:Nat} {rs:List LR} (h:Ff w base A c rs) (hb:base'≤base):Ff w base' A c rs:=
 ⟨Cj h.row hb,λr hr=>(h.each r hr).lower hb⟩
theorem Ff.only {w w':World} {base p:Nat} {A:Option Addr} {c:Nat} {rs:List LR} (h:Ff w base A c rs) (hg:w.grownBy w' (some p)) (hp:p<base):Ff w' base A c rs:=by
 have key:∀{e:TypeId} {size n:Nat} {v:Value} {vs:List Value},w.ownsRow base e size v n vs->w'.ownsRow base e size v n vs:=λ{e size n v vs} k=>k.kept hg (by
  cases hb:v.ownBlock with
  |none=>exact .inl rfl
  |some g=>exact .inr (λe=>by injection e with e;have:=(k.lt g hb).1;omega))
 exact ⟨key h.row,λr hr=>key (h.each r hr)⟩
theorem Ff.snoc {w w':World} {base:Nat} {A A':Option Addr} {c c':Nat} {rs:List LR} {r:LR} (h:Ff w base A c rs) (hr:Ow w base 2 .i64 r.a r.c r.xs)
 (hrow:w'.ownsRow base 30 1 (.slice A' (rs.length+1) c') (rs.length+1) (rs.map LR.val++[r.val])) (hg:w.grownBy w' (Value.slice A rs.length c).ownBlock):Ff w' base A' c' (rs++[r]):=by
 refine ⟨by rw [List.map_append,ZC];exact hrow,λx hx=>?_⟩;simp only [List.mem_append,List.mem_cons,List.not_mem_nil,or_false] at hx;rcases hx with hx|rfl
 .exact (h.each x hx).beside h.row (by decide) hg
 exact hr.beside h.row (by decide) hg
theorem Ff.cell {w:World} {base:Nat} {A:Option Addr} {c:Nat} {rs:List LR} (h:Ff w base A c rs) {i:Nat} (hi:i<rs.length):∃g,A=some ⟨g,0,none⟩∧g<w.heap.size∧w.cell? ⟨g,i,none⟩=some (Mh rs i).val:=by
 rcases h.row.2 with ⟨hv,h0⟩|⟨g,cap,cur,hv,hb,hh,_⟩
 .omega
 injection hv with h1 h2 h3;subst h1;refine ⟨g,rfl,(h.row.lt g rfl).2,?_⟩;have:=h.row.cells (g:=g) rfl i (Mh rs i).val (by unfold Mh;simp [hi])
 rwa [show (⟨g,0,none⟩:Addr).add i=⟨g,i,none⟩ by unfold Addr.add;split<;>simp_all] at this
structure Io (w:World) (b gv cv base:Nat) (Aa:Option Addr) (ca:Nat) (rs:List LR) (x y:Int):Prop where
 bx:Bx w b [.slice (some ⟨gv,0,none⟩) 2 cv,.slice Aa rs.length ca]
 vs:Ow w gv 2 .i64 (some ⟨gv,0,none⟩) cv [x,y]
 ar:Ff w base Aa ca rs
 lv:gv<b
 lb:b<base
 hb:base≤w.heap.size
theorem Io.go {w w':World} {b gv cv base:Nat} {Aa:Option Addr} {ca:Nat} {rs:List LR} {x y:Int} (h:Io w b gv cv base Aa ca rs x y) (hb:Below w.heap.size w w'):Io w' b gv cv base Aa ca rs x y:=
 ⟨h.bx.below hb,h.vs.below hb,h.ar.go hb,h.lv,h.lb,ZO h.hb hb.size⟩
theorem Vr4 (v n:Int) (hv:v<2) (b gv cv base:Nat) (Aa:Option Addr) (ca:Nat) (rs:List LR) (x y:Int) (w:World) (h:Io w b gv cv base Aa ca rs x y):
 Calls prog 109 #[.pointer (some ⟨b,0,none⟩),.agg #[.int .i64 v,.int .i64 n]] w λe w'=>e=.returned (.int .i64 (Zc v n x y))∧Below w.heap.size w w':=by
 obtain ⟨W,hW,hX,hB⟩:=Qh w [.int .i64 v,.int .i64 n] 54;have hh:=h.go hB;obtain ⟨x0,_⟩:=hX.c1;have:=hX.lt;have y0:=hh.bx.cell 0 _ rfl;have yl:=hh.bx.lt;have v0:W.cell? ⟨gv,0,none⟩=some (.int .i64 x):=hh.vs.cellAt (i:=0) (by simp);have v1:W.cell? ⟨gv,1,none⟩=some (.int .i64 y):=hh.vs.cellAt (i:=1) (by simp);have vl:gv<W.heap.size:=by have:=hh.lv;omega
 have HB:=Hd hB;clear hX hh hB h;by_cases hneg:v<0
 .have q0:decide (v<0)=true:=ZE hneg;have HV:Hid (Zc v n x y=n):=Hd (by unfold Zc;rw [ZM hneg]);clear hneg hv y0 yl v0 v1 vl;go_enter func109,ntmps109
  go_upto_region 1 with fail
  rw [<-hW];clear hW;go_wp2_with fail
  go_ret
  exact ⟨by rw [HV.out];rfl,HB.out⟩
 .rcases (show v=0∨v=1 by omega) with rfl|rfl
  all_goals
   clear hneg hv;have a0:=Qz.cell x0;have a1:=Qz.cell y0;have a2:=Qz.cell v0;have a3:=Qz.cell v1;go_enter func109,ntmps109
   go_upto_region 1 with fail
   rw [<-hW];clear hW;go_upto_region 3 with fail
   refine Qk (by kernel_rfl) (by kernel_rfl) ?_
   repeat (go_big_quiet_step (fail))
   refine wpQuiet_nil ?_;intro w2 hb2;have HB2:=Ht HB hb2;clear hb2 a0 a1 a2 a3;go_wp2_with fail
   go_ret
   exact ⟨rfl,HB2.out⟩
theorem Jb3 (i:Nat) (a:Int) (b gv cv base:Nat) (Aa:Option Addr) (ca:Nat) (rs:List LR) (x y:Int) (hi:i<rs.length) (w:World) (h:Io w b gv cv base Aa ca rs x y):
 Calls prog 111 #[.pointer (some ⟨b,0,none⟩),.int .i64 i,.int .i64 a] w λe w'=>e=.returned (.bool (decide (0≤a)&&decide (a<(Mh rs i).xs.length)))∧Below w.heap.size w w':=by
 obtain ⟨_,rfl,_,gc⟩:=h.ar.cell hi;unfold LR.val at gc;have:=h.bx.cell 1 _ rfl;have:=h.bx.lt;have:(0:Int)≤i:=by omega
 have:(i:Int)<rs.length:=by omega
 have:=Hd (QK w.heap.size w);clear h hi;by_cases h0:0≤a
 rotate_right
 focus
  have q0:decide (0≤a)=false:=ZA h0
 rotate_right
 focus
  have q0:decide (0≤a)=true:=ZE h0
 all_goals
  clear h0;go_enter func111,ntmps111
  go_wp2_with fail
  go_ret
  exact ⟨by rw [q0];rfl,by go_grown⟩
theorem Zv2 (k:Int) (hk:1≤k∧k≤14) (w:World):Calls prog 176 #[.int .i64 k] w λe w'=>e=.returned (Gx k)∧Below w.heap.size w w':=by
 unfold Gx;rcases (show k=1∨k=2∨k=3∨k=4∨k=5∨k=6∨k=7∨k=8∨k=9∨k=10∨k=11∨k=12∨k=13∨k=14 by omega) with rfl|rfl|rfl|rfl|rfl|rfl|rfl|rfl|rfl|rfl|rfl|rfl|rfl|rfl
 all_goals
  as_aux_lemma=>
   go_enter func176,ntmps176
   go_wp2
   exact QL (by simp [results,results176,go_sem];decide) rfl ⟨rfl,by go_grown⟩
theorem Yp (a b c r:Bool) (h:Zn a b c=r) (w:World):Calls prog 177 #[.bool a,.bool b,.bool c] w λe w'=>e=.returned (.bool r)∧w=w':=by
 cases a
 .have h:c=r:=h;subst h;go_enter func177,ntmps177
  go_wp2
  go_ret
  exact ⟨rfl,rfl⟩
 have h:b=r:=h;subst h;go_enter func177,ntmps177
 go_wp2
 go_ret
 exact ⟨rfl,rfl⟩
theorem Pd (n v x:Int) (b:Bool) (hb:Vx v x n true=b) (w:World):Calls prog 178 #[Um v x,.int .i64 n] w λe w'=>e=.returned (.bool b)∧Below w.heap.size w w':=by
 have hb:(decide (v=-1)||(decide (0≤v∧v<n)&&decide (x=0)))=b:=hb;unfold Um;by_cases hv:v=-1
 .subst hv;have hb:true=b:=by simpa using hb
  subst hb;go_enter func178,ntmps178
  go_wp2
  go_ret
  exact ⟨rfl,by go_grown⟩
 have:decide (v=-1)=false:=ZA hv;have:(v==-1)=false:=by simp [hv]
 by_cases h0:0≤v
 .have q1:decide (0≤v)=true:=ZE h0;by_cases h1:v<n
  .have q2:decide (v<n)=true:=ZE h1;by_cases h3:x=0
   rotate_right
   focus
    have:(x==0)=false:=by simp [h3]
    have:decide (x=0)=false:=ZA h3;have hb:false=b:=by simpa [hv,h3] using hb
   rotate_right
   focus
    subst h3;have hb:true=b:=by simpa [hv,h0,h1] using hb
   all_goals
    subst hb;go_enter func178,ntmps178
    go_wp2
    go_ret
    exact ⟨rfl,by go_grown⟩
  have q2:decide (v<n)=false:=ZA h1;have hb:false=b:=by simpa [hv,h1] using hb
  subst hb;go_enter func178,ntmps178
  go_wp2
  go_ret
  exact ⟨rfl,by go_grown⟩
 have q1:decide (0≤v)=false:=ZA h0;have hb:false=b:=by simpa [hv,h0] using hb
 subst hb;go_enter func178,ntmps178
 go_wp2
 go_ret
 exact ⟨rfl,by go_grown⟩
theorem Jl9 (e:Ql) (n na:Int) (hr:Uv n na e=true) (w:World):Calls prog 122 #[.agg (Qj e).toArray,.int .i64 n] w λr w'=>r=.returned (.bool true)∧Below w.heap.size w w':=by
 obtain ⟨⟨k1,k2⟩,rD,rR,rO,rA,rB⟩:=Yh hr;obtain ⟨W,hW,hX,hB⟩:=Qh w (Qj e) 56;obtain ⟨x0,x1,x2,x3,x4,x5,x6,x7,x8,x9⟩:=hX.c9;have hl:=hX.lt;have cW:=λW=>Zv2 e.kind ⟨k1,k2⟩ W
 unfold Gx at cW;have hA:Zn (kA e.kind) (Vx e.av e.an n true) (decide (e.av=-1)&&decide (e.an=0))=true:=by
  have:=rA;unfold Vx Zn at this |-;cases hk:kA e.kind<;>simp [hk] at this |-<;>exact this
 have hBo:Zn (kB e.kind) (Vx e.bv e.bn n true) (decide (e.bv=-1)&&decide (e.bn=0))=true:=by
  have:=rB;unfold Vx Zn at this |-;cases hk:kB e.kind<;>simp [hk] at this |-<;>exact this
 have cA:=λW=>Pd n e.av e.an _ rfl W
 have cB:=λW=>Pd n e.bv e.bn _ rfl W
 unfold Um at cA cB;have hE:=λa b c d W=>Nn a b c d W
 have q0:decide (e.kind<1)=false:=ZA (by omega);have q1:decide (e.kind>14)=false:=ZA (by omega);have q1':decide (14<e.kind)=false:=ZA (by omega);have hRr:Zn (kR e.kind) (decide (0≤e.arr)) (e.arr==-1)=true:=by
  unfold Zn at rR |-;cases hk:kR e.kind<;>simp [hk] at rR |-
  .exact rR
  exact rR.1
 have HX:=Hd hX;have HB:=Hd hB;unfold Qj at hW |-
 clear hX hB hr k1 k2 rR;generalize kA e.kind=dA at*;generalize kB e.kind=dB at*;generalize kR e.kind=dR at*;generalize kO e.kind=dO at*;generalize kD e.kind=dD at*;generalize Vx e.av e.an n true=oA at*;generalize Vx e.bv e.bn n true=oB at*;have HA:=Hd hA;have HBo:=Hd hBo;have HR:=Hd hRr;clear hA hBo hRr rA rB;go_enter func122,ntmps122
 go_upto_region 1 with fail
 simp only [List.toArray] at hW |-
 rw [<-hW];clear hW;go_upto_region 3 with fail
 cases dD<;>cases dO
 rotate_right
 focus
  have p0:0≤e.dst∧e.dst<n:=ZN rD;have p1:decide (e.dst≥0)=true:=ZE p0.1;have p1':decide (0≤e.dst)=true:=ZE p0.1;have p3:decide (e.dst<n)=true:=ZE p0.2;have p2:(e.dst==-1)=false:=by simp;omega
  have p2':decide (e.dst=-1)=false:=ZA (by omega);clear p0;have r0:1≤e.op∧e.op≤6:=ZN rO;have r1:decide (e.op≥1)=true:=ZE r0.1;have r1':decide (1≤e.op)=true:=ZE r0.1;have r3:decide (e.op≤6)=true:=ZE r0.2;have r2:(e.op==0)=false:=by simp;omega
  have r2':decide (e.op=0)=false:=ZA (by omega);clear r0;clear rD rO;have cH0:=λW=>Yp false false true true rfl W
  have cH1:=λW=>Yp true true false true rfl W
  have cHA:=λW=>Yp _ _ _ _ HA.out W
  have cHB:=λW=>Yp _ _ _ _ HBo.out W
  have cHR:=λW=>Yp _ _ _ _ HR.out W
  go_wp2_with (first
   |(go_at_call 176;(with_reducible refine (cW _).mono ?_);rintro e1 w1 ⟨rfl,hb1⟩;obtain ⟨W2,hW2,hX5,hX6,hB2,hs2⟩:=Vu w1 [.bool true,.bool dR,.bool true,.bool dA,.bool dB] 261 [.int .i64 (-1),.int .i64 0] 54;have HXE2:=Hd ((HX.out.below hb1).below hB2);have HV2:=Hd hX5;have HU2:=Hd hX6;have HB2:=Hd (((Ht HB hb1).out).trans (hB2.mono ((Ht HB hb1).out).size));clear hb1 hX5 hX6 hB2)
   |(rw [<-hW2];clear hW2;have hE2:=HXE2.out;have x2:=hE2.cell 2 _ rfl;have x3:=hE2.cell 3 _ rfl;have x4:=hE2.cell 4 _ rfl;have x5:=hE2.cell 5 _ rfl;have x6:=hE2.cell 6 _ rfl;have x7:=hE2.cell 7 _ rfl;have x8:=hE2.cell 8 _ rfl;have x9:=hE2.cell 9 _ rfl;have hl:=hE2.lt;have hV2:=HV2.out;have v0:=hV2.bx.cell 0 _ rfl;have v1:=hV2.bx.cell 1 _ rfl;have v2:=hV2.bx.cell 2 _ rfl;have v3:=hV2.bx.cell 3 _ rfl;have v4:=hV2.bx.cell 4 _ rfl;have vl:=hV2.bx.lt;have hU2:=HU2.out;have u0:=hU2.bx.cell 0 _ rfl;have u1:=hU2.bx.cell 1 _ rfl;have ul:=hU2.bx.lt;clear hE2 hV2 hU2))
 rotate_right
 focus
  have p0:0≤e.dst∧e.dst<n:=ZN rD;have p1:decide (e.dst≥0)=true:=ZE p0.1;have p1':decide (0≤e.dst)=true:=ZE p0.1;have p3:decide (e.dst<n)=true:=ZE p0.2;have p2:(e.dst==-1)=false:=by simp;omega
  have p2':decide (e.dst=-1)=false:=ZA (by omega);clear p0;have r0:e.op=0:=ZN rO;have r1:decide (e.op≥1)=false:=ZA (by omega);have r1':decide (1≤e.op)=false:=ZA (by omega);have r2:(e.op==0)=true:=by simp [r0]
  have r2':decide (e.op=0)=true:=ZE r0;clear r0;clear rD rO;have cH0:=λW=>Yp false false true true rfl W
  have cH1:=λW=>Yp true true false true rfl W
  have cHA:=λW=>Yp _ _ _ _ HA.out W
  have cHB:=λW=>Yp _ _ _ _ HBo.out W
  have cHR:=λW=>Yp _ _ _ _ HR.out W
  go_wp2_with (first
   |(go_at_call 176;(with_reducible refine (cW _).mono ?_);rintro e1 w1 ⟨rfl,hb1⟩;obtain ⟨W2,hW2,hX5,hX6,hB2,hs2⟩:=Vu w1 [.bool true,.bool dR,.bool false,.bool dA,.bool dB] 261 [.int .i64 (-1),.int .i64 0] 54;have HXE2:=Hd ((HX.out.below hb1).below hB2);have HV2:=Hd hX5;have HU2:=Hd hX6;have HB2:=Hd (((Ht HB hb1).out).trans (hB2.mono ((Ht HB hb1).out).size));clear hb1 hX5 hX6 hB2)
   |(rw [<-hW2];clear hW2;have hE2:=HXE2.out;have x2:=hE2.cell 2 _ rfl;have x3:=hE2.cell 3 _ rfl;have x4:=hE2.cell 4 _ rfl;have x5:=hE2.cell 5 _ rfl;have x6:=hE2.cell 6 _ rfl;have x7:=hE2.cell 7 _ rfl;have x8:=hE2.cell 8 _ rfl;have x9:=hE2.cell 9 _ rfl;have hl:=hE2.lt;have hV2:=HV2.out;have v0:=hV2.bx.cell 0 _ rfl;have v1:=hV2.bx.cell 1 _ rfl;have v2:=hV2.bx.cell 2 _ rfl;have v3:=hV2.bx.cell 3 _ rfl;have v4:=hV2.bx.cell 4 _ rfl;have vl:=hV2.bx.lt;have hU2:=HU2.out;have u0:=hU2.bx.cell 0 _ rfl;have u1:=hU2.bx.cell 1 _ rfl;have ul:=hU2.bx.lt;clear hE2 hV2 hU2))
 rotate_right
 focus
  have p0:e.dst=-1:=ZN rD;have p1:decide (e.dst≥0)=false:=ZA (by omega);have p1':decide (0≤e.dst)=false:=ZA (by omega);have p2:(e.dst==-1)=true:=by simp [p0]
  have p2':decide (e.dst=-1)=true:=ZE p0;clear p0;have r0:1≤e.op∧e.op≤6:=ZN rO;have r1:decide (e.op≥1)=true:=ZE r0.1;have r1':decide (1≤e.op)=true:=ZE r0.1;have r3:decide (e.op≤6)=true:=ZE r0.2;have r2:(e.op==0)=false:=by simp;omega
  have r2':decide (e.op=0)=false:=ZA (by omega);clear r0;clear rD rO;have cH0:=λW=>Yp false false true true rfl W
  have cH1:=λW=>Yp true true false true rfl W
  have cHA:=λW=>Yp _ _ _ _ HA.out W
  have cHB:=λW=>Yp _ _ _ _ HBo.out W
  have cHR:=λW=>Yp _ _ _ _ HR.out W
  go_wp2_with (first
   |(go_at_call 176;(with_reducible refine (cW _).mono ?_);rintro e1 w1 ⟨rfl,hb1⟩;obtain ⟨W2,hW2,hX5,hX6,hB2,hs2⟩:=Vu w1 [.bool false,.bool dR,.bool true,.bool dA,.bool dB] 261 [.int .i64 (-1),.int .i64 0] 54;have HXE2:=Hd ((HX.out.below hb1).below hB2);have HV2:=Hd hX5;have HU2:=Hd hX6;have HB2:=Hd (((Ht HB hb1).out).trans (hB2.mono ((Ht HB hb1).out).size));clear hb1 hX5 hX6 hB2)
   |(rw [<-hW2];clear hW2;have hE2:=HXE2.out;have x2:=hE2.cell 2 _ rfl;have x3:=hE2.cell 3 _ rfl;have x4:=hE2.cell 4 _ rfl;have x5:=hE2.cell 5 _ rfl;have x6:=hE2.cell 6 _ rfl;have x7:=hE2.cell 7 _ rfl;have x8:=hE2.cell 8 _ rfl;have x9:=hE2.cell 9 _ rfl;have hl:=hE2.lt;have hV2:=HV2.out;have v0:=hV2.bx.cell 0 _ rfl;have v1:=hV2.bx.cell 1 _ rfl;have v2:=hV2.bx.cell 2 _ rfl;have v3:=hV2.bx.cell 3 _ rfl;have v4:=hV2.bx.cell 4 _ rfl;have vl:=hV2.bx.lt;have hU2:=HU2.out;have u0:=hU2.bx.cell 0 _ rfl;have u1:=hU2.bx.cell 1 _ rfl;have ul:=hU2.bx.lt;clear hE2 hV2 hU2))
 rotate_right
 focus
  have p0:e.dst=-1:=ZN rD;have p1:decide (e.dst≥0)=false:=ZA (by omega);have p1':decide (0≤e.dst)=false:=ZA (by omega);have p2:(e.dst==-1)=true:=by simp [p0]
  have p2':decide (e.dst=-1)=true:=ZE p0;clear p0;have r0:e.op=0:=ZN rO;have r1:decide (e.op≥1)=false:=ZA (by omega);have r1':decide (1≤e.op)=false:=ZA (by omega);have r2:(e.op==0)=true:=by simp [r0]
  have r2':decide (e.op=0)=true:=ZE r0;clear r0;clear rD rO;have cH0:=λW=>Yp false false true true rfl W
  have cH1:=λW=>Yp true true false true rfl W
  have cHA:=λW=>Yp _ _ _ _ HA.out W
  have cHB:=λW=>Yp _ _ _ _ HBo.out W
  have cHR:=λW=>Yp _ _ _ _ HR.out W
  go_wp2_with (first
   |(go_at_call 176;(with_reducible refine (cW _).mono ?_);rintro e1 w1 ⟨rfl,hb1⟩;obtain ⟨W2,hW2,hX5,hX6,hB2,hs2⟩:=Vu w1 [.bool false,.bool dR,.bool false,.bool dA,.bool dB] 261 [.int .i64 (-1),.int .i64 0] 54;have HXE2:=Hd ((HX.out.below hb1).below hB2);have HV2:=Hd hX5;have HU2:=Hd hX6;have HB2:=Hd (((Ht HB hb1).out).trans (hB2.mono ((Ht HB hb1).out).size));clear hb1 hX5 hX6 hB2)
   |(rw [<-hW2];clear hW2;have hE2:=HXE2.out;have x2:=hE2.cell 2 _ rfl;have x3:=hE2.cell 3 _ rfl;have x4:=hE2.cell 4 _ rfl;have x5:=hE2.cell 5 _ rfl;have x6:=hE2.cell 6 _ rfl;have x7:=hE2.cell 7 _ rfl;have x8:=hE2.cell 8 _ rfl;have x9:=hE2.cell 9 _ rfl;have hl:=hE2.lt;have hV2:=HV2.out;have v0:=hV2.bx.cell 0 _ rfl;have v1:=hV2.bx.cell 1 _ rfl;have v2:=hV2.bx.cell 2 _ rfl;have v3:=hV2.bx.cell 3 _ rfl;have v4:=hV2.bx.cell 4 _ rfl;have vl:=hV2.bx.lt;have hU2:=HU2.out;have u0:=hU2.bx.cell 0 _ rfl;have u1:=hU2.bx.cell 1 _ rfl;have ul:=hU2.bx.lt;clear hE2 hV2 hU2))
 all_goals
  have ax2:=Qz.cell x2;have ax3:=Qz.cell x3;have ax4:=Qz.cell x4;have ax5:=Qz.cell x5;have ax6:=Qz.cell x6;have ax7:=Qz.cell x7;have ax8:=Qz.cell x8;have ax9:=Qz.cell x9;have av0:=Qz.cell v0;have av1:=Qz.cell v1;have av2:=Qz.cell v2;have av3:=Qz.cell v3;have av4:=Qz.cell v4;have au0:=Qz.cell u0;have au1:=Qz.cell u1;clear x0 x1 x2 x3 x4 x5 x6 x7 x8 x9 v0 v1 v2 v3 v4 u0 u1;refine Qk (by kernel_rfl) (by kernel_rfl) ?_;dsimp only [List.append]
  repeat (go_big_quiet_step (first|(go_at_call 177;first|with_reducible exact Qw (cH0 _)|with_reducible exact Qw (cH1 _)|with_reducible exact Qw (cHA _)|with_reducible exact Qw (cHB _)|with_reducible exact Qw (cHR _))|(go_at_call 178;with_reducible exact Qd (cA _))|(go_at_call 178;with_reducible exact Qd (cB _))))
  refine wpQuiet_nil ?_;intro w5 hb5;go_wp2_with fail
  go_ret
  exact ⟨rfl,(Ht HB2 hb5).out⟩
theorem Py (n:Nat) (hn2:n=2) (A:Option Addr) (c:Nat) (M:List Int) (dst y k:Int) (w:World) (h:Qi w A c ((n:Int),false,M)) (hd:0≤dst∧dst<n) (hy:0≤y∧y<n) (hk:hf k):
 Calls prog 252 #[Qf ((n:Int),false,M) A c,.int .i64 dst,.int .i64 y,.int .i64 k] w (Zd w (Js ((n:Int),false,M) dst y k)):=by
 unfold Js;by_cases hyd:y=dst
 .subst hyd;rw [ZM rfl];obtain ⟨v,rfl⟩:=ZV hd.1;exact Ja3 n hn2 A c M v k w h (by omega) hk
 rw [ZL hyd];exact Js7 _ A c dst y k w h (by unfold nr;omega) (by unfold nr;omega) hyd hk
theorem Vs5 {n:Nat} {A:Option Addr} {c:Nat} {M:List Int} {e:Ql} {w:World} {S:Zj} (h:Qi w A c ((n:Int),false,M))
 (H:(e.kind=4∧e.av<0∧0≤e.bv∧∀w1,Qi w1 A c ((n:Int),false,M)->Calls prog 252 #[Qf ((n:Int),false,M) A c,.int .i64 e.dst,.int .i64 e.bv,.int .i64 e.an] w1 (Zd w1 S))∨(e.kind=4∧0≤e.av∧e.bv<0∧∀w1,Qi w1 A c ((n:Int),false,M)->Calls prog 252 #[Qf ((n:Int),false,M) A c,.int .i64 e.dst,.int .i64 e.av,.int .i64 e.bn] w1 (Zd w1 S))∨(e.kind=5∧0≤e.av∧e.bv<0∧hf e.bn∧∀w1,Qi w1 A c ((n:Int),false,M)->Calls prog 252 #[Qf ((n:Int),false,M) A c,.int .i64 e.dst,.int .i64 e.av,.int .i64 (-e.bn)] w1 (Zd w1 S))):
 Calls prog 189 #[Qf ((n:Int),false,M) A c,.agg (Qj e).toArray] w (Zd w S):=by
 obtain ⟨W,hW,hX,hY,hZ,hB,hs⟩:=Zt w (Qp ((n:Int),false,M) A c) 32 (Qj e) 56 Jj 32;have hP:=h.go hB;obtain ⟨y0,y1,y2⟩:=hX.bx.c2;have x2:=hY.bx.cell 2 _ rfl;have x3:=hY.bx.cell 3 _ rfl;have x6:=hY.bx.cell 6 _ rfl;have x7:=hY.bx.cell 7 _ rfl;have x8:=hY.bx.cell 8 _ rfl;have x9:=hY.bx.cell 9 _ rfl;have yl:=hX.bx.lt;have xl:=hY.bx.lt;have HX:=Hd hX;have HY:=Hd hY;have HZ:=Hd hZ;have HB:=Hd hB;have HP:=Hd hP;unfold Qf at H |-
 unfold Qp Qj Jj at hW;unfold Qj at x2 x3 x6 x7 x8 x9 |-
 have HWS:=Hd hs;clear h hX hY hZ hB hP;have fN:hf e.bn->Kd (-e.bn)=-e.bn∧Xy (-e.bn)=0:=λh=>by
  have:Zu (-e.bn):=by unfold hf at h;unfold Zu;omega
  exact ⟨by unfold Kd;rw [ZM this],by unfold Xy;rw [ZM this]⟩
 have cN:hf e.bn->∀W,Calls prog 253 #[.int .i64 e.bn] W (λr w'=>r=.returned (.tuple #[.int .i64 (-e.bn),.int .i64 0])∧W=w'):=λh W=>by
  have:=Zi1 e.bn W (by unfold hf at h;unfold Zu;omega)
  rw [(fN h).1,(fN h).2] at this;exact this
 clear fN;rcases H with ⟨hk,ha,hb,cS⟩|⟨hk,ha,hb,cS⟩|⟨hk,ha,hb,hf0,cS⟩
 all_goals
  first|(have q0:decide (e.av≥0)=true:=ZE (by omega))|(have q0:decide (e.av≥0)=false:=ZA (by omega))
  first|(have q1:decide (e.av<0)=true:=ZE (by omega))|(have q1:decide (e.av<0)=false:=ZA (by omega))
  first|(have q2:decide (e.bv≥0)=true:=ZE (by omega))|(have q2:decide (e.bv≥0)=false:=ZA (by omega))
  first|replace cN:=cN hf0|clear cN
  rw [hk] at x2 hW |-
  clear hk ha hb
  try clear hf0
  go_enter func189,ntmps189
  go_upto_region 1 with fail
  rw [<-hW];clear hW;go_upto_region 2 with fail
  go_cut [6,7] (λs6 s7 wx=>∃b6 b7,s6=.pointer (some ⟨b6,0,none⟩)∧s7=.pointer (some ⟨b7,0,none⟩)∧Bx wx b6 [.int .i64 e.av,.int .i64 e.an]∧Bx wx b7 [.int .i64 e.bv,.int .i64 e.bn]∧Below W.heap.size W wx)
  case first=>
   go_region
   all_goals
    go_wp2_with fail
    go_meet
   all_goals
    case rel=>
     first
     |(obtain ⟨V,hV,h1,h2,hb,_⟩:=Vu W [.int .i64 e.av,.int .i64 e.an] 54 [.int .i64 e.bv,.int .i64 e.bn] 54
       rw [HWS.out] at h1 h2;exact ⟨_,_,rfl,rfl,(by rw [<-hV];exact h1.bx.drew),(by rw [<-hV];exact h2.bx.drew),(by rw [<-hV];exact hb.drew)⟩)
     |(obtain ⟨V,hV,h1,h2,hb,_⟩:=Vu W [.int .i64 e.bv,.int .i64 e.bn] 54 [.int .i64 e.av,.int .i64 e.an] 54
       rw [HWS.out] at h1 h2;exact ⟨_,_,rfl,rfl,(by rw [<-hV];exact h2.bx.drew),(by rw [<-hV];exact h1.bx.drew),(by rw [<-hV];exact hb.drew)⟩)
  case rest=>
   obtain ⟨b6,b7,rfl,rfl,h6,h7,hb2⟩:=hcut;have HX2:=Hd (HX.out.go hb2);have HY2:=Hd (HY.out.go hb2);have HZ2:=Hd (HZ.out.go hb2);have HP2:=Hd (HP.out.go hb2);have HB2:=Ht HB hb2;clear y0 y1 y2 x2 x3 x6 x7 x8 x9 yl xl HX HY HZ HP HB hb2;obtain ⟨y0,y1,y2⟩:=HX2.out.bx.c2;have x3:=HY2.out.bx.cell 3 _ rfl;unfold Qj at x3;obtain ⟨_,_⟩:=h6.c1;obtain ⟨_,_⟩:=h7.c1;have yl:=HX2.out.bx.lt;have xl:=HY2.out.bx.lt;have al:=h6.lt;have bl:=h7.lt;clear h6 h7;go_wp2_with (first|(go_at_call 253;(with_reducible refine (cN _).mono ?_);rintro e w1 ⟨rfl,rfl⟩)|(go_at_call 252;(with_reducible refine (cS _ HP2.out).mono ?_);rintro _ _ ⟨A3,c3,he,hO7,hb7⟩;unfold Qf at he;subst he;have hz3:=HZ2.out.go hb7;have z0:=hz3.bx.cell 0 _ rfl;have z1:=hz3.bx.cell 1 _ rfl;have z2:=hz3.bx.cell 2 _ rfl;have zf:=hz3.bx.fr;have zl:=hz3.bx.lt;unfold Jj at z0 z1 z2;have HZ7:=Hd hz3;have HO7:=Hd hO7;have HB7:=Ht HB2 hb7;clear hO7 hb7 hz3))
   obtain ⟨k,kO,kB⟩:=Zx HZ7.out HO7.out HB7.out (by omega);obtain ⟨k0,k1,k2⟩:=k.bx.c2;simp only [Qp,Qm] at k0 k1 k2;exact QL (v:=Qf S A3 c3) (by simp [results,results189,go_sem,k0,k1,k2,Qf]) rfl ⟨A3,c3,rfl,kO,kB⟩
theorem Jj2 (n:Nat) (hn2:n=2) (A:Option Addr) (c:Nat) (M:List Int) (e:Ql) (w:World) (h:Qi w A c ((n:Int),false,M)) (hd:0≤e.dst∧e.dst<n) (hk:e.kind=4) (ha:e.av<0) (hb:0≤e.bv∧e.bv<n) (hf:hf e.an):
 Calls prog 189 #[Qf ((n:Int),false,M) A c,.agg (Qj e).toArray] w (Zd w (Js ((n:Int),false,M) e.dst e.bv e.an)):=
 Vs5 h (.inl ⟨hk,ha,by omega,λw1 h=>Py n hn2 A c M e.dst e.bv e.an w1 h hd hb hf⟩)
theorem Jv1 (n:Nat) (hn2:n=2) (A:Option Addr) (c:Nat) (M:List Int) (e:Ql) (w:World) (h:Qi w A c ((n:Int),false,M)) (hd:0≤e.dst∧e.dst<n) (hk:e.kind=4) (ha:0≤e.av∧e.av<n) (hb:e.bv<0) (hf:hf e.bn):
 Calls prog 189 #[Qf ((n:Int),false,M) A c,.agg (Qj e).toArray] w (Zd w (Js ((n:Int),false,M) e.dst e.av e.bn)):=
 Vs5 h (.inr (.inl ⟨hk,by omega,hb,λw1 h=>Py n hn2 A c M e.dst e.av e.bn w1 h hd ha hf⟩))
theorem Jy2 (n:Nat) (hn2:n=2) (A:Option Addr) (c:Nat) (M:List Int) (e:Ql) (w:World) (h:Qi w A c ((n:Int),false,M)) (hd:0≤e.dst∧e.dst<n) (hk:e.kind=5) (ha:0≤e.av∧e.av<n) (hb:e.bv<0) (hf:hf e.bn):
 Calls prog 189 #[Qf ((n:Int),false,M) A c,.agg (Qj e).toArray] w (Zd w (Js ((n:Int),false,M) e.dst e.av (-e.bn))):=
 Vs5 h (.inr (.inr ⟨hk,by omega,hb,hf,λw1 h=>Py n hn2 A c M e.dst e.av (-e.bn) w1 h hd ha (by unfold Go.Proofs.YtpggdkenajfjjaaGreatDoor.hf at*;omega)⟩))
theorem Zr6 (P:Zj) (A:Option Addr) (c:Nat) (e:Ql) (w:World) (h:Qi w A c P) (hk:e.kind=3) (hd:nr e.dst) (ha:hf e.an):
 Calls prog 186 #[Qf P A c,.agg (Qj e).toArray] w (Zd w (Kn P e.dst (Kh (-e.an)))):=by
 obtain ⟨W,hW,hX,hY,hZ,hB,_⟩:=Zt w (Qp P A c) 32 (Qj e) 56 Jj 32;have hP:=h.go hB;obtain ⟨S,hS⟩:∃S:Zj,Hid (Kn P e.dst (Kh (-e.an))=S):=⟨_,Hd rfl⟩;rw [hS.out];have cR:=λW=>Zw2 W
 have cN:=λb W=>Vv6 e.an b W ha
 have cO:=λW=>Zh6 (-e.an) W
 have cG:=λ(w1:World) (h:Qi w1 A c P)=>Qt9 P A c e.dst (Kh (-e.an)) w1 h hd (by unfold hf Kh at*;dsimp only;omega) (by unfold hf Kh at*;dsimp only;omega)
 rw [hS.out] at cG;unfold Kh at cG;unfold Kx at cO;unfold Qf Kx at cG;unfold Qg5 at cR;have:∀W,(Instr.field 332 (.agg #[.func (.func 299) #[] #[],.nilFunc]) 0).run prog W=.ok (.func (.func 299) #[] #[]) W:=λW=>by kernel_rfl
 obtain ⟨y0,y1,y2⟩:=hX.bx.c2;have x2:=hY.bx.cell 2 _ rfl;have x3:=hY.bx.cell 3 _ rfl;have x7:=hY.bx.cell 7 _ rfl;have x9:=hY.bx.cell 9 _ rfl;have HX:=Hd hX;have HY:=Hd hY;have HZ:=Hd hZ;have HB:=Hd hB;have HP:=Hd hP;have yl:=hX.bx.lt;have xl:=hY.bx.lt;unfold Qf;unfold Qp Qj Jj at hW;unfold Qj at x2 x3 x7 x9 |-
 rw [hk] at x2 hW |-
 clear h hX hY hZ hB hP hS;go_enter func186,ntmps186
 go_upto_region 1 with fail
 rw [<-hW];clear hW;have a2:=Qz.cell x2;have a3:=Qz.cell x3;have a7:=Qz.cell x7;have a9:=Qz.cell x9;refine Qk (by kernel_rfl) (by kernel_rfl) ?_
 repeat (go_big_quiet_step (first|(go_at_call 248;with_reducible exact Qd (cR _))|(go_at_call 299;with_reducible exact Qw (cN _ _))))
 refine wpQuiet_nil ?_;intro w5 hb5;have HX5:=Hd (HX.out.go hb5);have HY5:=Hd (HY.out.go hb5);have HZ5:=Hd (HZ.out.go hb5);have HP5:=Hd (HP.out.go hb5);have HB5:=Ht HB hb5;clear a2 a3 a7 a9 y0 y1 y2 x2 x3 x7 x9 yl xl hb5;obtain ⟨y0,y1,y2⟩:=HX5.out.bx.c2;have x3:=HY5.out.bx.cell 3 _ rfl;have yl:=HX5.out.bx.lt;have xl:=HY5.out.bx.lt;unfold Qj at x3;go_upto_region 4 with fail
 go_region_law (first
  |(go_simp;go_at_call 183;(with_reducible refine (cO _).mono ?_);rintro _ _ ⟨rfl,hb6⟩;have hx6:=(HX5.out.go (QK _ w5).drew).go hb6;have y0:=hx6.bx.cell 0 _ rfl;have y1:=hx6.bx.cell 1 _ rfl;have y2:=hx6.bx.cell 2 _ rfl;have yl:=hx6.bx.lt;have hy6:=(HY5.out.go (QK _ w5).drew).go hb6;have x3:=hy6.bx.cell 3 _ rfl;have xl:=hy6.bx.lt;unfold Qj at x3;have HZ6:=Hd ((HZ5.out.go (QK _ w5).drew).go hb6);have HP6:=Hd ((HP5.out.go (QK _ w5).drew).go hb6);have HB6:=Hd (HB5.out.drew.trans (hb6.mono HB5.out.drew.size));clear hb6 hx6 hy6)
  |(go_simp;go_at_call 182;(with_reducible refine (cG _ HP6.out).mono ?_);rintro _ _ ⟨A3,c3,he,hO7,hb7⟩;unfold Qf at he;subst he;have hz3:=HZ6.out.go hb7;have z0:=hz3.bx.cell 0 _ rfl;have z1:=hz3.bx.cell 1 _ rfl;have z2:=hz3.bx.cell 2 _ rfl;have:=hz3.bx.fr;have:=hz3.bx.lt;unfold Jj at z0 z1 z2;have HZ7:=Hd hz3;have HO7:=Hd hO7;have HB7:=Ht HB6 hb7;clear hO7 hb7 hz3))
 all_goals
  go_wp2_with fail
  obtain ⟨k,kO,kB⟩:=Zx HZ7.out HO7.out HB7.out (by omega);obtain ⟨k0,k1,k2⟩:=k.bx.c2;simp only [Qp,Qm] at k0 k1 k2;exact QL (v:=Qf S A3 c3) (by simp [results,results186,go_sem,k0,k1,k2,Qf]) rfl ⟨A3,c3,rfl,kO,kB⟩
theorem Ux (av bv:Int):(av<0∧bv<0)∨(av<0∧¬bv<0)∨(¬av<0):=by omega
def Vp7 (n:Nat) (A:Option Addr) (c:Nat) (M:List Int) (e:Ql) (S:Zj):Prop:=
 (((e.kind=1∨e.kind=11∨e.kind=13)∨(e.kind=2∧0≤e.av∧e.av=e.dst))∧S=((n:Int),false,M))∨
 ((e.kind=14∧∀w1,Calls prog 179 #[.int .i64 n] w1 (Zd w1 S))∨
   (e.kind=12∧∀w1,Qi w1 A c ((n:Int),false,M)->Calls prog 181 #[Qf ((n:Int),false,M) A c,.int .i64 e.op,Um e.av e.an,Um e.bv e.bn] w1 (Zd w1 S))∨
   (e.kind=3∧e.av=-1∧e.bv<0∧∀w1,Qi w1 A c ((n:Int),false,M)->Calls prog 186 #[Qf ((n:Int),false,M) A c,.agg (Qj e).toArray] w1 (Zd w1 S))∨
   (e.kind=3∧0≤e.av∧e.av=e.dst∧∀w1,Qi w1 A c ((n:Int),false,M)->Calls prog 187 #[Qf ((n:Int),false,M) A c,.int .i64 e.dst] w1 (Zd w1 S))∨
   ((e.kind=4∨e.kind=5)∧(e.kind=5->0≤e.av)∧(e.av<0->0≤e.bv)∧∀w1,Qi w1 A c ((n:Int),false,M)->Calls prog 189 #[Qf ((n:Int),false,M) A c,.agg (Qj e).toArray] w1 (Zd w1 S)))∨
 (e.kind=2∧e.av=-1∧e.bv<0∧∀w1,Qi w1 A c ((n:Int),false,M)->Calls prog 182 #[Qf ((n:Int),false,M) A c,.int .i64 e.dst,Kx (Kh e.an)] w1 (Zd w1 S))∨
 (e.kind=2∧nr e.av∧e.av≠e.dst∧∀w1,Qi w1 A c ((n:Int),false,M)->Calls prog 184 #[Qf ((n:Int),false,M) A c,.int .i64 e.dst,.int .i64 (2*e.av)] w1 (Zd w1 S))∨
 (e.kind=3∧nr e.av∧e.av≠e.dst∧∀w1,Qi w1 A c ((n:Int),false,M)->Calls prog 184 #[Qf ((n:Int),false,M) A c,.int .i64 e.dst,.int .i64 (2*e.av+1)] w1 (Zd w1 S))
theorem Vp6 {n:Nat} {A:Option Addr} {c:Nat} {M:List Int} {e:Ql} {w:World} {S:Zj} (h:Qi w A c ((n:Int),false,M)) (H:Vp7 n A c M e S):
 Calls prog 124 #[Qf ((n:Int),false,M) A c,.agg (Qj e).toArray] w (Zd w S):=by
 obtain ⟨W,hW,hX,hY,hZ,hB,hs⟩:=Zt w (Qp ((n:Int),false,M) A c) 32 (Qj e) 56 Jj 32;have hP:=h.go hB;have h64:n≤64:=by
  obtain ⟨k,hk,h1,_⟩:=Zz h.ok;have hk:(n:Int)=k:=hk;omega
 obtain ⟨x0,x1,x2,x3,x4,x5,x6,x7,x8,x9⟩:=hY.bx.c9;obtain ⟨y0,y1,y2⟩:=hX.bx.c2;obtain ⟨z0,z1,z2⟩:=hZ.bx.c2;have zf:=hZ.bx.fr;have yl:=hX.bx.lt;have xl:=hY.bx.lt;have zl:=hZ.bx.lt;have:=Hd hX;have:=Hd hY;have HZ:=Hd hZ;have HB:=Hd hB;have HP:=Hd hP;have HN:=Hd (Ux e.av e.bv);unfold Vp7 Qf Um Kx Kh Qj at H;unfold Qf;unfold Qp Qj Jj at hW;unfold Qj at |-
 clear h hX hY hZ hB hP hs;rcases H with H|H|H|H|H
 .obtain ⟨hk,rfl⟩:=H;rcases hk with (hk|hk|hk)|⟨hk,h0,h1⟩<;>rcases HN.out with ⟨ka,kb⟩|⟨ka,kb⟩|ka
  all_goals try (exfalso;omega)
  all_goals
   first|(have qa:decide (e.av<0)=true:=ZE ka)|(have qa:decide (e.av<0)=false:=ZA ka)
   first|(have qb:decide (e.bv<0)=true:=ZE kb)|(have qb:decide (e.bv<0)=false:=ZA kb)|skip
   first|(have q1:(e.av==-1)=true:=by simp [h0])|(have q1:(e.av==-1)=false:=by simp;omega)|skip
   first|(have q2:(e.av==e.dst)=true:=by simp [h1])|skip
   rw [hk] at x2 hW |-
   try rw [hk] at cE
   try clear kb
   try clear h0
   try clear h1
   clear ka hk HN h64;as_aux_lemma=>
    go_enter func124,ntmps124
    go_upto_region 1 with fail
    rw [<-hW];clear hW;go_wp2_with fail
    obtain ⟨k,kO,kB⟩:=Zx HZ.out HP.out HB.out (by omega);obtain ⟨k0,k1,k2⟩:=k.bx.c2;simp only [Qp,Qm] at k0 k1 k2;exact QL (v:=Qf ((n:Int),false,M) A c) (by simp [results,results124,go_sem,k0,k1,k2,Qf]) rfl ⟨A,c,rfl,kO,kB⟩
 .rcases H with ⟨hk,cE⟩|⟨hk,cE⟩|⟨hk,h0,h1,cE⟩|⟨hk,h0,h1,cE⟩|⟨hk|hk,h0,h1,cE⟩<;>rcases HN.out with ⟨ka,kb⟩|⟨ka,kb⟩|ka
  all_goals try (exfalso;omega)
  all_goals
   first|(have qa:decide (e.av<0)=true:=ZE ka)|(have qa:decide (e.av<0)=false:=ZA ka)
   first|(have qb:decide (e.bv<0)=true:=ZE kb)|(have qb:decide (e.bv<0)=false:=ZA kb)|skip
   first|(have q1:(e.av==-1)=true:=by simp [h0])|(have q1:(e.av==-1)=false:=by simp;omega)|skip
   first|(have q2:(e.av==e.dst)=true:=by simp [h1])|skip
   rw [hk] at x2 hW |-
   try rw [hk] at cE
   try clear kb
   try clear h0
   try clear h1
   clear ka hk HN h64;as_aux_lemma=>
    go_enter func124,ntmps124
    go_upto_region 1 with fail
    rw [<-hW];clear hW;go_wp2_with ((first|go_at_call 179|go_at_call 181|go_at_call 186|go_at_call 187|go_at_call 189);(first|(with_reducible refine (cE _).mono ?_)|(with_reducible refine (cE _ HP.out).mono ?_));rintro e3 w7 ⟨A3,c3,he,hO7,hb7⟩;unfold Qf at he;subst he;have hz3:=HZ.out.go hb7;have z0:=hz3.bx.cell 0 _ rfl;have z1:=hz3.bx.cell 1 _ rfl;have z2:=hz3.bx.cell 2 _ rfl;have zf:=hz3.bx.fr;have zl:=hz3.bx.lt;have HZ7:=Hd hz3;have HO7:=Hd hO7;have HB7:=Ht HB hb7;clear hO7 hb7 hz3)
    obtain ⟨k,kO,kB⟩:=Zx HZ7.out HO7.out HB7.out (by omega);obtain ⟨k0,k1,k2⟩:=k.bx.c2;simp only [Qp,Qm] at k0 k1 k2;exact QL (v:=Qf S A3 c3) (by simp [results,results124,go_sem,k0,k1,k2,Qf]) rfl ⟨A3,c3,rfl,kO,kB⟩
 focus
  obtain ⟨hk,h0,h1,cE⟩:=H;have cO:=λW=>Zh6 e.an W
  unfold Kx at cO;have qa:decide (e.av<0)=true:=ZE (by omega);have qb:decide (e.bv<0)=true:=ZE (by omega);have q1:(e.av==-1)=true:=by simp [h0]
  rw [hk] at x2 hW |-
  clear hk h0 h1 HN;go_enter func124,ntmps124
  go_upto_region 1 with fail
  rw [<-hW];clear hW;go_upto_region 13 with fail
  have a0:=Qz.cell y0;have a1:=Qz.cell y1;have a2:=Qz.cell y2;have b3:=Qz.cell x3;have b6:=Qz.cell x6;have b7:=Qz.cell x7;refine Qb [(7,2)] (by kernel_rfl) (by kernel_rfl) ?_;simp only [Jl,ZP,ZQ,ZR,ZT]
  repeat (go_big_quiet_step ((go_at_call 183;with_reducible exact Qd (cO _))))
  refine wpQuiet_nil ?_;intro w5 hb5;have HZ5:=Hd (HZ.out.go hb5);have HP5:=Hd (HP.out.go hb5);have HB5:=Ht HB hb5;clear a0 a1 a2 b3 b6 b7 x0 x1 x2 x3 x4 x5 x6 x7 x8 x9 y0 y1 y2 z0 z1 z2 zf zl yl xl hb5;go_wp2_with (go_at_call 182;(with_reducible refine (cE _ HP5.out).mono ?_);rintro e3 w7 ⟨A3,c3,he,hO7,hb7⟩;unfold Qf at he;subst he;have hz3:=HZ5.out.go hb7;have z0:=hz3.bx.cell 0 _ rfl;have z1:=hz3.bx.cell 1 _ rfl;have z2:=hz3.bx.cell 2 _ rfl;have zf:=hz3.bx.fr;have zl:=hz3.bx.lt;have HZ7:=Hd hz3;have HO7:=Hd hO7;have HB7:=Ht HB5 hb7;clear hO7 hb7 hz3)
 rotate_left
 focus
  obtain ⟨hk,ha,hne,cE⟩:=H;have cp:=λW=>Mp e.av W ha
  have ha0:0≤e.av:=ha.1;have qa:decide (e.av<0)=false:=ZA (by omega);have q1:(e.av==-1)=false:=by simp;omega
  have q2:(e.av==e.dst)=false:=by simp [hne]
  rw [hk] at x2 hW |-
  clear hk ha ha0 hne HN;go_enter func124,ntmps124
  go_upto_region 1 with fail
  rw [<-hW];clear hW;go_upto_region 16 with fail
  have a0:=Qz.cell y0;have a1:=Qz.cell y1;have a2:=Qz.cell y2;have b3:=Qz.cell x3;have b6:=Qz.cell x6;have b7:=Qz.cell x7;refine Qb [(7,2)] (by kernel_rfl) (by kernel_rfl) ?_;simp only [Jl,ZP,ZQ,ZR,ZT]
  repeat (go_big_quiet_step ((go_at_call 185;with_reducible exact Qw (cp _))))
  refine wpQuiet_nil ?_;intro w5 hb5;have HZ5:=Hd (HZ.out.go hb5);have HP5:=Hd (HP.out.go hb5);have HB5:=Ht HB hb5;clear a0 a1 a2 b3 b6 b7 x0 x1 x2 x3 x4 x5 x6 x7 x8 x9 y0 y1 y2 z0 z1 z2 zf zl yl xl hb5;go_wp2_with (go_at_call 184;(with_reducible refine (cE _ HP5.out).mono ?_);rintro e3 w7 ⟨A3,c3,he,hO7,hb7⟩;unfold Qf at he;subst he;have hz3:=HZ5.out.go hb7;have z0:=hz3.bx.cell 0 _ rfl;have z1:=hz3.bx.cell 1 _ rfl;have z2:=hz3.bx.cell 2 _ rfl;have zf:=hz3.bx.fr;have zl:=hz3.bx.lt;have HZ7:=Hd hz3;have HO7:=Hd hO7;have HB7:=Ht HB5 hb7;clear hO7 hb7 hz3)
 rotate_left
 focus
  obtain ⟨hk,ha,hne,cE⟩:=H;have cp:=λW=>Qo1 e.av W ha
  have ha0:0≤e.av:=ha.1;have qa:decide (e.av<0)=false:=ZA (by omega);have q1:(e.av==-1)=false:=by simp;omega
  have q2:(e.av==e.dst)=false:=by simp [hne]
  rw [hk] at x2 hW |-
  clear hk ha ha0 hne HN;go_enter func124,ntmps124
  go_upto_region 1 with fail
  rw [<-hW];clear hW;go_upto_region 23 with fail
  have a0:=Qz.cell y0;have a1:=Qz.cell y1;have a2:=Qz.cell y2;have b3:=Qz.cell x3;have b6:=Qz.cell x6;have b7:=Qz.cell x7;refine Qb [(7,2)] (by kernel_rfl) (by kernel_rfl) ?_;simp only [Jl,ZP,ZQ,ZR,ZT]
  repeat (go_big_quiet_step ((go_at_call 188;with_reducible exact Qw (cp _))))
  refine wpQuiet_nil ?_;intro w5 hb5;have HZ5:=Hd (HZ.out.go hb5);have HP5:=Hd (HP.out.go hb5);have HB5:=Ht HB hb5;clear a0 a1 a2 b3 b6 b7 x0 x1 x2 x3 x4 x5 x6 x7 x8 x9 y0 y1 y2 z0 z1 z2 zf zl yl xl hb5;go_wp2_with (go_at_call 184;(with_reducible refine (cE _ HP5.out).mono ?_);rintro e3 w7 ⟨A3,c3,he,hO7,hb7⟩;unfold Qf at he;subst he;have hz3:=HZ5.out.go hb7;have z0:=hz3.bx.cell 0 _ rfl;have z1:=hz3.bx.cell 1 _ rfl;have z2:=hz3.bx.cell 2 _ rfl;have zf:=hz3.bx.fr;have zl:=hz3.bx.lt;have HZ7:=Hd hz3;have HO7:=Hd hO7;have HB7:=Ht HB5 hb7;clear hO7 hb7 hz3)
 all_goals
  refine Qu (wpQuiet_nil ?_);intro w8 hb8;obtain ⟨k,kO,kB⟩:=Zx HZ7.out HO7.out HB7.out (by omega);have k:=k.go hb8;have kO:=kO.go hb8;have kB:=kB.trans (hb8.mono kB.size);obtain ⟨k0,k1,k2⟩:=k.bx.c2;have KO:=Hd kO;have KB:=Hd kB;clear z0 z1 z2 zf zl k kO kB hb8;go_wp2_with fail
  exact QL (v:=Qf S A3 c3) (by simp [results,results124,go_sem,k0,k1,k2,Qf]) rfl ⟨A3,c3,rfl,KO.out,KB.out⟩
theorem Jk3 (n:Nat) (hn2:n=2) (A:Option Addr) (c:Nat) (M:List Int) (e:Ql) (w:World) (h:Qi w A c ((n:Int),false,M)) (hk:e.kind=14):
 Calls prog 124 #[Qf ((n:Int),false,M) A c,.agg (Qj e).toArray] w (Zd w (Vt n)):=Vp6 h (.inr (.inl (.inl ⟨hk,λw1=>Qs8 n w1 (by omega)⟩)))
theorem Je1 (n:Nat) (hn2:n=2) (A:Option Addr) (c:Nat) (M:List Int) (e:Ql) (w:World) (h:Qi w A c ((n:Int),false,M)) (hk:e.kind=1):
 Calls prog 124 #[Qf ((n:Int),false,M) A c,.agg (Qj e).toArray] w (Zd w (((n:Int),false,M))):=Vp6 h (.inl ⟨.inl (by rw [hk];omega),rfl⟩)
theorem Jw6 (n:Nat) (hn2:n=2) (A:Option Addr) (c:Nat) (M:List Int) (e:Ql) (w:World) (h:Qi w A c ((n:Int),false,M)) (hk:e.kind=11):
 Calls prog 124 #[Qf ((n:Int),false,M) A c,.agg (Qj e).toArray] w (Zd w (((n:Int),false,M))):=Vp6 h (.inl ⟨.inl (by rw [hk];omega),rfl⟩)
theorem Jv8 (n:Nat) (hn2:n=2) (A:Option Addr) (c:Nat) (M:List Int) (e:Ql) (w:World) (h:Qi w A c ((n:Int),false,M)) (hk:e.kind=13):
 Calls prog 124 #[Qf ((n:Int),false,M) A c,.agg (Qj e).toArray] w (Zd w (((n:Int),false,M))):=Vp6 h (.inl ⟨.inl (by rw [hk];omega),rfl⟩)
theorem Jk2 (n:Nat) (hn2:n=2) (A:Option Addr) (c:Nat) (M:List Int) (e:Ql) (w:World) (h:Qi w A c ((n:Int),false,M)) (hk:e.kind=12) (ha:e.av<0∨nr e.av) (hb:e.bv<0∨nr e.bv) (na:hg e.an) (nb:hg e.bn) (h1:1≤e.op∧e.op≤6) (h4:e.op=4->e.av<0∧e.bv<0):
 Calls prog 124 #[Qf ((n:Int),false,M) A c,.agg (Qj e).toArray] w (Zd w (Xc ((n:Int),false,M) e.op e.av e.an e.bv e.bn)):=Vp6 h (.inr (.inl (.inr (.inl ⟨hk,λw1 h=>Zx8 ((n:Int),false,M) A c e.op e.av e.an e.bv e.bn w1 h ha hb na nb h1 h4⟩))))
theorem Qu7 (n:Nat) (hn2:n≤64) (A:Option Addr) (c:Nat) (M:List Int) (e:Ql) (w:World) (h:Qi w A c ((n:Int),false,M)) (hk:e.kind=2) (ha:e.av=-1) (hb:e.bv<0) (hd:nr e.dst) (hf0:hf e.an):
 Calls prog 124 #[Qf ((n:Int),false,M) A c,.agg (Qj e).toArray] w (Zd w (Kn ((n:Int),false,M) e.dst (Kh e.an))):=Vp6 h (.inr (.inr (.inl ⟨hk,ha,hb,λw1 h=>Qt9 ((n:Int),false,M) A c e.dst (Kh e.an) w1 h hd (by unfold Kh;exact hf0) (by unfold Kh;exact hf0)⟩)))
theorem Jk6 (n:Nat) (hn2:n=2) (A:Option Addr) (c:Nat) (M:List Int) (e:Ql) (w:World) (h:Qi w A c ((n:Int),false,M)) (hk:e.kind=2) (ha:0≤e.av) (hd:e.av=e.dst):
 Calls prog 124 #[Qf ((n:Int),false,M) A c,.agg (Qj e).toArray] w (Zd w (((n:Int),false,M))):=Vp6 h (.inl ⟨.inr ⟨hk,ha,hd⟩,rfl⟩)
theorem Jx4 (n:Nat) (hn2:n=2) (A:Option Addr) (c:Nat) (M:List Int) (e:Ql) (w:World) (h:Qi w A c ((n:Int),false,M)) (hk:e.kind=2) (ha:nr e.av) (hd:nr e.dst) (hne:e.av≠e.dst):
 Calls prog 124 #[Qf ((n:Int),false,M) A c,.agg (Qj e).toArray] w (Zd w (Rs ((n:Int),false,M) e.dst (2*e.av))):=Vp6 h (.inr (.inr (.inr (.inl ⟨hk,ha,hne,λw1 h=>Qw5 ((n:Int),false,M) A c e.dst (2*e.av) w1 h hd⟩))))
theorem Zt4 (n:Nat) (hn2:n=2) (A:Option Addr) (c:Nat) (M:List Int) (e:Ql) (w:World) (h:Qi w A c ((n:Int),false,M)) (hk:e.kind=3) (ha:e.av=-1) (hb:e.bv<0) (hd:nr e.dst) (hf0:hf e.an):
 Calls prog 124 #[Qf ((n:Int),false,M) A c,.agg (Qj e).toArray] w (Zd w (Kn ((n:Int),false,M) e.dst (Kh (-e.an)))):=Vp6 h (.inr (.inl (.inr (.inr (.inl ⟨hk,ha,hb,λw1 h=>Zr6 ((n:Int),false,M) A c e w1 h hk hd hf0⟩)))))
theorem Jq3 (n:Nat) (hn2:n=2) (A:Option Addr) (c:Nat) (M:List Int) (e:Ql) (w:World) (h:Qi w A c ((n:Int),false,M)) (hk:e.kind=3) (ha:0≤e.av) (hd:e.av=e.dst) (hdn:e.dst<n):
 Calls prog 124 #[Qf ((n:Int),false,M) A c,.agg (Qj e).toArray] w (Zd w (Wa ((n:Int),false,M) e.dst)):=Vp6 h (.inr (.inl (.inr (.inr (.inr (.inl ⟨hk,ha,hd,λw1 h=>by
 obtain ⟨v,hv⟩:=ZV (show 0≤e.dst by omega);rw [hv];exact Jh4 n hn2 A c M v w1 h (by omega)⟩))))))
theorem Jj7 (n:Nat) (hn2:n=2) (A:Option Addr) (c:Nat) (M:List Int) (e:Ql) (w:World) (h:Qi w A c ((n:Int),false,M)) (hk:e.kind=3) (ha:nr e.av) (hd:nr e.dst) (hne:e.av≠e.dst):
 Calls prog 124 #[Qf ((n:Int),false,M) A c,.agg (Qj e).toArray] w (Zd w (Rs ((n:Int),false,M) e.dst (2*e.av+1))):=Vp6 h (.inr (.inr (.inr (.inr ⟨hk,ha,hne,λw1 h=>Qw5 ((n:Int),false,M) A c e.dst (2*e.av+1) w1 h hd⟩))))
theorem Jx8 (n:Nat) (hn2:n=2) (A:Option Addr) (c:Nat) (M:List Int) (e:Ql) (w:World) (h:Qi w A c ((n:Int),false,M)) (hk:e.kind=4) (hd:0≤e.dst∧e.dst<n) (ha:e.av<0) (hb:0≤e.bv∧e.bv<n) (hf0:hf e.an):
 Calls prog 124 #[Qf ((n:Int),false,M) A c,.agg (Qj e).toArray] w (Zd w (Js ((n:Int),false,M) e.dst e.bv e.an)):=Vp6 h (.inr (.inl (.inr (.inr (.inr (.inr ⟨.inl hk,by omega,by omega,λw1 h=>Jj2 n hn2 A c M e w1 h hd hk ha hb hf0⟩))))))
theorem Zn2 (n:Nat) (hn2:n=2) (A:Option Addr) (c:Nat) (M:List Int) (e:Ql) (w:World) (h:Qi w A c ((n:Int),false,M)) (hk:e.kind=4) (hd:0≤e.dst∧e.dst<n) (ha:0≤e.av∧e.av<n) (hb:e.bv<0) (hf0:hf e.bn):
 Calls prog 124 #[Qf ((n:Int),false,M) A c,.agg (Qj e).toArray] w (Zd w (Js ((n:Int),false,M) e.dst e.av e.bn)):=Vp6 h (.inr (.inl (.inr (.inr (.inr (.inr ⟨.inl hk,by omega,by omega,λw1 h=>Jv1 n hn2 A c M e w1 h hd hk ha hb hf0⟩))))))
theorem Jg9 (n:Nat) (hn2:n=2) (A:Option Addr) (c:Nat) (M:List Int) (e:Ql) (w:World) (h:Qi w A c ((n:Int),false,M)) (hk:e.kind=5) (hd:0≤e.dst∧e.dst<n) (ha:0≤e.av∧e.av<n) (hb:e.bv<0) (hf0:hf e.bn):
 Calls prog 124 #[Qf ((n:Int),false,M) A c,.agg (Qj e).toArray] w (Zd w (Js ((n:Int),false,M) e.dst e.av (-e.bn))):=Vp6 h (.inr (.inl (.inr (.inr (.inr (.inr ⟨.inr hk,by omega,by omega,λw1 h=>Jy2 n hn2 A c M e w1 h hd hk ha hb hf0⟩))))))
def Vg (os:List Zj) (i:Nat):Zj:=os.getD i (0,false,[])
def Ci (w:World) (A:Option Addr) (os:List Zj):Prop:=
 0<os.length->∃b off,A=some ⟨b,off,none⟩∧b<w.heap.size∧∀i,i<os.length->∃Ai ci,
  w.cell? ⟨b,off+i*3,none⟩=some (.int .i64 (Vg os i).1)∧w.cell? ⟨b,off+i*3+1,none⟩=some (.bool (Vg os i).2.1)∧w.cell? ⟨b,off+i*3+2,none⟩=some (.slice Ai (Vg os i).2.2.length ci)∧Qi w Ai ci (Vg os i)
theorem Ci.go {w w':World} {A:Option Addr} {os:List Zj} (h:Ci w A os) (hb:Below w.heap.size w w'):Ci w' A os:=λhn=>by
 obtain ⟨b,off,e,hlt,hc⟩:=h hn;refine ⟨b,off,e,ZI hlt hb.size,λi hi=>?_⟩;obtain ⟨Ai,ci,h0,h1,h2,ho⟩:=hc i hi;exact ⟨Ai,ci,Qq hb h0,Qq hb h1,Qq hb h2,ho.go hb⟩
def Sq (w:World) (P:Zj) (e:Ending) (w':World):Prop:=∃A c,e=.returned (.tuple #[Qf P A c,.int .i64 0])∧Qi w' A c P∧Below w.heap.size w w'
def jC (m:GM) (g:Zv) (n:Int) (gv lv:Value) (ok:Bool) (why pt cost:Int):List Value:=
 [.slice m.va g.nv m.vc,.int .i64 g.temps,.slice m.aa g.sizes.length m.ac,.int .i64 g.points,.int .i64 g.exit,.slice m.ea g.edges.length m.ec,.int .i64 n,gv,lv,.bool ok,.int .i64 why,.int .i64 0,.int .i64 0,.int .i64 pt,.int .i64 cost]
theorem Bx.grown {w w':World} {b:Nat} {vs:List Value} (h:Bx w b vs) (hb:Below w.heap.size w w'):Bx w' b vs:=h.below hb
theorem Zk9 (j:Nat) (m:GM) (g:Zv) (n:Int) (gv lv:Value) (ok:Bool) (why pt cost:Int) (y p:Int) (w:World) (h:Bx w j (jC m g n gv lv ok why pt cost)):
 Calls prog 65 #[.pointer (some ⟨j,0,none⟩),.int .i64 y,.int .i64 p] w λe w'=>e=.returned (.tuple #[])∧Bx w' j (jC m g n gv lv ok y p cost)∧w.grownBy w' (some j):=by
 have:=h.cell 10 _ rfl;have:=h.cell 13 _ rfl;have:=h.fr;have:=h.lt;have H:=Hd h;clear h;go_enter func65,ntmps65
 go_wp2_with fail
 have k1:=H.out.set (i:=10) (by show 10<15;omega) (.int .i64 y);have k2:=k1.set (i:=13) (by show 13<15;omega) (.int .i64 p);have g1:=Qv (p:=⟨j,10,none⟩) (QN w (some j)) (.inl rfl) (.int .i64 y);have g2:=Qv (p:=⟨j,13,none⟩) g1 (.inl rfl) (.int .i64 p);go_end0
 exact ⟨rfl,k2,g2⟩
def Im (P Q:Zj):Bool:=Qv3 P.1 P.2.1 P.2.2 Q.2.1 Q.2.2
theorem Jv9 {P Q:Zj} (h:Je P.1 P.2.1 P.2.2=0) (h':Je Q.1 Q.2.1 Q.2.2=0) (hn:P.1=Q.1):Qk5 P.1 P.2.1 P.2.2 Q.1 Q.2.1 Q.2.2=0:=by
 obtain ⟨_,_,_⟩:=P;obtain ⟨_,_,_⟩:=Q;dsimp only at h h' hn;subst hn;unfold Qk5;simp [h,h']
theorem Ct (P Q:Zj) (A B:Option Addr) (c d:Nat) (w:World) (h:Qi w A c P) (h':Qi w B d Q) (hn:P.1=Q.1):
 Calls prog 68 #[Qf P A c,Qf Q B d] w λe w'=>e=.returned (.bool (Im P Q))∧Below w.heap.size w w':=by
 obtain ⟨W,hW,hX,hY,hB,_⟩:=Vu w (Qp P A c) 32 (Qp Q B d) 32;have cE:=Qv7 P.1 P.2.1 A c P.2.2 Q.1 Q.2.1 B d Q.2.2 W (h.go hB).oi (h'.go hB).oi h.len 0 (Jv9 h.ok h'.ok hn) (Im P Q) (by unfold Im;simp);obtain ⟨_,_,_⟩:=hX.bx.c2;have:=hX.bx.lt;obtain ⟨_,_,_⟩:=hY.bx.c2;have:=hY.bx.lt;generalize Im P Q=r at*;have HB:=Hd hB;unfold Qf;unfold Qp at hW;clear h h' hn hX hY hB;go_enter func68,ntmps68
 go_upto_region 1 with fail
 rw [<-hW];clear hW;go_wp2_with (go_at_call 121;(with_reducible refine cE.mono ?_);rintro e _ ⟨rfl,hb1⟩;have HB1:=Ht HB hb1;clear hb1)
 go_ret
 exact ⟨rfl,HB1.out⟩
def Uy (n:Nat):Zj:=((n:Int),false,List.replicate (4*n*n) 0)
theorem Zm6:Je (Uy 1).1 (Uy 1).2.1 (Uy 1).2.2=0:=by decide+kernel
theorem Zn9:Je (Uy 2).1 (Uy 2).2.1 (Uy 2).2.2=0:=by decide+kernel
structure OkE (na:Int) (e:Ql):Prop where
 hr:Uv 2 na e=true
 hx:Vm e=true
 h9:e.kind≠9
 h10:e.kind≠10
 n1:Vz e.an
 n2:Vz e.bn
theorem Zl1 {x:Int} (h:Vz x):hf x:=by unfold Vz at h;unfold hf;omega
theorem Zg7 {x:Int} (h:Vz x):hg x:=by unfold Vz at h;unfold hg;omega
theorem Vy4 (n:Nat) (hn2:n=2) (A:Option Addr) (c:Nat) (M:List Int) (e:Ql) (na:Int) (w:World) (h:Qi w A c ((n:Int),false,M)) (hE:OkE na e):
 Calls prog 124 #[Qf ((n:Int),false,M) A c,.agg (Qj e).toArray] w (Zd w (Xu ((n:Int),false,M) e)):=by
 obtain ⟨hr,hx,_,_,n1,n2⟩:=hE;obtain ⟨⟨_,_⟩,r1,_,r3,r4,r5⟩:=Yh hr;have f1:=Zl1 n1;have f2:=Zl1 n2;rcases (show e.kind=1∨e.kind=2∨e.kind=3∨e.kind=4∨e.kind=5∨(e.kind=6∨e.kind=7∨e.kind=8)∨e.kind=11∨e.kind=12∨e.kind=13∨e.kind=14 by omega) with k|k|k|k|k|k|k|k|k|k
 .rw [show Xu ((n:Int),false,M) e=((n:Int),false,M) by unfold Xu;rw [k];rfl];exact Je1 n hn2 A c M e w h k
 .rw [k] at r1 r4 r5;have d0:0≤e.dst∧e.dst<2:=ZN r1;have a0:=Ak r4;have b0:e.bv=-1∧e.bn=0:=ZN r5;rw [show Xu ((n:Int),false,M) e=Ol ((n:Int),false,M) e.dst e.av e.an by unfold Xu;rw [k];rfl];unfold Ol;rcases a0 with a0|a0
  .rw [ZM (by omega)];exact Qu7 n (by omega) A c M e w h k a0 (by omega) (by unfold nr;omega) f1
  rw [ZL (by omega)];by_cases hd:e.av=e.dst
  .rw [ZM hd];exact Jk6 n hn2 A c M e w h k a0.1 hd
  rw [ZL hd];exact Jx4 n hn2 A c M e w h k (by unfold nr;omega) (by unfold nr;omega) hd
 .rw [k] at r1 r4 r5;have d0:0≤e.dst∧e.dst<2:=ZN r1;have a0:=Ak r4;have b0:e.bv=-1∧e.bn=0:=ZN r5;rw [show Xu ((n:Int),false,M) e=Zj5 ((n:Int),false,M) e.dst e.av e.an by unfold Xu;rw [k];rfl];unfold Zj5;rcases a0 with a0|a0
  .rw [ZM (by omega)];exact Zt4 n hn2 A c M e w h k a0 (by omega) (by unfold nr;omega) f1
  rw [ZL (by omega)];by_cases hd:e.av=e.dst
  .rw [ZM hd];exact Jq3 n hn2 A c M e w h k a0.1 hd (by omega)
  rw [ZL hd];exact Jj7 n hn2 A c M e w h k (by unfold nr;omega) (by unfold nr;omega) hd
 .rw [k] at r1 r4 r5;have d0:0≤e.dst∧e.dst<2:=ZN r1;have a0:=Ak r4;have b0:=Ak r5;have hx2:(0≤e.av)≠(0≤e.bv):=by
   unfold Vm at hx;rw [k] at hx;simp at hx
   exact λq=>hx.2 ⟨λz=>by rw [q] at z;exact z,λz=>by rw [q];exact z⟩
  rw [show Xu ((n:Int),false,M) e=(if e.av<0 then Js ((n:Int),false,M) e.dst e.bv e.an else Js ((n:Int),false,M) e.dst e.av e.bn) by unfold Xu;rw [k];rfl];by_cases ha:e.av<0
  .rw [ZM ha];have hb:0≤e.bv:=by
    by_cases hb:0≤e.bv
    .exact hb
    exact absurd (propext ⟨λk=>by omega,λk=>absurd k hb⟩) hx2
   exact Jx8 n hn2 A c M e w h k (by omega) ha (by omega) f1
  rw [ZL ha];have hb:e.bv<0:=by
   by_cases hb:0≤e.bv
   .exact absurd (propext ⟨λk=>hb,λk=>by omega⟩) hx2
   omega
  exact Zn2 n hn2 A c M e w h k (by omega) (by omega) hb f2
 .rw [k] at r1 r4 r5;have d0:0≤e.dst∧e.dst<2:=ZN r1;have a0:=Ak r4;have hx2:0≤e.av∧e.bv<0:=by
   unfold Vm at hx;rw [k] at hx;simp at hx
   omega
  rw [show Xu ((n:Int),false,M) e=Js ((n:Int),false,M) e.dst e.av (-e.bn) by unfold Xu;rw [k];rfl];exact Jg9 n hn2 A c M e w h k (by omega) (by omega) hx2.2 f2
 .exfalso
  unfold Vm at hx;rcases k with k|k|k<;>rw [k] at hx<;>simp at hx
 .rw [show Xu ((n:Int),false,M) e=((n:Int),false,M) by unfold Xu;rw [k];rfl];exact Jw6 n hn2 A c M e w h k
 .rw [k] at r3 r4 r5;have a0:=Ak r4;have b0:=Ak r5;have o0:1≤e.op∧e.op≤6:=ZN r3;rw [show Xu ((n:Int),false,M) e=Xc ((n:Int),false,M) e.op e.av e.an e.bv e.bn by unfold Xu;rw [k];rfl];refine Jk2 n hn2 A c M e w h k (by unfold nr;omega) (by unfold nr;omega) (Zg7 n1) (Zg7 n2) o0 λh4=>?_
  unfold Vm at hx;rw [k,h4] at hx;simp at hx
  omega
 .rw [show Xu ((n:Int),false,M) e=((n:Int),false,M) by unfold Xu;rw [k];rfl];exact Jv8 n hn2 A c M e w h k
 rw [show Xu ((n:Int),false,M) e=Vt n by unfold Xu;rw [k];rfl];exact Jk3 n hn2 A c M e w h k
theorem Qh5 (n:Nat) (P:Zj) (hPn:P.1=n) (A:Option Addr) (c:Nat) (e:Ql) (na:Int) (w:World) (h:Qi w A c P) (hr:Uv n na e=true)
 (hedge:∀(A1:Option Addr) (c1:Nat) (w1:World),Qi w1 A1 c1 ((n:Int),false,(Qo P).2.2)->Calls prog 124 #[Qf ((n:Int),false,(Qo P).2.2) A1 c1,.agg (Qj e).toArray] w1 (Zd w1 (Xu ((n:Int),false,(Qo P).2.2) e))):
 Calls prog 69 #[Qf P A c,.agg (Qj e).toArray] w (Sq w (Ym P e)):=by
 obtain ⟨W,hW,hX,hY,hZ,hB,_⟩:=Zt w (Qp P A c) 32 (Qj e) 56 Jj 32;have hP:=h.go hB;have cK:=Ul A c P.1 P.2.1 P.2.2 W hP.oi;rw [hP.ok] at cK;have cR:=λW=>Jl9 e P.1 na (by rw [hPn];exact hr) W
 have cC:=λ(w1:World) (hw:Qi w1 A c P)=>Yl P A c w1 hw
 obtain ⟨hc1,hc2⟩:=Sx h.ok;rw [hPn] at hc1;have HT:Hid (Ym P e=if (Qo P).2.1=true then Qo P else Xu (Qo P) e):=Hd rfl;generalize Qo P=Q at*;obtain ⟨_,qe,qm⟩:=Q;dsimp only at*;subst hc1;obtain ⟨S,hS⟩:∃S:Zj,Hid (Ym P e=S):=⟨_,Hd rfl⟩;rw [hS.out] at HT |-
 obtain ⟨x0,x1,x2,x3,x4,x5,x6,x7,x8,x9⟩:=hY.bx.c9;obtain ⟨y0,y1,y2⟩:=hX.bx.c2;have yl:=hX.bx.lt;have xl:=hY.bx.lt;have HX:=Hd hX;have HY:=Hd hY;have HZ:=Hd hZ;have HB:=Hd hB;have HP:=Hd hP;unfold Qf;unfold Qp Qj Jj at hW;unfold Qf at cC hedge;dsimp only at cC hedge;unfold Qj at cR hedge |-
 clear h hX hY hZ hB hP hPn hr hc2;go_enter func69,ntmps69
 go_upto_region 1 with fail
 rw [<-hW];clear hW;go_upto_region 4 with (go_at_call 32;(with_reducible refine cK.mono ?_);rintro e1 w1 ⟨rfl,hb1⟩;have HX1:=Hd (HX.out.go hb1);have HY1:=Hd (HY.out.go hb1);have HZ1:=Hd (HZ.out.go hb1);have HP1:=Hd (HP.out.go hb1);have HB1:=Ht HB hb1;clear hb1)
 clear x0 x1 x2 x3 x4 x5 x6 x7 x8 x9 y0 y1 y2 yl xl HX HY HZ HP HB cK;obtain ⟨x0,x1,x2,x3,x4,x5,x6,x7,x8,x9⟩:=HY1.out.bx.c9;obtain ⟨y0,y1,y2⟩:=HX1.out.bx.c2;have yl:=HX1.out.bx.lt;have xl:=HY1.out.bx.lt;go_upto_region 6 with (go_at_call 122;(with_reducible refine (cR _).mono ?_);rintro e1 _ ⟨rfl,hb1⟩;have HX2:=Hd (HX1.out.go hb1);have HY2:=Hd (HY1.out.go hb1);have HZ2:=Hd (HZ1.out.go hb1);have HP2:=Hd (HP1.out.go hb1);have HB2:=Ht HB1 hb1;clear hb1)
 clear x0 x1 x2 x3 x4 x5 x6 x7 x8 x9 y0 y1 y2 yl xl HX1 HY1 HZ1 HP1 HB1 cR;obtain ⟨y0,y1,y2⟩:=HX2.out.bx.c2;have yl:=HX2.out.bx.lt;go_upto_region 7 with (go_at_call 123;(with_reducible refine (cC _ HP2.out).mono ?_);rintro e1 w3 ⟨A1,c1,he,hO1,hb1⟩;unfold Qf at he;subst he;obtain ⟨W3,hW3,hX3,hB3,_⟩:=Zk w3 (Qp ((n:Int),qe,qm) A1 c1) 32;have HX3:=Hd hX3;have HY3:=Hd ((HY2.out.go hb1).go hB3);have HZ3:=Hd ((HZ2.out.go hb1).go hB3);have HO3:=Hd (hO1.go hB3);have HB3:=Hd (((Ht HB2 hb1).out).trans (hB3.mono ((Ht HB2 hb1).out).size));unfold Qp at hW3;clear hb1 hX3 hB3 hO1)
 rw [<-hW3];clear hW3 y0 y1 y2 yl HX2 HY2 HZ2 HP2 HB2;obtain ⟨x0,x1,x2,x3,x4,x5,x6,x7,x8,x9⟩:=HY3.out.bx.c9;obtain ⟨y0,y1,y2⟩:=HX3.out.bx.c2;obtain ⟨z0,z1,z2⟩:=HZ3.out.bx.c2;have zf:=HZ3.out.bx.fr;have zl:=HZ3.out.bx.lt;have yl:=HX3.out.bx.lt;have xl:=HY3.out.bx.lt;cases qe with
 |true=>
  have HT2:Hid (S=((n:Int),true,qm)):=Hd HT.out;clear HT hedge cC;go_wp2_with fail
  obtain ⟨k,kO,kB⟩:=Zx HZ3.out HO3.out HB3.out (by omega);obtain ⟨k0,k1,k2⟩:=k.bx.c2;simp only [Qp,Qm] at k0 k1 k2;exact QL (v:=.tuple #[Qf ((n:Int),true,qm) A1 c1,.int .i64 0]) (by simp [results,results69,go_sem,k0,k1,k2,Qf]) rfl ⟨A1,c1,by rw [HT2.out],by rw [HT2.out];exact kO,kB⟩
 |false=>
  have HT2:Hid (S=Xu ((n:Int),false,qm) e):=Hd HT.out;have cE:=hedge A1 c1 W3 HO3.out;rw [<-HT2.out] at cE;clear HT HT2 hedge cC;go_wp2_with (go_at_call 124;(with_reducible refine cE.mono ?_);rintro _ _ ⟨A3,c3,he,hO7,hb7⟩;unfold Qf at he;subst he;have hz3:=HZ3.out.go hb7;have z0:=hz3.bx.cell 0 _ rfl;have z1:=hz3.bx.cell 1 _ rfl;have z2:=hz3.bx.cell 2 _ rfl;have zf:=hz3.bx.fr;have zl:=hz3.bx.lt;have HZ7:=Hd hz3;have HO7:=Hd hO7;have HB7:=Ht HB3 hb7;clear hO7 hb7 hz3)
  obtain ⟨k,kO,kB⟩:=Zx HZ7.out HO7.out HB7.out (by omega);obtain ⟨k0,k1,k2⟩:=k.bx.c2;simp only [Qp,Qm] at k0 k1 k2;exact QL (v:=.tuple #[Qf S A3 c3,.int .i64 0]) (by simp [results,results69,go_sem,k0,k1,k2,Qf]) rfl ⟨A3,c3,rfl,kO,kB⟩
theorem Vq3 (P:Zj) (hPn:P.1=2) (A:Option Addr) (c:Nat) (e:Ql) (na:Int) (w:World) (h:Qi w A c P) (hE:OkE na e):
 Calls prog 69 #[Qf P A c,.agg (Qj e).toArray] w (Sq w (Ym P e)):=
 Qh5 2 P hPn A c e na w h hE.hr λA1 c1 w1 h1=>Vy4 2 rfl A1 c1 _ e na w1 h1 hE
theorem elIntO:Ga prog 58 3 (.int .i64 0) 8:=⟨underlying58,by kernel_rfl,rfl,by decide⟩
def Qa4 (g:Zv) (p:Nat):List Nat:=Tf g.edges g.edges.length p
theorem Jo2 (m:GM) (g:Zv) (p:Nat) (w:World) (hG:Hg w m g) (hE:g.edges.length≤8192):
 Calls prog 60 #[Jm m g,.int .i64 p] w λe w'=>∃A c,e=.returned (.slice A (Dn (Qa4 g p)).length c)∧Ow w' w.heap.size 3 .i64 A c (Dn (Qa4 g p))∧Below w.heap.size w w':=by
 have hE8:=elIntO;obtain ⟨W,hW,hX,hB⟩:=Qh w (Qt m g) 26;have hG1:=hG.go hB;obtain ⟨EL,hEL⟩:∃EL,EL=g.edges.length:=⟨_,rfl⟩;have HOut:Hid (Qa4 g p=Tf g.edges EL p):=Hd (by rw [hEL];rfl);have HG:=Hd hG1;have HX:=Hd hX;have HB:=Hd hB;have HEL:=Hd hEL;have:EL≤8192:=by omega
 rw [HOut.out];unfold Jm Qt at*;rw [<-hEL] at hW |-
 clear hX hB hG hG1 hE hEL;go_enter func60,ntmps60
 go_upto_region 1 with fail
 rw [<-hW];clear hW;go_wp2_with fail
 go_loopw [5,6] (λs5 s6 wr=>∃i:Nat,s6=.int .i64 i∧i≤EL∧∃A c,s5=.slice A (Dn (Tf g.edges i p)).length c∧Ow wr W.heap.size 3 .i64 A c (Dn (Tf g.edges i p))∧Below W.heap.size W wr) (λ_ s _=>EL - (Go.RowKit.intOf s).toNat)
 case atStart=>exact ⟨0,rfl,by omega,none,0,rfl,Ow.nil _ _ _ _,QK _ _⟩
 case round=>
  obtain ⟨i,rfl,hi,A,c,rfl,hO,hb⟩:=hrel;have hbs:=hb.size;have hx:=HX.out.below hb;have x5:=hx.cell 5 _ rfl;have:=hx.lt;have hEi:g.edges.length=EL:=HEL.out.symm;by_cases hlt:i<EL
  .obtain ⟨eb,eo,he,hle,hed⟩:=(HG.out.go hb).edge (i:=i) (by rw [hEi];exact hlt);have c0:=hed.c0;rw [he,hEi] at x5;have q0:(i:Int)<(EL:Int):=by omega
   have:(0:Int)≤(i:Int):=by omega
   have hL:=Qg2 g.edges i p;have hsz:((Dn (Tf g.edges i p)).length+1)*8≤140737488355328:=by rw [Cq];omega
   have HS1:Hid ((Qx g.edges i).fr=(p:Int)->Dn (Tf g.edges (i+1) p)=Dn (Tf g.edges i p)++[(i:Int)]):=Hd (λh=>by rw [Se h];simp [Dn]);have HS2:Hid ((Qx g.edges i).fr≠(p:Int)->Dn (Tf g.edges (i+1) p)=Dn (Tf g.edges i p)):=Hd (λh=>by rw [Rb h]);have:IntKind.i64.wrap ((i:Int)+1)=i+1:=QQ _ (by omega);have HLt:=Hd hlt;have HBr:=Hd hb;generalize Qx g.edges i=ed at*;generalize Dn (Tf g.edges i p)=xs at*;clear hx hlt hed hL hEi he;by_cases hf:ed.fr=p
   .have b0:(ed.fr==(p:Int))=true:=by simpa using hf
    have HF:=Hd hf;clear hf;go_wp2_with (at_builtin;refine Nh hE8 wr rfl _ _ rfl W.heap.size .i64 A c xs rfl hO i rfl hsz hbs ?_;intro A2 c2 w5 ho5 hb5;have HO5:=Hd ho5;have HB5:=Hd (HBr.out.trans hb5);clear ho5 hb5)
    go_roundw
    case rel=>
     refine ⟨i+1,by go_num,by have:=HLt.out;omega,A2,c2,?_,?_,HB5.out⟩
     .rw [HS1.out HF.out];simp
     rw [HS1.out HF.out];exact HO5.out
    have:=HLt.out;simp [Go.RowKit.intOf];omega
   have b0:(ed.fr==(p:Int))=false:=beq_eq_false_iff_ne.2 hf;have HF:=Hd hf;have HO:=Hd hO;clear hf hO;go_wp2_with fail
   go_roundw
   case rel=>
    refine ⟨i+1,by go_num,by have:=HLt.out;omega,A,c,?_,?_,HBr.out⟩
    .rw [HS2.out HF.out]
    rw [HS2.out HF.out];exact HO.out
   have:=HLt.out;simp [Go.RowKit.intOf];omega
  obtain rfl:i=EL:=by omega
  rw [hEi] at x5;have q0:decide ((i:Int)<(i:Int))=false:=ZA (by omega);have HO:=Hd (hO.lower HB.out.size);have HBr:=Ht HB hb;clear hx hlt hO hb hi hEi;go_wp2_with fail
  go_ret
  exact ⟨A,c,rfl,HO.out,HBr.out⟩
def goL (es:List Ql) (x y:Int):List Nat->Int
 |[]=>-1
 |i::l=>if Vk (Qx es i) x y=true then i else goL es x y l
theorem Vj1 {es:List Ql} {x y:Int} (l:List Nat) (i:Nat):goL es x y (l++[i])=if goL es x y l=-1 then (if Vk (Qx es i) x y=true then (i:Int) else -1) else goL es x y l:=by
 induction l with
 |nil=>simp [goL]
 |cons a l ih=>
  show (if Vk (Qx es a) x y=true then (a:Int) else goL es x y (l++[i]))=_
  by_cases h:Vk (Qx es a) x y=true
  .rw [ZM h];have e:goL es x y (a::l)=a:=by unfold goL;rw [ZM h]
   rw [e,ZL (by omega)]
  rw [ZL h,ih];have e:goL es x y (a::l)=goL es x y l:=by conv=>lhs;unfold goL;rw [ZL h]
  rw [e]
theorem Qh4 {p x y:Int} (a:Ql):∀(es:List Ql) (k:Nat),Vq p x y (es++[a]) k=if Vq p x y es k=-1 then (if a.fr=p∧Vk a x y=true then ((k+es.length:Nat):Int) else -1) else Vq p x y es k
 |[],k=>by
  show (if a.fr=p∧Vk a x y=true then (k:Int) else -1)=if (-1:Int)=-1 then (if a.fr=p∧Vk a x y=true then ((k+0:Nat):Int) else -1) else -1
  rw [ZM rfl];rfl
 |e::es,k=>by
  show (if e.fr=p∧Vk e x y=true then (k:Int) else Vq p x y (es++[a]) (k+1))=_
  by_cases h:e.fr=p∧Vk e x y=true
  .have e1:Vq p x y (e::es) k=k:=by unfold Vq;rw [ZM h]
   rw [ZM h,e1,ZL (by omega)]
  have e1:Vq p x y (e::es) k=Vq p x y es (k+1):=by conv=>lhs;unfold Vq;rw [ZL h]
  rw [ZL h,e1,Qh4 a es (k+1),QI,show k+1+es.length=k+(es.length+1) by omega]
theorem Jq7 {es:List Ql} {k:Nat} (h:k<es.length):es.take (k+1)=es.take k++[Qx es k]:=by
 rw [List.take_add_one];unfold Qx;simp [h]
theorem Qs7 {es:List Ql} {p:Nat} {x y:Int}:∀k,k≤es.length->goL es x y (Tf es k p)=Vq p x y (es.take k) 0
 |0,_=>by rw [Jl2,ZQ];rfl
 |k+1,h=>by
  rw [Jq7 (by omega),Qh4,<-Qs7 k (by omega)];have hl:(es.take k).length=k:=by rw [List.length_take];omega
  rw [hl,Nat.zero_add];by_cases hf:(Qx es k).fr=(p:Int)
  .rw [Se hf,Vj1];simp [hf]
  rw [Rb hf];simp only [hf,false_and,if_false];split
  .rename_i e;exact e
  rfl
theorem Vz1 (g:Zv) (p:Nat) (x y:Int):goL g.edges x y (Qa4 g p)=Vq p x y g.edges 0:=by
 unfold Qa4;rw [Qs7 _ (ZH _),List.take_length]
theorem Qy5 {es:List Ql} {x y:Int}:∀(l:List Nat) (i:Nat),i<l.length->Vk (Qx es (Rh l i)) x y=true->(∀j,j<i->Vk (Qx es (Rh l j)) x y=false)->goL es x y l=Rh l i
 |[],_,h,_,_=>absurd h (Nat.not_lt_zero _)
 |a::l,0,_,h1,_=>by
  have h1:Vk (Qx es a) x y=true:=h1;unfold goL;rw [ZM h1];rfl
 |a::l,i+1,h,h1,h2=>by
  have h0:Vk (Qx es a) x y=false:=h2 0 (by omega);unfold goL;rw [ZL (by rw [h0];decide),Qy5 l i (by simpa using h) h1 (λj hj=>h2 (j+1) (by omega))];rfl
theorem Zq4 {es:List Ql} {x y:Int}:∀(l:List Nat),(∀j,j<l.length->Vk (Qx es (Rh l j)) x y=false)->goL es x y l=-1
 |[],_=>rfl
 |a::l,h=>by
  have h0:Vk (Qx es a) x y=false:=h 0 (by simp);unfold goL;rw [ZL (by rw [h0];decide),Zq4 l (λj hj=>h (j+1) (by simp;omega))]
theorem Jm1 (m:GM) (g:Zv) (b gv cv base:Nat) (Aa:Option Addr) (ca:Nat) (rs:List LR) (x y:Int) (A:Option Addr) (c:Nat) (l:List Nat) (hl:∀i,i<l.length->Rh l i<g.edges.length) (hlm:l.length≤8192) (hv:∀i,i<g.edges.length->(Qx g.edges i).av<2∧(Qx g.edges i).bv<2) (w:World) (hG:Hg w m g) (hA:Rd w w.heap.size .i64 A l.length (Qe (Dn l))) (hS:Io w b gv cv base Aa ca rs x y):
 Calls prog 59 #[Jm m g,.pointer (some ⟨b,0,none⟩),.slice A l.length c] w λe w'=>e=.returned (.int .i64 (goL g.edges x y l))∧Below w.heap.size w w':=by
 obtain ⟨W,hW,hX,hB⟩:=Qh w (Qt m g) 26;have HG:=Hd (hG.go hB);have HS:=Hd (hS.go hB);have HA:=Hd ((hA.below hB).more hB.size);have HX:=Hd hX;have HB:=Hd hB;have HV:=Hd hv;have HLs:=Hd hl;have HFirst:=Hd (@Qy5 g.edges x y l);have HNone:=Hd (@Zq4 g.edges x y l);obtain ⟨R,hR⟩:∃R,Hid (goL g.edges x y l=R):=⟨_,Hd rfl⟩;rw [hR.out] at HFirst HNone |-
 unfold Jm Qt at*;generalize hL:l.length=L at*;have hem:(g.edges.length:Int)≤9223372036854775807:=by have:=hG.ce;unfold maxLen at this;omega
 clear hX hB hG hA hS hv hl;go_enter func59,ntmps59
 go_upto_region 1 with fail
 rw [<-hW];clear hW;go_wp2_with fail
 go_loopw [7] (λs wr=>∃i:Nat,s=.int .i64 i∧i≤L∧Hid (∀j,j<i->Vk (Qx g.edges (Rh l j)) x y=false)∧Below W.heap.size W wr) (λs _=>L - (Go.RowKit.intOf s).toNat)
 case atStart=>exact ⟨0,rfl,by omega,Hd (λj h=>absurd h (Nat.not_lt_zero j)),QK _ _⟩
 case round=>
  obtain ⟨i,rfl,hi,hN,hb⟩:=hrel;have e1:IntKind.i64.wrap ((i:Int)+1)=i+1:=QQ _ (by omega);have HBr:=Hd hb;clear hb;rcases ZJ i L with hlt|hge
  .have hix:=HLs.out i hlt;obtain ⟨lb,_,hAe,hlb,hc⟩:=((HA.out.below HBr.out).more HBr.out.size) (by omega);have k0:=hc i hlt;rw [Qb9] at k0;subst hAe;obtain ⟨_,_,he,_,hE⟩:=(HG.out.go HBr.out).edge hix;have hvi:=HV.out _ hix;have HFi:=Hd (HFirst.out i (by omega));have HNx:=Hd (show Vk (Qx g.edges (Rh l i)) x y=false->∀j,j<i+1->Vk (Qx g.edges (Rh l j)) x y=false from λh j hj=>by
    rcases ZJ j i with h2|h2
    .exact hN.out j h2
    obtain rfl:j=i:=by omega
    exact h)
   have HN:=Hd hN.out;have hx:=HX.out.below HBr.out;have x5:=hx.cell 5 _ rfl;have xl:=hx.lt;have HSr:=Hd (HS.out.go HBr.out);generalize Rh l i=ix at*;generalize Qx g.edges ix=ed at*;generalize g.edges.length=EL at*;rw [he] at x5;have q0:(ix:Int)<(EL:Int):=by omega
   have q1:(0:Int)≤(ix:Int):=by omega
   have q2:(i:Int)<(L:Int):=by omega
   have q3:(0:Int)≤(i:Int):=by omega
   have HLt:=Hd hlt;have K0:=Hd k0;clear hc hx he hix hlt hN;obtain ⟨e0,e1',e2,e3,e4,e5,e6,e7,e8,e9⟩:=hE;have hlb2:lb<wr.heap.size:=hlb;go_upto_region 4 with fail
   go_cut [8] (λs wx=>s=.pointer (some ⟨wr.heap.size,0,none⟩)∧Bx wx wr.heap.size (Qj ed)∧Below wr.heap.size wr wx)
   case first=>
    go_region
    all_goals
     go_wp2_with fail
     go_meet
     case rel=>exact ⟨rfl,(Bx.new wr (Qj ed) _).drew,by go_grown⟩
   obtain ⟨rfl,hXe,hBe⟩:=hcut;have HBc:=Ht HBr hBe;have HSc:=Hd (HSr.out.go hBe);have K0c:=Hd (Qq hBe K0.out);have hlc:lb<wc.heap.size:=ZI hlb2 hBe.size;have a2:=Qz.cell (hXe.cell 2 _ rfl);have a5:=Qz.cell (hXe.cell 5 _ rfl);have a6:=Qz.cell (hXe.cell 6 _ rfl);have a7:=Qz.cell (hXe.cell 7 _ rfl);have a8:=Qz.cell (hXe.cell 8 _ rfl);have a9:=Qz.cell (hXe.cell 9 _ rfl);have hxl:=hXe.lt;have HBW:=Hd (HB.out.trans (HBc.out.mono HB.out.size));have HGk:Hid (Vk ed x y=(decide (ed.kind≠12)||Fe ed.op (Zc ed.av ed.an x y) (Zc ed.bv ed.bn x y))):=Hd rfl;have cA:=λ(W:World) (k:Io W b gv cv base Aa ca rs x y)=>Vr4 ed.av ed.an hvi.1 b gv cv base Aa ca rs x y W k
   have cB:=λ(W:World) (k:Io W b gv cv base Aa ca rs x y)=>Vr4 ed.bv ed.bn hvi.2 b gv cv base Aa ca rs x y W k
   have cC:=λW=>Vx9 ed.op (Zc ed.av ed.an x y) (Zc ed.bv ed.bn x y) W
   clear hXe hBe e0 e1' e2 e3 e4 e5 e6 e7 e8 e9 x5 k0 HBr hvi K0 HSr;generalize Zc ed.av ed.an x y=va at*;generalize Zc ed.bv ed.bn x y=vb at*;by_cases hk:ed.kind=12
   .simp only [hk] at a2;rcases hcm:Fe ed.op va vb with _|_
    .have HGo:Hid (Vk ed x y=false):=Hd (by rw [HGk.out,hcm,hk];rfl);rw [hcm] at cC;clear hcm hk HGk;go_upto_region 5 with fail
     refine Qk (by kernel_rfl) (by kernel_rfl) ?_
     repeat (go_big_quiet_step (first|(go_at_call 109;with_reducible exact Qd (cA _ (HSc.out.go (Qz.below _))))|(go_at_call 109;with_reducible exact Qd (cB _ (HSc.out.go (Qz.below _))))|(go_at_call 108;with_reducible exact Qw (cC _))))
     refine wpQuiet_nil ?_;intro w3 hb3;have HB3:=Ht HBc hb3;clear hb3 a2 a5 a6 a7 a8 a9 cA cB cC;go_wp2_with fail
     go_roundw
     case rel=>exact ⟨i+1,by go_num,by have:=HLt.out;omega,Hd (HNx.out HGo.out),HB3.out⟩
     have:=HLt.out;simp [Go.RowKit.intOf];omega
    have HGo:Hid (Vk ed x y=true):=Hd (by rw [HGk.out,hcm,hk];rfl);rw [hcm] at cC;clear hcm hk HGk;go_upto_region 5 with fail
    refine Qk (by kernel_rfl) (by kernel_rfl) ?_
    repeat (go_big_quiet_step (first|(go_at_call 109;with_reducible exact Qd (cA _ (HSc.out.go (Qz.below _))))|(go_at_call 109;with_reducible exact Qd (cB _ (HSc.out.go (Qz.below _))))|(go_at_call 108;with_reducible exact Qw (cC _))))
    refine wpQuiet_nil ?_;intro w3 hb3;have HB3:=Ht HBW hb3;have k0:=Qq hb3 K0c.out;have kl:lb<w3.heap.size:=ZI hlc hb3.size;clear hb3 a2 a5 a6 a7 a8 a9 cA cB cC;go_wp2_with fail
    go_ret
    exact ⟨by rw [HFi.out HGo.out HN.out];rfl,HB3.out⟩
   have b12:(ed.kind !=12)=true:=by simpa using hk
   have HGo:Hid (Vk ed x y=true):=Hd (by rw [HGk.out,ZE hk];rfl);clear hk HGk;go_upto_region 5 with fail
   refine Qk (by kernel_rfl) (by kernel_rfl) ?_
   repeat (go_big_quiet_step (fail))
   refine wpQuiet_nil ?_;intro w3 hb3;have HB3:=Ht HBW hb3;have k0:=Qq hb3 K0c.out;have kl:lb<w3.heap.size:=ZI hlc hb3.size;clear hb3 a2 a5 a6 a7 a8 a9 cA cB cC;go_wp2_with fail
   go_ret
   exact ⟨by rw [HFi.out HGo.out HN.out];rfl,HB3.out⟩
  obtain rfl:i=L:=by omega
  have q0:decide ((i:Int)<(i:Int))=false:=ZA (by omega);have HR:=Hd (HNone.out hN.out);have HBW:=Hd (HB.out.trans (HBr.out.mono HB.out.size));clear hi hge;go_wp2_with fail
  go_ret
  exact ⟨by rw [HR.out];rfl,HBW.out⟩
theorem Jd5 (w:World) (n:Nat) (hn:n≤64) (t:TypeId):∃V,V=(w.alloc (.cells (madeCells #[.int .i64 0] n) 2)).alloc (.cells #[.slice (some ⟨w.heap.size,0,none⟩) n n] t)∧
 Wv V V.heap.size (some ⟨w.heap.size+1,0,none⟩) [⟨some ⟨w.heap.size,0,none⟩,n,List.replicate n 0⟩]∧Below w.heap.size w V∧V.heap.size=w.heap.size+2:=by
 have h1:=Ow.made w w.heap.size n 2 .i64 (ZH _) (by unfold maxLen;omega);obtain ⟨W1,hW1⟩:∃W1,W1=w.alloc (.cells (madeCells #[.int .i64 0] n) 2):=⟨_,rfl⟩;have hs1:W1.heap.size=w.heap.size+1:=by rw [hW1];simp
 have hb1:Below w.heap.size w W1:=by rw [hW1];exact (QK _ _).alloc (ZH _) _
 rw [<-hW1] at h1 |-
 obtain ⟨V,hV,hX,hB,_⟩:=Zk W1 [.slice (some ⟨w.heap.size,0,none⟩) n n] t;refine ⟨V,hV,λ_=>⟨W1.heap.size,0,by rw [hs1],by omega,λi hi=>?_⟩,hb1.trans (hB.mono (by omega)),by omega⟩;have hi:i<1:=hi;obtain rfl:i=0:=by omega
 refine ⟨?_,?_,?_,?_⟩
 .have:=hX.bx.cell 0 _ rfl
  show V.cell? ⟨W1.heap.size,0+0,none⟩=some (.slice (some ⟨w.heap.size,0,none⟩) (List.replicate n (0:Int)).length n)
  rw [List.length_replicate];exact this
 .exact (h1.below hB).rd
 .intro u hu;have hu:u∈List.replicate n (0:Int):=hu;rw [List.mem_replicate] at hu;rw [hu.2];unfold Zu;omega
 show ((List.replicate n (0:Int)).length:Int)≤_
 rw [List.length_replicate];omega
theorem Zt2 (a:Option Addr) (c:Nat):To ((1:Nat):Int) [⟨a,c,List.replicate 1 0⟩]=Uy 1:=rfl
theorem Jx3 (a:Option Addr) (c:Nat):To ((2:Nat):Int) [⟨a,c,List.replicate 2 0⟩]=Uy 2:=rfl
theorem Zp8 (a:Option Addr) (c:Nat):Sb ((1:Nat):Int) [⟨a,c,List.replicate 1 0⟩]=0:=rfl
theorem Zo2 (a:Option Addr) (c:Nat):Sb ((2:Nat):Int) [⟨a,c,List.replicate 2 0⟩]=0:=rfl
theorem Qd2 {n:Nat} (h:n=1∨n=2) (a:Option Addr) (c:Nat):To (n:Int) [⟨a,c,List.replicate n 0⟩]=Uy n∧Sb (n:Int) [⟨a,c,List.replicate n 0⟩]=0∧Je (Uy n).1 (Uy n).2.1 (Uy n).2.2=0:=by
 rcases h with rfl|rfl
 .exact ⟨Zt2 a c,Zp8 a c,Zm6⟩
 exact ⟨Jx3 a c,Zo2 a c,Zn9⟩
theorem Zy6 (n:Nat) (hn:n=1∨n=2) (w:World):Calls prog 67 #[.int .i64 n] w (Sq w (Uy n)):=by
 obtain ⟨W,hW,hZ,hB,_⟩:=Zk w Jj 32;have cT:=Qe7 n W (by omega);have:=λW=>Au n (by omega) W
 have cP:=λ(w1 V:World) (hV:Wv V V.heap.size (some ⟨w1.heap.size+1,0,none⟩) [⟨some ⟨w1.heap.size,0,none⟩,n,List.replicate n 0⟩])=>
  Zy7 (n:Int) (some ⟨w1.heap.size+1,0,none⟩) 1 [⟨some ⟨w1.heap.size,0,none⟩,n,List.replicate n 0⟩] V hV (by simp) (by unfold Zu;omega) 0 (Qd2 hn _ _).2.1 (Uy n) (Qd2 hn _ _).1
 have hck:=(Qd2 hn none 0).2.2;have hn64:n≤64:=by omega
 clear hn;generalize Uy n=S at*;have HZ:=Hd hZ;have HB:=Hd hB;have HC:=Hd hck;unfold Jj at hW;clear hZ hB hck;go_enter func67,ntmps67
 go_upto_region 1 with fail
 rw [<-hW];clear hW;go_upto_region 4 with (go_at_call 119;(with_reducible refine cT.mono ?_);rintro _ w1 ⟨g,M,hM,rfl,ho,hb1⟩;obtain ⟨W3,hW3,hX3,hB3,hs3⟩:=Zk w1 (Qp ((n:Int),false,M) (some ⟨g,0,none⟩) M.length) 32;have HZ3:=Hd ((HZ.out.go hb1).go hB3);have HB3:=Hd (((Ht HB hb1).out).trans (hB3.mono ((Ht HB hb1).out).size));unfold Qp at hW3;clear hb1 hX3 hB3 ho hM hs3)
 rw [<-hW3];clear hW3 cT;obtain ⟨V,hV,hR,hBV,hsV⟩:=Jd5 W3 n hn64 30;have cV:=cP W3 V hR;have HZ4:=Hd (HZ3.out.go hBV);have HB4:=Ht HB3 hBV;clear cP hR hBV hsV;unfold Jc9 at cV;simp only [QI,List.length_nil,Nat.zero_add] at cV;go_wp2_with (go_at_call 120;rw [<-hV];(with_reducible refine cV.mono ?_);rintro _ _ ⟨A3,c3,rfl,ho,hb7⟩;have hz3:=HZ4.out.go hb7;have z0:=hz3.bx.cell 0 _ rfl;have z1:=hz3.bx.cell 1 _ rfl;have z2:=hz3.bx.cell 2 _ rfl;have:=hz3.bx.fr;have:=hz3.bx.lt;unfold Jj at z0 z1 z2;have HZ7:=Hd hz3;have HO7:=Hd (Sd ho HC.out);have HB7:=Ht HB4 hb7;clear ho hb7 hz3)
 obtain ⟨k,kO,kB⟩:=Zx HZ7.out HO7.out HB7.out (by omega);obtain ⟨k0,k1,k2⟩:=k.bx.c2;simp only [Qp,Qm] at k0 k1 k2;exact QL (v:=.tuple #[Qf S A3 c3,.int .i64 0]) (by simp [results,results67,go_sem,k0,k1,k2,Qf]) rfl ⟨A3,c3,rfl,kO,kB⟩
def Wt (w:World) (j:Nat) (A:Option Addr) (os:List Zj):Prop:=
 0<os.length->∃b off,A=some ⟨b,off,none⟩∧b<w.heap.size∧b≠j∧∀i,i<os.length->∃Ai ci,
  w.cell? ⟨b,off+i*3,none⟩=some (.int .i64 (Vg os i).1)∧w.cell? ⟨b,off+i*3+1,none⟩=some (.bool (Vg os i).2.1)∧w.cell? ⟨b,off+i*3+2,none⟩=some (.slice Ai (Vg os i).2.2.length ci)∧Qi w Ai ci (Vg os i)∧∀g o,Ai=some ⟨g,o,none⟩->g≠j
theorem Wt.go {w w':World} {j:Nat} {A:Option Addr} {os:List Zj} (h:Wt w j A os) (hb:Below w.heap.size w w'):Wt w' j A os:=λhn=>by
 obtain ⟨b,off,e,hlt,hne,hc⟩:=h hn;refine ⟨b,off,e,ZI hlt hb.size,hne,λi hi=>?_⟩;obtain ⟨Ai,ci,h0,h1,h2,ho,hg⟩:=hc i hi;exact ⟨Ai,ci,Qq hb h0,Qq hb h1,Qq hb h2,ho.go hb,hg⟩
theorem Qk9 {w w':World} {j:Nat} {A:Option Addr} {c:Nat} {P:Zj} (h:Qi w A c P) (hg:w.grownBy w' (some j)) (hn:∀g o,A=some ⟨g,o,none⟩->g≠j):Qi w' A c P:=by
 refine ⟨⟨h.oi.hN,λhp=>?_,h.oi.i64,h.oi.le,h.oi.max⟩,h.ok⟩;obtain ⟨g,off,rfl,hgl,hc⟩:=h.oi.rd hp;exact ⟨g,off,rfl,ZI hgl hg.size,λi hi=>Qy hg (hc i hi) (hn _ _ rfl)⟩
theorem Wt.only {w w':World} {j:Nat} {A:Option Addr} {os:List Zj} (h:Wt w j A os) (hg:w.grownBy w' (some j)):Wt w' j A os:=λhn=>by
 obtain ⟨b,off,e,hlt,hne,hc⟩:=h hn;refine ⟨b,off,e,ZI hlt hg.size,hne,λi hi=>?_⟩;obtain ⟨Ai,ci,h0,h1,h2,ho,hq⟩:=hc i hi;exact ⟨Ai,ci,Qy hg h0 hne,Qy hg h1 hne,Qy hg h2 hne,Qk9 ho hg hq,hq⟩
structure Jd (w0 w:World) (j:Nat) (m:GM) (g:Zv) (n:Int) (gv lv:Value) (ok:Bool) (why pt cost:Int):Prop where
 bx:Bx w j (jC m g n gv lv ok why pt cost)
 bl:Below w0.heap.size w0 w
 ge:w0.heap.size≤j
theorem Jd.go {w0 w w':World} {j:Nat} {m:GM} {g:Zv} {n:Int} {gv lv:Value} {ok:Bool} {why pt cost:Int} (h:Jd w0 w j m g n gv lv ok why pt cost) (hb:Below w.heap.size w w'):Jd w0 w' j m g n gv lv ok why pt cost:=
 ⟨h.bx.below hb,h.bl.trans (hb.mono h.bl.size),h.ge⟩
def ORo (r:OR):Zj:=(r.n,r.e,r.m)
structure Ib (w:World) (j:Nat) (A:Option Addr) (c:Nat) (rs:List OR) (os:List Zj):Prop where
 row:Yw w (j+1) A c rs
 eq:rs.map ORo=os
 ok:∀r∈rs,Je r.n r.e r.m=0
theorem Ib.len {w:World} {j:Nat} {A:Option Addr} {c:Nat} {rs:List OR} {os:List Zj} (h:Ib w j A c rs os):rs.length=os.length:=by rw [<-h.eq,List.length_map]
theorem Ib.go {w w':World} {j:Nat} {A:Option Addr} {c:Nat} {rs:List OR} {os:List Zj} (h:Ib w j A c rs os) (hb:Below w.heap.size w w'):Ib w' j A c rs os:=⟨h.row.go hb,h.eq,h.ok⟩
theorem Ib.low {w:World} {j:Nat} {A:Option Addr} {c:Nat} {rs:List OR} {os:List Zj} (h:Ib w j A c rs os) (i:Nat) (u:Value):Ib (w.setCell ⟨j,i,none⟩ u) j A c rs os:=⟨h.row.low (by show j<j+1;omega) u,h.eq,h.ok⟩
theorem Zf1 {rs:List OR} {i:Nat} (h:i<rs.length):Vg (rs.map ORo) i=ORo (Tc rs i):=by
 unfold Vg Tc;rw [ZG,ZG,List.getElem?_map,ZF h];rfl
theorem Ib.oks {w:World} {j:Nat} {A:Option Addr} {c:Nat} {rs:List OR} {os:List Zj} (h:Ib w j A c rs os):Wt w j A os:=λhn=>by
 have hl:=h.len;rcases h.row.row.2 with ⟨hv,h0⟩|⟨g,cap,cur,hv,hb,hh,_⟩
 .omega
 .injection hv with h1 h2 h3;subst h1;have hlt:=(h.row.row.lt g rfl).2;have hge:=(h.row.row.lt g rfl).1;have key:∀q u,(ov rs)[q]? =some u->w.cell? ⟨g,q,none⟩=some u:=λq u hu=>by
   have:=h.row.row.cells (g:=g) rfl q u hu
   rwa [show (⟨g,0,none⟩:Addr).add q=⟨g,q,none⟩ by unfold Addr.add;split<;>simp_all] at this
  refine ⟨g,0,rfl,hlt,by omega,λi hi=>?_⟩;have hi:i<rs.length:=by omega
  obtain ⟨p0,p1,p2⟩:=Qb5 rs i hi;obtain ⟨e0,e1,e2⟩:=h.row.each _ (Fz hi);rw [<-h.eq,Zf1 hi,Nat.zero_add];refine ⟨_,_,key _ _ p0,key _ _ p1,key _ _ p2,⟨⟨e0,e2.rd,e1,e2.cap,e2.capMax⟩,h.ok _ (Fz hi)⟩,λg' o hg=>?_⟩;rcases e2.form with ⟨hA,_,_⟩|⟨g2,hA,_⟩
  .rw [hA] at hg;cases hg
  have:=e2.rd
  have hge2:j+1≤g2:=by
   have h5:=e2;rw [hA] at h5;exact h5.blockGe.1
  rw [hA] at hg;injection hg with hg;injection hg with hg;omega
theorem Ji7 {os:List Zj} {i:Nat} (h:i<os.length):(os.take (i+1)).map Qo=(os.take i).map Qo++[Qo (Vg os i)]:=by
 rw [List.take_succ_eq_append_getElem h,List.map_append];unfold Vg;simp [h]
theorem Qi5 (w0 w:World) (j:Nat) (m:GM) (g:Zv) (n:Int) (A0:Option Addr) (c0:Nat) (os:List Zj) (L:Nat) (hL:L=os.length) (hJ:Jd w0 w j m g n (.slice A0 L c0) (.slice none 0 0) false 0 0 0) (hO:Ci w0 A0 os)
 (hl:(L:Int)=g.points) (hN:∀i,i<L->(Vg os i).1=n) (hLm:L≤4096) (hj:j<w.heap.size):
 Calls prog 28 #[.pointer (some ⟨j,0,none⟩)] w λe w'=>∃A c rs cost,e=.returned (.tuple #[])∧Jd w0 w' j m g n (.slice A0 L c0) (.slice A L c) false 0 0 cost∧Ib w' j A c rs (os.map Qo):=by
 have HL:=Hd hL;have HO:=Hd hO;have HN:=Hd hN;have q0:((L:Int)!=g.points)=false:=by simp [hl]
 have y2:=hJ.bx.cell 7 _ rfl;have y3:=hJ.bx.cell 3 _ rfl;have y6:=hJ.bx.cell 6 _ rfl;have HJ:=Hd hJ;have hLi:(L:Int)≤4096:=by omega
 clear hL hO hN hJ hl;go_enter func28,ntmps28
 go_upto_region 0 with fail
 have a2:=Qz.cell y2;have a3:=Qz.cell y3;refine Qk (by kernel_rfl) (by kernel_rfl) ?_
 repeat (go_big_quiet_step (fail))
 refine wpQuiet_nil ?_;intro w1 hb1;have HJ1:=Hd (HJ.out.go hb1);have hj1:j<w1.heap.size:=ZI hj hb1.size;clear a2 a3 y2 y3 y6 HJ hb1 hj;have y7:=HJ1.out.bx.cell 7 _ rfl;go_upto_region 3 with fail
 clear y7;go_loopw [25] (λs wr=>∃i:Nat,s=.int .i64 i∧i≤L∧∃A c rs,Jd w0 wr j m g n (.slice A0 L c0) (.slice A i c) false 0 0 0∧Hid (rs.length=i)∧Ib wr j A c rs ((os.take i).map Qo)) (λs _=>L - (Go.RowKit.intOf s).toNat)
 case atStart=>exact ⟨0,rfl,by omega,none,0,[],HJ1.out,Hd rfl,⟨Yw.nil _ _,rfl,λr hr=>by cases hr⟩⟩
 case round=>
  clear HJ1 hj1;obtain ⟨i,rfl,_,A,c,rs,hJ,HR,hR⟩:=hrel;rcases ZJ i L with hlt|hge
  .have d0:decide ((i:Int)<(L:Int))=true:=ZE (by omega);have p0:(0:Int)≤(i:Int):=by omega
   have p1:(i:Int)<(L:Int):=by omega
   obtain ⟨b,off,hA0,hbl,hbc⟩:=HO.out (by rw [<-HL.out];omega);obtain ⟨Ai,ci,k0,k1,k2,hok⟩:=hbc i (by rw [<-HL.out];exact hlt);have k0:=(hJ.bl.cell (p:=⟨b,off+i*3,none⟩) hbl).trans k0;have k1:=(hJ.bl.cell (p:=⟨b,off+i*3+1,none⟩) hbl).trans k1;have k2:=(hJ.bl.cell (p:=⟨b,off+i*3+2,none⟩) hbl).trans k2;have HK:=Hd (hok.go hJ.bl);have hbl2:b<wr.heap.size:=ZI hbl hJ.bl.size;have hPn:=HN.out i hlt;have HT:=Hd (Ji7 (os:=os) (i:=i) (by rw [<-HL.out];exact hlt));have HLT:=Hd hlt;have HJ:=Hd hJ;have HRo:=Hd hR;subst hA0;clear hbc hok hbl hlt hJ hR;obtain ⟨W,hW,hX,hB,hs⟩:=Zk wr (Qp (Vg os i) Ai ci) 32;generalize Vg os i=P at*;obtain ⟨pn,pe,pm⟩:=P;dsimp only at hPn;subst hPn;have HX:=Hd hX;have HB:=Hd hB;have HK1:=Hd (HK.out.go hB);obtain ⟨x0,x1,x2⟩:=hX.bx.c2;have xl:=hX.bx.lt;unfold Qp at hW;dsimp only at hW x0 x1 x2 k0 k1 k2;have cC:=Nd pn pe Ai ci pm W HK1.out.oi HK1.out.len;have hce:(Zp pn pe pm).2=0:=Wc (P:=(pn,pe,pm)) HK1.out.ok;obtain ⟨hc1,hc2⟩:=Sx HK1.out.ok;unfold Ww at cC;rw [hce] at cC;have hQ:(Zp pn pe pm).1.1=Qo (pn,pe,pm):=rfl;rw [hQ] at cC;have HT2:=HT;generalize Qo (pn,pe,pm)=Q at*;obtain ⟨qn,qe,qm⟩:=Q;dsimp only at hc1 hc2 cC;subst hc1;clear hQ hce hX hB hs HT;go_upto_region 5 with fail
   rw [<-hW];clear hW k0 k1 k2;go_upto_region 6 with (go_at_call 12;(with_reducible refine cC.mono ?_);rintro _ w3 ⟨A1,c1,rfl,hOw,hb1⟩;obtain ⟨_,hW3,hX3,hB3,hs3⟩:=Zk w3 (Qp (qn,qe,qm) A1 c1) 32;have HX3:=Hd hX3;have HY3:=Hd ((HX.out.go hb1).go hB3);have HO3:=Hd (hOw.below hB3);have HB3:=Hd (((Ht HB hb1).out).trans (hB3.mono ((Ht HB hb1).out).size));have HI3:=Hd (Td hc2);unfold Qp at hW3;clear hb1 hX3 hB3 hOw hs3)
   rw [<-hW3];have HI64:=Hd (show Zu qn by obtain ⟨k,hk,_,_⟩:=Zz HK1.out.ok;have hk:qn=k:=hk;unfold Zu;omega);have HWj:=Hd (show j+1≤W.heap.size by have:=HJ.out.bx.lt;have:=HB.out.size;omega);have HJ3:=Hd ((HJ.out.go (HB3.out.mono (ZH _))));have HR3:=Hd (HRo.out.go (HB3.out.mono (ZH _)));clear hW3 x0 x1 x2 xl HX HB HK1 HK HJ HRo;have a0:=Qz.cell (HY3.out.bx.cell 0 _ rfl);have a6:=Qz.cell (HJ3.out.bx.cell 6 _ rfl);have q3:(qn !=qn)=false:=by simp
   refine Qk (by kernel_rfl) (by kernel_rfl) ?_
   repeat (go_big_quiet_step (fail))
   refine wpQuiet_nil ?_;intro w5 hb5;have HX5:=Hd (HX3.out.go hb5);have hO5:=HO3.out.below hb5;have HO5:=Hd (hO5.lower HWj.out);have HJ5:=Hd (HJ3.out.go hb5);have HR5:=Hd (HR3.out.go hb5);clear a0 a6 hb5 HX3 HY3 HO3 HJ3 HR3 hO5;have hjl:=HJ5.out.bx.lt;have hjf:=HJ5.out.bx.fr;have z8:=HJ5.out.bx.cell 8 _ rfl;obtain ⟨x0,x1,x2⟩:=HX5.out.bx.c2;have xl:=HX5.out.bx.lt;dsimp only at x0 x1 x2;have hal:=(QK w5.heap.size w5).alloc (ZH _) (.cells #[.int .i64 qn,.bool qe,.slice A1 qm.length c1] 32);have hsz40:(rs.length+1)*40≤140737488355328:=by have:=HR.out;omega
   have HAL:=Hd hal;have HJA:=Hd (HJ5.out.go hal);have zA:=HJA.out.bx.cell 8 _ rfl;have xA0:=Qq hal x0;have xA1:=Qq hal x1;have xA2:=Qq hal x2;rw [<-HR.out] at z8 zA;go_upto_region 8 with fail
   go_region_law (refine Ye elOct ((w5.alloc (.cells #[.int .i64 qn,.bool qe,.slice A1 qm.length c1] 32)).drew) rfl (.tmp 52) (.tmp 54) rfl (j+1) A c rs.length (ov rs) rfl ((HR5.out.go hal).row.row) [.int .i64 qn,.bool qe,.slice A1 qm.length c1] w5.heap.size rfl rfl (Oh w5 32 ⟨qn,qe,A1,c1,qm⟩) (by simp [Value.oneCell']) hsz40 (by simp;omega) ?_;intro A' c' w9 hr9 hb9 hg9;have hJ9:=HJA.out.bx.drew.under hb9 (by omega);have zB:=hJ9.cell 8 _ rfl;have zf:=hJ9.fr;have zl:=hJ9.lt)
   all_goals
    have hrow:=((HR5.out.go HAL.out).row.go (QK _ (w5.alloc (.cells #[.int .i64 qn,.bool qe,.slice A1 qm.length c1] 32))).drew).snoc (r:=⟨qn,qe,A1,c1,qm⟩) ⟨HI64.out,HI3.out,(HO5.out.below HAL.out).drew⟩ hr9 hg9;have hbx:=hJ9.set (i:=8) (by show 8<15;omega) (.slice A' (rs.length+1) c');have hbl:=((HJA.out.bl.drew.trans (hb9.mono (by have:=HJ5.out.ge;omega))).setCell (p:=⟨j,8,none⟩) HJ5.out.ge (.slice A' (rs.length+1) c'));have HF:=Hd (And.intro hrow (And.intro hbx hbl));clear hrow hbx hbl hr9 hb9 hg9 hJ9 hal hjl hjf z8 x0 x1 x2 xl zA xA0 xA1 xA2 zB zf zl;go_wp2_with fail
    go_roundw
    case rel=>
     obtain ⟨hrow,hbx,hbl⟩:=HF.out;have e:=HR.out;subst e;refine ⟨rs.length+1,by go_num,by have:=HLT.out;omega,A',c',rs++[⟨qn,qe,A1,c1,qm⟩],⟨hbx,hbl,HJ5.out.ge⟩,Hd (by simp),⟨hrow.low (p:=⟨j,8,none⟩) (by show j<j+1;omega) _,?_,?_⟩⟩
     .rw [List.map_append,HR5.out.eq,HT2.out];rfl
     intro r hr;rcases List.mem_append.1 hr with h|h
     .exact HR5.out.ok r h
     have:r=⟨qn,qe,A1,c1,qm⟩:=by simpa using h
     rw [this];exact hc2
    case measure=>have:=HLT.out;simp [Go.RowKit.intOf];omega
  obtain rfl:i=L:=by omega
  have d0:decide ((i:Int)<(i:Int))=false:=by simp
  have HJ:=Hd hJ;have HRo:=Hd hR;have y6:=hJ.bx.cell 6 _ rfl;have y3:=hJ.bx.cell 3 _ rfl;have cC:=λW=>Oz n W
  clear hJ hR;go_upto_region 10 with fail
  have a6:=Qz.cell y6;have a3:=Qz.cell y3;refine Qb [(15,1)] (by kernel_rfl) (by kernel_rfl) ?_;simp only [Jl,ZP,ZQ,ZR,ZT]
  repeat (go_big_quiet_step ((go_at_call 66;with_reducible exact Qd (cC _))))
  refine wpQuiet_nil ?_;intro w5 hb5;have HJ5:=Hd (HJ.out.go hb5);have HR5:=Hd (HRo.out.go hb5);clear a6 a3 y6 y3 HJ HRo hb5 cC;have z14:=HJ5.out.bx.cell 14 _ rfl;have zf:=HJ5.out.bx.fr;have zl:=HJ5.out.bx.lt;go_wp2_with fail
  refine Qu (wpQuiet_nil ?_);intro w6 hb6;have hbx:=(HJ5.out.bx.set (i:=14) (by show 14<15;omega) (.int .i64 (Go.RowKit.wrap64 (Rn n*g.points)))).below hb6;have hbl:=HJ5.out.bl.setCell (p:=⟨j,14,none⟩) HJ5.out.ge (.int .i64 (Go.RowKit.wrap64 (Rn n*g.points)));have hbl:=hbl.trans (hb6.mono hbl.size);have HF:=Hd (And.intro hbx (And.intro hbl ((HR5.out.low 14 (.int .i64 (Go.RowKit.wrap64 (Rn n*g.points)))).go hb6)));clear hbx hbl hb6 z14 zf zl;go_wp2_with fail
  go_end0
  obtain ⟨hbx,hbl,hrow⟩:=HF.out;exact ⟨A,c,rs,_,rfl,⟨hbx,hbl,HJ5.out.ge⟩,⟨hrow.row,by rw [hrow.eq,HL.out,List.take_length],hrow.ok⟩⟩
theorem Wt.at {w:World} {j:Nat} {A:Option Addr} {os:List Zj} {i:Nat} (h:Wt w j A os) (hi:i<os.length):∃b off Ai ci,A=some ⟨b,off,Option.none⟩∧b<w.heap.size∧
 w.cell? ⟨b,off+i*3,Option.none⟩=some (.int .i64 (Vg os i).1)∧w.cell? ⟨b,off+i*3+1,Option.none⟩=some (.bool (Vg os i).2.1)∧w.cell? ⟨b,off+i*3+2,Option.none⟩=some (.slice Ai (Vg os i).2.2.length ci)∧Qi w Ai ci (Vg os i):=by
 obtain ⟨b,off,e,hlt,_,hc⟩:=h (by omega);obtain ⟨Ai,ci,h0,h1,h2,ho,_⟩:=hc i hi;exact ⟨b,off,Ai,ci,e,hlt,h0,h1,h2,ho⟩
theorem Zq7 (w0 w:World) (j:Nat) (m:GM) (g:Zv) (n:Nat) (hn:n=1∨n=2) (gv:Value) (A:Option Addr) (c:Nat) (os:List Zj) (cost:Int) (L:Nat) (hL:L=os.length) (h0:0<L) (hJ:Jd w0 w j m g n gv (.slice A L c) false 0 0 cost) (hR:Wt w j A os)
 (hN:(Vg os 0).1=n) (hent:Im (Uy n) (Vg os 0)=true):
 Calls prog 29 #[.pointer (some ⟨j,0,none⟩)] w λe w'=>e=.returned (.tuple #[])∧Below w.heap.size w w':=by
 obtain ⟨_,_,Ai,ci,hA,_,k0,k1,k2,hok⟩:=hR.at (i:=0) (by omega);have y6:=hJ.bx.cell 6 _ rfl;have:=hJ.bx.lt;have cI:=Zy6 n hn w;have hn1:(Uy n).1=(n:Int):=rfl;have HJ:=Hd hJ;have HK:=Hd hok;subst hA;have:(0:Int)<(L:Int):=by omega
 clear hL hJ hR hok h0;generalize Vg os 0=P at*;generalize Uy n=Q at*;have cE:=λA1 c1 (w1:World) (h1:Qi w1 A1 c1 Q) (h2:Qi w1 Ai ci P)=>Ct Q P A1 Ai c1 ci w1 h1 h2 (by rw [hn1,hN])
 clear hn1 hN;rw [hent] at cE;unfold Qf at cE;clear hent;rw [Nat.zero_mul,Nat.add_zero] at k0 k1 k2;go_enter func29,ntmps29
 go_upto_region 1 with (go_at_call 67;(with_reducible refine cI.mono ?_);rintro _ w1 ⟨A1,c1,he,hO1,hb1⟩;unfold Qf at he;subst he;obtain ⟨W3,hW3,hX3,hB3,hs3⟩:=Zk w1 (Qp Q A1 c1) 32;have HB3:=Hd (hb1.trans (hB3.mono hb1.size));have HO3:=Hd (hO1.go hB3);have HX3:=Hd hX3;unfold Qp at hW3;clear hb1 hX3 hB3 hO1 hs3)
 rw [<-hW3];clear hW3;have HJ3:=Hd (HJ.out.go HB3.out);have HK3:=Hd (HK.out.go HB3.out);have a0:=Qz.cell (HX3.out.bx.cell 0 _ rfl);have a1:=Qz.cell (HX3.out.bx.cell 1 _ rfl);have a2:=Qz.cell (HX3.out.bx.cell 2 _ rfl);have a8:=Qz.cell (HJ3.out.bx.cell 8 _ rfl);have b0:=Qz.cell (Qq HB3.out k0);have b1:=Qz.cell (Qq HB3.out k1);have b2:=Qz.cell (Qq HB3.out k2);have cE2:=λx:Qz W3=>cE A1 c1 x.w (HO3.out.go x.below) (HK3.out.go x.below)
 clear y6 k0 k1 k2 HJ HK;refine Qk (by kernel_rfl) (by kernel_rfl) ?_
 repeat (go_big_quiet_step ((go_at_call 68;with_reducible exact Qd (cE2 _))))
 refine wpQuiet_nil ?_;intro w5 hb5;have HB5:=Ht HB3 hb5;clear a0 a1 a2 a8 b0 b1 b2 cE2 hb5;go_wp2_with fail
 go_end0
 exact ⟨rfl,HB5.out⟩
def Ez (os:List Zj) (e:Ql):Bool:=Im (Ym (Vg os e.fr.toNat) e) (Vg os e.tg.toNat)
theorem Qm6 (w0 w:World) (j:Nat) (m:GM) (g:Zv) (n:Int) (gv:Value) (A:Option Addr) (c:Nat) (os:List Zj) (cost:Int) (L EL:Nat) (hL:L=os.length) (hEL:EL=g.edges.length) (hJ:Jd w0 w j m g n gv (.slice A L c) false 0 0 cost) (hR:Wt w j A os) (hG:Hg w0 m g) (hLm:L≤4096) (hEm:EL≤8192)
 (hE:∀i,i<EL->(0≤(Qx g.edges i).fr∧(Qx g.edges i).fr<L)∧(0≤(Qx g.edges i).tg∧(Qx g.edges i).tg<L)∧(Ym (Vg os (Qx g.edges i).fr.toNat) (Qx g.edges i)).1=(Vg os (Qx g.edges i).tg.toNat).1∧
  ∀A1 c1 (w1:World),Qi w1 A1 c1 (Vg os (Qx g.edges i).fr.toNat)->Calls prog 69 #[Qf (Vg os (Qx g.edges i).fr.toNat) A1 c1,.agg (Qj (Qx g.edges i)).toArray] w1 (Sq w1 (Ym (Vg os (Qx g.edges i).fr.toNat) (Qx g.edges i)))):
 Calls prog 30 #[.pointer (some ⟨j,0,none⟩)] w λe w'=>∃why pt cost',e=.returned (.tuple #[])∧Jd w0 w' j m g n gv (.slice A L c) false why pt cost'∧Wt w' j A os∧
  ((why=0∧pt=0∧∀i,i<EL->Ez os (Qx g.edges i)=true)∨(why=213∧∃i,i<EL∧Ez os (Qx g.edges i)=false)):=by
 obtain ⟨va,vc,aa,ac,ea,ec⟩:=m;have HL:=Hd hL;have HEL:=Hd hEL;have HG:=Hd hG;have HE:=Hd hE;have HJ:=Hd hJ;have HR:=Hd hR;have y5:=hJ.bx.cell 5 _ rfl;have hjl:=hJ.bx.lt;rw [<-hEL] at y5;dsimp only at y5;clear hL hEL hG hE hJ hR;go_enter func30,ntmps30
 go_upto_region 1 with fail
 clear y5 hjl;go_loopw [12] (λs wr=>∃i:Nat,s=.int .i64 i∧i≤EL∧∃cost',Jd w0 wr j ⟨va,vc,aa,ac,ea,ec⟩ g n gv (.slice A L c) false 0 0 cost'∧Wt wr j A os∧Hid (∀k,k<i->Ez os (Qx g.edges k)=true)) (λs _=>EL - (Go.RowKit.intOf s).toNat)
 case atStart=>exact ⟨0,rfl,by omega,cost,HJ.out,HR.out,Hd (λk hk=>by omega)⟩
 case round=>
  clear HJ HR;obtain ⟨i,rfl,hi,cs,hJ,hR,HA⟩:=hrel;rcases ZJ i EL with hlt|hge
  .have d0:decide ((i:Int)<(EL:Int))=true:=ZE (by omega);have:(0:Int)≤(i:Int):=by omega
   have:(i:Int)<(EL:Int):=by omega
   obtain ⟨be,oe,hea,hbe,hed⟩:=HG.out.edge (i:=i) (by rw [<-HEL.out];exact hlt);have hea:ea=some ⟨be,oe,none⟩:=hea;subst hea;obtain ⟨⟨f0,f1⟩,⟨t0,t1⟩,hn1,hcE⟩:=HE.out i hlt;obtain ⟨c0,c1,c2,c3,c4,c5,c6,c7,c8,c9⟩:=hed.go hJ.bl;have:be<wr.heap.size:=ZI hbe hJ.bl.size;obtain ⟨ed,hed0⟩:∃ed,ed=Qx g.edges i:=⟨_,rfl⟩;have HED:=Hd hed0;have HEN:=Hd (show Ez os (Qx g.edges i)=Im (Ym (Vg os (Qx g.edges i).fr.toNat) (Qx g.edges i)) (Vg os (Qx g.edges i).tg.toNat) from rfl);have HLT:=Hd hlt;have HJ:=Hd hJ;have HR:=Hd hR;have HN1:=Hd hn1;clear hed hbe hlt hi hJ hR hn1;rw [<-hed0] at c0 c1 c2 c3 c4 c5 c6 c7 c8 c9 f0 f1 t0 t1 HEN HN1 hcE;clear hed0;obtain ⟨f,hf⟩:=ZV f0;obtain ⟨t,ht⟩:=ZV t0;rw [hf] at c0 f1;rw [ht] at c1 t1;have hf2:ed.fr.toNat=f:=by omega
   have ht2:ed.tg.toNat=t:=by omega
   rw [hf2] at hcE HEN HN1;rw [ht2] at HEN HN1;have HF:=Hd hf;have HT:=Hd ht;clear f0 t0 hf ht hf2 ht2;obtain ⟨W,hW,hX,hB,hs⟩:=Zk wr (Qj ed) 56;have HX:=Hd hX;have HJ1:=Hd (HJ.out.go hB);have HR1:=Hd (HR.out.go hB);unfold Qj at hW;rw [HF.out,HT.out] at hW;clear hX hB hs;go_upto_region 3 with fail
   rw [<-hW];clear hW c0 c1 c2 c3 c4 c5 c6 c7 c8 c9;have cC:=λW=>Oz n W
   have a6:=Qz.cell (HJ1.out.bx.cell 6 _ rfl);have a14:=Qz.cell (HJ1.out.bx.cell 14 _ rfl);refine Qb [(15,1)] (by kernel_rfl) (by kernel_rfl) ?_;simp only [Jl,ZP,ZQ,ZR,ZT]
   repeat (go_big_quiet_step ((go_at_call 66;with_reducible exact Qd (cC _))))
   refine wpQuiet_nil ?_;intro w5 hb5;have HJ5:=Hd (HJ1.out.go hb5);have HR5:=Hd (HR1.out.go hb5);have HX5:=Hd (HX.out.go hb5);have:=Hd hb5.size;clear a6 a14 cC hb5;have z14:=HJ5.out.bx.cell 14 _ rfl;have zf:=HJ5.out.bx.fr;have zl:=HJ5.out.bx.lt;go_wp2_with fail
   refine Qu (wpQuiet_nil ?_);intro w6 hb6;have hg6:=Qv (p:=⟨j,14,none⟩) (QN w5 (some j)) (.inl rfl) (.int .i64 (Go.RowKit.wrap64 (cs+Go.RowKit.wrap64 (3*Rn n))));have hbx:=(HJ5.out.bx.set (i:=14) (by show 14<15;omega) (.int .i64 (Go.RowKit.wrap64 (cs+Go.RowKit.wrap64 (3*Rn n))))).below hb6;have hbl:=HJ5.out.bl.setCell (p:=⟨j,14,none⟩) HJ5.out.ge (.int .i64 (Go.RowKit.wrap64 (cs+Go.RowKit.wrap64 (3*Rn n))));have hbl:=hbl.trans (hb6.mono hbl.size);have HJ6:Hid (Jd w0 w6 j ⟨va,vc,aa,ac,some ⟨be,oe,none⟩,ec⟩ g n gv (.slice A L c) false 0 0 (Go.RowKit.wrap64 (cs+Go.RowKit.wrap64 (3*Rn n)))):=Hd ⟨hbx,hbl,HJ5.out.ge⟩;have HR6:=Hd ((HR5.out.only hg6).go hb6);have HX6:=Hd ((HX5.out.only hg6 (by have:=HJ.out.bx.lt;omega)).go hb6);generalize Go.RowKit.wrap64 (cs+Go.RowKit.wrap64 (3*Rn n))=cs2 at*;clear hg6 hbx hbl hb6 z14 zf zl HJ5 HR5 HX5 HJ1 HR1 HX;obtain ⟨_,_,_,_,hA,hbl,k0,k1,k2,hok⟩:=HR6.out.at (i:=f) (by rw [<-HL.out];omega);obtain ⟨_,_,At,ct,hA',_,l0,l1,l2,hok'⟩:=HR6.out.at (i:=t) (by rw [<-HL.out];omega);subst hA;injection hA' with hA';injection hA' with h1 h2;subst h1 h2;have HKF:=Hd hok;have HKT:=Hd hok';obtain ⟨x0,x1,x2,x3,x4,x5,x6,x7,x8,x9⟩:=HX6.out.bx.c9;rw [HF.out] at x0
   rw [HT.out] at x1;have z8:=HJ6.out.bx.cell 8 _ rfl;have zl:=HJ6.out.bx.lt;have xl:=HX6.out.bx.lt;clear hok hok';have:(0:Int)≤(f:Int):=by omega
   have:(0:Int)≤(t:Int):=by omega
   go_upto_region 4 with fail
   obtain ⟨Q,hQ⟩:∃Q:Zj,Hid (Ym (Vg os f) ed=Q):=⟨_,Hd rfl⟩;have cE:=hcE;rw [hQ.out] at cE HEN HN1;unfold Qf Qj at cE;rw [HF.out,HT.out] at cE;have hnl:(Value.int .i64 0,Value.bool false,Value.slice none 0 0)=(Value.int .i64 0,Value.bool false,Value.slice none 0 0):=rfl;clear hnl;have hal:=((QK w6.heap.size w6).alloc (ZH _) (.cells #[.int .i64 0,.bool false,.slice none 0 0] 32)).drew;have HAL:=Hd hal;have HNB:Hid (Xb (w6.alloc (.cells #[.int .i64 0,.bool false,.slice none 0 0] 32)).drew w6.heap.size Jj):=Hd (by
    obtain ⟨Wn,hWn,hXn,_⟩:=Zk w6 Jj 32;unfold Jj at hWn;rw [<-hWn];exact hXn.go (QK _ _).drew)
   clear hal;go_cut [4] (λs wx=>∃b4 A1 c1,s=.pointer (some ⟨b4,0,none⟩)∧Xb wx b4 (Qp Q A1 c1)∧Qi wx A1 c1 Q∧Below w6.heap.size w6 wx)
   case first=>
    go_region_law (first
     |(go_simp;go_at_call 69;(with_reducible refine (cE _ _ _ (HKF.out.go (QK _ w6).drew)).mono ?_);rintro e1 w7 ⟨A1,c1,he,hO1,hb1⟩;unfold Qf at he;subst he)
     |(go_simp;go_at_call 69;(with_reducible refine (cE _ _ _ (HKF.out.go HAL.out)).mono ?_);rintro e1 w7 ⟨A1,c1,he,hO1,hb1⟩;unfold Qf at he;subst he;have hnb:=HNB.out.go hb1;have:=hnb.bx.cell 0 _ rfl;have:=hnb.bx.cell 1 _ rfl;have:=hnb.bx.cell 2 _ rfl;have:=hnb.bx.fr;have:=hnb.bx.lt))
    all_goals
     go_wp2_with fail
     go_meet
    all_goals
     case rel=>
      first
      |(obtain ⟨k,kO,kB⟩:=Zx hnb hO1 ((Ht HAL hb1).out) (ZH _)
        exact ⟨_,A1,c1,rfl,k,kO,kB⟩)
      |(obtain ⟨Wn,hWn,hXn,hBn,_⟩:=Zk w7 (Qp Q A1 c1) 32
        have kO:=hO1.go hBn;have kB:=((QK _ w6).drew.trans (hb1.mono (ZH _))).trans (hBn.mono hb1.size);rw [hWn] at hXn kO kB;exact ⟨_,A1,c1,rfl,hXn,kO,kB⟩)
   obtain ⟨b4,A1,c1,rfl,hX4,hO4,hb4⟩:=hcut;have HJ7:=Hd (HJ6.out.go hb4);have HR7:=Hd (HR6.out.go hb4);have HO7:=Hd hO4;have HT7:=Hd (HKT.out.go hb4);have HX7:=Hd (HX6.out.go hb4);have l0:=Qq hb4 l0;have l1:=Qq hb4 l1;have l2:=Qq hb4 l2;have z8:=HJ7.out.bx.cell 8 _ rfl;have x1:=HX7.out.bx.cell 1 _ rfl;rw [HT.out] at x1;have a0:=Qz.cell (hX4.bx.cell 0 _ rfl);have a1:=Qz.cell (hX4.bx.cell 1 _ rfl);have a2:=Qz.cell (hX4.bx.cell 2 _ rfl);have a3:=Qz.cell z8;have a4:=Qz.cell x1;have a5:=Qz.cell l0;have a6:=Qz.cell l1;have a7:=Qz.cell l2;obtain ⟨T,hTT⟩:∃T:Zj,Hid (Vg os t=T):=⟨_,Hd rfl⟩;rw [hTT.out] at HEN HN1 HT7 a5 a6 a7;have cK:=λx:Qz wc=>Ct Q T A1 At c1 ct x.w (HO7.out.go x.below) (HT7.out.go x.below) HN1.out
   unfold Qf at cK;obtain ⟨bb,hbb⟩:∃bb,Hid (Im Q T=bb):=⟨_,Hd rfl⟩;rw [hbb.out] at HEN cK;clear x0 x1 x2 x3 x4 x5 x6 x7 x8 x9 z8 zl xl k0 k1 k2 l0 l1 l2 hX4 hO4 hb4 cE hbb HAL HNB HJ6 HR6 HX6 HKF HKT;clear hTT;go_upto_region 5 with fail
   refine Qk (by kernel_rfl) (by kernel_rfl) ?_
   repeat (go_big_quiet_step ((go_at_call 68;with_reducible exact Qd (cK _))))
   refine wpQuiet_nil ?_;intro w8 hb8;have HJ8:=Hd (HJ7.out.go hb8);have HR8:=Hd (HR7.out.go hb8);clear a0 a1 a2 a3 a4 a5 a6 a7 cK hb8 HJ7 HR7;cases bb with
   |false=>
    have cS:=Zk9 j ⟨va,vc,aa,ac,some ⟨be,oe,none⟩,ec⟩ g n gv _ false 0 0 cs2 213 i w8 HJ8.out.bx;go_wp2_with (go_at_call 65;(with_reducible refine cS.mono ?_);rintro _ _ ⟨rfl,hbx,hg9⟩;have HF:=Hd (And.intro hbx hg9);clear hbx hg9)
    obtain ⟨hbx,hg9⟩:=HF.out;exact QL (v:=.tuple #[]) (by simp [results,results30,go_sem]) rfl ⟨213,i,cs2,rfl,⟨hbx,HJ8.out.bl.trans (Cv hg9 HJ8.out.bl.size HJ8.out.ge),HJ8.out.ge⟩,HR8.out.only hg9,.inr ⟨rfl,i,HLT.out,by rw [<-HED.out];exact HEN.out⟩⟩
   |true=>
    go_wp2_with fail
    go_roundw
    case rel=>exact ⟨i+1,by go_num,by have:=HLT.out;omega,cs2,HJ8.out,HR8.out,Hd (λk hk=>by
     rcases ZJ k i with h|h
     .exact HA.out k h
     obtain rfl:k=i:=by omega
     rw [<-HED.out];exact HEN.out)⟩
    have:=HLT.out;simp [Go.RowKit.intOf];omega
  obtain rfl:i=EL:=by omega
  have d0:decide ((i:Int)<(i:Int))=false:=by simp
  have HJ:=Hd hJ;have HR:=Hd hR;clear hJ hR;go_wp2_with fail
  go_end0
  exact ⟨0,0,cs,rfl,HJ.out,HR.out,.inl ⟨rfl,rfl,HA.out⟩⟩
def Np (g:Zv) (e:Ql):Int:=if 0≤e.arr then Qe g.sizes e.arr.toNat else 0
theorem Qc7 (w0 w:World) (j:Nat) (m:GM) (g:Zv) (n:Int) (gv:Value) (A:Option Addr) (c:Nat) (os:List Zj) (cost:Int) (L EL:Nat) (hL:L=os.length) (hEL:EL=g.edges.length) (hJ:Jd w0 w j m g n gv (.slice A L c) false 0 0 cost) (hR:Wt w j A os) (hG:Hg w0 m g) (hLm:L≤4096) (hEm:EL≤8192)
 (hE:∀i,i<EL->(0≤(Qx g.edges i).fr∧(Qx g.edges i).fr<L)∧(Qx g.edges i).arr<(g.sizes.length:Int)∧
  ∀A1 c1 (w1:World),Qi w1 A1 c1 (Vg os (Qx g.edges i).fr.toNat)->Calls prog 70 #[Qf (Vg os (Qx g.edges i).fr.toNat) A1 c1,.agg (Qj (Qx g.edges i)).toArray,.int .i64 (Np g (Qx g.edges i))] w1 λr w'=>r=.returned (.tuple #[.bool true,.int .i64 0])∧Below w1.heap.size w1 w'):
 Calls prog 31 #[.pointer (some ⟨j,0,none⟩)] w λe w'=>e=.returned (.tuple #[])∧Below w.heap.size w w':=by
 obtain ⟨_,_,aa,_,ea,_⟩:=m;have HL:=Hd hL;have HEL:=Hd hEL;have HG:=Hd hG;have HE:=Hd hE;have HJ:=Hd hJ;have HR:=Hd hR;have y5:=hJ.bx.cell 5 _ rfl;have hjl:=hJ.bx.lt;rw [<-hEL] at y5;dsimp only at y5;clear hL hEL hG hE hJ hR;go_enter func31,ntmps31
 go_upto_region 1 with fail
 clear y5 hjl;go_loopw [13] (λs wr=>∃i:Nat,s=.int .i64 i∧i≤EL∧Below w.heap.size w wr) (λs _=>EL - (Go.RowKit.intOf s).toNat)
 case atStart=>exact ⟨0,rfl,by omega,QK _ _⟩
 case round=>
  obtain ⟨i,rfl,hi,hbr⟩:=hrel;rcases ZJ i EL with hlt|hge
  .have d0:decide ((i:Int)<(EL:Int))=true:=ZE (by omega);have:(0:Int)≤(i:Int):=by omega
   have:(i:Int)<(EL:Int):=by omega
   have hJr:=HJ.out.go hbr;obtain ⟨be,oe,hea,hbe,hed⟩:=HG.out.edge (i:=i) (by rw [<-HEL.out];exact hlt);have hea:ea=some ⟨be,oe,none⟩:=hea;subst hea;obtain ⟨⟨f0,f1⟩,ar1,hcE⟩:=HE.out i hlt;obtain ⟨c0,c1,c2,c3,c4,c5,c6,c7,c8,c9⟩:=hed.go hJr.bl;have hbe2:be<wr.heap.size:=ZI hbe hJr.bl.size;have HLT:=Hd hlt;have HBR:=Hd hbr;clear hed hbe hlt hi hbr;generalize Qx g.edges i=ed at*;obtain ⟨f,hf⟩:=ZV f0;rw [hf] at c0 f1;have hf2:ed.fr.toNat=f:=by omega
   rw [hf2] at hcE;have HF:=Hd hf;clear f0 hf hf2;obtain ⟨W,hW,hX,hB,hs⟩:=Zk wr (Qj ed) 56;have HX:=Hd hX;have HJ1:=Hd (hJr.go hB);have HR1:=Hd ((HR.out.go HBR.out).go hB);have HB1:=Ht HBR hB;unfold Qj at hW;rw [HF.out] at hW;clear hX hB hs hJr;go_upto_region 4 with fail
   rw [<-hW];clear hW c0 c1 c2 c3 c4 c5 c6 c7 c8 c9 hbe2;obtain ⟨sz,hsz⟩:∃sz,Hid (Np g ed=sz):=⟨_,Hd rfl⟩;have x4:=HX.out.bx.cell 4 _ rfl;have xl:=HX.out.bx.lt;unfold Qj at x4;obtain ⟨bd,hbd⟩:∃bd,decide (ed.arr≥0)=bd:=⟨_,rfl⟩;go_upto_if 20 with fail
   have HBD:=Hd hbd;clear hbd;go_cut [4] (λs wx=>s=.int .i64 sz∧Below W.heap.size W wx)
   case first=>
    by_cases har:0≤ed.arr
    .obtain ⟨ar,hare⟩:=ZV har;obtain ⟨ab,ao,ha,hal,hac⟩:=HG.out.arrs (by omega);have ha:aa=some ⟨ab,ao,none⟩:=ha;subst ha;have ks:=(HJ1.out.bl.cell (p:=⟨ab,ao+ar*2+1,none⟩) hal).trans (hac ar (by omega));have hs2:Np g ed=Qe g.sizes ar:=by unfold Np;rw [ZM har,hare];rfl
     have hs3:Qe g.sizes ar=sz:=by rw [<-hs2];exact hsz.out
     rw [hs3] at ks;obtain rfl:bd=true:=by rw [<-HBD.out];exact ZE har
     rw [hare] at x4 ar1;have y2:=HJ1.out.bx.cell 2 _ rfl;have:ab<W.heap.size:=ZI hal HJ1.out.bl.size;have:(0:Int)≤(ar:Int):=by omega
     dsimp only at y2;clear hac hs2 hs3 har hare hal;go_upto_region 5 with fail
     have a0:=Qz.cell x4;have a1:=Qz.cell y2;have a2:=Qz.cell ks;refine Qk (by kernel_rfl) (by kernel_rfl) ?_
     repeat (go_big_quiet_step (fail))
     refine wpQuiet_nil ?_;intro w2 hb2;go_wp2_with fail
     go_meet
     exact ⟨rfl,hb2⟩
    obtain rfl:bd=false:=by rw [<-HBD.out];exact ZA (by omega)
    have hs2:Np g ed=0:=by unfold Np;rw [ZL har]
    have hs3:sz=0:=by rw [<-hsz.out];exact hs2
    subst hs3;clear hs2 har;go_wp2_with fail
    go_meet
    exact ⟨rfl,QK _ _⟩
   obtain ⟨rfl,hbc⟩:=hcut;rw [hsz.out] at hcE;have HJ6:=Hd (HJ1.out.go hbc);have HX6:=Hd (HX.out.go hbc);have HB6:=Ht HB1 hbc;obtain ⟨_,_,Af,cf,hA,_,k0,k1,k2,hok⟩:=(HR1.out.go hbc).at (i:=f) (by rw [<-HL.out];omega);subst hA;have a0:=Qz.cell (HX6.out.bx.cell 0 _ rfl);have a1:=Qz.cell (HX6.out.bx.cell 1 _ rfl);have a2:=Qz.cell (HX6.out.bx.cell 2 _ rfl);have a3:=Qz.cell (HX6.out.bx.cell 3 _ rfl);have a4:=Qz.cell (HX6.out.bx.cell 4 _ rfl);have a5:=Qz.cell (HX6.out.bx.cell 5 _ rfl);have a6:=Qz.cell (HX6.out.bx.cell 6 _ rfl);have a7:=Qz.cell (HX6.out.bx.cell 7 _ rfl);have a8:=Qz.cell (HX6.out.bx.cell 8 _ rfl);have a9:=Qz.cell (HX6.out.bx.cell 9 _ rfl);simp only [HF.out] at a0;have b8:=Qz.cell (HJ6.out.bx.cell 8 _ rfl);have l0:=Qz.cell k0;have l1:=Qz.cell k1;have l2:=Qz.cell k2;have HK:=Hd hok;have cE:=λx:Qz wc=>hcE Af cf x.w (HK.out.go x.below)
   unfold Qf Qj at cE;simp only [HF.out] at cE;have:(0:Int)≤(f:Int):=by omega
   clear hok hbc k0 k1 k2 hcE x4 xl;go_upto_region 6 with fail
   refine Qk (by kernel_rfl) (by kernel_rfl) ?_
   repeat (go_big_quiet_step ((go_at_call 70;with_reducible exact Qd (cE _))))
   refine wpQuiet_nil ?_;intro w8 hb8;have HB8:=Ht HB6 hb8;clear a0 a1 a2 a3 a4 a5 a6 a7 a8 a9 b8 l0 l1 l2 cE hb8;go_wp2_with fail
   go_roundw
   case rel=>exact ⟨i+1,by go_num,by have:=HLT.out;omega,HB8.out⟩
   have:=HLT.out;simp [Go.RowKit.intOf];omega
  obtain rfl:i=EL:=by omega
  have d0:decide ((i:Int)<(i:Int))=false:=by simp
  have HBR:=Hd hbr;clear hbr;go_wp2_with fail
  go_end0
  exact ⟨rfl,HBR.out⟩
def bxM:Nat->List Int->List Int
 |0,M=>M
 |k+1,M=>Zq 4 (bxM k M) k (ac k) 8
def Qz4 (P:Zj):Zj:=if P.2.1=true then P else (2,false,bxM 4 P.2.2)
theorem Ze9 (k:Nat) (M:List Int):(bxM k M).length=M.length:=by
 induction k with
 |zero=>rfl
 |succ k ih=>show (Zq 4 (bxM k M) k (ac k) 8).length=_;rw [Xj,ih]
theorem Jg6 {M:List Int} (hl:M.length=(2*2)*(2*2)) (ok:Yo (2*2) M) {L:Int} (hF:Ko (2*2) L M) (hL:8≤L∧L≤4611686018427387904):∀k,k≤4->Yo (2*2) (bxM k M)∧Ko (2*2) L (bxM k M)∧∀a,a<k->cl 4 (bxM k M) a (ac a)≤8
 |0,_=>⟨ok,hF,λa h=>absurd h (Nat.not_lt_zero a)⟩
 |k+1,h=>by
  obtain ⟨h1,h2,h3⟩:=Jg6 hl ok hF hL k (by omega);have l1:(bxM k M).length=(2*2)*(2*2):=by rw [Ze9];exact hl
  have hk:k<4:=by omega
  have ha:ac k<4:=Qg (n:=2) hk;refine ⟨Ks (n:=2) l1 h1 hk ha (Ne.symm (Zi5 k)),Bt l1 h2 hk ha (by omega) hL.2,λa hak=>?_⟩;show cl 4 (Zq 4 (bxM k M) k (ac k) 8) a (ac a)≤8
  rcases ZJ a k with h'|h'
  .exact Int.le_trans (Ba l1 h1 hk ha (by omega) (Qg (n:=2) (by omega))) (h3 a h')
  obtain rfl:a=k:=by omega
  rw [Xn (m:=4) l1 hk ha (Qg (n:=2) hk) (by rw [Ve];exact hk) ha,ZM (.inl ⟨rfl,rfl⟩)];have e:Jn 8=8:=by decide
  rw [e];exact Int.min_le_right _ _
theorem Jn4 {P:Zj} (hN:P.1=2) (hc:Je P.1 P.2.1 P.2.2=0) (hF:P.2.1=false->Ko (2*2) 1125899906842624 P.2.2):Cg (Qz4 P):=by
 obtain ⟨n,e,M⟩:=P;dsimp only at*;obtain ⟨n',_,_,h1,h2⟩:=Zz hc;cases e with
 |true=>exact .inl (by show (n,true,M)=Vt 2;rw [h1 rfl,hN];rfl)
 |false=>
  obtain ⟨hl,ok⟩:=h2 rfl;obtain rfl:n'=2:=by omega
  have hl:M.length=(2*2)*(2*2):=hl;obtain ⟨g1,g2,g3⟩:=Jg6 hl ok (hF rfl) (by omega) 4 (ZH _);exact .inr ⟨bxM 4 M,rfl,by rw [Ze9];exact hl,g1,g3,g2⟩
def Hb (Q:Zj) (i:Nat):Zj:=if Q.2.1=true then Q else (2,false,Zq 4 Q.2.2 i (ac i) 8)
def Mq (P:Zj):Nat->Zj
 |0=>P
 |k+1=>Hb (Mq P k) k
theorem Zx1 {M:List Int} {n:Int} (k:Nat):Mq (n,true,M) k=(n,true,M):=by
 induction k with
 |zero=>rfl
 |succ k ih=>show Hb (Mq _ k) k=_;rw [ih];rfl
theorem Qh1 {M:List Int} (k:Nat):Mq (2,false,M) k=(2,false,bxM k M):=by
 induction k with
 |zero=>rfl
 |succ k ih=>show Hb (Mq _ k) k=_;rw [ih];rfl
theorem Zn6 {P:Zj} (h:P.1=2):Mq P 4=Qz4 P:=by
 obtain ⟨_,e,_⟩:=P;dsimp only at h;subst h;cases e with
 |true=>rw [Zx1];rfl
 |false=>rw [Qh1];rfl
def QOk (Q:Zj):Prop:=Q.1=2∧(Q.2.1=false->Q.2.2.length=(2*2)*(2*2))
theorem QOk.step {Q:Zj} (h:QOk Q) (i:Nat):QOk (Hb Q i):=by
 unfold Hb;split
 .exact h
 rename_i hf
 exact ⟨rfl,λ_=>by show (Zq _ _ _ _ _).length=_;rw [Xj];exact h.2 (by simpa using hf)⟩
theorem QOk.steps {P:Zj} (h:QOk P):∀k,QOk (Mq P k)
 |0=>h
 |k+1=>(QOk.steps h k).step k
theorem Zb7 (Q:Zj) (hQ:QOk Q) (i:Nat) (hi:i<4) (A:Option Addr) (c:Nat) (base:Nat) (w:World) (ho:Ow w base 2 .i64 A c Q.2.2) (hb:base≤w.heap.size):
 Calls prog 21 #[Qf Q A c,.int .i64 i,.int .i64 (ac i),.int .i64 8] w λe w'=>e=.returned (Qf (Hb Q i) A c)∧Ow w' base 2 .i64 A c (Hb Q i).2.2∧∃g,base≤g∧w.grownBy w' (some g):=by
 obtain ⟨n,e,M⟩:=Q;obtain ⟨rfl,h2⟩:=hQ;cases e with
 |true=>
  refine (Ig 2 A M.length c i (ac i) 8 w).mono ?_;rintro e w' ⟨rfl,hbl⟩;exact ⟨rfl,ho.below hbl,w.heap.size,hb,Qr hbl _⟩
 |false=>
  have hl:=h2 rfl;dsimp only at hl ho;obtain ⟨g,rfl,hg1,_⟩:=ho.blockOf (by rw [hl];omega);refine (Jq9 2 g c M i (ac i) 8 w base (by omega) hl ho hi (Qg (n:=2) hi) (Ne.symm (Zi5 i))).mono ?_;rintro e w' ⟨rfl,ho',hg⟩;refine ⟨?_,ho',g,hg1,hg⟩;show Ending.returned (Value.agg #[.int .i64 2,.bool false,.slice (some ⟨g,0,none⟩) M.length c])=Ending.returned (Value.agg #[.int .i64 2,.bool false,.slice (some ⟨g,0,none⟩) (Zq 4 M i (ac i) 8).length c])
  rw [Xj]
theorem Qz5 (w:World) (b:Nat) (Q:Zj) (A:Option Addr) (c:Nat):(Qm w b 0 (Qp Q A c)).heap.size=w.heap.size:=by simp [Qm,Qp]
structure Bxg (w0 w:World) (A:Option Addr) (c:Nat) (Q:Zj):Prop where
 bx:Bx w w0.heap.size (Qp Q A c)
 bz:Bx w (w0.heap.size+1) Jj
 row:Ow w (w0.heap.size+2) 2 .i64 A c Q.2.2
 bl:Below w0.heap.size w0 w
 sz:w0.heap.size+2≤w.heap.size
theorem Bxg.go {w0 w w':World} {A:Option Addr} {c:Nat} {Q:Zj} (h:Bxg w0 w A c Q) (hb:Below w.heap.size w w'):Bxg w0 w' A c Q:=⟨h.bx.below hb,h.bz.below hb,h.row.below hb,h.bl.trans (hb.mono h.bl.size),ZO h.sz hb.size⟩
theorem Bxg.put {w0 w w':World} {A A':Option Addr} {c c':Nat} {Q Q':Zj} (h:Bxg w0 w A c Q) {g:Nat} (hg:w.grownBy w' (some g)) (hb:w0.heap.size+2≤g) (hr:Ow w' (w0.heap.size+2) 2 .i64 A' c' Q'.2.2):Bxg w0 (Qm w' w0.heap.size 0 (Qp Q' A' c')) A' c' Q':=by
 have h1:=h.bx.only hg (by omega);have h2:=h.bz.only hg (by omega);have h3:=Za w' w0.heap.size (Qp Q' A' c') 0;refine ⟨h1.put rfl,h2.only h3 (by omega),?_,Qn (ZH _) _ 0 _ (h.bl.grown hg h.bl.size (λk e=>by cases e;omega)),by rw [Qz5];exact ZO h.sz hg.size⟩;unfold Qp Qm Qm Qm Qm;exact ((hr.low (by show w0.heap.size<_;omega) _).low (by show w0.heap.size<_;omega) _).low (by show w0.heap.size<_;omega) _
theorem Jk1 (P:Zj) (A:Option Addr) (c:Nat) (w:World) (hN:P.1=2) (h:Qi w A c P):
 Calls prog 8 #[Qf P A c] w λe w'=>∃A' c',e=.returned (Qf (Qz4 P) A' c')∧Ow w' w.heap.size 2 .i64 A' c' (Qz4 P).2.2∧Below w.heap.size w w':=by
 rw [<-Zn6 hN];have hQ:QOk P:=by
  obtain ⟨n',_,_,_,h2⟩:=Zz h.ok;exact ⟨hN,λe=>by obtain ⟨hl,_⟩:=h2 e;obtain rfl:n'=2:=by omega
                                                 exact hl⟩
 obtain ⟨W,hW,hX,hY,hB,hs⟩:=Vu w (Qp P A c) 32 Jj 32;have hP:=h.go hB;have cC:=Qf1 P.1 P.2.1 A c P.2.2 W hP.oi.rd h.len;rw [hs] at cC;obtain ⟨x0,x1,x2⟩:=hX.bx.c2;have xl:=hX.bx.lt;unfold Qf;unfold Qp Jj at hW;have hPx:Bx W w.heap.size (Qp P A c):=hX.bx;have HX:=Hd hPx;have HY:=Hd hY.bx;have HB:=Hd hB;have HS:=Hd hs;have HQ:=Hd hQ;clear hX hY hB hs hP h hPx hQ hN;go_enter func8,ntmps8
 go_upto_region 1 with fail
 rw [<-hW];clear hW;go_upto_region 2 with (go_at_call 20;(with_reducible refine cC.mono ?_);rintro e1 w1 ⟨A1,c1,rfl,ho1,hb1⟩;rw [<-HS.out] at hb1;have hx1:=HX.out.below hb1;have hxf:=hx1.fr;have hxl:=hx1.lt;have q0:=hx1.cell 0 _ rfl;have q1:=hx1.cell 1 _ rfl;have q2:=hx1.cell 2 _ rfl;have HG:Hid (Bxg w (Qm w1 w.heap.size 0 (Qp P A1 c1)) A1 c1 P):=Hd (by
  have hz:=HY.out.below hb1;have h3:=Za w1 w.heap.size (Qp P A1 c1) 0;refine ⟨hx1.put rfl,hz.only h3 (by omega),?_,Qn (ZH _) _ 0 _ ((Ht HB hb1).out),by rw [Qz5,<-HS.out];exact hb1.size⟩;unfold Qp Qm Qm Qm Qm;exact ((ho1.low (by show w.heap.size<_;omega) _).low (by show w.heap.size<_;omega) _).low (by show w.heap.size<_;omega) _);simp only [Qm,Qp] at HG;clear hb1 hx1 ho1)
 clear x0 x1 x2 xl HX HY HB HS cC q0 q1 q2 hxf hxl;have cA:=λ(i:Nat) (hi:i<4) (X:World)=>Vp i X (by omega)
 have cB:=λ(k:Nat) (hk:k<4) (w1:World) (ho:Ow w1 (w.heap.size+2) 2 .i64 A1 c1 (Mq P k).2.2) (hb:w.heap.size+2≤w1.heap.size)=>Zb7 (Mq P k) (HQ.out.steps k) k hk A1 c1 (w.heap.size+2) w1 ho hb
 go_wp2_with fail
 go_loopw [3] (λs wr=>∃i:Nat,s=.int .i64 i∧i≤4∧Bxg w wr A1 c1 (Mq P i)) (λs _=>4 - (Go.RowKit.intOf s).toNat)
 case atStart=>exact ⟨0,rfl,by omega,HG.out⟩
 case round=>
  clear HG;obtain ⟨i,rfl,hi,hG⟩:=hrel;have e1:IntKind.i64.wrap ((i:Int)+1)=i+1:=QQ _ (by omega);by_cases hi4:i<4
  .have q0:decide ((i:Int)<4)=true:=ZE (by omega);have cAi:=cA i hi4;obtain ⟨x0,x1,x2⟩:=hG.bx.c2;have xl:=hG.bx.lt;have HG:=Hd hG;clear hG cA;go_upto_region 5 with fail
   have a0:=Qz.cell x0;have a1:=Qz.cell x1;have a2:=Qz.cell x2;refine Qb [(4,2)] (by kernel_rfl) (by kernel_rfl) ?_;simp only [Jl,ZP,ZQ,ZR,ZT]
   repeat (go_big_quiet_step ((go_at_call 19;with_reducible exact Qw (cAi _))))
   refine wpQuiet_nil ?_;intro w3 hb3;have hG3:=HG.out.go hb3;have cBi:=cB i hi4 w3 hG3.row hG3.sz;unfold Qf at cBi;have HG3:=Hd hG3;clear hG3 hb3 HG a0 a1 a2 x0 x1 x2 xl cAi;go_wp2_with fail
   with_reducible refine cBi.mono ?_
   rintro e1 _ ⟨rfl,ho4,g,hgb,hg4⟩;have hx4:=HG3.out.bx.only hg4 (by omega);obtain ⟨z0,z1,z2⟩:=hx4.c2;have zf:=hx4.fr;have zl:=hx4.lt;have HG4:=Hd (HG3.out.put (Q':=Hb (Mq P i) i) hg4 hgb ho4);simp only [Qm,Qp] at HG4;clear hx4 ho4 hg4 hgb HG3 cBi cB;go_wp2_with fail
   clear z0 z1 z2 zf zl;refine Qu (wpQuiet_nil ?_);intro w5 hb5;have HG5:=Hd (HG4.out.go hb5);clear hb5 HG4;go_wp2_with fail
   go_roundw
   case rel=>exact ⟨i+1,by go_num,by omega,HG5.out⟩
   simp [Go.RowKit.intOf];omega
  obtain rfl:i=4:=by omega
  have q0:decide (((4:Nat):Int)<4)=false:=rfl;obtain ⟨x0,x1,x2⟩:=hG.bx.c2;have xl:=hG.bx.lt;obtain ⟨_,_,_⟩:=hG.bz.c2;have:=hG.bz.fr;have:=hG.bz.lt;have HG:=Hd hG;clear hG cA cB hi4 hi;generalize hQ4:Mq P 4=Q at HG x0 x1 x2;have HQ4:=Hd hQ4;clear hQ4;go_wp2_with fail
  have kx:Bx (Qm wr (w.heap.size+1) 0 (Qp Q A1 c1)) (w.heap.size+1) (Qp Q A1 c1):=HG.out.bz.put rfl;obtain ⟨k0,k1,k2⟩:=kx.c2;have kB:=Qn (g:=w.heap.size+1) (by omega) (Qp Q A1 c1) 0 _ HG.out.bl;have kr:Ow (Qm wr (w.heap.size+1) 0 (Qp Q A1 c1)) (w.heap.size+2) 2 .i64 A1 c1 Q.2.2:=by
   unfold Qp Qm Qm Qm Qm;exact ((HG.out.row.low (by show w.heap.size+1<_;omega) _).low (by show w.heap.size+1<_;omega) _).low (by show w.heap.size+1<_;omega) _
  simp only [Qp,Qm] at k0 k1 k2 kB kr;refine QL (v:=Qf Q A1 c1) (by simp [results,results8,go_sem,k0,k1,k2,Qf]) rfl ?_;rw [HQ4.out];exact ⟨A1,c1,rfl,kr.lower (show w.heap.size≤w.heap.size+2 by omega),kB⟩
end
