/- Lemmas for wholeNotEmpty; no conditions. -/
import Derived.Test.YtpggdkenajfjjaaGreatDoorGbm
import Derived.Test.YtpggdkenajfjjaaGreatDoorGax
import Derived.Recover
import Derived.Defers
set_option linter.all false
set_option maxRecDepth 100000
set_option maxHeartbeats 16000000
namespace Go.Proofs.YtpggdkenajfjjaaGreatDoor
open Go.RowKit Tryz
open Go.Lib renaming hid → Hd
structure Tok where
 k:Int
 s:ByteArray
 n:Int
 l:Int
 c:Int
def Tok.cells (t:Tok):List Value:=[.int .i64 t.k,.string t.s,.int .i64 t.n,.int .i64 t.l,.int .i64 t.c]
def tv (ts:List Tok):List Value:=ts.flatMap Tok.cells
theorem Vj5 (ts:List Tok) (t:Tok):tv (ts++[t])=tv ts++t.cells:=by unfold tv;rw [List.flatMap_append];simp
def Cf:List Tok:=[⟨3,Qr7,0,1,1⟩,⟨1,sX,0,1,5⟩,⟨4,Zg1,0,1,6⟩,⟨1,sX,0,1,8⟩,⟨4,sEq,0,1,10⟩,⟨2,Fm,1,1,12⟩,⟨4,Zg1,0,1,13⟩,⟨5,⟨#[]⟩,0,1,14⟩]
theorem elTok:Ni prog 205 214 (.agg #[.int .i64 0,.string ⟨#[]⟩,.int .i64 0,.int .i64 0,.int .i64 0]) 5 48:=⟨underlying205,by kernel_rfl,rfl,by decide,by decide⟩
def Gs:List Nat:=[0,4,5,7,9,11,12,13]
def Zn8 (w:World) (e:Ending) (w':World):Prop:=∃A c,e=.returned (.tuple #[.slice A 8 c,.agg #[.int .i64 0,.int .i64 0],.int .i64 0])∧w'.ownsRow w.heap.size 214 5 (.slice A 8 c) 8 (tv Cf)∧Below w.heap.size w w'
theorem Jl4 {w w':World} {b size n:Nat} {e:TypeId} {v:Value} {vs:List Value} (h:w.ownsRow (b+1) e size v n vs) (hg:w.grownBy w' (some b)):w'.ownsRow (b+1) e size v n vs:=
 World.ownsRow.kept (row:=some b) h hg (by
  right
  intro hv;have:=(h.lt b (by first|exact hv|exact hv.symm)).1
  omega)
structure If (w:World) (b p:Nat) (wr:World) (n j:Nat) (A:Option Addr) (c:Nat):Prop where
 at':Vv wr b Jz n (.slice A j c)
 row:wr.ownsRow (b+1) 214 5 (.slice A j c) j (tv (Cf.take j))
 box:Jv wr p 0 0
 below:Below w.heap.size w wr
 lo:w.heap.size≤b
 hi:b+1≤wr.heap.size
 ne:p≠b
theorem If.go {w wr wr':World} {b p n j c:Nat} {A:Option Addr} (h:If w b p wr n j A c) (hb:Below wr.heap.size wr wr'):If w b p wr' n j A c:=
 ⟨h.at'.below hb,Yx h.row hb,h.box.below hb,h.below.trans (hb.mono h.below.size),h.lo,ZO h.hi hb.size,h.ne⟩
theorem Jv.only {w w':World} {g b:Nat} {l c:Int} (h:Jv w g l c) (hg:w.grownBy w' (some b)) (hne:g≠b):Jv w' g l c:=
 ⟨Qy hg h.c0 hne,Qy hg h.c1 hne,λi=>Jc hg (h.fr i) h.lt hne⟩
theorem If.turn {w wr wr':World} {b p n m j c:Nat} {A:Option Addr} (h:If w b p wr n j A c) (hL:Vv wr' b Jz m (.slice A j c)) (hg:wr.grownBy wr' (some b)):If w b p wr' m j A c:=
 ⟨hL,Jl4 h.row hg,h.box.only hg h.ne,h.below.grown hg h.below.size (λk e=>by cases e;exact h.lo),h.lo,ZO h.hi hg.size,h.ne⟩
structure Vm7 (j k:Nat) (r:Int) (t:Tok) (m:Nat):Prop where
 lt:Gs.getD j 0<13
 rune:Vh Jz (Gs.getD j 0)=r
 tok:Cf.take (j+1)=Cf.take j++[⟨t.k,t.s,t.n,1,((Gs.getD j 0:Nat):Int)+1⟩]
 reads:(r=118∨r=120)∧k=268∨r=49∧k=269∨(r=59∨r=61)∧k=270
 call:∀b v W,Vv W b Jz (Gs.getD j 0) v->Calls prog k #[.pointer (some ⟨b,0,none⟩)] W λe w'=>e=.returned (.tuple #[Xs t.k t.s t.n 0 0,.int .i64 0])∧Vv w' b Jz m v∧W.grownBy w' (some b)
 blank:Mo m (Gs.getD (j+1) 0)
 next:Gs.getD j 0<Gs.getD (j+1) 0
theorem Vc7 (j:Nat) (h:j<7):∃k r t m,Vm7 j k r t m:=by
 rcases (show j=0∨j=1∨j=2∨j=3∨j=4∨j=5∨j=6 by omega) with rfl|rfl|rfl|rfl|rfl|rfl|rfl
 .exact ⟨_,118,⟨3,Qr7,0,0,0⟩,3,by decide,by decide,rfl,.inl ⟨.inl rfl,rfl⟩,λb v W h=>Jo6 b v W h,by unfold Mo;decide,by decide⟩
 .exact ⟨_,120,⟨1,sX,0,0,0⟩,5,by decide,by decide,rfl,.inl ⟨.inr rfl,rfl⟩,λb v W h=>Ju4 b 4 (.inl rfl) v W h,by unfold Mo;decide,by decide⟩
 .exact ⟨_,59,⟨4,Zg1,0,0,0⟩,6,by decide,by decide,rfl,.inr (.inr ⟨.inl rfl,rfl⟩),λb v W h=>Qa6 b 5 59 _ (.inl ⟨rfl,rfl,rfl⟩) v W h,by unfold Mo;decide,by decide⟩
 .exact ⟨_,120,⟨1,sX,0,0,0⟩,8,by decide,by decide,rfl,.inl ⟨.inr rfl,rfl⟩,λb v W h=>Ju4 b 7 (.inr rfl) v W h,by unfold Mo;decide,by decide⟩
 .exact ⟨_,61,⟨4,sEq,0,0,0⟩,10,by decide,by decide,rfl,.inr (.inr ⟨.inr rfl,rfl⟩),λb v W h=>Qa6 b 9 61 _ (.inr (.inl ⟨rfl,rfl,rfl⟩)) v W h,by unfold Mo;decide,by decide⟩
 .exact ⟨_,49,⟨2,Fm,1,0,0⟩,12,by decide,by decide,rfl,.inr (.inl ⟨rfl,rfl⟩),λb v W h=>Zj1 b v W h,by unfold Mo;decide,by decide⟩
 exact ⟨_,59,⟨4,Zg1,0,0,0⟩,13,by decide,by decide,rfl,.inr (.inr ⟨.inl rfl,rfl⟩),λb v W h=>Qa6 b 12 59 _ (.inr (.inr ⟨rfl,rfl,rfl⟩)) v W h,by unfold Mo;decide,by decide⟩
theorem Vv.low {w w':World} {b n:Nat} {s:ByteArray} {v:Value} (h:Vv w b s n v) (hb:Below (b+1) w.drew w'):Vv w' b s n v:=by
 have e:=λi=>hb.cell (p:=⟨b,i,none⟩) (Nat.lt_succ_self b)
 have f:=λi=>hb.frozen (p:=⟨b,i,none⟩) (Nat.lt_succ_self b)
 exact ⟨(e 0).trans h.c0,(e 1).trans h.c1,(e 2).trans h.c2,(e 3).trans h.c3,(e 4).trans h.c4,λi=>(f i).trans (h.fr i)⟩
theorem Qi8 {w:World} {b size n:Nat} {e:TypeId} {v:Value} {vs:List Value} (h:w.ownsRow b e size v n vs):w.drew.ownsRow b e size v n vs:=h
theorem If.app {w W w9:World} {b n j c c':Nat} {A A':Option Addr} {o:Obj} {tk:Tok} (h:If w b w.heap.size W n j A c) (hb:Below (b+1) (W.alloc o).drew w9)
 (hr:w9.ownsRow (b+1) 214 5 (.slice A' (j+1) c') (j+1) (tv (Cf.take j)++tk.cells)) (ht:Cf.take (j+1)=Cf.take j++[tk]):
 If w b w.heap.size (w9.setCell ⟨b,4,none⟩ (.slice A' (j+1) c')) n (j+1) A' c':=by
 have hal:=(QK W.heap.size W).alloc (ZH _) o;have hL:=(h.at'.below hal).low hb;have hS:=h.go hal;have hne:=h.ne;have hlo:=h.lo;obtain ⟨e0,e1,e2,e3,e4,ef⟩:=hL;have hB:Below w.heap.size w w9:=(hS.below.drew).trans (hb.mono (by omega));refine ⟨⟨?_,?_,?_,?_,?_,λi=>?_⟩,?_,?_,hB.setCell (p:=⟨b,4,none⟩) hlo _,hlo,?_,hne⟩
 .simp [e0,go_sem]
 .simp [e1,go_sem]
 .simp [e2,go_sem]
 .simp [e3,go_sem]
 .simp [e4,go_sem]
 .simp [ef,go_sem]
 .rw [ht,Vj5];exact Eg hr (Nat.lt_succ_self b) _
 .have hp:=hS.box;have e:=λi=>hb.cell (p:=⟨w.heap.size,i,none⟩) (show w.heap.size<b+1 by omega)
  have f:=λi=>hb.frozen (p:=⟨w.heap.size,i,none⟩) (show w.heap.size<b+1 by omega)
  have hp9:Jv w9 w.heap.size 0 0:=⟨(e 0).trans hp.c0,(e 1).trans hp.c1,λi=>(f i).trans (hp.fr i)⟩;exact hp9.only (Qv (p:=⟨b,4,none⟩) (QN w9 (some b)) (.inl rfl) _) hne
 have:=hb.size
 have h2:=hS.hi;simp only [World.size_setCell];exact ZO h2 this
theorem Vz7 {w W w9:World} {b n j c:Nat} {A:Option Addr} {o:Obj} (h:If w b w.heap.size W n j A c) (hb:Below (b+1) (W.alloc o).drew w9):Jv w9 w.heap.size 0 0:=by
 have hal:=(QK W.heap.size W).alloc (ZH _) o;have hp:=(h.go hal).box;have:=h.ne;have:=h.lo;have e:=λi=>hb.cell (p:=⟨w.heap.size,i,none⟩) (show w.heap.size<b+1 by omega)
 have f:=λi=>hb.frozen (p:=⟨w.heap.size,i,none⟩) (show w.heap.size<b+1 by omega)
 exact ⟨(e 0).trans hp.c0,(e 1).trans hp.c1,λi=>(f i).trans (hp.fr i)⟩
theorem Ze4 (k:Int) (s:ByteArray) (n l c:Int):∀u∈([.int .i64 k,.string s,.int .i64 n,.int .i64 l,.int .i64 c]:List Value),u.oneCell'=true:=by
 intro u hu;simp only [List.mem_cons,List.mem_nil_iff,or_false] at hu;rcases hu with rfl|rfl|rfl|rfl|rfl<;>rfl
theorem Qs2 (w:World) (k:Int) (s:ByteArray) (n l c:Int) (t:TypeId):∀i u,([.int .i64 k,.string s,.int .i64 n,.int .i64 l,.int .i64 c]:List Value)[i]? =some u->(w.alloc (.cells #[.int .i64 k,.string s,.int .i64 n,.int .i64 l,.int .i64 c] t)).cell? ((⟨w.heap.size,0,none⟩:Addr).add i)=some u:=by
 intro i u h;rw [show ((⟨w.heap.size,0,none⟩:Addr).add i)=⟨w.heap.size,i,none⟩ by unfold Addr.add;split<;>simp_all,QM];simpa using h
theorem Za3 (w:World):Calls prog 134 #[.string Jz] w (Zn8 w):=by
 obtain ⟨W0,hW0⟩:∃W0,W0=w.alloc (.cells #[.int .i64 0,.int .i64 0] 39):=⟨_,rfl⟩;have p0:Jv W0 w.heap.size 0 0:=by rw [hW0];exact Jv.new _ _ _ _
 have hB0:Below w.heap.size w W0:=by rw [hW0];exact (QK _ _).alloc (ZH _) _
 go_enter func134,ntmps134
 go_wp2_with fail
 rw [<-hW0];clear hW0;refine (Zu2 Jz Wu W0).mono ?_;rintro e w1 ⟨rfl,hb1⟩;have p1:=p0.below hb1;have hB1:=hB0.trans (hb1.mono hB0.size);clear p0 hB0 hb1;go_wp2_with fail
 refine (Vy1 w1).mono ?_;rintro e w2 ⟨rfl,hb2⟩;have p2:=p1.below hb2;have hB2:=hB1.trans (hb2.mono hB1.size);clear p1 hB1 hb2;go_wp2_with fail
 obtain ⟨W3,hW3⟩:∃W3,W3=w2.alloc (.cells #[.string Jz,.int .i64 0,.int .i64 1,.int .i64 1,.slice none 0 0] 285):=⟨_,rfl⟩;have hL3:Vv W3 w2.heap.size Jz 0 (.slice none 0 0):=by
  rw [hW3];refine ⟨?_,?_,?_,?_,?_,λi=>?_⟩
  all_goals simp [go_sem]
 have hb3:Below w2.heap.size w2 W3:=by rw [hW3];exact (QK _ _).alloc (ZH _) _
 have hS3:If w w2.heap.size w.heap.size W3 0 0 none 0:=⟨hL3,QV _ _ _ _,p2.below hb3,hB2.trans (hb3.mono hB2.size),hB2.size,hL3.lt,by have:=p2.lt;omega⟩;rw [<-hW3];clear hW3 hL3 hb3 p2 hB2;generalize w2.heap.size=b at*;refine (Oj b 0 0 (.inl ⟨rfl,rfl⟩) _ W3 hS3.at').mono ?_;rintro e _ ⟨rfl,hL4,hG4⟩;have hS4:=hS3.turn hL4 hG4;clear hS3 hL4 hG4;go_wp2_with fail
 go_loopw [9] (λ_ wr=>∃j A c,j≤7∧If w b w.heap.size wr (Gs.getD j 0) j A c) (λ_ wr=>13 - Zh3 wr b)
 case atStart=>exact ⟨0,none,0,by omega,hS4⟩
 obtain ⟨j,A,c,_,hS⟩:=hrel;clear hS4;obtain ⟨c0,c1,c2,c3,c4,cf⟩:=id hS.at';have:Jz.size=13:=rfl;have HLP:=Hd hS.at'.pos;have:=hS.at'.lt;rcases ZJ j 7 with hj7|hj7
 .obtain ⟨k,r,tk,m,T⟩:=Vc7 j hj7;have hlt:=T.lt;have cp:=λW hW=>Lo b _ Jz (.slice A j c) W hW Wu (show Gs.getD j 0≤13 by omega)
  rw [T.rune,ZE (show Gs.getD j 0<Jz.size from hlt)] at cp;have CP:=Hd cp;clear cp;have hd:decide (((Gs.getD j 0:Nat):Int)<13)=true:=ZE (by omega);have:((j:Int)==32768)=false:=by simp;omega
  have cT:=λW h=>T.call b (.slice A j c) W h
  have CT:=Hd cT;have HT:=Hd T;have hr:=T.reads;clear T cT;generalize hp:Gs.getD j 0=n at*;rcases (show k=268∨k=269∨k=270 by omega) with rfl|rfl|rfl
  all_goals
   have cr:=λW=>Jz9 b _ r W hr
   clear hr;have CR:=Hd cr;clear cr;go_wp2_with fail
   obtain ⟨W5,hW5⟩:∃W5,W5=wr.alloc (.cells #[.int .i64 1,.int .i64 ((n:Int)+1)] 39):=⟨_,rfl⟩;have hP5:Jv W5 wr.heap.size 1 ((n:Int)+1):=by rw [hW5];exact Jv.new _ _ _ _
   have hb5:Below wr.heap.size wr W5:=by rw [hW5];exact (QK _ _).alloc (ZH _) _
   have hS5:=hS.go hb5;have hne5:wr.heap.size≠b:=by omega
   rw [<-hW5];clear hW5 hb5 c0 c1 c2 c3 c4 cf hS;with_reducible refine (CP.out W5 hS5.at').mono ?_
   rintro e w6 ⟨rfl,hb6⟩;have hP6:=hP5.below hb6;have hS6:=hS5.go hb6;clear hS5 hP5 hb6;go_wp2_with fail
   with_reducible refine (CR.out w6).mono ?_
   rintro e w7 ⟨rfl,hb7⟩;have hP7:=hP6.below hb7;have hS7:=hS6.go hb7;clear hS6 hP6 hb7;go_wp2_with fail
   with_reducible refine (CT.out w7 hS7.at').mono ?_
   rintro e w8 ⟨rfl,hL8,hG8⟩;have hP8:=hP7.only hG8 hne5;have hS8:=hS7.turn hL8 hG8;clear hS7 hP7 hL8 hG8;unfold Xs;obtain ⟨W9,hW9,hT9,hb9⟩:=Sv w8 tk.k tk.s tk.n 0 0;have hP9:=hP8.below hb9;have hS9:=hS8.go hb9;have hs9:=hP8.lt;have hlt9:=hT9.lt;obtain ⟨q0,q1,qf⟩:=id hP9;obtain ⟨d0,d1,d2,d3,d4,df⟩:=id hS9.at';obtain ⟨k0,k1,k2,k3,k4,kf⟩:=id hT9;rw [hW9] at q0 q1 d0 d1 d2 d3 d4 k0 k1 k2 k3 k4;go_wp2_with fail
   clear q0 q1 qf d0 d1 d2 d3 d4 df k0 k1 k2 k3 k4 kf hP9 hS9 hT9 hb9 hW9 hlt9;clear W9;obtain ⟨W10,hW10,hT10,hb10⟩:=Sv w8 tk.k tk.s tk.n 1 ((n:Int)+1);have hS10:=hS8.go hb10;have:=hT10.lt;rw [<-hW10];clear hW10 hb10 hS8 hP8 hs9;have hsz48:(j+1)*48≤140737488355328:=by omega
   have:=hS10.at'.lt;obtain ⟨d0,d1,d2,d3,d4,df⟩:=id hS10.at';obtain ⟨k0,k1,k2,k3,k4,kf⟩:=id hT10;have hal:=(QK W10.heap.size W10).alloc (ZH _) (.cells #[.int .i64 tk.k,.string tk.s,.int .i64 tk.n,.int .i64 1,.int .i64 ((n:Int)+1)] 214);have hnews:∀i u,([.int .i64 tk.k,.string tk.s,.int .i64 tk.n,.int .i64 1,.int .i64 ((n:Int)+1)]:List Value)[i]? =some u->(W10.alloc (.cells #[.int .i64 tk.k,.string tk.s,.int .i64 tk.n,.int .i64 1,.int .i64 ((n:Int)+1)] 214)).drew.cell? ((⟨W10.heap.size,0,none⟩:Addr).add i)=some u:=Qs2 W10 _ _ _ _ _ _;have HR:=Hd (Qi8 (Yx hS10.row hal));have hbase:b+1≤(W10.alloc (.cells #[.int .i64 tk.k,.string tk.s,.int .i64 tk.n,.int .i64 1,.int .i64 ((n:Int)+1)] 214)).drew.heap.size:=ZO hS10.hi hal.size;go_region_law (refine Ye elTok (W10.alloc (.cells #[.int .i64 tk.k,.string tk.s,.int .i64 tk.n,.int .i64 1,.int .i64 ((n:Int)+1)] 214)).drew rfl (.tmp 73) (.tmp 75) rfl (b+1) A c j (tv (Cf.take j)) rfl HR.out [.int .i64 tk.k,.string tk.s,.int .i64 tk.n,.int .i64 1,.int .i64 ((n:Int)+1)] W10.heap.size rfl rfl hnews (Ze4 _ _ _ _ _) hsz48 hbase ?_;intro A' c' w9 hr9 hb9 hg9;have hL9:=(hS10.at'.below hal).low hb9;obtain ⟨e0,e1,e2,e3,e4,ef⟩:=id hL9)
   all_goals
    have htk:=HT.out.tok;rw [hp] at htk;have hS11:=hS10.app (tk:=⟨tk.k,tk.s,tk.n,1,(n:Int)+1⟩) hb9 hr9 htk;clear htk;clear e0 e1 e2 e3 e4 ef hL9 hb9 hr9 hg9 d0 d1 d2 d3 d4 df k0 k1 k2 k3 k4 kf hal hnews hbase HR hT10 hS10;generalize w9.setCell ⟨b,4,none⟩ (.slice A' (j+1) c')=W11 at*;go_wp2_with fail
    with_reducible refine (Oj b m _ HT.out.blank _ W11 hS11.at').mono ?_
    rintro e _ ⟨rfl,hL12,hG12⟩;have hS12:=hS11.turn hL12 hG12;clear hS11 hL12 hG12;go_wp2_with fail
    have:=HT.out.next;exact ⟨⟨j+1,A',c',hj7,hS12⟩,by rw [hS12.at'.pos,HLP.out];omega⟩
 obtain rfl:j=7:=by omega
 have hd:decide ((13:Int)<13)=false:=by decide
 have e13:Gs.getD 7 0=13:=rfl;rw [e13] at hS c1 c3 HLP;clear HLP e13;have hsz48:(7+1)*48≤140737488355328:=by omega
 have hal:=(QK wr.heap.size wr).alloc (ZH _) (.cells #[.int .i64 5,.string ⟨#[]⟩,.int .i64 0,.int .i64 1,.int .i64 14] 214);have hnews:∀i u,([.int .i64 5,.string ⟨#[]⟩,.int .i64 0,.int .i64 1,.int .i64 14]:List Value)[i]? =some u->(wr.alloc (.cells #[.int .i64 5,.string ⟨#[]⟩,.int .i64 0,.int .i64 1,.int .i64 14] 214)).drew.cell? ((⟨wr.heap.size,0,none⟩:Addr).add i)=some u:=Qs2 wr _ _ _ _ _ _;have HR:=Hd (Qi8 (Yx hS.row hal));have hbase:b+1≤(wr.alloc (.cells #[.int .i64 5,.string ⟨#[]⟩,.int .i64 0,.int .i64 1,.int .i64 14] 214)).drew.heap.size:=ZO hS.hi hal.size;go_wp2_with fail
 go_region_law (refine Ye elTok (wr.alloc (.cells #[.int .i64 5,.string ⟨#[]⟩,.int .i64 0,.int .i64 1,.int .i64 14] 214)).drew rfl (.tmp 82) (.tmp 88) rfl (b+1) A c 7 (tv (Cf.take 7)) rfl HR.out [.int .i64 5,.string ⟨#[]⟩,.int .i64 0,.int .i64 1,.int .i64 14] wr.heap.size rfl rfl hnews (Ze4 _ _ _ _ _) hsz48 hbase ?_;intro A' c' w9 hr9 hb9 hg9;have hS9:=hS.app (tk:=⟨5,⟨#[]⟩,0,1,14⟩) hb9 hr9 rfl;have hP9:=Vz7 hS hb9;obtain ⟨e0,e1,ef⟩:=id hP9)
 all_goals
  go_wp2_with fail
  have:=hS.lo;have:=hS.ne;have hB9:Below w.heap.size w w9:=((hS.go hal).below.drew).trans (hb9.mono (by omega));have hrow:=Cj (Eg (Eg hr9 (p:=⟨w.heap.size,0,none⟩) (by show w.heap.size<b+1;omega) (.int .i64 0)) (p:=⟨w.heap.size,1,none⟩) (by show w.heap.size<b+1;omega) (.int .i64 0)) (show w.heap.size≤b+1 by omega);exact QL (v:=.tuple #[.slice A' 8 c',.agg #[.int .i64 0,.int .i64 0],.int .i64 0]) (by simp [results,results134,go_sem,e0,e1]) rfl ⟨A',c',rfl,hrow,(hB9.setCell (p:=⟨w.heap.size,0,none⟩) (ZH _) _).setCell (p:=⟨w.heap.size,1,none⟩) (ZH _) _⟩
section
def Vh8:Tok:=⟨0,⟨#[]⟩,0,0,0⟩
def Nk (i:Nat):Tok:=Cf.getD i Vh8
structure Vs (w:World) (b g c i:Nat):Prop where
 c0:w.cell? ⟨b,0,none⟩=some (.slice (some ⟨g,0,none⟩) 8 c)
 c1:w.cell? ⟨b,1,none⟩=some (.int .i64 i)
 fr:∀k,w.frozen? ⟨b,k,none⟩=false
 t0:∀j,j<8->w.cell? ⟨g,j*5,none⟩=some (.int .i64 (Nk j).k)
 t1:∀j,j<8->w.cell? ⟨g,j*5+1,none⟩=some (.string (Nk j).s)
 t2:∀j,j<8->w.cell? ⟨g,j*5+2,none⟩=some (.int .i64 (Nk j).n)
 t3:∀j,j<8->w.cell? ⟨g,j*5+3,none⟩=some (.int .i64 (Nk j).l)
 t4:∀j,j<8->w.cell? ⟨g,j*5+4,none⟩=some (.int .i64 (Nk j).c)
 ne:g≠b
theorem Gh (k:Int) (s:ByteArray) (n l c:Int) (W:World):(Instr.field 214 (.agg #[.int .i64 k,.string s,.int .i64 n,.int .i64 l,.int .i64 c]) 0).run prog W=.ok (.int .i64 k) W:=by kernel_rfl
theorem Vh2 (k:Int) (s:ByteArray) (n l c:Int) (W:World):(Instr.field 214 (.agg #[.int .i64 k,.string s,.int .i64 n,.int .i64 l,.int .i64 c]) 1).run prog W=.ok (.string s) W:=by kernel_rfl
section
variable {w w':World} {b g c i:Nat}
theorem Vs.lt (h:Vs w b g c i):b<w.heap.size:=QO w ⟨b,0,none⟩ h.c0
theorem Vs.ltg (h:Vs w b g c i):g<w.heap.size:=QO w ⟨g,0*5,none⟩ (h.t0 0 (by omega))
theorem Vs.go (h:Vs w b g c i) (hb:Below w.heap.size w w'):Vs w' b g c i:=by
 have e:=λk=>hb.cell (p:=⟨b,k,none⟩) h.lt
 have f:=λk=>hb.cell (p:=⟨g,k,none⟩) h.ltg
 exact ⟨(e 0).trans h.c0,(e 1).trans h.c1,λk=>(hb.frozen (p:=⟨b,k,none⟩) h.lt).trans (h.fr k),λj hj=>(f _).trans (h.t0 j hj),λj hj=>(f _).trans (h.t1 j hj),λj hj=>(f _).trans (h.t2 j hj),λj hj=>(f _).trans (h.t3 j hj),λj hj=>(f _).trans (h.t4 j hj),h.ne⟩
theorem Vs.other {x:Nat} (h:Vs w b g c i) (hg:w.grownBy w' (some x)) (hb:b≠x) (hx:g≠x):Vs w' b g c i:=
 ⟨Qy hg h.c0 hb,Qy hg h.c1 hb,λk=>Jc hg (h.fr k) h.lt hb,λj hj=>Qy hg (h.t0 j hj) hx,λj hj=>Qy hg (h.t1 j hj) hx,λj hj=>Qy hg (h.t2 j hj) hx,λj hj=>Qy hg (h.t3 j hj) hx,λj hj=>Qy hg (h.t4 j hj) hx,h.ne⟩
theorem Vs.step (h:Vs w b g c i):Vs (w.setCell ⟨b,1,none⟩ (.int .i64 ((i:Int)+1))) b g c (i+1)∧w.grownBy (w.setCell ⟨b,1,none⟩ (.int .i64 ((i:Int)+1))) (some b):=by
 have hg:=Qv (p:=⟨b,1,none⟩) (QN w (some b)) (.inl rfl) (.int .i64 ((i:Int)+1));obtain ⟨c0,c1,fr,t0,t1,t2,t3,t4,ne⟩:=h;refine ⟨⟨?_,?_,λk=>?_,λj hj=>Qy hg (t0 j hj) ne,λj hj=>Qy hg (t1 j hj) ne,λj hj=>Qy hg (t2 j hj) ne,λj hj=>Qy hg (t3 j hj) ne,λj hj=>Qy hg (t4 j hj) ne,ne⟩,hg⟩
 all_goals simp [c0,c1,fr,go_sem]
end
theorem Xl (b g c i:Nat) (hi:i<8) (w:World) (h:Vs w b g c i):
 Calls prog 136 #[.pointer (some ⟨b,0,none⟩)] w λe w'=>e=.returned (Xs (Nk i).k (Nk i).s (Nk i).n (Nk i).l (Nk i).c)∧Below w.heap.size w w':=by
 obtain ⟨_,_,_,t0,t1,t2,t3,t4,_⟩:=id h;have t0:=t0 i hi;have t1:=t1 i hi;have t2:=t2 i hi;have t3:=t3 i hi;have t4:=t4 i hi;have:=h.lt;have:=h.ltg;have:(i:Int)<8:=by omega
 clear h hi;generalize Nk i=tk at*;go_enter func136,ntmps136
 go_wp2_with fail
 go_region
 go_wp2
 exact QL (v:=Xs tk.k tk.s tk.n tk.l tk.c) (by simp [results,results136,go_sem,Xs]) rfl ⟨rfl,((QK _ _).alloc (ZH _) _).drew⟩
def isP (i:Nat) (s:ByteArray):Bool:=(decide ((Nk i).k=3)||decide ((Nk i).k=4))&&((Nk i).s.data.toList==s.data.toList)
theorem Sl (b g c i:Nat) (hi:i<8) (s:ByteArray) (t:Bool) (ht:isP i s=t) (w:World) (h:Vs w b g c i):
 Calls prog 138 #[.pointer (some ⟨b,0,none⟩),.string s] w λe w'=>e=.returned (.bool t)∧Below w.heap.size w w':=by
 have cn:=Xl b g c i hi w h;unfold isP at ht;rw [<-ByteArray.toList_eq,<-ByteArray.toList_eq] at ht;have HT:=Hd ht;clear ht h;generalize Nk i=tk at*;unfold Xs at cn;go_enter func138,ntmps138
 go_wp2_with fail
 refine cn.mono ?_;clear cn;rintro e w1 ⟨rfl,hb⟩;by_cases h3:tk.k=3
 .have e3:(tk.k==3)=true:=beq_iff_eq.2 h3;have HT2:=Hd (show (tk.s.toList==s.toList)=t by rw [<-HT.out,ZE h3];simp);clear HT h3;go_wp2_with fail
  go_ret
  exact ⟨by rw [<-HT2.out];rfl,hb.trans (((QK _ w1).alloc (ZH _) _).mono hb.size)⟩
 .have e3:(tk.k==3)=false:=by simpa using h3
  by_cases h4:tk.k=4
  focus
   have e4:(tk.k==4)=true:=beq_iff_eq.2 h4;have HT2:=Hd (show (tk.s.toList==s.toList)=t by rw [<-HT.out,ZE h4];simp)
  rotate_left
  focus
   have e4:(tk.k==4)=false:=by simpa using h4
   have HT2:=Hd (show false=t by rw [<-HT.out,ZA h3,ZA h4];simp)
  all_goals
   clear HT h3 h4;go_wp2_with fail
   go_ret
   exact ⟨by rw [<-HT2.out];rfl,hb.trans (((QK _ w1).alloc (ZH _) _).mono hb.size)⟩
theorem Tl (b g c i:Nat) (hi:i<8) (s:ByteArray) (ht:isP i s=false) (w:World) (h:Vs w b g c i):
 Calls prog 212 #[.pointer (some ⟨b,0,none⟩),.string s] w λe w'=>e=.returned (.bool false)∧Below w.heap.size w w':=by
 have cn:=Sl b g c i hi s false ht w h;clear ht;go_enter func212,ntmps212
 go_wp2_with fail
 refine cn.mono ?_;rintro e _ ⟨rfl,hb⟩;go_wp2_with fail
 go_ret
 exact ⟨rfl,hb⟩
theorem Zo9 (b g c i:Nat) (hi:i<8) (s:ByteArray) (ht:isP i s=true) (w:World) (h:Vs w b g c i):
 Calls prog 212 #[.pointer (some ⟨b,0,none⟩),.string s] w λe w'=>e=.returned (.bool true)∧Vs w' b g c (i+1)∧w.grownBy w' (some b):=by
 have cn:=Sl b g c i hi s true ht w h;clear ht;go_enter func212,ntmps212
 go_wp2_with fail
 refine cn.mono ?_;rintro e _ ⟨rfl,hb⟩;have h1:=h.go hb;obtain ⟨_,_,_,_,_,_,_,_,_⟩:=id h1;go_wp2_with fail
 go_ret
 exact ⟨rfl,h1.step.1,(Qr hb _).trans h1.step.2⟩
theorem Df (b g c i:Nat) (hi:i<8) (s:ByteArray) (ht:isP i s=true) (w:World) (h:Vs w b g c i):
 Calls prog 210 #[.pointer (some ⟨b,0,none⟩),.string s] w λe w'=>e=.returned (.tuple #[])∧Vs w' b g c (i+1)∧w.grownBy w' (some b):=by
 have cn:=Zo9 b g c i hi s ht w h;clear ht;go_enter func210,ntmps210
 go_wp2_with fail
 refine cn.mono ?_;rintro e _ ⟨rfl,h1,h2⟩;go_wp2_with fail
 go_returns
 exact ⟨rfl,h1,h2⟩
theorem Qp8 (b g c i:Nat) (d:Int) (hd:d≤40) (w:World) (h:Vs w b g c i):
 Calls prog 140 #[.pointer (some ⟨b,0,none⟩),.int .i64 d,.bool true] w λe w'=>e=.returned (.tuple #[])∧w=w':=by
 go_enter func140,ntmps140
 go_wp2_with fail
 go_returns
 exact ⟨rfl,rfl⟩
theorem Dw (b g c i:Nat) (hi:i<7) (w:World) (h:Vs w b g c i):
 Calls prog 211 #[.pointer (some ⟨b,0,none⟩)] w λe w'=>e=.returned (Xs (Nk i).k (Nk i).s (Nk i).n (Nk i).l (Nk i).c)∧Vs w' b g c (i+1)∧w.grownBy w' (some b):=by
 obtain ⟨W,hW,hT,hB⟩:=Sv w 0 ⟨#[]⟩ 0 0 0;have hS:=h.go hB;have cn:=Xl b g c i (by omega) W hS;have:((Nk i).k==5)=false:=by
  rcases (show i=0∨i=1∨i=2∨i=3∨i=4∨i=5∨i=6 by omega) with rfl|rfl|rfl|rfl|rfl|rfl|rfl<;>decide
 generalize Nk i=tk at*;unfold Xs at cn |-
 go_enter func211,ntmps211
 go_wp2_with fail
 rw [<-hW];clear hW;refine cn.mono ?_;clear cn;rintro e w1 ⟨rfl,hb⟩;have hS1:=hS.go hb;have hT1:=hT.below hb;have hB1:=hB.trans (hb.mono hB.size);clear hS hT hB hb;have:=hT1.lt;have:=hS1.lt;obtain ⟨c0,c1,fr,_,_,_,_,_,_⟩:=id hS1;obtain ⟨j0,j1,j2,j3,j4,jf⟩:=id hT1;have:b<w.heap.size:=h.lt;have:g<w.heap.size:=h.ltg;have:i<8:=by omega
 have HS:=Hd hS1;have HT:=Hd hT1;have HB:=Hd hB1;clear hi h hS1 hT1 hB1;go_upto_region 2 with fail
 obtain ⟨W2,hW2,hT2,hB2⟩:=Sv w1 tk.k tk.s tk.n tk.l tk.c;have hS2:=HS.out.go hB2;have hT3:=HT.out.below hB2;have hB3:=(Ht HB hB2).out;have:=hT2.lt;rw [<-hW2];clear hW2 hB2 c0 c1 fr j0 j1 j2 j3 j4 jf;obtain ⟨c0,c1,fr,_,_,_,_,_,_⟩:=id hS2;obtain ⟨_,_,_,_,_,_⟩:=id hT2;obtain ⟨j0,j1,j2,j3,j4,jf⟩:=id hT3;have HS2:=Hd hS2;have HT3:=Hd hT3;have HB3:=Hd hB3;clear hS2 hT2 hT3 hB3;go_wp2_with fail
 obtain ⟨hS5,hg5⟩:=HS2.out.step;have hT5:=HT3.out.only hg5 (show w.heap.size≠b by omega);have hg6:=Sy (W2.setCell ⟨b,1,none⟩ (.int .i64 ((i:Int)+1))) w.heap.size tk.k tk.s tk.n tk.l tk.c;have hT6:=hT5.put tk.k tk.s tk.n tk.l tk.c;have hS6:=hS5.other hg6 (by omega) (by omega);have hG6:w.grownBy (Yv (W2.setCell ⟨b,1,none⟩ (.int .i64 ((i:Int)+1))) w.heap.size tk.k tk.s tk.n tk.l tk.c) (some b):=by
  have h0:=(Qr HB3.out (some b)).trans hg5;unfold Yv;exact Qv (p:=⟨_,4,none⟩) (Qv (p:=⟨_,3,none⟩) (Qv (p:=⟨_,2,none⟩) (Qv (p:=⟨_,1,none⟩) (Qv (p:=⟨_,0,none⟩) h0 (.inr (ZH _)) _) (.inr (ZH _)) _) (.inr (ZH _)) _) (.inr (ZH _)) _) (.inr (ZH _)) _
 obtain ⟨s0,s1,s2,s3,s4,_⟩:=id hT6;unfold Yv at s0 s1 s2 s3 s4;exact QL (v:=Xs tk.k tk.s tk.n tk.l tk.c) (by simp [results,results211,go_sem,s0,s1,s2,s3,s4,Xs]) rfl ⟨rfl,hS6,hG6⟩
theorem Zy5 (b g c i:Nat) (hi:i<7) (k:Int) (hk:(Nk i).k=k) (w:World) (h:Vs w b g c i):
 Calls prog 209 #[.pointer (some ⟨b,0,none⟩),.int .i64 k] w λe w'=>e=.returned (Xs (Nk i).k (Nk i).s (Nk i).n (Nk i).l (Nk i).c)∧Vs w' b g c (i+1)∧w.grownBy w' (some b):=by
 obtain ⟨W,hW,hT,hB⟩:=Sv w 0 ⟨#[]⟩ 0 0 0;have hS:=h.go hB;have cn:=Xl b g c i (by omega) W hS;have ct:=λW h=>Dw b g c i hi W h
 have CT:=Hd ct;have:b<w.heap.size:=h.lt;have:g<w.heap.size:=h.ltg;clear hi ct h;generalize Nk i=tk at*;have:(tk.k !=k)=false:=by simpa using hk
 unfold Xs at cn CT |-
 have HS:=Hd hS;have HT:=Hd hT;have HB:=Hd hB;clear hS hT hB hk;go_enter func209,ntmps209
 go_wp2_with fail
 rw [<-hW];clear hW;refine cn.mono ?_;clear cn;rintro e w1 ⟨rfl,hb⟩;have hS1:=HS.out.go hb;have hT1:=HT.out.below hb;have hB1:=(Ht HB hb).out;clear HS HT HB hb;have HS:=Hd hS1;have HT:=Hd hT1;have HB:=Hd hB1;have ct:=CT.out w1 hS1;have:=Gh tk.k tk.s tk.n tk.l tk.c;clear hS1 hT1 hB1;go_wp2_with fail
 refine ct.mono ?_;clear ct CT;rintro e w2 ⟨rfl,hS2,hG2⟩;have hT2:=HT.out.only hG2 (show w.heap.size≠b by omega);have hG3:=(Qr HB.out (some b)).trans hG2;obtain ⟨_,_,_,_,_,_⟩:=id hT2;go_wp2_with fail
 have hg6:=Sy w2 w.heap.size tk.k tk.s tk.n tk.l tk.c;have hT6:=hT2.put tk.k tk.s tk.n tk.l tk.c;have hS6:=hS2.other hg6 (by omega) (by omega);have hG6:w.grownBy (Yv w2 w.heap.size tk.k tk.s tk.n tk.l tk.c) (some b):=by
  unfold Yv;exact Qv (p:=⟨_,4,none⟩) (Qv (p:=⟨_,3,none⟩) (Qv (p:=⟨_,2,none⟩) (Qv (p:=⟨_,1,none⟩) (Qv (p:=⟨_,0,none⟩) hG3 (.inr (ZH _)) _) (.inr (ZH _)) _) (.inr (ZH _)) _) (.inr (ZH _)) _) (.inr (ZH _)) _
 obtain ⟨s0,s1,s2,s3,s4,_⟩:=id hT6;unfold Yv at s0 s1 s2 s3 s4;exact QL (v:=Xs tk.k tk.s tk.n tk.l tk.c) (by simp [results,results209,go_sem,s0,s1,s2,s3,s4,Xs]) rfl ⟨rfl,hS6,hG6⟩
end
theorem Gv (b g c:Nat) (w:World) (h:Vs w b g c 5):
 Calls prog 272 #[.pointer (some ⟨b,0,none⟩)] w λe w'=>e=.returned (.bool true)∧Below w.heap.size w w':=by
 have cn:=Xl b g c 5 (by omega) w h;have hf:=Gh (Nk 5).k (Nk 5).s (Nk 5).n (Nk 5).l (Nk 5).c;have hk:(Nk 5).k=2:=rfl;rw [hk] at cn hf;clear hk;unfold Xs at cn;generalize Nk 5=tk at*;go_enter func272,ntmps272
 go_wp2_with fail
 refine cn.mono ?_;clear cn;rintro e _ ⟨rfl,hb⟩;go_wp2_with fail
 go_ret
 exact ⟨rfl,hb⟩
theorem Fi (b g c:Nat) (w:World) (h:Vs w b g c 3):
 Calls prog 141 #[.pointer (some ⟨b,0,none⟩)] w λe w'=>e=.returned (.bool true)∧Below w.heap.size w w':=by
 have cn:=Xl b g c 3 (by omega) w h;have hf:=Gh (Nk 3).k (Nk 3).s (Nk 3).n (Nk 3).l (Nk 3).c;have hk:(Nk 3).k=1:=rfl;rw [hk] at cn hf;clear hk;unfold Xs at cn;generalize Nk 3=tk at*;go_enter func141,ntmps141
 go_wp2_with fail
 refine cn.mono ?_;clear cn;rintro e _ ⟨rfl,hb⟩;go_wp2_with fail
 go_ret
 exact ⟨rfl,hb⟩
def Zw:List Value:=[.int .i64 1,.int .i64 1,.string ⟨#[]⟩,.slice none 0 0]
def Iv:List Value:=[.int .i64 0,.int .i64 0,.string ⟨#[]⟩,.slice none 0 0]
def Nf:Value:=.agg #[.int .i64 1,.int .i64 1,.string ⟨#[]⟩,.slice none 0 0]
theorem Vs.turn {w0 w w':World} {b g c i:Nat} (hG:w0.grownBy w (some b)) (hg:w.grownBy w' (some b)):w0.grownBy w' (some b):=hG.trans hg
theorem Zk4 (b g c:Nat) (d:Int) (w:World) (h:Vs w b g c 5):
 Calls prog 322 #[.pointer (some ⟨b,0,none⟩),.int .i64 d] w λe w'=>e=.returned Nf∧Vs w' b g c 6∧w.grownBy w' (some b):=by
 obtain ⟨W,hW,hX,hB⟩:=Qh w Iv 234;have hS:=h.go hB;have:b<w.heap.size:=h.lt;have:g<w.heap.size:=h.ltg;have cF:=Hd (λW h=>Gv b g c W h);have cM:=Hd (λW h s hs=>Tl b g c 5 (by omega) s hs W h);have cT:=Hd (λW h=>Dw b g c 5 (by omega) W h);clear h;go_enter func322,ntmps322
 go_wp2_with fail
 unfold Iv at hW;rw [<-hW];clear hW;with_reducible refine (cF.out W hS).mono ?_
 rintro e w1 ⟨rfl,hb1⟩;have hS1:=hS.go hb1;have hX1:=hX.below hb1;have hB1:=hB.trans (hb1.mono hB.size);clear hS hX hB hb1;go_wp2_with fail
 with_reducible refine (cM.out w1 hS1 _ (by decide)).mono ?_
 rintro e w2 ⟨rfl,hb1⟩;have hS2:=hS1.go hb1;have hX2:=hX1.below hb1;have hB2:=hB1.trans (hb1.mono hB1.size);clear hS1 hX1 hB1 hb1;go_wp2_with fail
 with_reducible refine (cM.out w2 hS2 _ (by decide)).mono ?_
 rintro e w3 ⟨rfl,hb1⟩;have hS3:=hS2.go hb1;have hX3:=hX2.below hb1;have hB3:=hB2.trans (hb1.mono hB2.size);clear hS2 hX2 hB2 hb1;go_wp2_with fail
 with_reducible refine (cM.out w3 hS3 _ (by decide)).mono ?_
 rintro e w4 ⟨rfl,hb1⟩;have hS4:=hS3.go hb1;have hX4:=hX3.below hb1;have hB4:=hB3.trans (hb1.mono hB3.size);clear hS3 hX3 hB3 hb1;go_wp2_with fail
 have ct:=cT.out w4 hS4;rw [show Nk 5=⟨2,Fm,1,1,12⟩ from rfl] at ct;unfold Xs at ct;with_reducible refine ct.mono ?_
 clear ct;rintro e w5 ⟨rfl,hS5,hg5⟩;have hX5:=hX4.only hg5 (show w.heap.size≠b by omega);have hG5:=(Qr hB4 (some b)).trans hg5;clear hS4 hX4 hB4 hg5;go_upto_region 11 with fail
 obtain ⟨W6,hW6,hT6,hB6⟩:=Sv w5 2 Fm 1 1 12;have hS6:=hS5.go hB6;have hX6:=hX5.below hB6;have hG6:=Qa hG5 hB6;have:=hX5.lt;have:=hT6.lt;rw [<-hW6];clear hW6 hB6 hS5 hX5 hG5 cF cM cT;obtain ⟨_,_,_,_,_,_⟩:=id hT6;obtain ⟨_,_,_,_⟩:=hX6.c3;have:=hX6.fr;go_wp2_with fail
 have hX7:=hX6.put (vs':=Zw) rfl;have hg7:=Za W6 w.heap.size Zw 0;have hG7:=Xz (x:=w.heap.size) (.inr (ZH _)) Zw 0 W6 hG6;have hS7:=hS6.other hg7 (by omega) (by omega);obtain ⟨y0,y1,y2,y3⟩:=hX7.c3;simp only [Zw,Qm] at y0 y1 y2 y3;exact QL (v:=Nf) (by simp [results,results322,go_sem,y0,y1,y2,y3,Nf]) rfl ⟨rfl,hS7,hG7⟩
def Qx6 (w:World) (a n:Nat) (f:Nat->ByteArray):Prop:=a<w.heap.size∧∀k,k<n->w.cell? ⟨a,k,none⟩=some (.string (f k))
theorem Qx6.go {w w':World} {a n:Nat} {f:Nat->ByteArray} (h:Qx6 w a n f) (hb:Below w.heap.size w w'):Qx6 w' a n f:=⟨ZI h.1 hb.size,λk hk=>(hb.cell (p:=⟨a,k,none⟩) h.1).trans (h.2 k hk)⟩
theorem Qp5 (b g c a n ca:Nat) (f:Nat->ByteArray) (v2 v3:Value) (hn:n≤10) (hf:∀k,k<n->isP 6 (f k)=false) (w:World) (h:Vs w b g c 6) (ht:Qx6 w a n f):
 Calls prog 321 #[.pointer (some ⟨b,0,none⟩),.agg #[.slice (some ⟨a,0,none⟩) n ca,v2,v3]] w λe w'=>e=.returned (.int .i64 0)∧Below w.heap.size w w':=by
 obtain ⟨W,hW,hX,hB⟩:=Qh w [.slice (some ⟨a,0,none⟩) n ca,v2,v3] 354;have hS:=h.go hB;have hT:=ht.go hB;have cM:=Hd (λW h s hs=>Tl b g c 6 (by omega) s hs W h);have HF:=Hd hf;have x0:=hX.cell 0 _ rfl;have HS:=Hd hS;have HT:=Hd hT;have HX:=Hd hX;have HB:=Hd hB;clear h ht hS hT hf hX hB;go_enter func321,ntmps321
 go_upto_region 1 with fail
 rw [<-hW];clear hW;go_wp2_with fail
 clear x0;go_loopw [10] (λs wr=>∃k:Nat,s=.int .i64 k∧k≤n∧Vs wr b g c 6∧Qx6 wr a n f∧Below w.heap.size w wr) (λs _=>n - (intOf s).toNat)
 case atStart=>exact ⟨0,rfl,by omega,HS.out,HT.out,HB.out⟩
 case round=>
  obtain ⟨k,rfl,_,hS,hT,hB⟩:=hrel;clear HS HT HB HX;rcases ZJ k n with hkn|hkn
  .have q1:(k:Int)<(n:Int):=by omega
   have hc:=hT.2 k hkn;have hm:=cM.out wr hS (f k) (HF.out k hkn);generalize f k=s at*;go_wp2_with fail
   with_reducible refine hm.mono ?_
   clear hm hc;rintro e _ ⟨rfl,hb2⟩;have hS2:=hS.go hb2;have hT2:=hT.go hb2;have hB2:=hB.trans (hb2.mono hB.size);clear hS hT hB hb2;go_wp2_with fail
   go_roundw
   case rel=>exact ⟨k+1,by go_num,by omega,hS2,hT2,hB2⟩
   simp [intOf];omega
  obtain rfl:k=n:=by omega
  go_wp2_with fail
  go_ret
  exact ⟨rfl,hB⟩
theorem Iq (k:Nat) (hk:k=322∨k=274) (b g c a n ca:Nat) (f:Nat->ByteArray) (v2:Value) (d:Int) (hn:n≤10) (hf:∀k,k<n->isP 6 (f k)=false) (w:World) (h:Vs w b g c 5) (ht:Qx6 w a n f) (hab:a≠b)
 (hcall:∀W,Vs W b g c 5->Calls prog k #[.pointer (some ⟨b,0,none⟩),.int .i64 d] W λe w'=>e=.returned Nf∧Vs w' b g c 6∧W.grownBy w' (some b)):
 Calls prog 273 #[.pointer (some ⟨b,0,none⟩),.int .i64 d,.agg #[.slice (some ⟨a,0,none⟩) n ca,v2,.func (.func k) #[.pointer (some ⟨b,0,none⟩)] #[]]] w λe w'=>e=.returned Nf∧Vs w' b g c 6∧w.grownBy w' (some b):=by
 obtain ⟨W,hW,hX,hB⟩:=Qh w [.slice (some ⟨a,0,none⟩) n ca,v2,.func (.func k) #[.pointer (some ⟨b,0,none⟩)] #[]] 354;obtain ⟨W1,hW1,hX1,hB1⟩:=Qh W Iv 234;have:b<w.heap.size:=h.lt;have:g<w.heap.size:=h.ltg;have hS1:=(h.go hB).go hB1;have hT1:=(ht.go hB).go hB1;have hX2:=hX.below hB1;have hB2:=hB.trans (hB1.mono hB.size);have hWs:W.heap.size=w.heap.size+1:=by rw [hW];simp
 have cF:=hcall W1 hS1;clear hcall;have cW:=Hd (λW h ht=>Qp5 b g c a n ca f v2 (.func (.func k) #[.pointer (some ⟨b,0,none⟩)] #[]) hn hf W h ht);have x2:=hX2.cell 2 _ rfl;have HX1:=Hd hX1;have HX2:=Hd hX2;have HT1:=Hd hT1;have HB2:=Hd hB2;rw [hWs] at HX1;unfold Iv at hW1;rw [hW] at hW1;clear hW hWs hX hX1 hX2 hT1 hB hB1 hB2 hS1 h ht hf;rcases hk with rfl|rfl
 all_goals
  go_enter func273,ntmps273
  go_upto_region 1 with fail
  rw [<-hW1];clear hW1;go_wp2_with fail
  with_reducible refine cF.mono ?_
  clear cF;rintro e w2 ⟨rfl,hS2,hg2⟩;have hX3:=HX2.out.only hg2 (show w.heap.size≠b by omega);have hX4:=HX1.out.only hg2 (show w.heap.size+1≠b by omega);have hT3:Qx6 w2 a n f:=⟨ZI HT1.out.1 hg2.size,λk hk=>Qy hg2 (HT1.out.2 k hk) hab⟩;have hG2:=(Qr HB2.out (some b)).trans hg2;clear x2 HX1 HX2 HT1 HB2 hg2;unfold Nf;obtain ⟨W3,hW3,hX5,hB3⟩:=Qh w2 Zw 234;have hS3:=hS2.go hB3;have hT4:=hT3.go hB3;have hX6:=hX3.below hB3;have hX7:=hX4.below hB3;have hG3:=Qa hG2 hB3;have:=hX4.lt;have:=hX5.lt;unfold Zw at hW3;clear hS2 hT3 hX3 hX4 hG2 hB3;go_upto_region 2 with fail
  rw [<-hW3];clear hW3;obtain ⟨x0,x1,x2⟩:=hX6.c2;go_wp2_with fail
  with_reducible refine (cW.out W3 hS3 hT4).mono ?_
  rintro e w4 ⟨rfl,hb4⟩;have hS4:=hS3.go hb4;have hX8:=hX7.below hb4;have hX9:=hX5.below hb4;have hG4:=Qa hG3 hb4;clear hS3 hT4 hX6 hX7 hX5 hG3 hb4 x0 x1 x2 cW;go_wp2_with fail
  refine wp_loop_once ?_;obtain ⟨y0,y1,y2,y3⟩:=hX9.c3;obtain ⟨z0,z1,z2,z3⟩:=hX8.c3;have zf:=hX8.fr;go_wp2_with fail
  have hX10:=hX8.put (vs':=Zw) rfl;have hg7:=Za w4 (w.heap.size+1) Zw 0;have hG7:=Xz (x:=w.heap.size+1) (.inr (Nat.le_succ _)) Zw 0 w4 hG4;have hS7:=hS4.other hg7 (by omega) (by omega);clear y0 y1 y2 y3 z0 z1 z2 z3 zf;obtain ⟨y0,y1,y2,y3⟩:=hX10.c3;simp only [Zw,Qm] at y0 y1 y2 y3;exact QL (v:=Nf) (by simp [results,results273,go_sem,y0,y1,y2,y3,Nf]) rfl ⟨rfl,hS7,hG7⟩
theorem Qm2 (w:World) (vs:List ByteArray) (t:TypeId):Qx6 (w.alloc (.cells (vs.map Value.string).toArray t)) w.heap.size vs.length (λk=>vs.getD k ⟨#[]⟩):=by
 refine ⟨by simp,λk hk=>?_⟩;rw [QM];simp [hk]
theorem Zv7 (b g c:Nat) (d:Int) (w:World) (h:Vs w b g c 5):
 Calls prog 274 #[.pointer (some ⟨b,0,none⟩),.int .i64 d] w λe w'=>e=.returned Nf∧Vs w' b g c 6∧w.grownBy w' (some b):=by
 have:b<w.heap.size:=h.lt;have:g<w.heap.size:=h.ltg;obtain ⟨W1,hW1,hX1,hB1⟩:=Qh w Iv 234;obtain ⟨W2,hW2,hX2,hB2⟩:=Qh W1 ([⟨#[42]⟩,⟨#[47]⟩,⟨#[37]⟩].map Value.string) 9;obtain ⟨W3,hW3,hX3,hB3⟩:=Qh W2 [.int .i64 8,.int .i64 9,.int .i64 10] 3;have hT2:Qx6 W2 W1.heap.size 3 (λk=>[(⟨#[42]⟩:ByteArray),⟨#[47]⟩,⟨#[37]⟩].getD k ⟨#[]⟩):=by rw [hW2];exact Qm2 W1 [⟨#[42]⟩,⟨#[47]⟩,⟨#[37]⟩] 9
 have hT3:=hT2.go hB3;have hS3:=((h.go hB1).go hB2).go hB3;have hX4:=(hX1.below hB2).below hB3;have hG3:=Qr ((hB1.trans (hB2.mono hB1.size)).trans (hB3.mono (ZO hB1.size hB2.size))) (some b);have h1:W1.heap.size=w.heap.size+1:=by rw [hW1];simp
 have h2:W2.heap.size=w.heap.size+2:=by rw [hW2];simp [h1]
 have cC:=λhcall=>Iq 322 (.inl rfl) b g c W1.heap.size 3 3 _ (.slice (some ⟨W2.heap.size,0,none⟩) 3 3) d (by omega) (by decide) W3 hS3 hT3 (by omega) hcall
 have cC:=cC (λW h=>Zk4 b g c d W h);rw [h1,h2] at cC;rw [hW2,hW1] at hW3;unfold Iv at hW3;clear hX1 hX2 hX3 hB1 hB2 hB3 hT2 hT3 hS3 hW1 hW2 h1 h2 h;go_enter func274,ntmps274
 go_wp2_with fail
 simp only [List.map_cons,List.map_nil] at hW3;rw [<-hW3];clear hW3;with_reducible refine cC.mono ?_
 clear cC;rintro e w4 ⟨rfl,hS4,hg4⟩;have hX5:=hX4.only hg4 (by omega);have hG4:=hG3.trans hg4;unfold Nf;obtain ⟨z0,z1,z2,z3⟩:=hX5.c3;have zf:=hX5.fr;go_wp2_with fail
 have hX10:=hX5.put (vs':=Zw) rfl;have hg7:=Za w4 w.heap.size Zw 0;have hG7:=Xz (x:=w.heap.size) (.inr (ZH _)) Zw 0 w4 hG4;have hS7:=hS4.other hg7 (by omega) (by omega);clear z0 z1 z2 z3 zf;obtain ⟨y0,y1,y2,y3⟩:=hX10.c3;simp only [Zw,Qm] at y0 y1 y2 y3;exact QL (v:=Nf) (by simp [results,results274,go_sem,y0,y1,y2,y3,Nf]) rfl ⟨rfl,hS7,hG7⟩
theorem Zd1 (b g c:Nat) (d:Int) (w:World) (h:Vs w b g c 5):
 Calls prog 214 #[.pointer (some ⟨b,0,none⟩),.int .i64 d] w λe w'=>e=.returned Nf∧Vs w' b g c 6∧w.grownBy w' (some b):=by
 have:b<w.heap.size:=h.lt;have:g<w.heap.size:=h.ltg;obtain ⟨W1,hW1,hX1,hB1⟩:=Qh w Iv 234;obtain ⟨W2,hW2,hX2,hB2⟩:=Qh W1 ([⟨#[43]⟩,⟨#[45]⟩].map Value.string) 9;obtain ⟨W3,hW3,hX3,hB3⟩:=Qh W2 [.int .i64 6,.int .i64 7] 3;have hT2:Qx6 W2 W1.heap.size 2 (λk=>[(⟨#[43]⟩:ByteArray),⟨#[45]⟩].getD k ⟨#[]⟩):=by rw [hW2];exact Qm2 W1 [⟨#[43]⟩,⟨#[45]⟩] 9
 have hT3:=hT2.go hB3;have hS3:=((h.go hB1).go hB2).go hB3;have hX4:=(hX1.below hB2).below hB3;have hG3:=Qr ((hB1.trans (hB2.mono hB1.size)).trans (hB3.mono (ZO hB1.size hB2.size))) (some b);have h1:W1.heap.size=w.heap.size+1:=by rw [hW1];simp
 have h2:W2.heap.size=w.heap.size+2:=by rw [hW2];simp [h1]
 have cC:=λhcall=>Iq 274 (.inr rfl) b g c W1.heap.size 2 2 _ (.slice (some ⟨W2.heap.size,0,none⟩) 2 2) d (by omega) (by decide) W3 hS3 hT3 (by omega) hcall
 have cC:=cC (λW h=>Zv7 b g c d W h);rw [h1,h2] at cC;rw [hW2,hW1] at hW3;unfold Iv at hW3;clear hX1 hX2 hX3 hB1 hB2 hB3 hT2 hT3 hS3 hW1 hW2 h1 h2 h;go_enter func214,ntmps214
 go_wp2_with fail
 simp only [List.map_cons,List.map_nil] at hW3;rw [<-hW3];clear hW3;with_reducible refine cC.mono ?_
 clear cC;rintro e w4 ⟨rfl,hS4,hg4⟩;have hX5:=hX4.only hg4 (by omega);have hG4:=hG3.trans hg4;unfold Nf;obtain ⟨z0,z1,z2,z3⟩:=hX5.c3;have zf:=hX5.fr;go_wp2_with fail
 have hX10:=hX5.put (vs':=Zw) rfl;have hg7:=Za w4 w.heap.size Zw 0;have hG7:=Xz (x:=w.heap.size) (.inr (ZH _)) Zw 0 w4 hG4;have hS7:=hS4.other hg7 (by omega) (by omega);clear z0 z1 z2 z3 zf;obtain ⟨y0,y1,y2,y3⟩:=hX10.c3;simp only [Zw,Qm] at y0 y1 y2 y3;exact QL (v:=Nf) (by simp [results,results214,go_sem,y0,y1,y2,y3,Nf]) rfl ⟨rfl,hS7,hG7⟩
theorem elExpr:Ni prog 219 234 (.agg #[.int .i64 0,.int .i64 0,.string ⟨#[]⟩,.slice none 0 0]) 4 56:=⟨underlying219,by kernel_rfl,rfl,by decide,by decide⟩
theorem Xh {w:World} {B n c size:Nat} {e:TypeId} {A:Option Addr} {vs:List Value} (h:w.ownsRow B e size (.slice A n c) n vs) (hn:0<n):
 ∃g,A=some ⟨g,0,none⟩∧B≤g∧g<w.heap.size∧∀j u,vs[j]? =some u->w.cell? ⟨g,j,none⟩=some u:=by
 rcases h.2 with ⟨hv,h0⟩|⟨g,cap,cur,hv,hb,hh,hnc,hcm,hcs,hx⟩
 .injection hv with h1 h2 h3;omega
 injection hv with h1 h2 h3;subst h1 h3;refine ⟨g,rfl,hb,?_,λj u hu=>?_⟩
 .rcases ZJ g w.heap.size with hlt|hge
  .exact hlt
  rw [Array.getElem?_eq_none hge] at hh;cases hh
 have:=h.cells (g:=g) rfl j u hu
 rwa [show (⟨g,0,none⟩:Addr).add j=⟨g,j,none⟩ by unfold Addr.add;split<;>simp_all] at this
def Cl (w:World) (g:Nat) (vs:List Value):Prop:=g<w.heap.size∧∀j u,vs[j]? =some u->w.cell? ⟨g,j,none⟩=some u
theorem Cl.go {w w':World} {g:Nat} {vs:List Value} (h:Cl w g vs) (hb:Below w.heap.size w w'):Cl w' g vs:=⟨ZI h.1 hb.size,λj u hu=>(hb.cell (p:=⟨g,j,none⟩) h.1).trans (h.2 j u hu)⟩
theorem Cl.only {w w':World} {g b:Nat} {vs:List Value} (h:Cl w g vs) (hg:w.grownBy w' (some b)) (hne:g≠b):Cl w' g vs:=⟨ZI h.1 hg.size,λj u hu=>Qy hg (h.2 j u hu) hne⟩
theorem Jz2 (w:World) (t:TypeId):∀i u,Zw[i]? =some u->(w.alloc (.cells #[.int .i64 1,.int .i64 1,.string ⟨#[]⟩,.slice none 0 0] t)).cell? ((⟨w.heap.size,0,none⟩:Addr).add i)=some u:=by
 intro i u h;rw [show ((⟨w.heap.size,0,none⟩:Addr).add i)=⟨w.heap.size,i,none⟩ by unfold Addr.add;split<;>simp_all,QM];simpa [Zw] using h
theorem Jg3:∀u∈Zw,u.oneCell'=true:=by
 intro u hu;simp only [Zw,List.mem_cons,List.mem_nil_iff,or_false] at hu;rcases hu with rfl|rfl|rfl|rfl<;>rfl
theorem Vs.under {w w':World} {b g c i B:Nat} (h:Vs w b g c i) (hb:Below B w w') (h1:b<B) (h2:g<B):Vs w' b g c i:=by
 have e:=λk=>hb.cell (p:=⟨b,k,none⟩) h1
 have f:=λk=>hb.cell (p:=⟨g,k,none⟩) h2
 exact ⟨(e 0).trans h.c0,(e 1).trans h.c1,λk=>(hb.frozen (p:=⟨b,k,none⟩) h1).trans (h.fr k),λj hj=>(f _).trans (h.t0 j hj),λj hj=>(f _).trans (h.t1 j hj),λj hj=>(f _).trans (h.t2 j hj),λj hj=>(f _).trans (h.t3 j hj),λj hj=>(f _).trans (h.t4 j hj),h.ne⟩
def Jc6:List Value:=[.int .i64 0,.string ⟨#[]⟩,.slice none 0 0,.slice none 0 0,.slice none 0 0,.slice none 0 0]
def Vc5:List Value:=[.int .i64 1,.string sX,.slice none 0 0,.slice none 0 0,.slice none 0 0,.slice none 0 0]
def Ja (be ce:Nat):List Value:=[.int .i64 1,.string sX,.slice (some ⟨be,0,none⟩) 1 ce,.slice none 0 0,.slice none 0 0,.slice none 0 0]
def stV (be ce:Nat):Value:=.agg #[.int .i64 1,.string sX,.slice (some ⟨be,0,none⟩) 1 ce,.slice none 0 0,.slice none 0 0,.slice none 0 0]
def Zo6 (b g c:Nat) (w:World) (e:Ending) (w':World):Prop:=∃be ce,e=.returned (stV be ce)∧Cl w' be Zw∧w.heap.size≤be∧Vs w' b g c 7∧w.grownBy w' (some b)
theorem Zb2 (b g c:Nat) (d:Int) (w:World) (h:Vs w b g c 3):
 Calls prog 142 #[.pointer (some ⟨b,0,none⟩),.int .i64 d] w (Zo6 b g c w):=by
 have:b<w.heap.size:=h.lt;have:g<w.heap.size:=h.ltg;obtain ⟨W1,hW1,hX1,hB1⟩:=Qh w Jc6 222;obtain ⟨W2,hW2,hY2,hB2⟩:=Qh W1 Jc6 222;have h1:W1.heap.size=w.heap.size+1:=by rw [hW1];simp
 have hS2:=(h.go hB1).go hB2;have hX2:=hX1.below hB2;have hG2:=Qr (hB1.trans (hB2.mono hB1.size)) (some b);have cT:=Dw b g c 3 (by omega) W2 hS2;rw [show Nk 3=⟨1,sX,0,1,8⟩ from rfl] at cT;unfold Xs at cT;rw [h1] at hY2;rw [hW1] at hW2;unfold Jc6 at hW2;clear hX1 hB1 hB2 hW1 h1 hS2 h;go_enter func142,ntmps142
 go_wp2_with fail
 rw [<-hW2];clear hW2;with_reducible refine cT.mono ?_
 clear cT;rintro e w3 ⟨rfl,hS3,hg3⟩;have hX3:=hX2.only hg3 (by omega);have hY3:=hY2.only hg3 (by omega);have hG3:=hG2.trans hg3;obtain ⟨W4,hW4,hT4,hB4⟩:=Sv w3 1 sX 0 1 8;have hS4:=hS3.go hB4;have hX4:=hX3.below hB4;have hY4:=hY3.below hB4;have hG4:=Qa hG3 hB4;have:=hY3.lt;have:=hT4.lt;clear hS3 hg3 hX3 hY3 hG3 hB4 hX2 hY2 hG2;go_upto_region 2 with fail
 rw [<-hW4];clear hW4;obtain ⟨k0,k1,k2,k3,k4,kf⟩:=id hT4;obtain ⟨y0,y1⟩:=hY4.c1;have yf:=hY4.fr;go_wp2_with fail
 go_region
 clear y0 y1 yf k0 k1 k2 k3 k4 kf;have hY5:Bx (((W4.setCell ⟨w.heap.size+1,0,none⟩ (.int .i64 1)).setCell ⟨w.heap.size+1,1,none⟩ (.string sX)).drew) (w.heap.size+1) Vc5:=((hY4.set (i:=0) (by decide) (.int .i64 1)).set (i:=1) (by decide) (.string sX)).drew;have hg5:W4.grownBy (((W4.setCell ⟨w.heap.size+1,0,none⟩ (.int .i64 1)).setCell ⟨w.heap.size+1,1,none⟩ (.string sX)).drew) (some (w.heap.size+1)):=Yk (Qv (p:=⟨w.heap.size+1,1,none⟩) (Qv (p:=⟨w.heap.size+1,0,none⟩) (QN _ _) (.inl rfl) _) (.inl rfl) _);have hX5:=hX4.only hg5 (by omega);have hS5:=hS4.other hg5 (by omega) (by omega);have hG5:w.grownBy (((W4.setCell ⟨w.heap.size+1,0,none⟩ (.int .i64 1)).setCell ⟨w.heap.size+1,1,none⟩ (.string sX)).drew) (some b):=Yk (Qv (p:=⟨w.heap.size+1,1,none⟩) (Qv (p:=⟨w.heap.size+1,0,none⟩) hG4 (.inr (Nat.le_succ _)) _) (.inr (Nat.le_succ _)) _);generalize ((W4.setCell ⟨w.heap.size+1,0,none⟩ (.int .i64 1)).setCell ⟨w.heap.size+1,1,none⟩ (.string sX)).drew=W5 at*;clear hT4 hS4 hX4 hY4 hG4 hg5;have cM:=Tl b g c 4 (by omega) ⟨#[91]⟩ (by decide) W5 hS5;go_wp2_with fail
 with_reducible refine cM.mono ?_
 clear cM;rintro e w6 ⟨rfl,hb6⟩;have hS6:=hS5.go hb6;have hX6:=hX5.below hb6;have hY6:=hY5.below hb6;have hG6:=Qa hG5 hb6;clear hS5 hX5 hY5 hG5 hb6;have cM:=Df b g c 4 (by omega) ⟨#[61]⟩ (by decide) w6 hS6;go_wp2_with fail
 with_reducible refine cM.mono ?_
 clear cM;rintro e w7 ⟨rfl,hS7,hg7⟩;have hX7:=hX6.only hg7 (by omega);have hY7:=hY6.only hg7 (by omega);have hG7:=hG6.trans hg7;clear hS6 hX6 hY6 hG6 hg7;have cE:=Zd1 b g c d w7.drew (hS7.go (QK _ w7).drew);have y2:=hY7.cell 2 _ rfl;have HX:=Hd hX7;have HY:=Hd hY7.drew;have HG:=Hd (Yk hG7);clear hX7 hY7 hG7 hS7;go_wp2_with fail
 unfold Nf at cE;go_region_law (first
  |(go_simp;go_at_call 214;(with_reducible refine cE.mono ?_);rintro e w8 ⟨rfl,hS8,hg8⟩;have hY8:=HY.out.only hg8 (show w.heap.size+1≠b by omega);have y3:=hY8.cell 2 _ rfl;have hl8:=hY8.lt)
  |(refine Ye elExpr (w8.alloc (.cells #[.int .i64 1,.int .i64 1,.string ⟨#[]⟩,.slice none 0 0] 234)) rfl (.tmp 32) (.tmp 36) rfl (w8.heap.size+1) none 0 0 [] rfl (QV _ _ _ _) Zw w8.heap.size rfl rfl (Jz2 w8 _) Jg3 (by omega) (by simp) ?_;intro A' c' w9 hr9 hb9 hg9;have hY9:=(hY8.below ((QK _ w8).alloc (ZH _) (.cells #[.int .i64 1,.int .i64 1,.string ⟨#[]⟩,.slice none 0 0] 234))).under hb9 (by have:=hY8.lt;omega);have y4:=hY9.cell 2 _ rfl;have y5:=hY9.fr 2))
 all_goals
  obtain ⟨ge,rfl,_,hle,hcl⟩:=Xh hr9 (by omega);have hal:=(QK w8.heap.size w8).alloc (ZH _) (.cells #[.int .i64 1,.int .i64 1,.string ⟨#[]⟩,.slice none 0 0] 234);have hb9':Below w8.heap.size w8 w9:=hal.trans (hb9.mono (Nat.le_succ _));have hg10:=Qv (p:=⟨w.heap.size+1,2,none⟩) (QN w9 (some (w.heap.size+1))) (.inl rfl) (.slice (some ⟨ge,0,none⟩) 1 c');have hX9:=(HX.out.drew.only hg8 (show w.heap.size≠b by omega)).below hb9';have hX10:=hX9.only hg10 (show w.heap.size≠w.heap.size+1 by omega);have hY10:Bx (w9.setCell ⟨w.heap.size+1,2,none⟩ (.slice (some ⟨ge,0,none⟩) 1 c')) (w.heap.size+1) (Ja ge c'):=hY9.set (i:=2) (by decide) (.slice (some ⟨ge,0,none⟩) 1 c');have hS10:=(hS8.go hb9').other hg10 (show b≠w.heap.size+1 by omega) (show g≠w.heap.size+1 by omega);have hG10:=Qv (p:=⟨w.heap.size+1,2,none⟩) (Qa (HG.out.trans hg8) hb9') (.inr (Nat.le_succ _)) (.slice (some ⟨ge,0,none⟩) 1 c');have hC10:Cl (w9.setCell ⟨w.heap.size+1,2,none⟩ (.slice (some ⟨ge,0,none⟩) 1 c')) ge Zw:=Cl.only ⟨hle,λj u hu=>hcl j u (by simpa using hu)⟩ hg10 (by omega);have:w.heap.size+2≤ge:=by have:=hY8.lt;omega
  clear hr9 hb9 hg9 hY9 y4 y5 hY8 y3 hl8 hS8 hg8 hcl hal hb9' hg10 hX9 y2 HX HY HG cE hle;generalize w9.setCell ⟨w.heap.size+1,2,none⟩ (.slice (some ⟨ge,0,none⟩) 1 c')=W10 at*;have cM:=Df b g c 6 (by omega) ⟨#[59]⟩ (by decide) W10 hS10;go_wp2_with fail
  with_reducible refine cM.mono ?_
  clear cM;rintro e w11 ⟨rfl,hS11,hg11⟩;have hX11:=hX10.only hg11 (show w.heap.size≠b by omega);have hY11:=hY10.only hg11 (show w.heap.size+1≠b by omega);have hC11:=hC10.only hg11 (show ge≠b by omega);have hG11:=hG10.trans hg11;clear hS10 hX10 hY10 hC10 hG10 hg11;obtain ⟨y0,y1,y2,y3,y4,y5⟩:=hY11.c5;obtain ⟨x0,x1,x2,x3,x4,x5⟩:=hX11.c5;have xf:=hX11.fr;go_wp2_with fail
  have hX12:=hX11.put (vs':=Ja ge c') rfl;have hg12:=Za w11 w.heap.size (Ja ge c') 0;have hG12:=Xz (x:=w.heap.size) (.inr (ZH _)) (Ja ge c') 0 w11 hG11;have hS12:=hS11.other hg12 (by omega) (by omega);have hC12:=hC11.only hg12 (show ge≠w.heap.size by omega);clear x0 x1 x2 x3 x4 x5 xf y0 y1 y2 y3 y4 y5;obtain ⟨y0,y1,y2,y3,y4,y5⟩:=hX12.c5;simp only [Ja,Qm] at y0 y1 y2 y3 y4 y5;exact QL (v:=stV ge c') (by simp [results,results142,go_sem,y0,y1,y2,y3,y4,y5,stV]) rfl ⟨ge,c',rfl,hC12,by omega,hS12,hG12⟩
theorem elDecl:Ni prog 23 51 (.agg #[.string ⟨#[]⟩,.int .i64 0]) 2 24:=⟨underlying23,by kernel_rfl,rfl,by decide,by decide⟩
theorem elStmt:Ni prog 84 222 (.agg #[.int .i64 0,.string ⟨#[]⟩,.slice none 0 0,.slice none 0 0,.slice none 0 0,.slice none 0 0]) 6 120:=⟨underlying84,by kernel_rfl,rfl,by decide,by decide⟩
def Va1:List Value:=[.string ⟨#[]⟩,.int .i64 0]
def Zm:List Value:=[.string sX,.int .i64 0]
def dcV:Value:=.agg #[.string sX,.int .i64 0]
theorem Zv8 (b g c:Nat) (w:World) (h:Vs w b g c 0):
 Calls prog 139 #[.pointer (some ⟨b,0,none⟩)] w λe w'=>e=.returned dcV∧Vs w' b g c 3∧w.grownBy w' (some b):=by
 have:b<w.heap.size:=h.lt;have:g<w.heap.size:=h.ltg;obtain ⟨W1,hW1,hX1,hB1⟩:=Qh w Va1 51;have hS1:=h.go hB1;have cI:=Sl b g c 0 (by omega) ⟨#[97,114,114,97,121]⟩ false (by decide) W1 hS1;unfold Va1 at hW1;clear h;go_enter func139,ntmps139
 go_wp2_with fail
 rw [<-hW1];clear hW1;with_reducible refine cI.mono ?_
 clear cI;rintro e _ ⟨rfl,hb2⟩;have hS2:=hS1.go hb2;have hX2:=hX1.below hb2;have hB2:=hB1.trans (hb2.mono hB1.size);clear hS1 hX1 hB1 hb2;obtain ⟨c0,c1,fr,_,_,_,_,_,_⟩:=id hS2;obtain ⟨hS3,hg3⟩:=hS2.step;have hX3:=hX2.only hg3 (by omega);have hG3:=(Qr hB2 (some b)).trans hg3;have e1:((0:Nat):Int)+1=1:=rfl;rw [e1] at hS3 hX3 hG3 hg3;have cK:=Zy5 b g c 1 (by omega) 1 rfl _ hS3;rw [show Nk 1=⟨1,sX,0,1,5⟩ from rfl] at cK;unfold Xs at cK;have:=Vh2 1 sX 0 1 5;clear hS2 hX2 hB2 e1;go_wp2_with fail
 with_reducible refine cK.mono ?_
 clear cK;rintro e w4 ⟨rfl,hS4,hg4⟩;have hX4:=hX3.only hg4 (by omega);have hG4:=hG3.trans hg4;clear hS3 hX3 hG3 hg3 hg4 c0 c1 fr;obtain ⟨W5,hW5,hY5,hB5⟩:=Qh w4 Zm 51;have hS5:=hS4.go hB5;have hX5:=hX4.below hB5;have hG5:=Qa hG4 hB5;have:=hX4.lt;have cM:=Df b g c 2 (by omega) ⟨#[59]⟩ (by decide) W5 hS5;unfold Zm at hW5;clear hS4 hX4 hG4 hB5;go_wp2_with fail
 rw [<-hW5];clear hW5;with_reducible refine cM.mono ?_
 clear cM;rintro e w6 ⟨rfl,hS6,hg6⟩;have:=hY5.lt;have hX6:=hX5.only hg6 (by omega);have hY6:=hY5.only hg6 (by omega);have hG6:=hG5.trans hg6;obtain ⟨y0,y1⟩:=hY6.c1;obtain ⟨x0,x1⟩:=hX6.c1;have xf:=hX6.fr;clear hS5 hX5 hY5 hG5 hg6;go_wp2_with fail
 have hX12:=hX6.put (vs':=Zm) rfl;have hg12:=Za w6 w.heap.size Zm 0;have hG12:=Xz (x:=w.heap.size) (.inr (ZH _)) Zm 0 w6 hG6;have hS12:=hS6.other hg12 (by omega) (by omega);clear y0 y1 x0 x1 xf;obtain ⟨y0,y1⟩:=hX12.c1;simp only [Zm,Qm] at y0 y1;exact QL (v:=dcV) (by simp [results,results139,go_sem,y0,y1,dcV]) rfl ⟨rfl,hS12,hG12⟩
theorem Zo3 (w:World) (t:TypeId):∀i u,Zm[i]? =some u->(w.alloc (.cells #[.string sX,.int .i64 0] t)).cell? ((⟨w.heap.size,0,none⟩:Addr).add i)=some u:=by
 intro i u h;rw [show ((⟨w.heap.size,0,none⟩:Addr).add i)=⟨w.heap.size,i,none⟩ by unfold Addr.add;split<;>simp_all,QM];simpa [Zm] using h
theorem Jp1:∀u∈Zm,u.oneCell'=true:=by
 intro u hu;simp only [Zm,List.mem_cons,List.mem_nil_iff,or_false] at hu;rcases hu with rfl|rfl<;>rfl
theorem Jw5 (w:World) (be ce:Nat) (t:TypeId):∀i u,(Ja be ce)[i]? =some u->(w.alloc (.cells #[.int .i64 1,.string sX,.slice (some ⟨be,0,none⟩) 1 ce,.slice none 0 0,.slice none 0 0,.slice none 0 0] t)).cell? ((⟨w.heap.size,0,none⟩:Addr).add i)=some u:=by
 intro i u h;rw [show ((⟨w.heap.size,0,none⟩:Addr).add i)=⟨w.heap.size,i,none⟩ by unfold Addr.add;split<;>simp_all,QM];simpa [Ja] using h
theorem Ji9 (be ce:Nat):∀u∈Ja be ce,u.oneCell'=true:=by
 intro u hu;simp only [Ja,List.mem_cons,List.mem_nil_iff,or_false] at hu;rcases hu with rfl|rfl|rfl|rfl|rfl|rfl<;>rfl
structure Va (w:World) (gd gb ge ce:Nat):Prop where
 decls:Cl w gd Zm
 body:Cl w gb (Ja ge ce)
 expr:Cl w ge Zw
theorem Va.go {w w':World} {gd gb ge ce:Nat} (h:Va w gd gb ge ce) (hb:Below w.heap.size w w'):Va w' gd gb ge ce:=⟨h.decls.go hb,h.body.go hb,h.expr.go hb⟩
def Qz8:List Value:=[.slice none 0 0,.slice none 0 0]
def Qs (gd cd gb cb:Nat):List Value:=[.slice (some ⟨gd,0,none⟩) 1 cd,.slice (some ⟨gb,0,none⟩) 1 cb]
def Wl (gd cd gb cb:Nat):Value:=.agg #[.slice (some ⟨gd,0,none⟩) 1 cd,.slice (some ⟨gb,0,none⟩) 1 cb]
def Zt1 (b g c:Nat) (w:World) (e:Ending) (w':World):Prop:=∃gd cd gb cb ge ce,e=.returned (Wl gd cd gb cb)∧Va w' gd gb ge ce∧w.heap.size≤gd∧w.heap.size≤gb∧w.heap.size≤ge∧Vs w' b g c 7∧w.grownBy w' (some b)
theorem Zk5 (b g c:Nat) (w:World) (h:Vs w b g c 0):
 Calls prog 81 #[.pointer (some ⟨b,0,none⟩)] w (Zt1 b g c w):=by
 have hbw:b<w.heap.size:=h.lt;have hgw:g<w.heap.size:=h.ltg;obtain ⟨W1,hW1,hX1,hB1⟩:=Qh w Qz8 86;obtain ⟨W2,hW2,hY2,hB2⟩:=Qh W1 Qz8 86;have h1:W1.heap.size=w.heap.size+1:=by rw [hW1];simp
 have hS2:=(h.go hB1).go hB2;have hX2:=hX1.below hB2;have hG2:=Qr (hB1.trans (hB2.mono hB1.size)) (some b);have cI:=Sl b g c 0 (by omega) ⟨#[118,97,114]⟩ true (by decide) W2 hS2;rw [h1] at hY2;rw [hW1] at hW2;unfold Qz8 at hW2;clear hX1 hB1 hB2 hW1 h1 h;go_enter func81,ntmps81
 go_wp2_with fail
 rw [<-hW2];clear hW2;refine wp_loop_rounds 2 ?_;rw [QX];go_wp2_with fail
 with_reducible refine cI.mono ?_
 clear cI;rintro e w3 ⟨rfl,hb3⟩;have hS3:=hS2.go hb3;have hX3:=hX2.below hb3;have hY3:=hY2.below hb3;have hG3:=Qa hG2 hb3;clear hS2 hX2 hY2 hG2 hb3;have cE:=Zv8 b g c w3.drew (hS3.go (QK _ w3).drew);have y2:=hY3.cell 0 _ rfl;have HX:=Hd hX3.drew;have HY:=Hd hY3.drew;have HG:=Hd (Yk hG3);clear hX3 hY3 hG3 hS3;unfold dcV at cE;go_wp2_with fail
 go_region_law (first
  |(go_simp;go_at_call 139;(with_reducible refine cE.mono ?_);rintro e w8 ⟨rfl,hS8,hg8⟩;have hY8:=HY.out.only hg8 (show w.heap.size+1≠b by omega);have y3:=hY8.cell 0 _ rfl;have hl8:=hY8.lt)
  |(refine Ye elDecl (w8.alloc (.cells #[.string sX,.int .i64 0] 51)) rfl (.tmp 11) (.tmp 14) rfl (w8.heap.size+1) none 0 0 [] rfl (QV _ _ _ _) Zm w8.heap.size rfl rfl (Zo3 w8 _) Jp1 (by omega) (by simp) ?_;intro A' c' w9 hr9 hb9 hg9;have hY9:=(hY8.below ((QK _ w8).alloc (ZH _) (.cells #[.string sX,.int .i64 0] 51))).under hb9 (by have:=hY8.lt;omega);have y4:=hY9.cell 0 _ rfl;have y5:=hY9.fr 0))
 all_goals
  obtain ⟨ge,rfl,_,hle,hcl⟩:=Xh hr9 (by omega);have hal:=(QK w8.heap.size w8).alloc (ZH _) (.cells #[.string sX,.int .i64 0] 51);have hb9':Below w8.heap.size w8 w9:=hal.trans (hb9.mono (Nat.le_succ _));have hg10:=Qv (p:=⟨w.heap.size+1,0,none⟩) (QN w9 (some (w.heap.size+1))) (.inl rfl) (.slice (some ⟨ge,0,none⟩) 1 c');have hX9:=(HX.out.only hg8 (show w.heap.size≠b by omega)).below hb9';have hX10:=hX9.only hg10 (show w.heap.size≠w.heap.size+1 by omega);have hY10:Bx (w9.setCell ⟨w.heap.size+1,0,none⟩ (.slice (some ⟨ge,0,none⟩) 1 c')) (w.heap.size+1) [.slice (some ⟨ge,0,none⟩) 1 c',.slice none 0 0]:=hY9.set (i:=0) (by decide) (.slice (some ⟨ge,0,none⟩) 1 c');have hS10:=(hS8.go hb9').other hg10 (show b≠w.heap.size+1 by omega) (show g≠w.heap.size+1 by omega);have hG10:=Qv (p:=⟨w.heap.size+1,0,none⟩) (Qa (HG.out.trans hg8) hb9') (.inr (Nat.le_succ _)) (.slice (some ⟨ge,0,none⟩) 1 c');have hC10:Cl (w9.setCell ⟨w.heap.size+1,0,none⟩ (.slice (some ⟨ge,0,none⟩) 1 c')) ge Zm:=Cl.only ⟨hle,λj u hu=>hcl j u (by simpa using hu)⟩ hg10 (by omega);have hge2:w.heap.size+2≤ge:=by have:=hY8.lt;omega
  clear hr9 hb9 hg9 hY9 y4 y5 hY8 y3 hl8 hS8 hg8 hcl hal hb9' hg10 hX9 y2 HX HY HG cE hle;generalize w9.setCell ⟨w.heap.size+1,0,none⟩ (.slice (some ⟨ge,0,none⟩) 1 c')=W10 at*;have cI:=Sl b g c 3 (by omega) ⟨#[118,97,114]⟩ false (by decide) W10 hS10;go_wp2_with fail
  rw [QX];go_wp2_with fail
  with_reducible refine cI.mono ?_
  clear cI;rintro e w11 ⟨rfl,hb11⟩;have hS11:=hS10.go hb11;have hX11:=hX10.below hb11;have hY11:=hY10.below hb11;have hC11:=hC10.go hb11;have hG11:=Qa hG10 hb11;clear hS10 hX10 hY10 hC10 hG10 hb11;have cI:=Sl b g c 3 (by omega) ⟨#[97,114,114,97,121]⟩ false (by decide) w11 hS11;go_wp2_with fail
  with_reducible refine cI.mono ?_
  clear cI;rintro e w12 ⟨rfl,hb12⟩;have hS12:=hS11.go hb12;have hX12:=hX11.below hb12;have hY12:=hY11.below hb12;have hC12:=hC11.go hb12;have hG12:=Qa hG11 hb12;clear hS11 hX11 hY11 hC11 hG11 hb12;go_wp2_with fail
  generalize ge=gd at*;generalize c'=cd at*;refine wp_loop_rounds 2 ?_;rw [QX];have cN:=Xl b g c 3 (by omega) w12 hS12;rw [show Nk 3=⟨1,sX,0,1,8⟩ from rfl] at cN;unfold Xs at cN;have hf:=Gh 1 sX 0 1 8;go_wp2_with fail
  with_reducible refine cN.mono ?_
  clear cN;rintro e w13 ⟨rfl,hb13⟩;have hS13:=hS12.go hb13;have hX13:=hX12.below hb13;have hY13:=hY12.below hb13;have hC13:=hC12.go hb13;have hG13:=Qa hG12 hb13;clear hS12 hX12 hY12 hC12 hG12 hb13;have cB:=Fi b g c w13 hS13;go_wp2_with fail
  with_reducible refine cB.mono ?_
  clear cB;rintro e w14 ⟨rfl,hb14⟩;have hS14:=hS13.go hb14;have hX14:=hX13.below hb14;have hY14:=hY13.below hb14;have hC14:=hC13.go hb14;have hG14:=Qa hG13 hb14;clear hS13 hX13 hY13 hC13 hG13 hb14;have cH:=Qp8 b g c 3 1 (by omega) w14 hS14;go_wp2_with fail
  with_reducible refine cH.mono ?_
  clear cH;rintro e _ ⟨rfl,rfl⟩;have cE:=Zb2 b g c 1 w14.drew (hS14.go (QK _ w14).drew);have y2:=hY14.cell 1 _ rfl;have HX:=Hd hX14.drew;have HY:=Hd hY14.drew;have HG:=Hd (Yk hG14);have HC:=Hd (hC14.go (QK _ w14).drew);clear hX14 hY14 hG14 hS14 hC14;go_wp2_with fail
  go_region_law (first
   |(go_simp;go_at_call 142;(with_reducible refine cE.mono ?_);rintro e w16 ⟨ge,ce,rfl,hE8,hge8,hS8,hg8⟩;have hY8:=HY.out.only hg8 (show w.heap.size+1≠b by omega);have y3:=hY8.cell 1 _ rfl;have hl8:=hY8.lt;unfold stV)
   |(refine Ye elStmt (w16.alloc (.cells #[.int .i64 1,.string sX,.slice (some ⟨ge,0,none⟩) 1 ce,.slice none 0 0,.slice none 0 0,.slice none 0 0] 222)) rfl (.tmp 26) (.tmp 29) rfl (w16.heap.size+1) none 0 0 [] rfl (QV _ _ _ _) (Ja ge ce) w16.heap.size rfl rfl (Jw5 w16 ge ce _) (Ji9 ge ce) (by omega) (by simp) ?_;intro A' c' w9 hr9 hb9 hg9;have hY9:=(hY8.below ((QK _ w16).alloc (ZH _) (.cells #[.int .i64 1,.string sX,.slice (some ⟨ge,0,none⟩) 1 ce,.slice none 0 0,.slice none 0 0,.slice none 0 0] 222))).under hb9 (by have:=hY8.lt;omega);have y4:=hY9.cell 1 _ rfl;have y5:=hY9.fr 1))
  all_goals
   obtain ⟨gb,rfl,_,hlb,hcl⟩:=Xh hr9 (by omega);have hal:=(QK w16.heap.size w16).alloc (ZH _) (.cells #[.int .i64 1,.string sX,.slice (some ⟨ge,0,none⟩) 1 ce,.slice none 0 0,.slice none 0 0,.slice none 0 0] 222);have hb9':Below w16.heap.size w16 w9:=hal.trans (hb9.mono (Nat.le_succ _));have hg10:=Qv (p:=⟨w.heap.size+1,1,none⟩) (QN w9 (some (w.heap.size+1))) (.inl rfl) (.slice (some ⟨gb,0,none⟩) 1 c');have hX10:=((HX.out.only hg8 (show w.heap.size≠b by omega)).below hb9').only hg10 (show w.heap.size≠w.heap.size+1 by omega);have hY10:Bx (w9.setCell ⟨w.heap.size+1,1,none⟩ (.slice (some ⟨gb,0,none⟩) 1 c')) (w.heap.size+1) (Qs gd cd gb c'):=hY9.set (i:=1) (by simp) (.slice (some ⟨gb,0,none⟩) 1 c');have hS10:=(hS8.go hb9').other hg10 (show b≠w.heap.size+1 by omega) (show g≠w.heap.size+1 by omega);have hG10:=Qv (p:=⟨w.heap.size+1,1,none⟩) (Qa (HG.out.trans hg8) hb9') (.inr (Nat.le_succ _)) (.slice (some ⟨gb,0,none⟩) 1 c');have hD10:=((HC.out.only hg8 (show gd≠b by omega)).go hb9').only hg10 (show gd≠w.heap.size+1 by omega);have hge3:w.heap.size+2≤ge:=by have:=(HY.out).lt;simp at this;have h2:=hge8;simp at h2;omega
   have hE10:=(hE8.go hb9').only hg10 (show ge≠w.heap.size+1 by omega);have hB10:Cl (w9.setCell ⟨w.heap.size+1,1,none⟩ (.slice (some ⟨gb,0,none⟩) 1 c')) gb (Ja ge ce):=Cl.only ⟨hlb,λj u hu=>hcl j u (by simpa using hu)⟩ hg10 (by have:=hY8.lt;omega);have hgb2:w.heap.size+2≤gb:=by have:=hY8.lt;omega
   clear hr9 hb9 hg9 hY9 y4 y5 hY8 y3 hl8 hS8 hg8 hcl hal hb9' hg10 y2 HX HY HG HC cE hlb hE8 hge8;generalize w9.setCell ⟨w.heap.size+1,1,none⟩ (.slice (some ⟨gb,0,none⟩) 1 c')=W17 at*;have cN:=Xl b g c 7 (by omega) W17 hS10;rw [show Nk 7=⟨5,⟨#[]⟩,0,1,14⟩ from rfl] at cN;unfold Xs at cN;have hf:=Gh 5 ⟨#[]⟩ 0 1 14;go_wp2_with fail
   rw [QX];go_wp2_with fail
   with_reducible refine cN.mono ?_
   clear cN;rintro e w18 ⟨rfl,hb18⟩;have hS18:=hS10.go hb18;have hX18:=hX10.below hb18;have hY18:=hY10.below hb18;have hD18:=hD10.go hb18;have hE18:=hE10.go hb18;have hB18:=hB10.go hb18;have hG18:=Qa hG10 hb18;clear hS10 hX10 hY10 hD10 hE10 hB10 hG10 hb18;obtain ⟨y0,y1⟩:=hY18.c1;obtain ⟨x0,x1⟩:=hX18.c1;have xf:=hX18.fr;go_wp2_with fail
   have hX19:=hX18.put (vs':=Qs gd cd gb c') rfl;have hg19:=Za w18 w.heap.size (Qs gd cd gb c') 0;have hG19:=Xz (x:=w.heap.size) (.inr (ZH _)) (Qs gd cd gb c') 0 w18 hG18;have hS19:=hS18.other hg19 (by omega) (by omega);have hI19:Va (Qm w18 w.heap.size 0 (Qs gd cd gb c')) gd gb ge ce:=⟨hD18.only hg19 (by omega),hB18.only hg19 (by omega),hE18.only hg19 (by omega)⟩;clear x0 x1 xf y0 y1;obtain ⟨y0,y1⟩:=hX19.c1;simp only [Qs,Qm] at y0 y1;exact QL (v:=Wl gd cd gb c') (by simp [results,results81,go_sem,y0,y1,Wl]) rfl ⟨gd,cd,gb,c',ge,ce,rfl,hI19,by omega,by omega,by omega,hS19,hG19⟩
theorem Qr2 (j:Nat) (h:j<8):(tv Cf)[j*5]? =some (.int .i64 (Nk j).k)∧(tv Cf)[j*5+1]? =some (.string (Nk j).s)∧(tv Cf)[j*5+2]? =some (.int .i64 (Nk j).n)∧(tv Cf)[j*5+3]? =some (.int .i64 (Nk j).l)∧(tv Cf)[j*5+4]? =some (.int .i64 (Nk j).c):=by
 rcases (show j=0∨j=1∨j=2∨j=3∨j=4∨j=5∨j=6∨j=7 by omega) with rfl|rfl|rfl|rfl|rfl|rfl|rfl|rfl<;>exact ⟨rfl,rfl,rfl,rfl,rfl⟩
theorem Zx9 (bP bA bE:Nat) (w:World):
 CallsD prog 135 #[.pointer (some ⟨bP,0,none⟩),.pointer (some ⟨bA,0,none⟩),.pointer (some ⟨bE,0,none⟩)] .returning w λe u' w'=>e=.returned (.tuple #[])∧u'=.returning∧w'=w:=by
 refine callsD_of_wpS func135 rfl λc₀ cs hu=>?_
 apply wpS_seq
 apply wpS_region
 simp [wpOpsS,go_sem,recoverD,hu,ntmps135,Exit.thenS]
 refine wpS_of_wp ?_;simp only [Array.replicate_succ,Array.replicate_zero,List.push_toArray,List.append_toArray,List.nil_append,List.cons_append,List.setIfInBounds_toArray,List.set_cons_zero,List.set_cons_succ];cases c₀
 go_wp2_with fail
 simp_all [bodyPostS,results,results135]
def Zi2 (w:World) (e:Ending) (w':World):Prop:=∃gd cd gb cb ge ce,e=.returned (.tuple #[Wl gd cd gb cb,.agg #[.int .i64 0,.int .i64 0],.int .i64 0])∧Va w' gd gb ge ce∧w.heap.size≤gd∧w.heap.size≤gb∧w.heap.size≤ge∧Below w.heap.size w w'
def Za8:Prop:=∀(gd cd gb cb ge ce:Nat) (w:World),Va w gd gb ge ce->Calls prog 82 #[Wl gd cd gb cb] w λe w'=>e=.returned (.int .i64 0)∧Below w.heap.size w w'
theorem Qm5 (hT:Za8) (w:World):
 Calls prog 80 #[.string Jz,.func (.func 81) #[] #[],.func (.func 82) #[] #[]] w (Zi2 w):=by
 obtain ⟨W1,hW1,hX1,hB1⟩:=Qh w Qz8 86;obtain ⟨W2,hW2,hY2,hB2⟩:=Qh W1 [.int .i64 0,.int .i64 0] 39;obtain ⟨W3,hW3,hZ3,hB3⟩:=Qh W2 [.int .i64 0] 37;have h1:W1.heap.size=w.heap.size+1:=by rw [hW1];simp
 have h2:W2.heap.size=w.heap.size+1+1:=by rw [hW2];simp [h1]
 have hX3:=(hX1.below hB2).below hB3;have hY3:=hY2.below hB3;have hBw:=(hB1.trans (hB2.mono hB1.size)).trans (hB3.mono (ZO hB1.size hB2.size));rw [h1] at hY3;rw [h2] at hZ3;rw [hW2,hW1] at hW3;unfold Qz8 at hW3;have cL:=Za3 W3;clear hX1 hB1 hB2 hB3 hW1 hW2 hY2 h1 h2;go_enter_defers func80,ntmps80
 go_wp2_with fail
 rw [<-hW3];clear hW3;with_reducible refine cL.mono ?_
 clear cL;rintro e w4 ⟨_,c,rfl,hr4,hb4⟩;obtain ⟨g,rfl,_,hle,hcl⟩:=Xh hr4 (by omega);have hX4:=hX3.below hb4;have hY4:=hY3.below hb4;have hZ4:=hZ3.below hb4;have hB4:=hBw.trans (hb4.mono hBw.size);have:=hZ3.lt;clear hr4 hb4 hX3 hY3 hBw hZ3;obtain ⟨y0,y1⟩:=hY4.c1;have yf:=hY4.fr;have z0:=hZ4.cell 0 _ rfl;have zf:=hZ4.fr;go_upto_region 2 with fail
 have hgY:=Za w4 (w.heap.size+1) [.int .i64 0,.int .i64 0] 0;have hY5:=hY4.put (vs':=[.int .i64 0,.int .i64 0]) rfl;have hX5:=hX4.only hgY (by omega);have hZ5:=hZ4.only hgY (by omega);have hC5:Cl (Qm w4 (w.heap.size+1) 0 [.int .i64 0,.int .i64 0]) g (tv Cf):=Cl.only ⟨hle,hcl⟩ hgY (by omega);have hB5:=Qn (g:=w.heap.size+1) (Nat.le_succ _) [.int .i64 0,.int .i64 0] 0 w4 hB4;have hgZ:=Za (Qm w4 (w.heap.size+1) 0 [.int .i64 0,.int .i64 0]) (w.heap.size+1+1) [.int .i64 0] 0;have hZ6:=hZ5.put (vs':=[.int .i64 0]) rfl;have hX6:=hX5.only hgZ (by omega);have hY6:=hY5.only hgZ (by omega);have hC6:=hC5.only hgZ (by omega);have hB6:=Qn (g:=w.heap.size+1+1) (by omega) [.int .i64 0] 0 _ hB5;clear hgY hY5 hX5 hZ5 hC5 hB5 hgZ hX4 hY4 hZ4 hB4 y0 y1 yf z0 zf hcl hle;simp only [Qm] at hX6 hY6 hZ6 hC6 hB6;generalize hW6:(((w4.setCell ⟨w.heap.size+1,0,none⟩ (.int .i64 0)).setCell ⟨w.heap.size+1,0+1,none⟩ (.int .i64 0)).setCell ⟨w.heap.size+1+1,0,none⟩ (.int .i64 0))=W6 at*;clear hW6;obtain ⟨W7,hW7,hR7,hB7⟩:=Qh W6 [.slice (some ⟨g,0,none⟩) 8 c,.int .i64 0] 212;have:=hC6.1;have:=hZ6.lt;have hX7:=hX6.below hB7;have hY7:=hY6.below hB7;have hZ7:=hZ6.below hB7;have hC7:=hC6.go hB7;have hBw:=hB6.trans (hB7.mono hB6.size)
 have hP7:Vs W7 W6.heap.size g c 0:=⟨hR7.cell 0 _ rfl,hR7.cell 1 _ rfl,hR7.fr,λj hj=>hC7.2 _ _ (Qr2 j hj).1,λj hj=>hC7.2 _ _ (Qr2 j hj).2.1,λj hj=>hC7.2 _ _ (Qr2 j hj).2.2.1,λj hj=>hC7.2 _ _ (Qr2 j hj).2.2.2.1,λj hj=>hC7.2 _ _ (Qr2 j hj).2.2.2.2,by omega⟩;have z0:=hZ6.cell 0 _ rfl;have cP:=Zk5 W6.heap.size g c W7 hP7;have:=hR7.lt;clear hX6 hY6 hZ6 hC6 hB6 hR7 hB7 hC7 hP7;go_wp2_with fail
 rw [<-hW7];clear hW7 z0;with_reducible refine cP.mono ?_
 clear cP;rintro e w8 ⟨gd,cd,gb,cb,ge,ce,rfl,hI8,_,_,_,hP8,hg8⟩;have hX8:=hX7.only hg8 (by omega);have hY8:=hY7.only hg8 (by omega);have hZ8:=hZ7.only hg8 (by omega);have hB8:=hBw.grown hg8 hBw.size (λk e=>by cases e;omega);clear hX7 hY7 hZ7 hBw hg8;obtain ⟨x0,x1⟩:=hX8.c1;have xf:=hX8.fr;unfold Wl;go_upto_region 7 with fail
 have hgX:=Za w8 w.heap.size (Qs gd cd gb cb) 0;have hX9:=hX8.put (vs':=Qs gd cd gb cb) rfl;have hY9:=hY8.only hgX (by omega);have hZ9:=hZ8.only hgX (by omega);have hP9:=hP8.other hgX (by omega) (by omega);have hI9:Va (Qm w8 w.heap.size 0 (Qs gd cd gb cb)) gd gb ge ce:=⟨hI8.decls.only hgX (by omega),hI8.body.only hgX (by omega),hI8.expr.only hgX (by omega)⟩;have hB9:=Qn (g:=w.heap.size) (ZH _) (Qs gd cd gb cb) 0 _ hB8;clear hgX hX8 hY8 hZ8 hP8 hI8 hB8 x0 x1 xf;have e9:Qm w8 w.heap.size 0 (Qs gd cd gb cb)=(w8.setCell ⟨w.heap.size,0,none⟩ (.slice (some ⟨gd,0,none⟩) 1 cd)).setCell ⟨w.heap.size,1,none⟩ (.slice (some ⟨gb,0,none⟩) 1 cb):=rfl;rw [<-e9];clear e9;generalize Qm w8 w.heap.size 0 (Qs gd cd gb cb)=W9 at*;have cN:=Xl W6.heap.size g c 7 (by omega) W9 hP9;rw [show Nk 7=⟨5,⟨#[]⟩,0,1,14⟩ from rfl] at cN;unfold Xs at cN;have hf:=Gh 5 ⟨#[]⟩ 0 1 14;go_wp2_with fail
 with_reducible refine cN.mono ?_
 clear cN;rintro e w10 ⟨rfl,hb10⟩;have hX10:=hX9.below hb10;have hY10:=hY9.below hb10;have hZ10:=hZ9.below hb10;have hI10:=hI9.go hb10;have hB10:=hB9.trans (hb10.mono hB9.size);clear hX9 hY9 hZ9 hP9 hI9 hB9 hb10;obtain ⟨x0,x1⟩:=hX10.c1;have cT:=hT gd cd gb cb ge ce w10 hI10;unfold Wl at cT;go_wp2_with fail
 with_reducible refine cT.mono ?_
 clear cT hf x0 x1;rintro e w11 ⟨rfl,hb11⟩;have hX11:=hX10.below hb11;have hY11:=hY10.below hb11;have hZ11:=hZ10.below hb11;have hI11:=hI10.go hb11;have hB11:=hB10.trans (hb11.mono hB10.size);clear hX10 hY10 hZ10 hI10 hB10 hb11;obtain ⟨x0,x1⟩:=hX11.c1;have xf:=hX11.fr;obtain ⟨y0,y1⟩:=hY11.c1;have yf:=hY11.fr;have z0:=hZ11.cell 0 _ rfl;have zf:=hZ11.fr;go_wp2_with fail
 have hgX:=Za w11 w.heap.size (Qs gd cd gb cb) 0;have hX12:=hX11.put (vs':=Qs gd cd gb cb) rfl;have hY12:=hY11.only hgX (by omega);have hZ12:=hZ11.only hgX (by omega);have hI12:Va (Qm w11 w.heap.size 0 (Qs gd cd gb cb)) gd gb ge ce:=⟨hI11.decls.only hgX (by omega),hI11.body.only hgX (by omega),hI11.expr.only hgX (by omega)⟩;have hB12:=Qn (g:=w.heap.size) (ZH _) (Qs gd cd gb cb) 0 _ hB11;have hgY:=Za (Qm w11 w.heap.size 0 (Qs gd cd gb cb)) (w.heap.size+1) [.int .i64 0,.int .i64 0] 0;have hY13:=hY12.put (vs':=[.int .i64 0,.int .i64 0]) rfl;have hX13:=hX12.only hgY (by omega);have hZ13:=hZ12.only hgY (by omega);have hI13:Va (Qm (Qm w11 w.heap.size 0 (Qs gd cd gb cb)) (w.heap.size+1) 0 [.int .i64 0,.int .i64 0]) gd gb ge ce:=⟨hI12.decls.only hgY (by omega),hI12.body.only hgY (by omega),hI12.expr.only hgY (by omega)⟩;have hB13:=Qn (g:=w.heap.size+1) (Nat.le_succ _) [.int .i64 0,.int .i64 0] 0 _ hB12;have hgZ:=Za (Qm (Qm w11 w.heap.size 0 (Qs gd cd gb cb)) (w.heap.size+1) 0 [.int .i64 0,.int .i64 0]) (w.heap.size+1+1) [.int .i64 0] 0;have hZ14:=hZ13.put (vs':=[.int .i64 0]) rfl;have hX14:=hX13.only hgZ (by omega);have hY14:=hY13.only hgZ (by omega);have hI14:Va (Qm (Qm (Qm w11 w.heap.size 0 (Qs gd cd gb cb)) (w.heap.size+1) 0 [.int .i64 0,.int .i64 0]) (w.heap.size+1+1) 0 [.int .i64 0]) gd gb ge ce:=⟨hI13.decls.only hgZ (by omega),hI13.body.only hgZ (by omega),hI13.expr.only hgZ (by omega)⟩
 have hB14:=Qn (g:=w.heap.size+1+1) (by omega) [.int .i64 0] 0 _ hB13;have e14:Qm (Qm (Qm w11 w.heap.size 0 (Qs gd cd gb cb)) (w.heap.size+1) 0 [.int .i64 0,.int .i64 0]) (w.heap.size+1+1) 0 [.int .i64 0]=((((w11.setCell ⟨w.heap.size,0,none⟩ (.slice (some ⟨gd,0,none⟩) 1 cd)).setCell ⟨w.heap.size,1,none⟩ (.slice (some ⟨gb,0,none⟩) 1 cb)).setCell ⟨w.heap.size+1,0,none⟩ (.int .i64 0)).setCell ⟨w.heap.size+1,1,none⟩ (.int .i64 0)).setCell ⟨w.heap.size+1+1,0,none⟩ (.int .i64 0):=rfl;rw [<-e14];clear e14 x0 x1 xf y0 y1 yf z0 zf hgX hX12 hY12 hZ12 hI12 hB12 hgY hY13 hX13 hZ13 hI13 hB13 hgZ hX11 hY11 hZ11 hI11 hB11;generalize Qm (Qm (Qm w11 w.heap.size 0 (Qs gd cd gb cb)) (w.heap.size+1) 0 [.int .i64 0,.int .i64 0]) (w.heap.size+1+1) 0 [.int .i64 0]=W15 at*;refine leaves_cons (f:=135) (args:=#[.pointer (some ⟨w.heap.size,0,none⟩),.pointer (some ⟨w.heap.size+1,0,none⟩),.pointer (some ⟨w.heap.size+1+1,0,none⟩)]) (by simp) (by simp [go_sem]) ?_;refine (Zx9 w.heap.size (w.heap.size+1) (w.heap.size+1+1) _).mono ?_;rintro e _ _ ⟨rfl,rfl,rfl⟩;obtain ⟨x0,x1⟩:=hX14.c1;obtain ⟨y0,y1⟩:=hY14.c1;have z0:=hZ14.cell 0 _ rfl;simp only [settle];refine ⟨.tuple #[Wl gd cd gb cb,.agg #[.int .i64 0,.int .i64 0],.int .i64 0],by simp [results,results80,go_sem,x0,x1,y0,y1,z0,Wl],?_⟩
 exact ⟨gd,cd,gb,cb,ge,ce,rfl,hI14,by omega,by omega,by omega,hB14⟩
theorem Hi (hT:Za8) (w:World):Calls prog 41 #[.string Jz] w (Zi2 w):=by
 obtain ⟨W1,hW1,hX1,hB1⟩:=Qh w Qz8 86;obtain ⟨W2,hW2,hY2,hB2⟩:=Qh W1 [.int .i64 0,.int .i64 0] 39;have h1:W1.heap.size=w.heap.size+1:=by rw [hW1];simp
 have hX2:=hX1.below hB2;have hBw:=hB1.trans (hB2.mono hB1.size);rw [h1] at hY2;rw [hW1] at hW2;unfold Qz8 at hW2;have cR:=Qm5 hT W2;have:=hY2.lt;clear hX1 hB1 hB2 hW1 h1;go_enter func41,ntmps41
 go_wp2_with fail
 rw [<-hW2];clear hW2;with_reducible refine cR.mono ?_
 clear cR;rintro _ w3 ⟨gd,cd,gb,cb,ge,ce,rfl,hI3,_,_,_,hB3⟩;have hX3:=hX2.below hB3;have hY3:=hY2.below hB3;have hBw3:=hBw.trans (hB3.mono hBw.size);clear hX2 hY2 hBw hB3;obtain ⟨x0,x1⟩:=hX3.c1;have xf:=hX3.fr;obtain ⟨y0,y1⟩:=hY3.c1;have yf:=hY3.fr;unfold Wl;go_wp2_with fail
 have hgX:=Za w3 w.heap.size (Qs gd cd gb cb) 0;have hX12:=hX3.put (vs':=Qs gd cd gb cb) rfl;have hY12:=hY3.only hgX (by omega);have hI12:Va (Qm w3 w.heap.size 0 (Qs gd cd gb cb)) gd gb ge ce:=⟨hI3.decls.only hgX (by omega),hI3.body.only hgX (by omega),hI3.expr.only hgX (by omega)⟩;have hB12:=Qn (g:=w.heap.size) (ZH _) (Qs gd cd gb cb) 0 _ hBw3;have hgY:=Za (Qm w3 w.heap.size 0 (Qs gd cd gb cb)) (w.heap.size+1) [.int .i64 0,.int .i64 0] 0;have hY13:=hY12.put (vs':=[.int .i64 0,.int .i64 0]) rfl;have hX13:=hX12.only hgY (by omega);have hI13:Va (Qm (Qm w3 w.heap.size 0 (Qs gd cd gb cb)) (w.heap.size+1) 0 [.int .i64 0,.int .i64 0]) gd gb ge ce:=⟨hI12.decls.only hgY (by omega),hI12.body.only hgY (by omega),hI12.expr.only hgY (by omega)⟩;have hB13:=Qn (g:=w.heap.size+1) (Nat.le_succ _) [.int .i64 0,.int .i64 0] 0 _ hB12;clear x0 x1 xf y0 y1 yf hX12 hY12 hI12 hB12 hgX hgY;obtain ⟨x0,x1⟩:=hX13.c1;obtain ⟨y0,y1⟩:=hY13.c1;simp only [Qs,Qm] at x0 x1 y0 y1;exact QL (v:=.tuple #[Wl gd cd gb cb,.agg #[.int .i64 0,.int .i64 0],.int .i64 0]) (by simp [results,results41,go_sem,x0,x1,y0,y1,Wl]) rfl ⟨gd,cd,gb,cb,ge,ce,rfl,hI13,by omega,by omega,by omega,hB13⟩
def _root_.Go.Value.inner:Value->Value
 |.iface _ v=>v
 |v=>v
def Xw:Value:=.iface 362 (.agg #[.string sX,.int .i64 0])
def Ya (be ce:Nat):Value:=.iface 364 (.agg #[.int .i64 1,.string sX,.slice (some ⟨be,0,none⟩) 1 ce,.slice none 0 0,.slice none 0 0,.slice none 0 0])
def Jt:Value:=.iface 420 (.agg #[.int .i64 1,.int .i64 1,.string ⟨#[]⟩,.slice none 0 0])
theorem Zp2 (w:World):Calls prog 394 #[.agg #[.string sX,.int .i64 0]] w λe w'=>e=.returned (.bool true)∧Below w.heap.size w w':=by
 go_enter func394,ntmps394
 go_wp2
 go_ret
 exact ⟨rfl,by go_grown⟩
theorem Zs8 (be ce:Nat) (w:World):Calls prog 396 #[.agg #[.int .i64 1,.string sX,.slice (some ⟨be,0,none⟩) 1 ce,.slice none 0 0,.slice none 0 0,.slice none 0 0]] w λe w'=>e=.returned (.bool true)∧Below w.heap.size w w':=by
 go_enter func396,ntmps396
 go_wp2
 go_ret
 exact ⟨rfl,by go_grown⟩
theorem Vm5 (W:World):(Instr.typeAssert Xw 301 362 true).run prog W=.ok (.tuple #[Xw.inner,.bool true]) W:=by
 kernel_rfl
theorem Vn3 (be ce:Nat) (W:World):(Instr.typeAssert (Ya be ce) 301 362 true).run prog W=.ok (.tuple #[.agg #[.string ⟨#[]⟩,.int .i64 0],.bool false]) W:=by
 kernel_rfl
theorem Vh7 (be ce:Nat) (W:World):(Instr.typeAssert (Ya be ce) 301 364 true).run prog W=.ok (.tuple #[(Ya be ce).inner,.bool true]) W:=by
 kernel_rfl
theorem Vi6 (W:World):(Instr.typeAssert Jt 301 362 true).run prog W=.ok (.tuple #[.agg #[.string ⟨#[]⟩,.int .i64 0],.bool false]) W:=by
 kernel_rfl
theorem Vh4 (W:World):(Instr.typeAssert Jt 301 364 true).run prog W=.ok (.tuple #[.agg #[.int .i64 0,.string ⟨#[]⟩,.slice none 0 0,.slice none 0 0,.slice none 0 0,.slice none 0 0],.bool false]) W:=by
 kernel_rfl
theorem Vm9 (W:World):(Instr.typeAssert Jt 301 420 true).run prog W=.ok (.tuple #[Jt.inner,.bool true]) W:=by
 kernel_rfl
theorem Jv7 (w:World):Calls prog 325 #[Xw] w λe w'=>e=.returned (.tuple #[.string sX,.bool true])∧Below w.heap.size w w':=by
 have ta:=Vm5;unfold Xw at ta |-
 simp only [Value.inner] at ta;go_enter func325,ntmps325
 go_wp2
 exact QL (v:=.tuple #[.string sX,.bool true]) (by simp [results,results325,go_sem]) rfl ⟨rfl,by go_grown⟩
theorem Zr4 (be ce:Nat) (w:World):Calls prog 325 #[Ya be ce] w λe w'=>e=.returned (.tuple #[.string sX,.bool true])∧Below w.heap.size w w':=by
 have ta:=Vh7 be ce;have tb:=Vn3 be ce;obtain ⟨_,hW,hX,_⟩:=Qh w [.int .i64 1,.string sX,.slice (some ⟨be,0,none⟩) 1 ce,.slice none 0 0,.slice none 0 0,.slice none 0 0] 364;unfold Ya at ta tb |-
 simp only [Value.inner] at ta;go_enter func325,ntmps325
 go_wp2
 rw [<-hW];obtain ⟨_,_⟩:=hX.c1;have:=hX.fr;have:=hX.lt;clear hW;go_region
 go_wp2
 exact QL (v:=.tuple #[.string sX,.bool true]) (by simp [results,results325,go_sem]) rfl ⟨rfl,by go_grown⟩
theorem Qw9 (w:World):Calls prog 325 #[Jt] w λe w'=>e=.returned (.tuple #[.string ⟨#[]⟩,.bool false])∧Below w.heap.size w w':=by
 have ta:=Vm9;have tb:=Vi6;have tc:=Vh4;obtain ⟨_,hW,hX,_⟩:=Qh w [.int .i64 1,.int .i64 1,.string ⟨#[]⟩,.slice none 0 0] 420;unfold Jt at ta tb tc |-
 simp only [Value.inner] at ta;go_enter func325,ntmps325
 go_wp2
 rw [<-hW];have:=hX.cell 0 _ rfl;have:=hX.cell 2 _ rfl;have:=hX.fr;have:=hX.lt;clear hW;go_region
 go_wp2
 exact QL (v:=.tuple #[.string ⟨#[]⟩,.bool false]) (by simp [results,results325,go_sem]) rfl ⟨rfl,by go_grown⟩
theorem Zv5 (w:World):Calls prog 395 #[Xw.inner] w λe w'=>e=.returned (.slice none 0 0)∧Below w.heap.size w w':=by
 unfold Xw Value.inner;go_enter func395,ntmps395
 go_wp2
 go_ret
 exact ⟨rfl,by go_grown⟩
theorem Qx3 (w:World):Calls prog 400 #[.slice none 0 0,.func (.func 401) #[] #[]] w λe w'=>e=.returned (.slice none 0 0)∧Below w.heap.size w w':=by
 go_enter func400,ntmps400
 go_wp2
 go_rounds 1
 go_wp2
 go_ret
 exact ⟨rfl,by go_grown⟩
theorem Qk1 (w:World):Calls prog 398 #[.slice none 0 0,.func (.func 399) #[] #[]] w λe w'=>e=.returned (.slice none 0 0)∧Below w.heap.size w w':=by
 go_enter func398,ntmps398
 go_wp2
 go_rounds 1
 go_wp2
 go_ret
 exact ⟨rfl,by go_grown⟩
theorem Cp (w:World):Calls prog 221 #[.slice none 0 0,.func (.func 222) #[] #[]] w λe w'=>e=.returned (.slice none 0 0)∧Below w.heap.size w w':=by
 go_enter func221,ntmps221
 go_wp2
 go_rounds 1
 go_wp2
 go_ret
 exact ⟨rfl,by go_grown⟩
theorem Zb8 (w:World):Calls prog 403 #[Jt.inner] w λe w'=>e=.returned (.slice none 0 0)∧Below w.heap.size w w':=by
 unfold Jt Value.inner;go_enter func403,ntmps403
 have cE:=Qx3;go_wp2_with fail
 with_reducible refine (cE _).mono ?_
 rintro e _ ⟨rfl,hb1⟩;go_wp2_with fail
 go_ret
 exact ⟨rfl,((QK _ w).alloc (ZH _) _).trans (hb1.mono (by simp))⟩
theorem Vq5 (w:World):Calls prog 401 #[Jt.inner] w λe w'=>e=.returned Jt∧Below w.heap.size w w':=by
 unfold Jt Value.inner;go_enter func401,ntmps401
 go_wp2
 go_ret
 exact ⟨rfl,by go_grown⟩
theorem Vw2 (w:World):Calls prog 220 #[Xw.inner] w λe w'=>e=.returned Xw∧Below w.heap.size w w':=by
 unfold Xw Value.inner;go_enter func220,ntmps220
 go_wp2
 go_ret
 exact ⟨rfl,by go_grown⟩
theorem Vk6 (be ce:Nat) (w:World):Calls prog 222 #[(Ya be ce).inner] w λe w'=>e=.returned (Ya be ce)∧Below w.heap.size w w':=by
 unfold Ya Value.inner;go_enter func222,ntmps222
 go_wp2
 go_ret
 exact ⟨rfl,by go_grown⟩
theorem elNode:Ni prog 298 301 .nilIface 1 16:=⟨underlying298,by kernel_rfl,rfl,by decide,by decide⟩
theorem Zn7:∀u∈[Jt],u.oneCell'=true:=by simp [Jt,Value.oneCell']
theorem Qq5 (w:World) (o:Obj) (v:Value) (vs:Array Value) (t:TypeId):∃W,W=((w.alloc o).alloc (.cells (#[v]++vs) t)).drew∧Cl W (w.heap.size+1) [v]∧Below w.heap.size w W:=by
 refine ⟨_,rfl,?_,(((QK _ _).alloc (ZH _) _).alloc (by simp) _).drew⟩;have hs:(w.alloc o).heap.size=w.heap.size+1:=by simp
 have h:Cl ((w.alloc o).alloc (.cells (#[v]++vs) t)) (w.heap.size+1) [v]:=by
  refine ⟨by simp,λj u hu=>?_⟩;rw [<-hs,QM];cases j with
  |zero=>
   rw [Array.getElem?_append_left (by simp)];exact hu
  |succ j=>simp at hu
 exact h.go (QK _ _).drew
theorem Qx8 (g c:Nat) (w:World) (h:Cl w g Zw):Calls prog 400 #[.slice (some ⟨g,0,none⟩) 1 c,.func (.func 401) #[] #[]] w λe w'=>∃gn cn,e=.returned (.slice (some ⟨gn,0,none⟩) 1 cn)∧w.heap.size≤gn∧Cl w' gn [Jt]∧Below w.heap.size w w':=by
 have:=h.2 0 _ rfl;have:=h.2 1 _ rfl;have:=h.2 2 _ rfl;have:=h.2 3 _ rfl;have:=h.1;have cO:=λW=>Vq5 W
 unfold Jt Value.inner at cO;go_enter func400,ntmps400
 go_wp2_with fail
 refine wp_loop_rounds 2 ?_;rw [QX];go_wp2_with fail
 have hB0:=(QK w.heap.size w).alloc (ZH _) (.cells #[.int .i64 1,.int .i64 1,.string ⟨#[]⟩,.slice none 0 0] 234);have:w.heap.size+1=(w.alloc (.cells #[.int .i64 1,.int .i64 1,.string ⟨#[]⟩,.slice none 0 0] 234)).heap.size:=by simp
 generalize w.alloc (.cells #[.int .i64 1,.int .i64 1,.string ⟨#[]⟩,.slice none 0 0] 234)=W at*;with_reducible refine (cO _).mono ?_
 rintro e w1 ⟨rfl,hb1⟩;go_wp2_with fail
 obtain ⟨_,hW3,hC,hB3⟩:=Qq5 w1 (.cells #[Jt] 301) Jt (Builtin.zeroCells #[Value.nilIface] ((Question.appendCap 1 0 301).cut (w1.tape w1.drawn (Question.appendCap 1 0 301)) - 1)) 301;unfold Jt at hW3;rw [<-hW3];clear hW3;generalize (Question.appendCap 1 0 301).cut (w1.tape w1.drawn (Question.appendCap 1 0 301))=cn at*;have:=hb1.size;rw [QX];go_wp2_with fail
 go_ret
 exact ⟨w1.heap.size+1,cn,rfl,by omega,hC,(hB0.trans (hb1.mono (by omega))).trans (hB3.mono (by omega))⟩
theorem Qv6 (g c:Nat) (w:World) (h:Cl w g Zm):Calls prog 219 #[.slice (some ⟨g,0,none⟩) 1 c,.func (.func 220) #[] #[]] w λe w'=>∃gn cn,e=.returned (.slice (some ⟨gn,0,none⟩) 1 cn)∧w.heap.size≤gn∧Cl w' gn [Xw]∧Below w.heap.size w w':=by
 have:=h.2 0 _ rfl;have:=h.2 1 _ rfl;have:=h.1;have cO:=λW=>Vw2 W
 unfold Xw Value.inner at cO;go_enter func219,ntmps219
 go_wp2_with fail
 refine wp_loop_rounds 2 ?_;rw [QX];go_wp2_with fail
 have hB0:=(QK w.heap.size w).alloc (ZH _) (.cells #[.string sX,.int .i64 0] 51);have:w.heap.size+1=(w.alloc (.cells #[.string sX,.int .i64 0] 51)).heap.size:=by simp
 generalize w.alloc (.cells #[.string sX,.int .i64 0] 51)=W at*;with_reducible refine (cO _).mono ?_
 rintro e w1 ⟨rfl,hb1⟩;go_wp2_with fail
 obtain ⟨_,hW3,hC,hB3⟩:=Qq5 w1 (.cells #[Xw] 301) Xw (Builtin.zeroCells #[Value.nilIface] ((Question.appendCap 1 0 301).cut (w1.tape w1.drawn (Question.appendCap 1 0 301)) - 1)) 301;unfold Xw at hW3;rw [<-hW3];clear hW3;generalize (Question.appendCap 1 0 301).cut (w1.tape w1.drawn (Question.appendCap 1 0 301))=cn at*;have:=hb1.size;rw [QX];go_wp2_with fail
 go_ret
 exact ⟨w1.heap.size+1,cn,rfl,by omega,hC,(hB0.trans (hb1.mono (by omega))).trans (hB3.mono (by omega))⟩
theorem Qx1 (g c be ce:Nat) (w:World) (h:Cl w g (Ja be ce)):Calls prog 221 #[.slice (some ⟨g,0,none⟩) 1 c,.func (.func 222) #[] #[]] w λe w'=>∃gn cn,e=.returned (.slice (some ⟨gn,0,none⟩) 1 cn)∧w.heap.size≤gn∧Cl w' gn [Ya be ce]∧Below w.heap.size w w':=by
 have:=h.2 0 _ rfl;have:=h.2 1 _ rfl;have:=h.2 2 _ rfl;have:=h.2 3 _ rfl;have:=h.2 4 _ rfl;have:=h.2 5 _ rfl;have:=h.1;have cO:=λW=>Vk6 be ce W
 unfold Ya Value.inner at cO;go_enter func221,ntmps221
 go_wp2_with fail
 refine wp_loop_rounds 2 ?_;rw [QX];go_wp2_with fail
 have hB0:=(QK w.heap.size w).alloc (ZH _) (.cells #[.int .i64 1,.string sX,.slice (some ⟨be,0,none⟩) 1 ce,.slice none 0 0,.slice none 0 0,.slice none 0 0] 222);have:w.heap.size+1=(w.alloc (.cells #[.int .i64 1,.string sX,.slice (some ⟨be,0,none⟩) 1 ce,.slice none 0 0,.slice none 0 0,.slice none 0 0] 222)).heap.size:=by simp
 generalize w.alloc (.cells #[.int .i64 1,.string sX,.slice (some ⟨be,0,none⟩) 1 ce,.slice none 0 0,.slice none 0 0,.slice none 0 0] 222)=W at*;with_reducible refine (cO _).mono ?_
 rintro e w1 ⟨rfl,hb1⟩;go_wp2_with fail
 obtain ⟨_,hW3,hC,hB3⟩:=Qq5 w1 (.cells #[Ya be ce] 301) (Ya be ce) (Builtin.zeroCells #[Value.nilIface] ((Question.appendCap 1 0 301).cut (w1.tape w1.drawn (Question.appendCap 1 0 301)) - 1)) 301;unfold Ya at hW3;rw [<-hW3];clear hW3;generalize (Question.appendCap 1 0 301).cut (w1.tape w1.drawn (Question.appendCap 1 0 301))=cn at*;have:=hb1.size;rw [QX];go_wp2_with fail
 go_ret
 exact ⟨w1.heap.size+1,cn,rfl,by omega,hC,(hB0.trans (hb1.mono (by omega))).trans (hB3.mono (by omega))⟩
section
theorem Lv {w:World} {B n c size:Nat} {e:TypeId} {A:Option Addr} {vs:List Value} (h:w.ownsRow B e size (.slice A n c) n vs):n≤c:=by
 rcases h.2 with ⟨hv,h0⟩|⟨g,cap,cur,hv,hb,hh,hnc,hcm,hcs,hx⟩
 .omega
 injection hv with h1 h2 h3;omega
theorem Qy1 (w:World) (k:Nat) (hk:k≤maxLen) (e:TypeId):∃W,W=(w.alloc (.cells (Builtin.zeroCells #[Value.nilIface] k++Builtin.zeroCells #[Value.nilIface] (grownCap w k 0 e - k)) e)).drew∧
 W.ownsRow w.heap.size e 1 (.slice (some ⟨w.heap.size,0,none⟩) 0 (grownCap w k 0 e)) 0 []∧Below w.heap.size w W:=by
 refine ⟨_,rfl,⟨rfl,.inr ⟨w.heap.size,grownCap w k 0 e,Builtin.zeroCells #[Value.nilIface] k++Builtin.zeroCells #[Value.nilIface] (grownCap w k 0 e - k),rfl,ZH _,?_,Nat.zero_le _,grownCap_le_maxLen w k 0 e hk,?_,by simp⟩⟩,((QK _ _).alloc (ZH _) _).drew⟩
 .show (w.heap.push _)[w.heap.size]? =_
  simp
 have:=grownCap_ge w k 0 e
 simp [Builtin.zeroCells]
 omega
section
variable {P:Program} {t e:TypeId} {z:Value} {size bytes:Nat}
theorem Jw7 (E:Ni P t e z size bytes) {o:Oper} {a:Act} {K:Act->World->Prop} {Q:Exit->Act->World->Prop} (W:World) (s x:Operand)
 (ho:o.op=.call {callee:=.builtin .append,args:=#[s,x],argTypes:=#[t,t]})
 (base:Nat) (A:Option Addr) (c n:Nat) (vs:List Value) (hs:a.eval s=.slice A n c) (hown:W.ownsRow base e size (.slice A n c) n vs)
 (news:List Value) (g cx:Nat) (hx:a.eval x=.slice (some ⟨g,0,none⟩) 1 cx) (hl:news.length=size) (hnews:∀j u,news[j]? =some u->W.cell? ((⟨g,0,none⟩:Addr).add j)=some u) (h1:∀u∈news,u.oneCell'=true)
 (hn:(n+1)*bytes≤140737488355328) (hbase:base≤W.heap.size)
 (h:∀A' c' w',w'.ownsRow base e size (.slice A' (n+1) c') (n+1) (vs++news)->Below base W w'->W.grownBy w' (Value.slice A n c).ownBlock->K (a.put o.dst (.slice A' (n+1) c')) w'):
 o.wp P a W K Q:=by
 obtain ⟨i0,hi,hz0,hz1,hz2⟩:=Bq E.info;have:n+1≤(n+1)*bytes:=Nat.le_mul_of_pos_right _ E.hb;refine wp_append_own W s x t ho base e i0 z size bytes E.ht hi hz0 hz1 hz2 E.hz E.hs _ _ _ hs hown ⟨g,0,none⟩ 1 cx news hx (by rw [hl,Nat.one_mul]) hnews h1 (by unfold maxLen;omega) hn hbase ?_;intro v' w1 hown' hgrow _;have hB:Below base W w1:=(QK _ _).grown hgrow hbase (λj hj=>(hown.lt j hj).1);rcases hown'.2 with ⟨rfl,h0⟩|⟨g',cap,cur,rfl,_⟩
 .omega
 exact h _ _ _ hown' hB hgrow
theorem Rq (E:Ni P t e z size bytes) {ops:Array Oper} {rest:List Oper} {o:Oper} {a:Act} {Q:Exit->Act->World->Prop} (W:World) (hgd:o.guard=none) (s x:Operand)
 (ho:o.op=.call {callee:=.builtin .append,args:=#[s,x],argTypes:=#[t,t]})
 (base:Nat) (A:Option Addr) (c n:Nat) (vs:List Value) (hs:a.eval s=.slice A n c) (hown:W.ownsRow base e size (.slice A n c) n vs)
 (news:List Value) (g cx:Nat) (hx:a.eval x=.slice (some ⟨g,0,none⟩) 1 cx) (hl:news.length=size) (hnews:∀j u,news[j]? =some u->W.cell? ((⟨g,0,none⟩:Addr).add j)=some u) (h1:∀u∈news,u.oneCell'=true)
 (hn:(n+1)*bytes≤140737488355328) (hbase:base≤W.heap.size)
 (h:∀A' c' w',w'.ownsRow base e size (.slice A' (n+1) c') (n+1) (vs++news)->Below base W w'->W.grownBy w' (Value.slice A n c).ownBlock->wpList P ops Q rest (a.put o.dst (.slice A' (n+1) c')) w'):
 wpList P ops Q (o::rest) a W:=
 wpList_plain hgd λ_ hK=>Jw7 E W s x ho base A c n vs hs hown news g cx hx hl hnews h1 hn hbase λA' c' w' h1 h2 h3=>hK _ _ (h A' c' w' h1 h2 h3)
end
theorem Vd1 (w:World):Calls prog 280 #[.slice none 0 0,.int .i64 1] w λe w'=>∃c,e=.returned (.slice (some ⟨w.heap.size,0,none⟩) 0 c)∧w'.ownsRow w.heap.size 301 1 (.slice (some ⟨w.heap.size,0,none⟩) 0 c) 0 []∧Below w.heap.size w w':=by
 obtain ⟨_,hW,hR,hB⟩:=Qy1 w 1 (by decide) 301;unfold grownCap at hW hR;go_enter func280,ntmps280
 go_wp2
 rw [<-hW];go_ret
 exact ⟨_,rfl,hR,hB⟩
theorem Vf6 (w:World):Calls prog 280 #[.slice none 0 0,.int .i64 2] w λe w'=>∃c,e=.returned (.slice (some ⟨w.heap.size,0,none⟩) 0 c)∧w'.ownsRow w.heap.size 301 1 (.slice (some ⟨w.heap.size,0,none⟩) 0 c) 0 []∧Below w.heap.size w w':=by
 obtain ⟨_,hW,hR,hB⟩:=Qy1 w 2 (by decide) 301;unfold grownCap at hW hR;go_enter func280,ntmps280
 go_wp2
 rw [<-hW];go_ret
 exact ⟨_,rfl,hR,hB⟩
theorem Ja9 (a ca g c:Nat) (v:Value) (w:World) (h:Cl w a [.slice none 0 0,.slice (some ⟨g,0,none⟩) 1 c,.slice none 0 0,.slice none 0 0]) (hg:Cl w g [v]) (hv1:∀u∈[v],u.oneCell'=true):
 Calls prog 218 #[.slice (some ⟨a,0,none⟩) 4 ca] w λe w'=>∃gn cn,e=.returned (.slice (some ⟨gn,0,none⟩) 1 cn)∧w.heap.size≤gn∧Cl w' gn [v]∧Below w.heap.size w w':=by
 have y0:=h.2 0 _ rfl;have y1:=h.2 1 _ rfl;have y2:=h.2 2 _ rfl;have y3:=h.2 3 _ rfl;have hl:=h.1;have cG:=Vd1;go_enter func218,ntmps218
 go_wp2_with fail
 refine wp_loop_rounds 5 ?_
 repeat (rw [QX];go_wp2_with fail)
 with_reducible refine (cG _).mono ?_
 rintro e w1 ⟨cr,rfl,hR,hB⟩;have h1:=h.go hB;have hg1:=hg.go hB;have z0:=h1.2 0 _ rfl;have z1:=h1.2 1 _ rfl;have z2:=h1.2 2 _ rfl;have z3:=h1.2 3 _ rfl;have hl1:=h1.1;clear y0 y1 y2 y3 cG;go_wp2_with fail
 refine wp_loop_rounds 5 ?_;rw [QX];go_wp2_with fail
 rw [QX];have hn:∀j u,[v][j]? =some u->w1.cell? ((⟨g,0,none⟩:Addr).add j)=some u:=λj u hu=>by
  rw [show ((⟨g,0,none⟩:Addr).add j)=⟨g,j,none⟩ by unfold Addr.add;split<;>simp_all];exact hg1.2 j u hu
 have HA:=Hd hg1;have HN:=Hd hn;have HH:=Hd h1;clear h hg hg1 hn h1;go_wp2_with (at_builtin;refine Rq elNode w1 rfl _ _ rfl w.heap.size (some ⟨w.heap.size,0,none⟩) cr 0 [] rfl hR [v] g c rfl rfl HN.out hv1 (by decide) (by have:=hB.size;omega) ?_;intro A' c' w3 hr3 hb3 hg3)
 have:=(hb3.cell (p:=⟨a,2,none⟩) hl).trans z2;have:=(hb3.cell (p:=⟨a,3,none⟩) hl).trans z3;have:=ZI hl1 hb3.size;have:=Lv hr3;obtain ⟨ge,rfl,hge,hle,hcl⟩:=Xh hr3 (by omega);have hC:Cl w3 ge [v]:=⟨hle,λj u hu=>hcl j u (by simpa using hu)⟩;have HC:=Hd hC;have HB:=Hd (hB.trans hb3);clear hr3 hb3 hg3 hcl hC hB hR HA HN HH z0 z1 z2 z3 hl1;rw [QX];go_wp2_with fail
 rw [QX];go_wp2_with fail
 rw [QX];go_wp2_with fail
 go_ret
 exact ⟨ge,c',rfl,hge,HC.out,HB.out⟩
theorem Jc1 (a ca g c k d:Nat) (v u:Value) (w:World) (h:Cl w a [.slice (some ⟨g,0,none⟩) 1 c,.slice (some ⟨k,0,none⟩) 1 d]) (hg:Cl w g [v]) (hk:Cl w k [u]) (hv1:∀u∈[v],u.oneCell'=true) (hu1:∀x∈[u],x.oneCell'=true):
 Calls prog 218 #[.slice (some ⟨a,0,none⟩) 2 ca] w λe w'=>∃gn cn,e=.returned (.slice (some ⟨gn,0,none⟩) 2 cn)∧w.heap.size≤gn∧Cl w' gn [v,u]∧Below w.heap.size w w':=by
 have y0:=h.2 0 _ rfl;have y1:=h.2 1 _ rfl;have hl:=h.1;have cG:=Vf6;go_enter func218,ntmps218
 go_wp2_with fail
 refine wp_loop_rounds 3 ?_
 repeat (rw [QX];go_wp2_with fail)
 with_reducible refine (cG _).mono ?_
 rintro e w1 ⟨cr,rfl,hR,hB⟩;have h1:=h.go hB;have hg1:=hg.go hB;have hk1:=hk.go hB;have hkl:=hk.1;have z0:=h1.2 0 _ rfl;have z1:=h1.2 1 _ rfl;have hl1:=h1.1;clear y0 y1 cG;go_wp2_with fail
 refine wp_loop_rounds 3 ?_;rw [QX];have hn:∀j u,[v][j]? =some u->w1.cell? ((⟨g,0,none⟩:Addr).add j)=some u:=λj u hu=>by
  rw [show ((⟨g,0,none⟩:Addr).add j)=⟨g,j,none⟩ by unfold Addr.add;split<;>simp_all];exact hg1.2 j u hu
 have HN:=Hd hn;have HK:=Hd hk1;clear h hg hg1 hn h1 hk hk1;go_wp2_with (at_builtin;refine Rq elNode w1 rfl _ _ rfl w.heap.size (some ⟨w.heap.size,0,none⟩) cr 0 [] rfl hR [v] g c rfl rfl HN.out hv1 (by decide) (by have:=hB.size;omega) ?_;intro A' c' w3 hr3 hb3 hg3)
 have:=(hb3.cell (p:=⟨a,1,none⟩) hl).trans z1;have:=ZI hl1 hb3.size;have hk3:Cl w3 k [u]:=⟨ZI HK.out.1 hb3.size,λj x hx=>(hb3.cell (p:=⟨k,j,none⟩) hkl).trans (HK.out.2 j x hx)⟩;have hn:∀j x,[u][j]? =some x->w3.cell? ((⟨k,0,none⟩:Addr).add j)=some x:=λj x hx=>by
  rw [show ((⟨k,0,none⟩:Addr).add j)=⟨k,j,none⟩ by unfold Addr.add;split<;>simp_all];exact hk3.2 j x hx
 have HN2:=Hd hn;have HB:=Hd (hB.trans hb3);have HR:=Hd hr3;clear hr3 hb3 hg3 hB hR HN HK z0 z1 hl1 hk3 hn;rw [QX];go_wp2_with (at_builtin;refine Rq elNode w3 rfl _ _ rfl w.heap.size A' c' 1 ([]++[v]) rfl HR.out [u] k d rfl rfl HN2.out hu1 (by decide) (by have:=HB.out.size;omega) ?_;intro A2 c2 w4 hr4 hb4 hg4)
 obtain ⟨ge,rfl,hge,hle,hcl⟩:=Xh hr4 (by omega);have hC:Cl w4 ge [v,u]:=⟨hle,λj x hx=>hcl j x (by simpa using hx)⟩;have HC:=Hd hC;have HB2:=Hd (HB.out.trans hb4);clear hr4 hb4 hg4 hcl hC HB HR HN2;rw [QX];go_wp2_with fail
 go_ret
 exact ⟨ge,c2,rfl,hge,HC.out,HB2.out⟩
end
theorem Jv6 (w:World):Calls prog 402 #[Jt.inner] w λe w'=>e=.returned (.bool true)∧Below w.heap.size w w':=by
 obtain ⟨_,hW,hX,hB⟩:=Qh w Zw 420;have cN:=Qw9;unfold Zw at hW;unfold Jt at cN;unfold Jt Value.inner;go_enter func402,ntmps402
 go_upto_region 1 with fail
 rw [<-hW];clear hW;obtain ⟨x0,x1,x2,x3⟩:=hX.c3;have hl:=hX.lt;have HX:=Hd hX;have HB:=Hd hB;clear hX hB;go_wp2_with fail
 with_reducible refine (cN _).mono ?_
 clear cN;rintro e _ ⟨rfl,hb⟩;have hX:=HX.out.below hb;have HB2:=Ht HB hb;clear HX HB hb x0 x1 x2 x3 hl;obtain ⟨x0,x1,x2,x3⟩:=hX.c3;have hl:=hX.lt;clear hX;go_wp2_with fail
 go_ret
 exact ⟨rfl,HB2.out⟩
theorem Vx1 (w:World):Calls prog 351 #[.string sX] w λe w'=>e=.returned (.bool true)∧Below w.heap.size w w':=by
 unfold sX;go_enter func351,ntmps351
 go_wp2
 go_rounds 2
 go_ret
 exact ⟨rfl,by go_grown⟩
theorem Zm4 (w:World):Calls prog 352 #[.slice none 0 0,.string sX] w λe w'=>e=.returned (.int .i64 (-1))∧Below w.heap.size w w':=by
 go_enter func352,ntmps352
 go_wp2
 go_rounds 1
 go_wp2
 go_ret
 exact ⟨rfl,by go_grown⟩
theorem Vy8 (g c:Nat) (w:World) (h:Cl w g [.string sX]):Calls prog 352 #[.slice (some ⟨g,0,none⟩) 1 c,.string sX] w λe w'=>e=.returned (.int .i64 0)∧Below w.heap.size w w':=by
 have:=h.2 0 _ rfl;have:=h.1;go_enter func352,ntmps352
 go_wp2
 go_rounds 1
 go_wp2
 go_ret
 exact ⟨rfl,by go_grown⟩
theorem Qg1 (w:World):Calls prog 327 #[.slice none 0 0,.string sX] w λe w'=>e=.returned (.bool false)∧Below w.heap.size w w':=by
 go_enter func327,ntmps327
 go_wp2_with fail
 with_reducible refine (Zm4 _).mono ?_
 rintro e _ ⟨rfl,hb⟩;go_wp2_with fail
 go_ret
 exact ⟨rfl,hb⟩
theorem Zj4 (g c:Nat) (w:World) (h:Cl w g [.string sX]):Calls prog 327 #[.slice (some ⟨g,0,none⟩) 1 c,.string sX] w λe w'=>e=.returned (.bool true)∧Below w.heap.size w w':=by
 go_enter func327,ntmps327
 go_wp2_with fail
 with_reducible refine (Vy8 g c _ h).mono ?_
 rintro e _ ⟨rfl,hb⟩;go_wp2_with fail
 go_ret
 exact ⟨rfl,hb⟩
theorem Zq6 (w:World):Calls prog 326 #[.string sX] w λe w'=>e=.returned (.bool true)∧Below w.heap.size w w':=by
 go_enter func326,ntmps326
 go_wp2_with fail
 with_reducible refine (Vx1 _).mono ?_
 rintro e _ ⟨rfl,hb1⟩;go_wp2_with fail
 with_reducible refine (Oa _).mono ?_
 rintro e w2 ⟨rfl,hb2⟩;go_wp2_with fail
 with_reducible refine (Qj1 _).mono ?_
 rintro e _ ⟨rfl,rfl⟩;have hb3:=hb1.trans (hb2.mono hb1.size);clear hb1 hb2;have cG:=Pa 120 (by simp [By]);rw [show Jm3 120=true by decide] at cG;have cC:=Nq 120 (by simp [By]);go_wp2_with fail
 have n0:∀ty,(Instr.next (.pointer (some ⟨w2.heap.size,0,none⟩)) true ty).run prog (w2.iter sX 0)=.ok (.tuple #[.bool true,.int .i64 0,.int .i32 120]) (w2.iter sX 1):=λty=>run_next_ascii w2 sX 0 ty (by decide) (by decide)
 refine wp_loop_rounds 2 ?_;rw [QX];go_wp2_with fail
 have hI:(w2.iter sX 1).heap[w2.heap.size]? =some (.stringIter sX 1):=World.iter_heap _ _ _;have hb3':Below w.heap.size w (w2.iter sX 1):=hb3.alloc hb3.size _;have hs1:w2.heap.size<(w2.iter sX 1).heap.size:=by simp [World.iter]
 clear n0 hb3;generalize w2.iter sX 1=W1 at*;with_reducible refine (cG _).mono ?_
 rintro e _ ⟨rfl,hb4⟩;have hb5:=hb3'.trans (hb4.mono hb3'.size);have hI4:=(hb4.block _ hs1).trans hI;have hs4:=ZI hs1 hb4.size;clear hb3' hb4 hI;go_wp2_with fail
 with_reducible refine (cC _).mono ?_
 rintro e w6 ⟨rfl,hb6⟩;have hb7:=hb5.trans (hb6.mono hb5.size);have hI6:=(hb6.block _ hs4).trans hI4;clear hI4 hb5 hb6;have:∀ty,(Instr.next (.pointer (some ⟨w2.heap.size,0,none⟩)) true ty).run prog w6=.ok (.tuple #[.bool false]) w6:=λty=>by
  simp [Instr.next,getObj,Sem.run,hI6,show ¬(1<sX.size) by decide]
 clear hI6;rw [show Vr9 120=3 by decide];go_wp2_with fail
 rw [QX];go_wp2_with fail
 go_ret
 exact ⟨rfl,hb7⟩
theorem elStr:Ni prog 22 9 (.string ⟨#[]⟩) 1 16:=⟨underlying22,by kernel_rfl,rfl,by decide,by decide⟩
def Cc (n d:Int) (v:Value):List Value:=[.int .i64 n,.int .i64 d,.int .i64 0,.bool false,.bool false,v]
theorem Vo4 {w:World} {b:Nat} {n d n':Int} {v:Value} (h:Bx w b (Cc n d v)):Bx (w.setCell ⟨b,0,none⟩ (.int .i64 n')) b (Cc n' d v):=by have k:=h.set (i:=0) (by simp [Cc]) (.int .i64 n');unfold Cc at k |-;simpa using k
theorem Vn7 {w:World} {b:Nat} {n d d':Int} {v:Value} (h:Bx w b (Cc n d v)):Bx (w.setCell ⟨b,1,none⟩ (.int .i64 d')) b (Cc n d' v):=by have k:=h.set (i:=1) (by simp [Cc]) (.int .i64 d');unfold Cc at k |-;simpa using k
theorem Za9 {w:World} {b:Nat} {n d n' d':Int} {v:Value} (h:Bx w b (Cc n d v)):Bx ((w.setCell ⟨b,0,none⟩ (.int .i64 n')).setCell ⟨b,1,none⟩ (.int .i64 d')) b (Cc n' d' v)∧w.grownBy ((w.setCell ⟨b,0,none⟩ (.int .i64 n')).setCell ⟨b,1,none⟩ (.int .i64 d')) (some b):=
 ⟨Vn7 (Vo4 h),Qv (p:=⟨b,1,none⟩) (Qv (p:=⟨b,0,none⟩) (QN w (some b)) (.inl rfl) _) (.inl rfl) _⟩
theorem Qa5 {w:World} {b:Nat} {n d:Int} {v:Value} (h:Bx w b (Cc n d v)):Bx (w.setCell ⟨b,3,none⟩ (.bool false)) b (Cc n d v)∧w.grownBy (w.setCell ⟨b,3,none⟩ (.bool false)) (some b):=
 ⟨by have k:=h.set (i:=3) (by simp [Cc]) (.bool false);unfold Cc at k |-;simpa using k,Qv (QN _ _) (.inl rfl) _⟩
theorem Qr1 {w:World} {b:Nat} {n d:Int} {v:Value} (h:Bx w b (Cc n d v)):Bx (w.setCell ⟨b,4,none⟩ (.bool false)) b (Cc n d v)∧w.grownBy (w.setCell ⟨b,4,none⟩ (.bool false)) (some b):=
 ⟨by have k:=h.set (i:=4) (by simp [Cc]) (.bool false);unfold Cc at k |-;simpa using k,Qv (QN _ _) (.inl rfl) _⟩
theorem Jf2 {w:World} {b:Nat} {n d:Int} {v:Value} (h:Bx w b (Cc n d v)) (v':Value):Bx (w.setCell ⟨b,5,none⟩ v') b (Cc n d v')∧w.grownBy (w.setCell ⟨b,5,none⟩ v') (some b):=
 ⟨by have k:=h.set (i:=5) (by simp [Cc]) v';unfold Cc at k |-;simpa using k,Qv (QN _ _) (.inl rfl) _⟩
theorem Vw5 (b:Nat) (v:Value) (w:World) (h:Bx w b (Cc 2 1 v)):Calls prog 279 #[.pointer (some ⟨b,0,none⟩),Jt,.int .i64 2] w λe w'=>e=.returned (.bool true)∧Bx w' b (Cc 3 2 v)∧w.grownBy w' (some b):=by
 obtain ⟨x0,x1,x2,x3,x4,x5⟩:=h.c5;have xf:=h.fr;have hl:=h.lt;have H:=Hd h;clear h;have cF:=Jv6;have cN:=Qw9;unfold Jt at cN |-
 unfold Jt Value.inner at cF;go_enter func279,ntmps279
 go_wp2_with fail
 obtain ⟨h2,g2⟩:=Za9 (n':=3) (d':=2) H.out;generalize ((w.setCell ⟨b,0,none⟩ (.int .i64 3)).setCell ⟨b,1,none⟩ (.int .i64 2))=W2 at*;with_reducible refine (cF _).mono ?_
 rintro e w3 ⟨rfl,hb3⟩;have h3:=h2.below hb3;have G3:=Hd (Qa g2 hb3);have H3:=Hd h3;clear hb3 h2 g2 x0 x1 x2 x3 x4 x5 xf hl H cF;obtain ⟨x0,x1,x2,x3,x4,x5⟩:=h3.c5;have xf:=h3.fr;have hl:=h3.lt;clear h3;go_wp2_with fail
 obtain ⟨h4,g4⟩:=Qa5 H3.out;have G4:=Hd (G3.out.trans g4);generalize (w3.setCell ⟨b,3,none⟩ (.bool false))=W4 at*;with_reducible refine (cN _).mono ?_
 rintro e _ ⟨rfl,hb5⟩;have h5:=h4.below hb5;have G5:=Hd (Qa G4.out hb5);have H5:=Hd h5;clear hb5 h4 g4 G4 G3 x0 x1 x2 x3 x4 x5 xf hl H3 cN;obtain ⟨x0,x1,x2,x3,x4,x5⟩:=h5.c5;have xf:=h5.fr;have hl:=h5.lt;clear h5;go_wp2_with fail
 go_ret
 exact ⟨rfl,H5.out,G5.out⟩
theorem Vk2 (b:Nat) (g c be ce:Nat) (w:World) (h:Bx w b (Cc 1 1 (.slice (some ⟨g,0,none⟩) 1 c))) (hC:Cl w g [.string sX]) (hgb:g≠b):Calls prog 279 #[.pointer (some ⟨b,0,none⟩),(Ya be ce),.int .i64 1] w λe w'=>e=.returned (.bool true)∧Bx w' b (Cc 2 1 (.slice (some ⟨g,0,none⟩) 1 c))∧w.grownBy w' (some b)∧Cl w' g [.string sX]:=by
 obtain ⟨x0,x1,x2,x3,x4,x5⟩:=h.c5;have xf:=h.fr;have hl:=h.lt;have H:=Hd h;clear h;have cF:=Zs8 be ce;have cN:=Zr4 be ce;unfold Ya at cN |-
 go_enter func279,ntmps279
 go_wp2_with fail
 obtain ⟨h2,g2⟩:=Za9 (n':=2) (d':=1) H.out;generalize ((w.setCell ⟨b,0,none⟩ (.int .i64 2)).setCell ⟨b,1,none⟩ (.int .i64 1))=W2 at*;with_reducible refine (cF _).mono ?_
 rintro e w3 ⟨rfl,hb3⟩;have h3:=h2.below hb3;have G3:=Hd (Qa g2 hb3);have C3:=(hC.only g2 hgb).go hb3;have H3:=Hd h3;clear hb3 h2 g2 x0 x1 x2 x3 x4 x5 xf hl H cF;obtain ⟨x0,x1,x2,x3,x4,x5⟩:=h3.c5;have xf:=h3.fr;have hl:=h3.lt;clear h3;go_wp2_with fail
 obtain ⟨h4,g4⟩:=Qa5 H3.out;have G4:=Hd (G3.out.trans g4);have C4:=C3.only g4 hgb;generalize (w3.setCell ⟨b,3,none⟩ (.bool false))=W4 at*;with_reducible refine (cN _).mono ?_
 rintro e w5 ⟨rfl,hb5⟩;have h5:=h4.below hb5;have G5:=Hd (Qa G4.out hb5);have C5:=C4.go hb5;have H5:=Hd h5;clear hb5 h4 g4 G4 G3 x0 x1 x2 x3 x4 x5 xf hl H3 cN;obtain ⟨x0,x1,x2,x3,x4,x5⟩:=h5.c5;have xf:=h5.fr;have hl:=h5.lt;clear h5;have cL:=Zq6 w5;go_wp2_with fail
 with_reducible refine cL.mono ?_
 clear cL;rintro e w6 ⟨rfl,hb6⟩;have h6:=H5.out.below hb6;have G6:=Hd (Qa G5.out hb6);have C6:=C5.go hb6;have H6:=Hd h6;clear hb6 H5 G5 x0 x1 x2 x3 x4 x5 xf hl;obtain ⟨x0,x1,x2,x3,x4,x5⟩:=h6.c5;have xf:=h6.fr;have hl:=h6.lt;clear h6;go_wp2_with fail
 obtain ⟨h7,g7⟩:=Qr1 H6.out;have G7:=Hd (G6.out.trans g7);have C7:=C6.only g7 hgb;generalize (w6.setCell ⟨b,4,none⟩ (.bool false))=W7 at*;have H7:=Hd h7;clear x0 x1 x2 x3 x4 x5 xf hl H6 G6 g7;obtain ⟨x0,x1,x2,x3,x4,x5⟩:=h7.c5;have xf:=h7.fr;have hl:=h7.lt;clear h7;have cC:=Zj4 g c W7 C7;go_wp2_with fail
 with_reducible refine cC.mono ?_
 clear cC;rintro e _ ⟨rfl,hb8⟩;have H8:=Hd (H7.out.below hb8);have G8:=Hd (Qa G7.out hb8);have C8:=C7.go hb8;clear hb8 H7 G7 x0 x1 x2 x3 x4 x5 xf hl;go_wp2_with fail
 go_ret
 exact ⟨rfl,H8.out,G8.out,C8⟩
theorem Vy9 (b:Nat) (w:World) (h:Bx w b (Cc 0 0 (.slice none 0 0))):Calls prog 279 #[.pointer (some ⟨b,0,none⟩),Xw,.int .i64 1] w λe w'=>∃g c,e=.returned (.bool true)∧Bx w' b (Cc 1 1 (.slice (some ⟨g,0,none⟩) 1 c))∧w.grownBy w' (some b)∧Cl w' g [.string sX]∧w.heap.size≤g:=by
 obtain ⟨x0,x1,x2,x3,x4,x5⟩:=h.c5;have xf:=h.fr;have hl:=h.lt;have H:=Hd h;clear h;have cF:=Zp2;have cN:=Jv7;unfold Xw at cN |-
 go_enter func279,ntmps279
 go_wp2_with fail
 obtain ⟨h2,g2⟩:=Za9 (n':=1) (d':=1) H.out;generalize ((w.setCell ⟨b,0,none⟩ (.int .i64 1)).setCell ⟨b,1,none⟩ (.int .i64 1))=W2 at*;with_reducible refine (cF _).mono ?_
 rintro e w3 ⟨rfl,hb3⟩;have h3:=h2.below hb3;have G3:=Hd (Qa g2 hb3);have H3:=Hd h3;clear hb3 h2 g2 x0 x1 x2 x3 x4 x5 xf hl H cF;obtain ⟨x0,x1,x2,x3,x4,x5⟩:=h3.c5;have xf:=h3.fr;have hl:=h3.lt;clear h3;go_wp2_with fail
 obtain ⟨h4,g4⟩:=Qa5 H3.out;have G4:=Hd (G3.out.trans g4);generalize (w3.setCell ⟨b,3,none⟩ (.bool false))=W4 at*;with_reducible refine (cN _).mono ?_
 rintro e w5 ⟨rfl,hb5⟩;have h5:=h4.below hb5;have G5:=Hd (Qa G4.out hb5);have H5:=Hd h5;clear hb5 h4 g4 G4 G3 x0 x1 x2 x3 x4 x5 xf hl H3 cN;obtain ⟨x0,x1,x2,x3,x4,x5⟩:=h5.c5;have xf:=h5.fr;have hl:=h5.lt;clear h5;have cL:=Zq6 w5;go_wp2_with fail
 with_reducible refine cL.mono ?_
 clear cL;rintro e w6 ⟨rfl,hb6⟩;have h6:=H5.out.below hb6;have G6:=Hd (Qa G5.out hb6);have H6:=Hd h6;clear hb6 H5 G5 x0 x1 x2 x3 x4 x5 xf hl;obtain ⟨x0,x1,x2,x3,x4,x5⟩:=h6.c5;have xf:=h6.fr;have hl:=h6.lt;clear h6;go_wp2_with fail
 obtain ⟨h7,g7⟩:=Qr1 H6.out;have G7:=Hd (G6.out.trans g7);generalize (w6.setCell ⟨b,4,none⟩ (.bool false))=W7 at*;have H7:=Hd h7;clear x0 x1 x2 x3 x4 x5 xf hl H6 G6 g7;obtain ⟨x0,x1,x2,x3,x4,x5⟩:=h7.c5;have xf:=h7.fr;have hl:=h7.lt;clear h7;have cC:=Qg1 W7;go_wp2_with fail
 with_reducible refine cC.mono ?_
 clear cC;rintro e w8 ⟨rfl,hb8⟩;have h8:=H7.out.below hb8;have H8:=Hd h8;have G8:=Hd (Qa G7.out hb8);clear hb8 H7 G7 x0 x1 x2 x3 x4 x5 xf hl;obtain ⟨x0,x1,x2,x3,x4,x5⟩:=h8.c5;have xf:=h8.fr;have hl:=h8.lt;clear h8;have hal:=(QK w8.heap.size w8).alloc (ZH _) (.cells #[.string sX] 9);have h9:=Hd (H8.out.below hal);have HA:=Hd hal;clear hal;go_wp2_with (at_builtin;refine Ku elStr (w8.alloc (.cells #[.string sX] 9)) rfl (.tmp 79) (.tmp 81) rfl (w8.heap.size+1) none 0 0 [] rfl (QV _ _ _ _) [.string sX] w8.heap.size rfl rfl (cell_one_new _ _ _) (by intro u hu;simp at hu;subst hu;rfl) (by omega) (by simp) ?_;intro A' c' w9 hr9 hb9 hg9;have H9:=Hd (h9.out.under hb9 (by omega));have:=H9.out.cell 5 _ rfl;have:=H9.out.fr;have:=H9.out.lt;have HR9:=Hd hr9;have HB9:=Hd hb9;clear hr9 hb9 hg9)
 obtain ⟨g,rfl,_,hle,hcl⟩:=Xh HR9.out (by omega);obtain ⟨h10,g10⟩:=Jf2 H9.out (.slice (some ⟨g,0,none⟩) 1 c');have hb8:=HA.out.trans (HB9.out.mono (Nat.le_succ _));have hC:Cl (w9.setCell ⟨b,5,none⟩ (.slice (some ⟨g,0,none⟩) 1 c')) g [.string sX]:=Cl.only ⟨hle,λj u hu=>hcl j u (by simpa using hu)⟩ g10 (by omega);go_ret
 exact ⟨g,c',rfl,h10,(Qa G8.out hb8).trans g10,hC,by have:=G8.out.size;omega⟩
