/- Lemmas for wholeNotEmpty; no conditions. -/
import Derived.Test.YtpggdkenajfjjaaGreatDoorGax
import Derived.WalkLawsBesides
import Derived.Recover
import Derived.Defers
set_option linter.all false
set_option maxRecDepth 100000
set_option maxHeartbeats 16000000
namespace Go.Proofs.YtpggdkenajfjjaaGreatDoor
open Go.RowKit Tryz
open Go.Lib renaming hid → Hd
section
open Gn
def gv (e:Int):List PanicEntry:=[{v:=.iface 163 (.agg #[.int .i64 e]),recovered:=false}]
structure Dv (w:World) (br B:Nat) (A:Option Addr) (c:Nat) (b:List Int) (Ap:Option Addr) (cp np:Nat) (n:Int):Prop where
 c0:w.cell? ⟨br,0,none⟩=some (.slice A b.length c)
 c1:w.cell? ⟨br,1,none⟩=some (.slice Ap np cp)
 c2:w.cell? ⟨br,2,none⟩=some (.int .i64 n)
 fz:∀i,w.frozen? ⟨br,i,none⟩=false
 rd:Rd w B .u8 A b.length (Qe b)
 hB:B≤br
 bts:Bts b
 le:b.length≤c
 max:c≤maxLen
 len:b.length≤4194304
theorem Dv.lt {w:World} {br B:Nat} {A:Option Addr} {c:Nat} {b:List Int} {Ap:Option Addr} {cp np:Nat} {n:Int} (h:Dv w br B A c b Ap cp np n):br<w.heap.size:=QO w ⟨br,0,none⟩ h.c0
theorem Dv.go {w w':World} {br B:Nat} {A:Option Addr} {c:Nat} {b:List Int} {Ap:Option Addr} {cp np:Nat} {n:Int} (h:Dv w br B A c b Ap cp np n) (hb:Below w.heap.size w w'):Dv w' br B A c b Ap cp np n:=
 ⟨Qq hb h.c0,Qq hb h.c1,Qq hb h.c2,λi=>(hb.frozen (p:=⟨br,i,none⟩) h.lt).trans (h.fz i),h.rd.below (hb.mono (by have:=h.lt;have:=h.hB;omega)),h.hB,h.bts,h.le,h.max,h.len⟩
theorem Dv.cut {w:World} {br B g off c:Nat} {b:List Int} {Ap:Option Addr} {cp np:Nat} {n:Int} (h:Dv w br B (some ⟨g,off,none⟩) c b Ap cp np n) {k:Nat} (hk:k≤b.length):
 Dv (w.setCell ⟨br,0,none⟩ (.slice (if c=k then some ⟨g,off,none⟩ else some ⟨g,off+k,none⟩) (b.length - k) (c - k))) br B (if c=k then some ⟨g,off,none⟩ else some ⟨g,off+k,none⟩) (c - k) (b.drop k) Ap cp np n:=by
 have hr:=(h.rd.cutList hk h.le).setCell (p:=⟨br,0,none⟩) h.hB (.slice (if c=k then some ⟨g,off,none⟩ else some ⟨g,off+k,none⟩) (b.length - k) (c - k));obtain ⟨c0,c1,c2,fz,rd,hB,bts,le,_,_⟩:=h;refine ⟨by rw [List.length_drop];simp [go_sem,c0],by simp [go_sem,c1],by simp [go_sem,c2],λi=>by simp [go_sem,fz],hr,hB,λx hx=>bts x (List.mem_of_mem_drop hx),by rw [List.length_drop];omega,by omega,by rw [List.length_drop];omega⟩
theorem Yb (p:Value) (x:Int) (w:World):Calls prog 151 #[p,.int .i64 x] w λe w'=>e=.panicked (gv x)∧w=w':=by
 go_enter func151,ntmps151
 go_wp2_with fail
 exact ⟨rfl,rfl,rfl⟩
theorem Kq (br B:Nat) (A:Option Addr) (c:Nat) (b:List Int) (Ap:Option Addr) (cp np:Nat) (n:Int) (k:Nat) (w:World) (h:Dv w br B A c b Ap cp np n) (hk:b.length<k) (hk2:k≤1000000):
 Calls prog 150 #[.pointer (some ⟨br,0,none⟩),.int .i64 k] w λe w'=>e=.panicked (gv 192)∧w=w':=by
 have:=h.c0;have:decide (b.length<k)=true:=ZE hk;have cG:=λW=>Yb (.pointer (some ⟨br,0,none⟩)) 192 W
 clear h;go_enter func150,ntmps150
 go_wp2_with fail
 (with_reducible refine (cG _).mono ?_)
 rintro e w' ⟨rfl,rfl⟩;go_wp2_with fail
 exact ⟨rfl,rfl,rfl⟩
def Vr2 {α:Type} (w:World) (br B:Nat) (Ap:Option Addr) (cp np:Nat) (n:Int) (P:PR α) (val:α->Value) (e:Ending) (w':World):Prop:=
 match P with
 |.bad x=>e=.panicked (gv x)∧w.grownBy w' (some br)
 |.ok v r=>e=.returned (val v)∧(∃A c,Dv w' br B A c r Ap cp np n)∧w.grownBy w' (some br)
theorem Sk (br B:Nat) (A:Option Addr) (c:Nat) (b:List Int) (Ap:Option Addr) (cp np:Nat) (n:Int) (k:Nat) (w:World) (h:Dv w br B A c b Ap cp np n) (hk:k≤b.length) (hk1:1≤k):
 Calls prog 150 #[.pointer (some ⟨br,0,none⟩),.int .i64 k] w λe w'=>e=.returned (.slice A k c)∧(∃A' c',Dv w' br B A' c' (b.drop k) Ap cp np n)∧w.grownBy w' (some br):=by
 obtain ⟨g,off,rfl,_,hcell⟩:=h.rd (by omega);have hcut:=h.cut hk;have hgr:w.grownBy (w.setCell ⟨br,0,none⟩ (.slice (if c=k then some ⟨g,off,none⟩ else some ⟨g,off+k,none⟩) (b.length - k) (c - k))) (some br):=Qv (QN w (some br)) (.inl rfl) _;obtain ⟨_,_,_,fz,rd,_,bts,_,max,_⟩:=h;have:=fz 0;have:decide (b.length<k)=false:=ZA (by omega);have:(0:Int)≤(k:Int):=by omega
 have:(k:Int)≤(c:Int):=by omega
 have:(k:Int)≤(b.length:Int):=by omega
 have:(b.length:Int)≤(c:Int):=by omega
 have:(c:Int)≤9223372036854775807:=by unfold maxLen at max;omega
 by_cases hck:c=k
 focus
  subst hck;have e0:b.length - c=0:=by omega
  rw [ZM rfl,Nat.sub_self,e0] at hcut hgr
 rotate_left
 focus
  rw [ZL hck] at hcut hgr
 all_goals
  have HC:=Hd hcut;have HG:=Hd hgr;clear hcut hgr rd hcell bts;go_enter func150,ntmps150
  go_wp2_with fail
  go_ret
  exact ⟨rfl,⟨_,_,HC.out⟩,HG.out⟩
theorem Co (br B:Nat) (A:Option Addr) (c:Nat) (b:List Int) (Ap:Option Addr) (cp np:Nat) (n:Int) (w:World) (h:Dv w br B A c b Ap cp np n):
 Calls prog 232 #[.pointer (some ⟨br,0,none⟩)] w (Vr2 w br B Ap cp np n (Yc b) λv:Nat=>.int .u64 v):=by
 have:=h.len;have cT:=Jx6 A c b w h.bts (h.rd.more (by have:=h.hB;have:=h.lt;omega)) (by omega);have c0:=h.c0;have cG1:=λW=>Yb (.pointer (some ⟨br,0,none⟩)) 192 W
 have cG2:=λW=>Yb (.pointer (some ⟨br,0,none⟩)) 193 W
 rcases Hr b with he|he|he
 .have hcnt:=Qi7 h.bts he;have HP:=Hd (show Yc b=.ok (Uo b).1 (b.drop (Uo b).2.1) by unfold Yc;rw [ZL (by rw [he];decide),ZL (by rw [he];decide)]);have cK:=Sk br B A c b Ap cp np n (Uo b).2.1 w h hcnt.2.1 hcnt.1;rw [he] at cT;generalize (Uo b).1=v at*;generalize (Uo b).2.1=k at*;clear he h;go_enter func232,ntmps232
  go_wp2_with fail
  (with_reducible refine cT.mono ?_)
  rintro e w' ⟨rfl,rfl⟩;clear cT;go_wp2_with fail
  (with_reducible refine cK.mono ?_)
  clear cK c0;rintro e _ ⟨rfl,⟨_,_,hR⟩,hg⟩;have HR:=Hd hR;have HG:=Hd hg;clear hR hg;go_wp2_with fail
  go_ret
  unfold Vr2;rw [HP.out];exact ⟨rfl,⟨_,_,HR.out⟩,HG.out⟩
 focus
  have HP:=Hd (show Yc b=.bad 192 by unfold Yc;rw [he];rfl);rw [he] at cT;clear he h;go_enter func232,ntmps232
  go_wp2_with fail
  (with_reducible refine cT.mono ?_)
  rintro e w' ⟨rfl,rfl⟩;clear cT;go_wp2_with fail
  (with_reducible refine (cG1 _).mono ?_)
 rotate_left
 focus
  have HP:=Hd (show Yc b=.bad 193 by unfold Yc;rw [he];rfl);rw [he] at cT;clear he h;go_enter func232,ntmps232
  go_wp2_with fail
  (with_reducible refine cT.mono ?_)
  rintro e w' ⟨rfl,rfl⟩;clear cT;go_wp2_with fail
  (with_reducible refine (cG2 _).mono ?_)
 all_goals
  rintro e w' ⟨rfl,rfl⟩;go_wp2_with fail
  refine ⟨rfl,?_⟩;unfold Vr2;rw [HP.out];exact ⟨rfl,QN w _⟩
theorem Jg {w w' w'':World} {row:Option Nat} (h:w.grownBy w' row) (h':w'.grownBy w'' row):w.grownBy w'' row:=
 ⟨h'.os.trans h.os,h'.tape.trans h.tape,h'.output.trans h.output,ZO h.size h'.size,λk hk hne=>(h'.block k (ZI hk h.size) hne).trans (h.block k hk hne)⟩
theorem Sw (br B:Nat) (A:Option Addr) (c:Nat) (b:List Int) (Ap:Option Addr) (cp np:Nat) (n:Int) (lo hi:Int) (w:World) (h:Dv w br B A c b Ap cp np n) (hlo:0≤lo∧lo≤1000000) (hhi:-1000000≤hi∧hi≤1000000):
 Calls prog 152 #[.pointer (some ⟨br,0,none⟩),.int .i64 lo,.int .i64 hi] w (Vr2 w br B Ap cp np n (Uq lo hi b) λv:Nat=>.int .i64 v):=by
 have cN:=Co br B A c b Ap cp np n w h;have cG:=λW=>Yb (.pointer (some ⟨br,0,none⟩)) 194 W
 have HU:Hid (Uq lo hi b=match Yc b with|.bad e=>.bad e|.ok n r=>if hi<lo∨(n:Int)<lo∨hi<(n:Int) then .bad 194 else .ok n r):=Hd rfl;generalize Uq lo hi b=U at*;obtain ⟨_,_⟩:=hlo;obtain ⟨_,_⟩:=hhi;cases hP:Yc b with
 |bad x=>
  rw [hP] at cN HU;clear hP h;go_enter func152,ntmps152
  go_wp2_with fail
  (with_reducible refine cN.mono ?_)
  clear cN;rintro e w2 ⟨rfl,hg⟩;go_wp2_with fail
  refine ⟨rfl,?_⟩;unfold Vr2;rw [HU.out];exact ⟨rfl,hg⟩
 |ok v r=>
  rw [hP] at cN HU;clear hP h;by_cases h1:hi<lo
  .have q1:decide (hi<lo)=true:=ZE h1;have HX:=Hd (show U=.bad 194 by rw [HU.out];exact ZM (.inl h1));clear h1;go_enter func152,ntmps152
   go_wp2_with fail
   (with_reducible refine cN.mono ?_)
   clear cN;rintro e w2 ⟨rfl,hR,hg⟩;have HG:=Hd hg;clear hg hR;go_wp2_with fail
   (with_reducible refine (cG _).mono ?_)
   rintro e w' ⟨rfl,rfl⟩;go_wp2_with fail
   refine ⟨rfl,?_⟩;unfold Vr2;rw [HX.out];exact ⟨rfl,HG.out⟩
  have q1:decide (hi<lo)=false:=ZA h1;have:0≤hi:=by omega
  by_cases h2:(v:Int)<lo
  .have q2:decide ((v:Int)<lo)=true:=ZE h2;have HX:=Hd (show U=.bad 194 by rw [HU.out];exact ZM (.inr (.inl h2)));clear h1 h2;go_enter func152,ntmps152
   go_wp2_with fail
   (with_reducible refine cN.mono ?_)
   clear cN;rintro e w2 ⟨rfl,hR,hg⟩;have HG:=Hd hg;clear hg hR;go_wp2_with fail
   (with_reducible refine (cG _).mono ?_)
   rintro e w' ⟨rfl,rfl⟩;go_wp2_with fail
   refine ⟨rfl,?_⟩;unfold Vr2;rw [HX.out];exact ⟨rfl,HG.out⟩
  have q2:decide ((v:Int)<lo)=false:=ZA h2;by_cases h3:hi<(v:Int)
  .have q3:decide (hi<(v:Int))=true:=ZE h3;have HX:=Hd (show U=.bad 194 by rw [HU.out];exact ZM (.inr (.inr h3)));clear h1 h2 h3;go_enter func152,ntmps152
   go_wp2_with fail
   (with_reducible refine cN.mono ?_)
   clear cN;rintro e w2 ⟨rfl,hR,hg⟩;have HG:=Hd hg;clear hg hR;go_wp2_with fail
   (with_reducible refine (cG _).mono ?_)
   rintro e w' ⟨rfl,rfl⟩;go_wp2_with fail
   refine ⟨rfl,?_⟩;unfold Vr2;rw [HX.out];exact ⟨rfl,HG.out⟩
  have q3:decide (hi<(v:Int))=false:=ZA h3;have HX:=Hd (show U=.ok v r by rw [HU.out];exact ZL (by omega));have:(v:Int)≤1000000:=by omega
  clear h1 h2 h3;go_enter func152,ntmps152
  go_wp2_with fail
  (with_reducible refine cN.mono ?_)
  clear cN;rintro e w2 ⟨rfl,hR,hg⟩;have HG:=Hd hg;have HR:=Hd hR;clear hg hR;go_wp2_with fail
  go_ret
  unfold Vr2;rw [HX.out];exact ⟨rfl,HR.out,HG.out⟩
structure Bk (w:World) (b:Nat) (N:Int) (E:Bool) (v:Value):Prop where
 box:Jy w b N E v
 fz:∀i,w.frozen? ⟨b,i,none⟩=false
theorem Bk.lt {w:World} {b:Nat} {N:Int} {E:Bool} {v:Value} (h:Bk w b N E v):b<w.heap.size:=h.box.lt
theorem Bk.go {w w':World} {b:Nat} {N:Int} {E:Bool} {v:Value} (h:Bk w b N E v) (hb:Below w.heap.size w w'):Bk w' b N E v:=
 ⟨h.box.below hb,λi=>(QU (w:=w) (hb.block _ h.lt)).trans (h.fz i)⟩
theorem Bk.only {w w':World} {b g:Nat} {N:Int} {E:Bool} {v:Value} (h:Bk w b N E v) (hg:w.grownBy w' (some g)) (hne:b≠g):Bk w' b N E v:=
 ⟨h.box.only hg hne,λi=>Jc hg (h.fz i) h.lt hne⟩
theorem Bk.new (w:World) (t:TypeId) (N:Int) (E:Bool) (v:Value):Bk (w.alloc (.cells #[.int .i64 N,.bool E,v] t)) w.heap.size N E v:=
 ⟨Jy.box w t N E v,λi=>by simp [go_sem]⟩
theorem Bk.put {w:World} {b:Nat} {N:Int} {E:Bool} {v:Value} (h:Bk w b N E v) (N':Int) (E':Bool) (v':Value):
 Bk (((w.setCell ⟨b,0,none⟩ (.int .i64 N')).setCell ⟨b,1,none⟩ (.bool E')).setCell ⟨b,2,none⟩ v') b N' E' v'∧w.grownBy (((w.setCell ⟨b,0,none⟩ (.int .i64 N')).setCell ⟨b,1,none⟩ (.bool E')).setCell ⟨b,2,none⟩ v') (some b):=by
 obtain ⟨⟨c0,c1,c2⟩,fz⟩:=h;refine ⟨⟨⟨?_,?_,?_⟩,λi=>?_⟩,?_⟩
 .simp [go_sem,c0,c1,c2]
 .simp [go_sem,c0,c1,c2]
 .simp [go_sem,c0,c1,c2]
 .simp [go_sem,fz]
 have g1:=Qv (p:=⟨b,0,none⟩) (QN w (some b)) (.inl rfl) (.int .i64 N');have g2:=Qv (p:=⟨b,1,none⟩) g1 (.inl rfl) (.bool E');exact Qv (p:=⟨b,2,none⟩) g2 (.inl rfl) v'
theorem Dv.only {w w':World} {br B g:Nat} {A:Option Addr} {c:Nat} {b:List Int} {Ap:Option Addr} {cp np:Nat} {n:Int} (h:Dv w br B A c b Ap cp np n) (hg:w.grownBy w' (some g)) (hne:br≠g) (hB:B≤g):Dv w' br B A c b Ap cp np n:=
 ⟨Qy hg h.c0 hne,Qy hg h.c1 hne,Qy hg h.c2 hne,λi=>Jc hg (h.fz i) h.lt hne,λhn=>by
  obtain ⟨b0,off,e,hb,hc⟩:=h.rd hn;exact ⟨b0,off,e,hb,λi hi=>Qy hg (hc i hi) (by simp;omega)⟩,h.hB,h.bts,h.le,h.max,h.len⟩
theorem Fa {w0 w w':World} {row:Option Nat} {g:Nat} (h:w0.grownBy w row) (hg:w.grownBy w' (some g)) (hn:w0.heap.size≤g):w0.grownBy w' row:=
 ⟨hg.os.trans h.os,hg.tape.trans h.tape,hg.output.trans h.output,ZO h.size hg.size,λk hk hne=>(hg.block k (ZI hk h.size) (λe=>by injection e with e;omega)).trans (h.block k hk hne)⟩
def Ny (w:World) (br B:Nat) (Ap:Option Addr) (cp np:Nat) (n:Int) (P:PR OC) (e:Ending) (w':World):Prop:=
 match P with
 |.bad x=>e=.panicked (gv x)∧w.grownBy w' (some br)
 |.ok o r=>(∃Ao co,e=.returned (.agg #[.int .i64 o.n,.bool o.e,.slice Ao o.m.length co])∧Ow w' w.heap.size 2 .i64 Ao co o.m)∧(∀x∈o.m,Zu x)∧(∃A c,Dv w' br B A c r Ap cp np n)∧w.grownBy w' (some br)
structure OSt (w0 wr:World) (br B:Nat) (Ap:Option Addr) (cp np:Nat) (n:Nat) (b2 bo g:Nat) (M r:List Int):Prop where
 rdr:∃A c,Dv wr br B A c r Ap cp np n
 box:Bk wr bo n false (.slice (some ⟨g,0,none⟩) M.length M.length)
 res:Bk wr b2 0 false (.slice none 0 0)
 row:Ow wr w0.heap.size 2 .i64 (some ⟨g,0,none⟩) M.length M
 grow:w0.grownBy wr (some br)
 lt:br<w0.heap.size
 lt2:w0.heap.size≤b2
 lt3:b2<g
 lt4:g<bo
theorem OSt.go {w0 wr w':World} {br B:Nat} {Ap:Option Addr} {cp np n b2 bo g:Nat} {M r:List Int} (h:OSt w0 wr br B Ap cp np n b2 bo g M r) (hb:Below wr.heap.size wr w'):OSt w0 w' br B Ap cp np n b2 bo g M r:=
 ⟨by obtain ⟨A,c,hr⟩:=h.rdr;exact ⟨A,c,hr.go hb⟩,h.box.go hb,h.res.go hb,h.row.below hb,Qa h.grow hb,h.lt,h.lt2,h.lt3,h.lt4⟩
theorem OSt.read {w0 wr w':World} {br B:Nat} {Ap:Option Addr} {cp np n b2 bo g:Nat} {M r r':List Int} (h:OSt w0 wr br B Ap cp np n b2 bo g M r) (hr:∃A c,Dv w' br B A c r' Ap cp np n) (hg:wr.grownBy w' (some br)):OSt w0 w' br B Ap cp np n b2 bo g M r':=
 ⟨hr,h.box.only hg (by have:=h.lt;have:=h.lt2;have:=h.lt3;have:=h.lt4;omega),h.res.only hg (by have:=h.lt;have:=h.lt2;omega),h.row.other' hg (by have:=h.lt;have:=h.lt2;have:=h.lt3;omega),Jg h.grow hg,h.lt,h.lt2,h.lt3,h.lt4⟩
theorem OSt.set {w0 wr:World} {br B:Nat} {Ap:Option Addr} {cp np n b2 bo g:Nat} {M r:List Int} (h:OSt w0 wr br B Ap cp np n b2 bo g M r) (p:Nat) (v:Int):OSt w0 (wr.setCell ⟨g,p,none⟩ (.int .i64 v)) br B Ap cp np n b2 bo g (M.set p v) r:=by
 have hg:=Qv (p:=⟨g,p,none⟩) (QN wr (some g)) (.inl rfl) (.int .i64 v);have h1:=h.lt;have h2:=h.lt2;have h3:=h.lt3;have h4:=h.lt4;refine ⟨?_,by rw [QJ];exact h.box.only hg (by omega),h.res.only hg (by omega),by have:=h.row.set' p v;rw [QJ];exact this,Qv h.grow (.inr (by simp;omega)) _,h1,h2,h3,h4⟩;obtain ⟨A,c,hr⟩:=h.rdr;obtain ⟨c0,c1,c2,fz,rd,hB,bts,le,max,len⟩:=hr;exact ⟨A,c,Qy hg c0 (by simp;omega),Qy hg c1 (by simp;omega),Qy hg c2 (by simp;omega),λi=>Jc (p:=⟨br,i,none⟩) hg (fz i) (QO wr ⟨br,0,none⟩ c0) (by simp;omega),rd.setCell (by simp;omega) _,hB,bts,le,max,len⟩
namespace Gn
theorem Fu {lo hi:Int} {b:List Int} {n:Nat} {r:List Int} (h:Uq lo hi b=.ok n r):lo≤n∧(n:Int)≤hi:=by
 unfold Uq at h;split at h
 .cases h
 split at h
 .cases h
 injection h with h1 h2;subst h1;omega
theorem Zk8 {b:List Int} {v:Nat} {r:List Int} (hb:Bts b) (h:Yc b=.ok v r):(v:Int)≤18446744073709551615:=by
 unfold Yc at h;split at h
 .cases h
 split at h
 .cases h
 rename_i h1 h2
 injection h with h3 h4;rcases Hr b with he|he|he
 .have:=(Qi7 hb he).2.2.2
  rw [<-h3];exact this
 .exact absurd (by rw [he]) h1
 exact absurd (by rw [he]) h2
end Gn
theorem Jp5 {m:Nat} {M:List Int} {i j:Nat} {v:Int} (h:∀x∈M,Zu x) (hv:Zu v):∀x∈Zb5 m M i j v,Zu x:=by
 intro x hx;unfold Zb5 at hx;rcases List.mem_or_eq_of_mem_set hx with h1|rfl
 .rcases List.mem_or_eq_of_mem_set h1 with h2|rfl
  .exact h x h2
  exact hv
 exact hv
theorem Jw4 {m:Nat}:∀x∈Gj m,Zu x:=by
 intro x hx;unfold Gj mat at hx;simp only [List.mem_map] at hx;obtain ⟨_,_,rfl⟩:=hx;unfold Zu;split<;>omega
theorem Qz6 (br B:Nat) (A:Option Addr) (c:Nat) (b:List Int) (Ap:Option Addr) (cp:Nat) (n:Nat) (w:World) (h:Dv w br B A c b Ap cp (Ze n).length n) (hn:n≤64) (hps:∀X,w.grownBy X (some br)->RdP X X.heap.size Ap (Ze n)) (hok:∀x,Tp n (Ze n) b≠.bad x):
 Calls prog 153 #[.pointer (some ⟨br,0,none⟩)] w (Ny w br B Ap cp (Ze n).length n (Tp n (Ze n) b)):=by
 have HPS:=Hd hps;have HOK:=Hd hok;clear hps hok;have hres:=Bk.new w 32 0 false (.slice none 0 0);have hb1:Below w.heap.size w (w.alloc (.cells #[.int .i64 0,.bool false,.slice none 0 0] 32)):=(QK _ _).alloc (ZH _) _;obtain ⟨w1,hw1⟩:∃w1,w1=w.alloc (.cells #[.int .i64 0,.bool false,.slice none 0 0] 32):=⟨_,rfl⟩;rw [<-hw1] at hres hb1;have h1:=h.go hb1;have hlt:=h.lt;have cG:=λW=>Yb (.pointer (some ⟨br,0,none⟩)) 194 W
 have HB1:=Hd (Qr hb1 (some br));clear h hb1;cases b with
 |nil=>exact (HOK.out 192 rfl).elim
 |cons x r=>
  have cT:Calls prog 150 #[.pointer (some ⟨br,0,none⟩),.int .i64 1] w1 (λe w'=>e=.returned (.slice A 1 c)∧(∃A' c',Dv w' br B A' c' r Ap cp (Ze n).length n)∧w1.grownBy w' (some br)):=Sk br B A c (x::r) Ap cp (Ze n).length n 1 w1 h1 (by simp) (by omega);obtain ⟨hx0,hx1⟩:=h1.bts x List.mem_cons_self;obtain ⟨g0,off,rfl,hg0,hc0⟩:=h1.rd (by simp);have hxc:w1.cell? ⟨g0,off,none⟩=some (.int .u8 x):=by have:=hc0 0 (by simp);rwa [Nat.add_zero] at this
  have hgb:g0≠br:=by have:=h1.hB;omega
  obtain ⟨PP,hPP⟩:∃PP,PP=Tp n (Ze n) (x::r):=⟨_,rfl⟩;have HNB:Hid (∀x,PP≠.bad x):=Hd (by rw [hPP];exact HOK.out);rw [<-hPP];have HP:=Hd hPP;clear hPP;clear h1 hc0;by_cases hx:1<x
  .have q0:decide (1<x)=true:=ZE hx;have HX:=Hd (show PP=.bad 194 by rw [HP.out,Jj5 hx]);exact (HNB.out _ HX.out).elim
  have q0:decide (1<x)=false:=ZA hx;by_cases hz:x=0
  .subst hz;have HX:=Hd (show PP=.ok ⟨n,true,[]⟩ r by rw [HP.out,Zd4]);clear HP hx;go_enter func153,ntmps153
   go_wp2_with fail
   rw [<-hw1];clear hw1
   (with_reducible refine cT.mono ?_)
   clear cT;rintro e w2 ⟨rfl,hR,hg⟩;have m0:=Qy hg hxc (by simp;omega);have hres2:=hres.only hg (by omega);have hG:=Jg HB1.out hg;obtain ⟨A2,c2,hR2⟩:=hR;have m2:=hR2.c2;obtain ⟨⟨d0,d1,d2⟩,df⟩:=id hres2;have f0:=df 0;have f1:=df 1;have f2:=df 2;clear hg;go_wp2_with fail
   obtain ⟨hput,hpg⟩:=hres2.put n true (.slice none 0 0);obtain ⟨⟨s0,s1,s2⟩,_⟩:=id hput;have HG:=Hd (Qv (p:=⟨w.heap.size,2,none⟩) (Qv (p:=⟨w.heap.size,1,none⟩) (Qv (p:=⟨w.heap.size,0,none⟩) hG (.inr (ZH _)) (.int .i64 n)) (.inr (ZH _)) (.bool true)) (.inr (ZH _)) (.slice none 0 0));have HR:=Hd (hR2.only hpg (by omega) (by have:=hR2.hB;omega));refine QL (v:=.agg #[.int .i64 n,.bool true,.slice none 0 0]) (by simp [results,results153,go_sem,s0,s1,s2]) rfl ?_;unfold Ny;rw [HX.out];exact ⟨⟨none,0,rfl,Ow.nil _ _ _ _⟩,(λx hx=>by cases hx),⟨_,_,HR.out⟩,HG.out⟩
  obtain rfl:x=1:=by omega
  have HP2:Hid ((∀x,Uq 0 ((Ze n).length:Int) r=.bad x->PP=.bad x)∧(∀k r',Uq 0 ((Ze n).length:Int) r=.ok k r'->PP=Ju3 n (Ua n (Ze n) k 0 (Gj (2*n)) r'))):=
   Hd ⟨λx hx=>by rw [HP.out,Qc6 hx],λk r' hx=>by rw [HP.out,Qn9 hx]⟩
  have cD:=λW=>Qe7 n W hn
  have hpl:=Su hn;have HM:Hid (∀k,k<(Ze n).length->Tz (Ze n) k<2*n∧Tw (Ze n) k<2*n):=Hd (λk hk=>by
   have:=Qw2.1 (Qi4 hk)
   exact ⟨this.1,this.2.1⟩)
  clear hx hz HP q0;have HT0:Hid ((Gj (2*n)).length=(2*n)*(2*n)):=Hd (Qo2 _);have HTI:Hid (∀x∈Gj (2*n),Zu x):=Hd Jw4;obtain ⟨ps,hps⟩:∃ps,ps=Ze n:=⟨_,rfl⟩;rw [<-hps] at cT HP2 hpl HM HPS |-
  clear hps;go_enter func153,ntmps153
  go_wp2_with fail
  rw [<-hw1];clear hw1
  (with_reducible refine cT.mono ?_)
  clear cT;rintro e w2 ⟨rfl,hR,hg⟩;have m0:=Qy hg hxc (by simp;omega);have hres2:=hres.only hg (by omega);have hG:=Jg HB1.out hg;obtain ⟨A2,c2,hR2⟩:=hR;have m2:=hR2.c2;have hs2:w.heap.size<w2.heap.size:=hres2.lt;clear hg hxc hres;go_wp2_with fail
  (with_reducible refine (cD _).mono ?_)
  clear cD m0 m2;rintro e w3 ⟨g,M,hM,rfl,hrow,hb3⟩;have HM0:=Hd hM;clear hM;have hR3:=hR2.go hb3;have hres3:=hres2.go hb3;have hG3:=Qa hG hb3;have hgg:=hrow.blockGe;clear hb3 hR2 hres2 hG;have hbox:=Bk.new w3 32 n false (.slice (some ⟨g,0,none⟩) M.length M.length);have hb4:Below w3.heap.size w3 (w3.alloc (.cells #[.int .i64 n,.bool false,.slice (some ⟨g,0,none⟩) M.length M.length] 32)):=(QK _ _).alloc (ZH _) _;obtain ⟨w4,hw4⟩:∃w4,w4=w3.alloc (.cells #[.int .i64 n,.bool false,.slice (some ⟨g,0,none⟩) M.length M.length] 32):=⟨_,rfl⟩;rw [<-hw4] at hbox hb4;have hS:OSt w w4 br B Ap cp ps.length n w.heap.size w3.heap.size g M r:=⟨⟨_,_,hR3.go hb4⟩,hbox,hres3.go hb4,(hrow.below hb4).lower (by omega),Qa hG3 hb4,hlt,ZH _,by omega,hgg.2⟩;have hR4:=hR3.go hb4;have k1:=hR4.c1;clear hR3 hres3 hG3 hbox hb4 hrow;have cU:=Sw br B A2 c2 r Ap cp ps.length n 0 ps.length w4 hR4 (by omega) (by omega);rw [hw4] at k1;clear hs2 hgg;go_wp2_with fail
  rw [<-hw4];clear hw4 k1;generalize w3.heap.size=bo at*;cases hU:Uq 0 (ps.length:Int) r with
  |bad x=>
   have HX:=Hd (HP2.out.1 x hU);rw [hU] at cU;clear hU
   (with_reducible refine cU.mono ?_)
   clear cU;rintro e w5 ⟨rfl,hg5⟩;have HG:=Hd (Jg hS.grow hg5);clear hg5;go_wp2_with fail
   refine ⟨rfl,?_⟩;unfold Ny;rw [HX.out];exact ⟨rfl,HG.out⟩
  |ok k r0=>
   have hk:k≤ps.length:=by have:=(Fu hU).2;omega
   have HP3:=Hd (HP2.out.2 k r0 hU);rw [hU] at cU;clear hU
   (with_reducible refine cU.mono ?_)
   clear cU;rintro e w5 ⟨rfl,hR5,hg5⟩;have hS5:=hS.read hR5 hg5;clear hS hR5 hg5 hR4;obtain ⟨PT,hPT⟩:∃PT,PT=Ua n ps k 0 (Gj (2*n)) r0:=⟨_,rfl⟩;rw [<-hPT] at HP3;have HPT:=Hd (show Ua n ps (k - 0) 0 M r0=PT by rw [hPT,HM0.out];rfl);have HML:=Hd (show M.length=(2*n)*(2*n) by rw [HM0.out];exact HT0.out);have HMI:=Hd (show ∀x∈M,Zu x by rw [HM0.out];exact HTI.out);clear hPT HP2;go_wp2_with fail
   go_loopw [6,40] (λs6 s40 wr=>∃i:Nat,s40=.int .i64 i∧i≤k∧∃nx:Nat,s6=.int .i64 ((nx:Int) - 1)∧nx≤ps.length∧∃M r,Hid (Ua n ps (k - i) nx M r=PT)∧Hid (M.length=(2*n)*(2*n))∧Hid (∀x∈M,Zu x)∧OSt w wr br B Ap cp ps.length n w.heap.size bo g M r) (λ_ s _=>k - (intOf s).toNat)
   case atStart=>exact ⟨0,rfl,by omega,0,rfl,by omega,M,r0,HPT,HML,HMI,hS5⟩
   clear hS5 HM0 HPT HML HMI;obtain ⟨i,rfl,hi,nx,rfl,hnx,M,r,HPT,HML,HMI,hS⟩:=hrel;rename_i wr _
   rcases ZJ i k with hlt2|hge
   .have q0:decide (i<k)=true:=ZE hlt2;obtain ⟨A5,c5,hR⟩:=hS.rdr;have k1:=hR.c1;have HPS2:Hid (PT=Pe n ps (k - i - 1) (Kt n ps nx M r)):=Hd (by rw [<-HPT.out,<-Qg4,show k - i - 1+1=k - i by omega]);have e1:(ps.length:Int) - (nx:Int) - 1=(ps.length:Int) - ((nx:Int) - 1) - 2:=by omega
    have cU:Calls prog 152 #[.pointer (some ⟨br,0,none⟩),.int .i64 0,.int .i64 ((ps.length:Int) - ((nx:Int) - 1) - 2)] wr (Vr2 wr br B Ap cp ps.length n (Uq 0 ((ps.length:Int) - (nx:Int) - 1) r) λv:Nat=>.int .i64 v):=by
     rw [<-e1];exact Sw br B A5 c5 r Ap cp ps.length n 0 _ wr hR (by omega) (by omega)
    clear e1 hR HPT;go_wp2_with fail
    cases hU:Uq 0 ((ps.length:Int) - (nx:Int) - 1) r with
    |bad x=>
     have HX:=Hd (show PP=.bad x by rw [HP3.out,HPS2.out,Ql1 hU];rfl);exact (HNB.out _ HX.out).elim
    |ok gp r1=>
     have hgp:nx+gp<ps.length:=by have:=(Fu hU).2;omega
     have HU:=Hd hU;rw [hU] at cU;clear hU
     (with_reducible refine cU.mono ?_)
     clear cU k1;rintro e w5 ⟨rfl,hR5,hg5⟩;have hS5:=hS.read hR5 hg5;clear hS hR5 hg5;obtain ⟨A6,c6,hR6⟩:=hS5.rdr;have cN:=Co br B A6 c6 r1 Ap cp ps.length n w5 hR6;have hbt:=hR6.bts;clear hR6;go_wp2_with fail
     cases hV:Yc r1 with
     |bad x=>
      have HX:=Hd (show PP=.bad x by rw [HP3.out,HPS2.out,Qn6 HU.out hV];rfl);exact (HNB.out _ HX.out).elim
     |ok v r2=>
      have hv:=Zk8 hbt hV;have HVV:=Hd hV;rw [hV] at cN;clear hV
      (with_reducible refine cN.mono ?_)
      clear cN;rintro e w6 ⟨rfl,hR6,hg6⟩;have hS6:=hS5.read hR6 hg6;clear hS5 hR6 hg6;have cF:=λW=>Zd9 (v:Int) W (by omega) hv
      have huI:Zu (Xx (v:Int)):=by unfold Xx Zu;split<;>omega
      obtain ⟨u,hu⟩:∃u,u=Xx (v:Int):=⟨_,rfl⟩;have HUU:=Hd hu;rw [<-hu] at cF huI;clear hu;have cI:=λW=>Oe u W
      go_wp2_with fail
      (with_reducible refine (cF _).mono ?_)
      clear cF;rintro e w' ⟨rfl,rfl⟩;by_cases hinf:u=9223372036854775807
      .have q5:(u==9223372036854775807)=true:=beq_iff_eq.2 hinf;have HX:=Hd (show PP=.bad 194 by rw [HP3.out,HPS2.out,Iu HU.out HVV.out (.inl (by rw [<-HUU.out];exact hinf))];rfl);exact (HNB.out _ HX.out).elim
      have q5:(u==9223372036854775807)=false:=beq_eq_false_iff_ne.2 hinf;by_cases hib:Hl u
      .have HX:=Hd (show PT=Ua n ps (k - i - 1) (nx+gp+1) (Zb5 (2*n) M (Tz ps (nx+gp)) (Tw ps (nx+gp)) u) r2 by rw [HPS2.out,Zp3 HU.out HVV.out (by rw [<-HUU.out];exact λx=>x.elim hinf (λy=>y hib)),<-HUU.out];rfl);have cB:∀W,Calls prog 73 #[.int .i64 u] W λe w'=>e=.returned (.bool true)∧W=w':=λW=>by have:=cI W;rwa [hib] at this
       obtain ⟨hi1,hj1⟩:=HM.out (nx+gp) hgp;have hbS:=hS6.grow;have hps6:=HPS.out w6 hbS;obtain ⟨gq,oq,hAp,hgq,hcq⟩:=hps6 (by omega);obtain ⟨p0,p1⟩:=hcq (nx+gp) hgp;clear hcq hps6 hbS hib hinf cI;obtain ⟨ii,hii⟩:∃ii,ii=Tz ps (nx+gp):=⟨_,rfl⟩;obtain ⟨jj,hjj⟩:∃jj,jj=Tw ps (nx+gp):=⟨_,rfl⟩;rw [<-hii] at p0 hi1 HX;rw [<-hjj] at p1 hj1 HX;clear hii hjj;obtain ⟨A7,c7,hR7⟩:=hS6.rdr;have k1:=hR7.c1;rw [hAp] at k1;clear hAp;have cMi:=λW=>Hp ii jj W (by omega) (by omega)
       have a0:=Qz.cell k1;have a1:=Qz.cell p0;have a2:=Qz.cell p1;have q6:(0:Int)≤((nx:Int) - 1)+(1+(gp:Int)):=by omega
       have q7:((nx:Int) - 1)+(1+(gp:Int))<(ps.length:Int):=by omega
       have q8:(((nx:Int) - 1)+(1+(gp:Int))).toNat=nx+gp:=by omega
       clear hR7;go_wp2_with fail
       (with_reducible refine (cB _).mono ?_)
       clear cB;rintro e w' ⟨rfl,rfl⟩;go_wp2_with fail
       refine Qk (by kernel_rfl) (by kernel_rfl) ?_
       repeat (go_big_quiet_step ((go_at_call 234;with_reducible exact Qd (cMi _))))
       refine wpQuiet_nil ?_;intro w7 hb7;have hS7:=hS6.go hb7;clear hb7 a0 a1 a2 k1 p0 p1 q6 q7 q8 cMi hS6;have i0:∀(p q r s:Int) (W:World),(Instr.index 319 (.agg #[.int .i64 p,.int .i64 q,.int .i64 r,.int .i64 s]) (.int .i64 0)).run prog W=.ok (.agg #[.int .i64 p,.int .i64 q]) W:=λ_ _ _ _ _=>by kernel_rfl
       have i1:∀(p q r s:Int) (W:World),(Instr.index 319 (.agg #[.int .i64 p,.int .i64 q,.int .i64 r,.int .i64 s]) (.int .i64 1)).run prog W=.ok (.agg #[.int .i64 r,.int .i64 s]) W:=λ_ _ _ _ _=>by kernel_rfl
       have hi2:=Qg hi1;have hj2:=Qg hj1;go_wp2_with fail
       go_loopw [83] (λs83 wq=>∃q:Nat,s83=.int .i64 q∧q≤2∧∃X:List Int,Hid ((q=0->X=M)∧(q=1->X=M.set (ii*(2*n)+jj) u)∧(q=2->X=Zb5 (2*n) M ii jj u))∧Hid (X.length=(2*n)*(2*n))∧OSt w wq br B Ap cp ps.length n w.heap.size bo g X r2) (λs _=>2 - (intOf s).toNat)
       case atStart=>exact ⟨0,rfl,by omega,M,Hd ⟨λ_=>rfl,λh=>by omega,λh=>by omega⟩,HML,hS7⟩
       clear hS7;obtain ⟨q,rfl,hq,X,HXQ,HXL,hSq⟩:=hrel;have hq3:q=0∨q=1∨q=2:=by omega
       rcases hq3 with hq0|hq1|hq2
       .have hpx:ii*(2*n)+jj<X.length:=by rw [HXL.out];exact Zy hi1 hj1
        have ei:2*(n:Int)*((ii:Nat):Int)=((ii*(2*n):Nat):Int):=by push_cast;rw [Int.mul_comm]
        have hmm:=QA (show ii≤128 by have:=hi1;omega) (show 2*n≤128 by omega);have hj128:jj≤128:=by have:=hj1;omega
        subst hq0;have HSET:Hid (X.set (ii*(2*n)+jj) u=M.set (ii*(2*n)+jj) u):=Hd (by rw [HXQ.out.1 rfl]);have HSL:=Hd (show (X.set (ii*(2*n)+jj) u).length=(2*n)*(2*n) by rw [QJ];exact HXL.out);have hb9:Below wr.heap.size wr (wr.alloc (.cells #[.int .i64 ((ii:Nat):Int),.int .i64 ((jj:Nat):Int)] 248)):=(QK _ _).alloc (ZH _) _;have hbx:=Re.new wr 248 ((ii:Nat):Int) ((jj:Nat):Int);have hS9:=hSq.go hb9;obtain ⟨w9,hw9⟩:∃w9,w9=wr.alloc (.cells #[.int .i64 ((ii:Nat):Int),.int .i64 ((jj:Nat):Int)] 248):=⟨_,rfl⟩;rw [<-hw9] at hbx hS9;obtain ⟨j0,j1,_⟩:=id hbx;obtain ⟨d0,d1,d2⟩:=hS9.box.box;obtain ⟨A9,c9,hR9⟩:=hS9.rdr;have r2c:=hR9.c2;have HS9:=Hd hS9;clear hb9 hbx hSq hS9 hR9 cG;have a0:=Qz.cell j0;have a1:=Qz.cell j1;have a2:=Qz.cell d2;have a3:=Qz.cell r2c;generalize ii*(2*n)=pp at*;generalize jj=jx at*;generalize ii=ix at*;go_upto_region 17 with fail
        rw [<-hw9];clear hw9;refine Qb [(15,1)] (by kernel_rfl) (by kernel_rfl) ?_;simp only [Jl,ZP,ZQ,ZR,ZT]
        repeat (go_big_quiet_step (fail))
        refine wpQuiet_nil ?_;intro w10 hb10;have hS10:=HS9.out.go hb10;have hc10:=hS10.row.cellAt hpx;have hf10:=hS10.row.frozenAt (pp+jx);have HS11:=Hd (hS10.set (pp+jx) u);clear hb10 a0 a1 a2 a3 j0 j1 d0 d1 d2 r2c hS10;go_wp2_with fail
        refine Qu (wpQuiet_nil ?_);intro w11 hb11;have HS12:=Hd (HS11.out.go hb11);clear hb11 hc10 hf10;go_wp2_with fail
        go_roundw
        case rel=>exact ⟨1,by go_num,by omega,X.set (pp+jx) u,Hd ⟨λh=>by omega,λh=>HSET.out,λh=>by omega⟩,HSL,HS12.out⟩
        simp [intOf]
       .have hpx:ac jj*(2*n)+ac ii<X.length:=by rw [HXL.out];exact Zy hj2 hi2
        have ei:2*(n:Int)*((ac jj:Nat):Int)=((ac jj*(2*n):Nat):Int):=by push_cast;rw [Int.mul_comm]
        have hmm:=QA (show ac jj≤128 by have:=hj2;omega) (show 2*n≤128 by omega);have hj128:ac ii≤128:=by have:=hi2;omega
        subst hq1;have HSET:Hid (X.set (ac jj*(2*n)+ac ii) u=Zb5 (2*n) M ii jj u):=Hd (by rw [HXQ.out.2.1 rfl];rfl);have HSL:=Hd (show (X.set (ac jj*(2*n)+ac ii) u).length=(2*n)*(2*n) by rw [QJ];exact HXL.out);have hb9:Below wr.heap.size wr (wr.alloc (.cells #[.int .i64 ((ac jj:Nat):Int),.int .i64 ((ac ii:Nat):Int)] 248)):=(QK _ _).alloc (ZH _) _;have hbx:=Re.new wr 248 ((ac jj:Nat):Int) ((ac ii:Nat):Int);have hS9:=hSq.go hb9;obtain ⟨w9,hw9⟩:∃w9,w9=wr.alloc (.cells #[.int .i64 ((ac jj:Nat):Int),.int .i64 ((ac ii:Nat):Int)] 248):=⟨_,rfl⟩;rw [<-hw9] at hbx hS9;obtain ⟨j0,j1,_⟩:=id hbx;obtain ⟨d0,d1,d2⟩:=hS9.box.box;obtain ⟨A9,c9,hR9⟩:=hS9.rdr;have r2c:=hR9.c2;have HS9:=Hd hS9;clear hb9 hbx hSq hS9 hR9 cG;have a0:=Qz.cell j0;have a1:=Qz.cell j1;have a2:=Qz.cell d2;have a3:=Qz.cell r2c;generalize ac jj*(2*n)=pp at*;generalize ac ii=jx at*;generalize ac jj=ix at*;go_upto_region 17 with fail
        rw [<-hw9];clear hw9;refine Qb [(15,1)] (by kernel_rfl) (by kernel_rfl) ?_;simp only [Jl,ZP,ZQ,ZR,ZT]
        repeat (go_big_quiet_step (fail))
        refine wpQuiet_nil ?_;intro w10 hb10;have hS10:=HS9.out.go hb10;have hc10:=hS10.row.cellAt hpx;have hf10:=hS10.row.frozenAt (pp+jx);have HS11:=Hd (hS10.set (pp+jx) u);clear hb10 a0 a1 a2 a3 j0 j1 d0 d1 d2 r2c hS10;go_wp2_with fail
        refine Qu (wpQuiet_nil ?_);intro w11 hb11;have HS12:=Hd (HS11.out.go hb11);clear hb11 hc10 hf10;go_wp2_with fail
        go_roundw
        case rel=>exact ⟨2,by go_num,by omega,X.set (pp+jx) u,Hd ⟨λh=>by omega,λh=>by omega,λh=>HSET.out⟩,HSL,HS12.out⟩
        simp [intOf]
       subst hq2;have hXX:=HXQ.out.2.2 rfl;have HFIN:=Hd (show Ua n ps (k - (i+1)) (nx+gp+1) X r2=PT by rw [HX.out,hXX,show k - (i+1)=k - i - 1 by omega]);have HXI:=Hd (show ∀x∈X,Zu x by rw [hXX];exact Jp5 HMI.out huI);have HSQ:=Hd hSq;clear hXX hSq i0 i1;go_wp2_with fail
       go_roundw
       case rel=>exact ⟨i+1,by go_num,by omega,nx+gp+1,by congr 1;push_cast;omega,by omega,X,r2,HFIN,HXL,HXI,HSQ.out⟩
       simp [intOf];omega
      have HX:=Hd (show PP=.bad 194 by rw [HP3.out,HPS2.out,Iu HU.out HVV.out (.inr (by rw [<-HUU.out];exact hib))];rfl);exact (HNB.out _ HX.out).elim
   obtain rfl:i=k:=by omega
   have q0:decide (i<i)=false:=by simp
   have HX:=Hd (show PP=.ok ⟨n,false,M⟩ r by rw [HP3.out,<-HPT.out,Nat.sub_self];rfl);obtain ⟨d0,d1,d2⟩:=hS.box.box;obtain ⟨⟨e0,e1,e2⟩,ef⟩:=id hS.res;have f0:=ef 0;have f1:=ef 1;have f2:=ef 2;clear hge hi HPT;go_wp2_with fail
   obtain ⟨hput,hpg⟩:=hS.res.put n false (.slice (some ⟨g,0,none⟩) M.length M.length);obtain ⟨⟨s0,s1,s2⟩,_⟩:=id hput;have HR:Hid (∃A c,Dv _ br B A c r Ap cp ps.length n):=Hd (by obtain ⟨A9,c9,hR9⟩:=hS.rdr;exact ⟨A9,c9,hR9.only hpg (by omega) (by have:=hR9.hB;omega)⟩);have HG:=Hd (Fa hS.grow hpg (ZH _));have HO:=Hd (hS.row.other' hpg (by have:=hS.lt3;omega));refine QL (v:=.agg #[.int .i64 n,.bool false,.slice (some ⟨g,0,none⟩) M.length M.length]) (by simp [results,results153,go_sem,s0,s1,s2]) rfl ?_;unfold Ny;rw [HX.out];exact ⟨⟨_,_,rfl,HO.out⟩,HMI.out,HR.out,HG.out⟩
theorem Ot (A A':Option Addr) (c c':Nat) (xs ys:List Int) (w:World) (hx:Rd w w.heap.size .u8 A xs.length (Qe xs)) (hy:Rd w w.heap.size .u8 A' ys.length (Qe ys)) (hm:(xs.length:Int)≤9223372036854775807) (hm':(ys.length:Int)≤9223372036854775807):
 Calls prog 149 #[.slice A xs.length c,.slice A' ys.length c'] w λe w'=>e=.returned (.bool (decide (xs=ys)))∧Below w.heap.size w w':=by
 by_cases hl:xs.length=ys.length
 .have hl':((xs.length:Int)!=ys.length)=false:=bne_eq_false_iff_eq.2 (by omega);have HL:=Hd hl;clear hl;go_enter func149,ntmps149
  go_wp2_with fail
  go_loopw [13] (λs wr=>∃i:Nat,s=.int .i64 i∧i≤xs.length∧(∀k,k<i->Qe xs k=Qe ys k)∧Below w.heap.size w wr) (λs _=>xs.length - (intOf s).toNat)
  case atStart=>exact ⟨0,rfl,by omega,λ_ h=>absurd h (by omega),QK _ _⟩
  obtain ⟨i,rfl,hi,hk,hB⟩:=hrel;rename_i wr _
  have HK:=Hd hk;clear hk;rcases ZJ i xs.length with hlt|hge
  .have hlt2:i<ys.length:=by rw [<-HL.out];exact hlt
   have hxr:=hx.below hB;have hyr:=hy.below hB;obtain ⟨g,off,rfl,hg,hc⟩:=hxr (by omega);obtain ⟨g',off',rfl,hg',hc'⟩:=hyr (by omega);have k1:=hc i hlt;have k2:=hc' i hlt2;obtain ⟨v,hv0⟩:∃v,v=Qe xs i:=⟨_,rfl⟩;obtain ⟨v',hv1⟩:∃v,v=Qe ys i:=⟨_,rfl⟩;rw [<-hv0] at k1;rw [<-hv1] at k2;have HX:=Hd (show (v=v'->Qe xs i=Qe ys i)∧(v≠v'->xs≠ys) from ⟨λh=>by rw [<-hv0,<-hv1,h],λh e=>h (by rw [hv0,hv1,e])⟩);clear hv0 hv1;clear hx hy hxr hyr hc hc';have a1:=Qz.cell k1;have a2:=Qz.cell k2;have q1:(i:Int)<(xs.length:Int):=by omega
   have q2:(i:Int)<(ys.length:Int):=by omega
   have q3:(0:Int)≤(i:Int):=by omega
   have HB:=Hd hB;clear hB;by_cases hv:v=v'
   .have hb:(v !=v')=false:=bne_eq_false_iff_eq.2 hv;have HV:=Hd hv;clear hv;go_wp2_with fail
    refine Qk (by kernel_rfl) (by kernel_rfl) ?_
    repeat (go_big_quiet_step (fail))
    refine wpQuiet_nil ?_;intro w2 hb2;have HB2:=Ht HB hb2;clear hb2 a1 a2;go_wp2_with fail
    go_roundw
    case rel=>exact ⟨i+1,by go_num,by omega,λk h=>by
     rcases ZJ k i with h1|h1
     .exact HK.out k h1
     obtain rfl:k=i:=by omega
     exact HX.out.1 HV.out,HB2.out⟩
    simp [intOf];omega
   have hb:(v !=v')=true:=bne_iff_ne.2 hv;have HV:=Hd hv;clear hv;go_wp2_with fail
   refine Qk (by kernel_rfl) (by kernel_rfl) ?_
   repeat (go_big_quiet_step (fail))
   refine wpQuiet_nil ?_;intro w2 hb2;have HB2:=Ht HB hb2;clear hb2 a1 a2;go_wp2_with fail
   go_ret
   rw [show decide (xs=ys)=false from ZA (HX.out.2 HV.out)];exact ⟨rfl,HB2.out⟩
  have e:xs=ys:=Nm HL.out (λk h=>HK.out k (by omega));have hd:decide (xs=ys)=true:=ZE e;have HD:=Hd hd;clear e hd;go_wp2_with fail
  go_ret
  rw [HD.out];exact ⟨rfl,hB⟩
 .have hl':((xs.length:Int)!=ys.length)=true:=bne_iff_ne.2 (by omega);rw [show decide (xs=ys)=false from ZA (λh=>hl (by rw [h]))];clear hl;go_enter func149,ntmps149
  go_wp2_with fail
  go_ret
  exact ⟨rfl,QK _ _⟩
namespace Gn
theorem Qu9 (b:List Int) (x:Int):Ws (b++[x])=Ws b*256+x:=by unfold Ws;rw [List.foldl_append];rfl
theorem Zq3 {b:List Int} (hb:Bts b):∀k,k≤8->0≤Ws (b.take k)∧Ws (b.take k)<256 ^ k:=by
 intro k;induction k with
 |zero=>intro _;simp [Ws]
 |succ k ih=>
  intro hk;obtain ⟨h0,_⟩:=ih (by omega);by_cases h:k<b.length
  .rw [Qp2 h,Qu9];obtain ⟨_,_⟩:=hb _ (Ub h);generalize Ws (b.take k)=d at*;rw [Int.pow_succ];omega
  have e:b.take (k+1)=b.take k:=by rw [List.take_of_length_le (by omega),List.take_of_length_le (by omega)]
  rw [e];refine ⟨h0,?_⟩;generalize Ws (b.take k)=d at*;rw [Int.pow_succ];omega
theorem Vf8 {d x:Int} (hd:0≤d) (hd2:d<256 ^ 7) (hx0:0≤x) (hx:x≤255):bits .or .u64 (d*256) x=d*256+x:=by
 obtain ⟨m,rfl⟩:=ZV hd;obtain ⟨y,rfl⟩:=ZV hx0;have e:(m:Int)*256=((2 ^ 8*m:Nat):Int):=by rw [Int.mul_comm];exact (Int.natCast_mul 256 m).symm
 rw [e,u64_or_nat _ _ (by omega) (by omega),<-Nat.two_pow_add_eq_or_of_lt (show y<2 ^ 8 by omega)];exact Int.natCast_add _ _
end Gn
def Rc (w:World) (br:Nat) (P:PR (Int×Int×List OC)) (e:Ending) (w':World):Prop:=
 match P with
 |.bad x=>e=.panicked (gv x)∧w.grownBy w' (some br)
 |.ok v _=>(∃Ao co,∃rs:List OR,e=.returned (.agg #[.int .u64 v.1,.int .i64 v.2.1,.slice Ao rs.length co])∧Yw w' w.heap.size Ao co rs∧rs.map OR.oc=v.2.2)∧w.grownBy w' (some br)
theorem Jb.only {w w':World} {b g:Nat} {D N:Int} {v:Value} (h:Jb w b D N v) (hg:w.grownBy w' (some g)) (hne:b≠g):Jb w' b D N v:=
 ⟨⟨Qy hg h.at'.c0 hne,Qy hg h.at'.c1 hne,Qy hg h.at'.c2 hne⟩,λi=>Jc hg (h.fz i) h.at'.lt hne⟩
theorem Jb.setD {w:World} {b:Nat} {D N:Int} {v:Value} (h:Jb w b D N v) (D':Int):Jb (w.setCell ⟨b,0,none⟩ (.int .u64 D')) b D' N v:=by
 obtain ⟨⟨c0,c1,c2⟩,fz⟩:=h;exact ⟨⟨by simp [go_sem,c0],by simp [go_sem,c1],by simp [go_sem,c2]⟩,λi=>by simp [go_sem,fz]⟩
theorem Jb.setN {w:World} {b:Nat} {D N:Int} {v:Value} (h:Jb w b D N v) (N':Int):Jb (w.setCell ⟨b,1,none⟩ (.int .i64 N')) b D N' v:=by
 obtain ⟨⟨c0,c1,c2⟩,fz⟩:=h;exact ⟨⟨by simp [go_sem,c0],by simp [go_sem,c1],by simp [go_sem,c2]⟩,λi=>by simp [go_sem,fz]⟩
theorem Js5 {w w':World} {B br n:Nat} {k:IntKind} {A:Option Addr} {f:Nat->Int} (h:Rd w' B k A n f) (hg:w.grownBy w' (some br)) (hB:B≤br) (hl:br<w.heap.size):Rd w B k A n f:=λhn=>by
 obtain ⟨b0,off,e,hb,hc⟩:=h hn;refine ⟨b0,off,e,hb,λi hi=>?_⟩;rw [<-hc i hi];exact (QR (a:=⟨b0,off+i,none⟩) (hg.block b0 (by omega) (λe=>by injection e with e;omega))).symm
theorem Jt3 {w w':World} {B br n:Nat} {k:IntKind} {A:Option Addr} {f:Nat->Int} (h:Rd w B k A n f) (hg:w.grownBy w' (some br)) (hB:B≤br):Rd w' B k A n f:=λhn=>by
 obtain ⟨b0,off,e,hb,hc⟩:=h hn;exact ⟨b0,off,e,hb,λi hi=>Qy hg (hc i hi) (by simp;omega)⟩
structure CS (w wr:World) (br B:Nat) (Ap:Option Addr) (cp np:Nat) (n:Int) (bR bc:Nat) (D N:Int) (v:Value) (r:List Int):Prop where
 rdr:∃A c,Dv wr br B A c r Ap cp np n
 c:Jb wr bc D N v
 res:Jb wr bR 0 0 (.slice none 0 0)
 grow:w.grownBy wr (some br)
 lt:br<w.heap.size
 lt2:w.heap.size≤bR
 lt3:bR<bc
theorem CS.go {w wr w':World} {br B:Nat} {Ap:Option Addr} {cp np:Nat} {n:Int} {bR bc:Nat} {D N:Int} {v:Value} {r:List Int} (h:CS w wr br B Ap cp np n bR bc D N v r) (hb:Below wr.heap.size wr w'):CS w w' br B Ap cp np n bR bc D N v r:=
 ⟨by obtain ⟨A,c,hr⟩:=h.rdr;exact ⟨A,c,hr.go hb⟩,h.c.go hb,h.res.go hb,Qa h.grow hb,h.lt,h.lt2,h.lt3⟩
theorem CS.read {w wr w':World} {br B:Nat} {Ap:Option Addr} {cp np:Nat} {n:Int} {bR bc:Nat} {D N:Int} {v:Value} {r r':List Int} (h:CS w wr br B Ap cp np n bR bc D N v r) (hr:∃A c,Dv w' br B A c r' Ap cp np n) (hg:wr.grownBy w' (some br)):CS w w' br B Ap cp np n bR bc D N v r':=
 ⟨hr,h.c.only hg (by have:=h.lt;have:=h.lt2;have:=h.lt3;omega),h.res.only hg (by have:=h.lt;have:=h.lt2;omega),Jg h.grow hg,h.lt,h.lt2,h.lt3⟩
theorem CS.put {w wr:World} {br B:Nat} {Ap:Option Addr} {cp np:Nat} {n:Int} {bR bc:Nat} {D N D' N':Int} {v v':Value} {r:List Int} (h:CS w wr br B Ap cp np n bR bc D N v r) {i:Nat} {u:Value} (hc:Jb (wr.setCell ⟨bc,i,none⟩ u) bc D' N' v'):CS w (wr.setCell ⟨bc,i,none⟩ u) br B Ap cp np n bR bc D' N' v' r:=by
 have hg:=Qv (p:=⟨bc,i,none⟩) (QN wr (some bc)) (.inl rfl) u;have h1:=h.lt;have h2:=h.lt2;have h3:=h.lt3;refine ⟨?_,hc,h.res.only hg (by omega),Fa h.grow hg (by omega),h1,h2,h3⟩;obtain ⟨A,c,hr⟩:=h.rdr;exact ⟨A,c,hr.only hg (by omega) (by have:=hr.hB;omega)⟩
theorem Dv.setup {w:World} {br B:Nat} {A:Option Addr} {c:Nat} {b:List Int} {Ap:Option Addr} {cp np:Nat} {n:Int} (h:Dv w br B A c b Ap cp np n) (n':Int) (Ap':Option Addr) (cp' np':Nat):
 Dv ((w.setCell ⟨br,2,none⟩ (.int .i64 n')).setCell ⟨br,1,none⟩ (.slice Ap' np' cp')) br B A c b Ap' cp' np' n':=by
 have hr:=(h.rd.setCell (p:=⟨br,2,none⟩) h.hB (.int .i64 n')).setCell (p:=⟨br,1,none⟩) h.hB (.slice Ap' np' cp');obtain ⟨c0,c1,c2,fz,rd,hB,bts,le,max,len⟩:=h;exact ⟨by simp [go_sem,c0],by simp [go_sem,c1],by simp [go_sem,c2],λi=>by simp [go_sem,fz],hr,hB,bts,le,max,len⟩
theorem Tx {w w':World} {base size n br:Nat} {e:TypeId} {v:Value} {vs:List Value} (h:w.ownsRow base e size v n vs) (hg:w.grownBy w' (some br)) (hb:br<base):w'.ownsRow base e size v n vs:=
 h.kept hg (by
  cases hv:v.ownBlock with
  |none=>exact .inl rfl
  |some g=>exact .inr (λe=>by have:=(h.lt g hv).1;injection e with e;omega))
theorem Yw.read {w w':World} {base br:Nat} {A:Option Addr} {c:Nat} {rs:List OR} (h:Yw w base A c rs) (hg:w.grownBy w' (some br)) (hb:br<base):Yw w' base A c rs:=
 ⟨Tx h.row hg hb,λr hr=>⟨(h.each r hr).1,(h.each r hr).2.1,Tx (Qu8 (h.each r hr).2.2) hg hb⟩⟩
theorem CS.low {w wr w':World} {br B base:Nat} {Ap:Option Addr} {cp np:Nat} {n:Int} {bR bc:Nat} {D N:Int} {v:Value} {r:List Int} (h:CS w wr br B Ap cp np n bR bc D N v r) (hb:Below base wr w') (hl:bc<base):CS w w' br B Ap cp np n bR bc D N v r:=by
 have h1:=h.lt;have h2:=h.lt2;have h3:=h.lt3;have gg:=h.grow;refine ⟨?_,h.c.low hb hl,h.res.low hb (by omega),⟨hb.os.trans gg.os,hb.tape.trans gg.tape,hb.output.trans gg.output,ZO gg.size hb.size,λk hk hne=>(hb.block k (by omega)).trans (gg.block k hk hne)⟩,h1,h2,h3⟩;obtain ⟨A,c,hr⟩:=h.rdr;obtain ⟨c0,c1,c2,fz,rd,hB,bts,le,max,len⟩:=hr;exact ⟨A,c,(hb.cell (p:=⟨br,0,none⟩) (by simp only;omega)).trans c0,(hb.cell (p:=⟨br,1,none⟩) (by simp only;omega)).trans c1,(hb.cell (p:=⟨br,2,none⟩) (by simp only;omega)).trans c2,λi=>(hb.frozen (p:=⟨br,i,none⟩) (by simp only;omega)).trans (fz i),rd.below (hb.mono (by omega)),hB,bts,le,max,len⟩
theorem Qm9 (br B:Nat) (A:Option Addr) (c:Nat) (b:List Int) (w:World) (h:Dv w br B A c b none 0 0 0) (hok:∀x,Vr6 b≠.bad x):
 Calls prog 90 #[.pointer (some ⟨br,0,none⟩)] w (Rc w br (Vr6 b)):=by
 have hres:=Jb.new w 96 0 0 (.slice none 0 0);have hb1:Below w.heap.size w (w.alloc (.cells #[.int .u64 0,.int .i64 0,.slice none 0 0] 96)):=(QK _ _).alloc (ZH _) _;obtain ⟨w1,hw1⟩:∃w1,w1=w.alloc (.cells #[.int .u64 0,.int .i64 0,.slice none 0 0] 96):=⟨_,rfl⟩;rw [<-hw1] at hres hb1;have h1:=h.go hb1;have hlt:=h.lt;have HB1:=Hd (Qr hb1 (some br));obtain ⟨PP,hPP⟩:∃PP,PP=Vr6 b:=⟨_,rfl⟩;rw [<-hPP] at hok |-
 have HNB:Hid (∀x,PP≠.bad x):=Hd hok;have HPP:=Hd hPP;clear hok;clear h hb1 hPP;go_enter func90,ntmps90
 go_wp2_with fail
 rw [<-hw1];clear hw1
 (with_reducible refine (De _).mono ?_)
 rintro e w2 ⟨rfl,hw2⟩;have hb2:Below w1.heap.size w1 w2:=by rw [hw2];exact (QK _ _).alloc (ZH _) _
 have h2:=h1.go hb2;have hres2:=hres.go hb2;have HB2:=Hd (Qa HB1.out hb2);clear hw2 hb2 h1 hres;by_cases hl4:b.length<4
 .have cT:Calls prog 150 #[.pointer (some ⟨br,0,none⟩),.int .i64 4] w2 (λe w'=>e=.panicked (gv 192)∧w2=w'):=Kq br B A c b none 0 0 0 4 w2 h2 hl4 (by omega);have HX:=Hd (show PP=.bad 192 by rw [HPP.out];unfold Vr6;rw [ZM hl4]);exact (HNB.out _ HX.out).elim
 have cT:Calls prog 150 #[.pointer (some ⟨br,0,none⟩),.int .i64 4] w2 (λe w'=>e=.returned (.slice A 4 c)∧(∃A' c',Dv w' br B A' c' (b.drop 4) none 0 0 0)∧w2.grownBy w' (some br)):=Sk br B A c b none 0 0 0 4 w2 h2 (by omega) (by omega);have hrd4:Rd w2 B .u8 A 4 (Qe (b.take 4)):=(h2.rd.fewer (m:=4) (by omega)).congr λi hi=>(Qm4 hi).symm
 have hbt:=h2.bts;have hBb:=h2.hB;have hL4:=Hd (show ¬b.length<4 from hl4);have hl4':(b.take 4).length=4:=by rw [List.length_take];omega
 clear hl4 h2;go_wp2_with fail
 (with_reducible refine cT.mono ?_)
 clear cT;rintro e w3 ⟨rfl,hR3,hg3⟩;have hres3:=hres2.only hg3 (by omega);have hg3':=Jg HB2.out hg3;have hrd5:Rd w3 B .u8 A 4 (Qe (b.take 4)):=λhn=>by
  obtain ⟨b0,off,e,hb,hc⟩:=hrd4 hn;exact ⟨b0,off,e,hb,λi hi=>Qy hg3 (hc i hi) (by simp;omega)⟩
 obtain ⟨A4,c4,hR4⟩:=hR3;clear hg3 hres2 hrd4;go_wp2_with fail
 (with_reducible refine (De _).mono ?_)
 rintro e w5 ⟨rfl,hw5⟩;have hb5:Below w3.heap.size w3 w5:=by rw [hw5];exact (QK _ _).alloc (ZH _) _
 have hmag:Rd w5 w5.heap.size .u8 (some ⟨w3.heap.size,0,none⟩) 4 (Qe [103,110,109,49]):=by rw [hw5];exact (Ow.lit w3 w3.heap.size 5 .u8 [103,110,109,49] (ZH _) (by unfold maxLen;simp)).rd
 have hR5:=hR4.go hb5;have hres5:=hres3.go hb5;have hG5:=Qa hg3' hb5;have hlt3:=hR4.lt;have hrd6:Rd w5 w5.heap.size .u8 A (b.take 4).length (Qe (b.take 4)):=by rw [hl4'];exact (hrd5.below (hb5.mono (by omega))).more (by have:=hb5.size;omega)
 clear hw5 hb5 hrd5 hR4 hres3 hg3';have cE:Calls prog 149 #[.slice A 4 c,.slice (some ⟨w3.heap.size,0,none⟩) 4 4] w5 λe w'=>e=.returned (.bool (decide (b.take 4=[103,110,109,49])))∧Below w5.heap.size w5 w':=by
  have:=Ot A (some ⟨w3.heap.size,0,none⟩) c 4 (b.take 4) [103,110,109,49] w5 hrd6 hmag (by rw [hl4'];omega) (by simp)
  rw [hl4'] at this;exact this
 clear hrd6 hmag;go_wp2_with fail
 (with_reducible refine cE.mono ?_)
 clear cE;rintro e w6 ⟨rfl,hb6⟩;have hR6:=hR5.go hb6;have hres6:=hres5.go hb6;have HG6:=Hd (Qa hG5 hb6);clear hb6 hR5 hres5 hG5;by_cases hmg:b.take 4=[103,110,109,49]
 .rw [ZE hmg];have hbc:=Jb.new w6 96 0 0 (.slice none 0 0);have hb7:Below w6.heap.size w6 (w6.alloc (.cells #[.int .u64 0,.int .i64 0,.slice none 0 0] 96)):=(QK _ _).alloc (ZH _) _;obtain ⟨w7,hw7⟩:∃w7,w7=w6.alloc (.cells #[.int .u64 0,.int .i64 0,.slice none 0 0] 96):=⟨_,rfl⟩;rw [<-hw7] at hbc hb7;have hS7:CS w w7 br B none 0 0 0 w.heap.size w6.heap.size 0 0 (.slice none 0 0) (b.drop 4):=⟨⟨_,_,hR6.go hb7⟩,hbc,hres6.go hb7,Qa HG6.out hb7,hlt,ZH _,hres6.at'.lt⟩;have hR7:=hR6.go hb7;clear hbc hb7 hR6 hres6;have HCP:Hid (PP=if (b.drop 4).length<8 then .bad 192 else Iz (Ws ((b.drop 4).take 8)) ((b.drop 4).drop 8)):=Hd (by rw [HPP.out];unfold Vr6;rw [ZL hL4.out,ZL (λx=>x hmg)]);clear hmg hl4' hL4;obtain ⟨r,hr⟩:∃r,r=b.drop 4:=⟨_,rfl⟩;rw [<-hr] at HCP hS7 hR7;have hbr:Bts r:=hR7.bts;clear hr hbt;by_cases hl8:r.length<8
  .have cT:Calls prog 150 #[.pointer (some ⟨br,0,none⟩),.int .i64 8] w7 (λe w'=>e=.panicked (gv 192)∧w7=w'):=Kq br B A4 c4 r none 0 0 0 8 w7 hR7 hl8 (by omega);have HX:=Hd (show PP=.bad 192 by rw [HCP.out,ZM hl8]);exact (HNB.out _ HX.out).elim
  have cT:Calls prog 150 #[.pointer (some ⟨br,0,none⟩),.int .i64 8] w7 (λe w'=>e=.returned (.slice A4 8 c4)∧(∃A' c',Dv w' br B A' c' (r.drop 8) none 0 0 0)∧w7.grownBy w' (some br)):=Sk br B A4 c4 r none 0 0 0 8 w7 hR7 (by omega) (by omega);have HX:=Hd (show PP=Iz (Ws (r.take 8)) (r.drop 8) by rw [HCP.out,ZL hl8]);have HBY:=Hd (Js5 ((hR7.rd.fewer (m:=8) (by omega)).congr λi hi=>(Qm4 hi).symm) hS7.grow hBb hlt);obtain ⟨bs,hbs⟩:∃bs,bs=r.take 8:=⟨_,rfl⟩;have hbsl:bs.length=8:=by rw [hbs,List.length_take];omega
  have HBT:=Hd (show Bts bs by rw [hbs];exact λx hx=>hbr x (List.mem_of_mem_take hx));rw [<-hbs] at HX HBY;have HBL:=Hd hbsl;clear hbs hl8 hR7 HCP hbr hbsl;go_wp2_with fail
  rw [<-hw7];clear hw7;generalize w6.heap.size=bc at*
  (with_reducible refine cT.mono ?_)
  clear cT;rintro e _ ⟨rfl,hR8,hg8⟩;have hS8:=hS7.read hR8 hg8;clear hR8 hg8 hS7;go_wp2_with fail
  go_loopw [20] (λs20 wr=>∃k:Nat,s20=.int .i64 k∧k≤8∧CS w wr br B none 0 0 0 w.heap.size bc (Ws (bs.take k)) 0 (.slice none 0 0) (r.drop 8)) (λs _=>8 - (intOf s).toNat)
  case atStart=>exact ⟨0,rfl,by omega,hS8⟩
  clear hS8;obtain ⟨k,rfl,hk,hS⟩:=hrel;rcases ZJ k 8 with hlt8|hge
  .have q0:decide ((k:Int)<8)=true:=ZE (by omega);have q3:(0:Int)≤(k:Int):=by omega
   have q4:(k:Int)<8:=by omega
   obtain ⟨_,_,hA4,_,hcb⟩:=(Jt3 HBY.out hS.grow hBb) (by omega);have m0:=hcb k hlt8;obtain ⟨d0,d1,d2⟩:=hS.c.at';have df:=hS.c.fz 0;obtain ⟨x0,x1⟩:=HBT.out _ (Ub (show k<bs.length by have:=HBL.out;omega));obtain ⟨e0,e1⟩:=Zq3 HBT.out k (by omega);have hpw:(256:Int) ^ k≤256 ^ 7:=by exact_mod_cast Nat.pow_le_pow_right (n:=256) (by omega) (show k≤7 by omega)
   have HD:=Hd (show Ws (bs.take (k+1))=Ws (bs.take k)*256+Qe bs k by rw [Qp2 (by have:=HBL.out;omega),Qu9]);have HSO:=Hd (Vf8 e0 (Int.lt_of_lt_of_le e1 hpw) x0 x1);have HSS:=Hd (hS.put (hS.c.setD (Ws (bs.take (k+1)))));have he2:Ws (bs.take k)<72057594037927936:=Int.lt_of_lt_of_le e1 (by exact hpw);clear e1 hpw hcb;obtain ⟨x,hx⟩:∃x,x=Qe bs k:=⟨_,rfl⟩;obtain ⟨d,hd⟩:∃d,d=Ws (bs.take k):=⟨_,rfl⟩;rw [<-hx] at m0 x0 x1 HD HSO;rw [<-hd] at d0 e0 he2 HD HSO;clear hx hd hS;subst hA4;go_wp2_with fail
   rw [HSO.out,<-HD.out];exact ⟨⟨k+1,by go_num,by omega,HSS.out⟩,by simp [intOf];omega⟩
  obtain rfl:k=8:=by omega
  have q0:decide ((8:Int)<8)=false:=by simp
  have hdd:=Zq3 HBT.out 8 (by omega);have hbs8:bs.take 8=bs:=List.take_of_length_le (by have:=HBL.out;omega);rw [hbs8] at hS hdd;obtain ⟨D,hD⟩:∃D,D=Ws bs:=⟨_,rfl⟩;rw [<-hD] at hS HX;clear hbs8 hdd hD HBY HBT HBL hge hk;obtain ⟨r2,hr2⟩:∃r2,r2=r.drop 8:=⟨_,rfl⟩;rw [<-hr2] at hS HX;clear hr2;obtain ⟨A9,c9,hR9⟩:=hS.rdr;have cU:=Sw br B A9 c9 r2 none 0 0 0 0 64 wr hR9 (by omega) (by omega);clear hR9;go_wp2_with fail
  cases hU:Uq 0 64 r2 with
  |bad x=>
   have HY:=Hd (show PP=.bad x by rw [HX.out];unfold Iz;rw [hU]);exact (HNB.out _ HY.out).elim
  |ok n r3=>
   have hn64:=(Fu hU).2;have HU:=Hd hU;rw [hU] at cU;clear hU
   (with_reducible refine cU.mono ?_)
   clear cU;rintro e w10 ⟨rfl,hR10,hg10⟩;have hS10:=hS.read hR10 hg10;clear hR10 hg10 hS;obtain ⟨d0,d1,d2⟩:=hS10.c.at';have df:=hS10.c.fz 1;have hS11:=hS10.put (hS10.c.setN n);clear hS10;go_wp2_with fail
   generalize (w10.setCell ⟨bc,1,none⟩ (.int .i64 n))=w11 at*;clear d0 d1 d2 df;have hSd:=hS11.go (QK w11.heap.size w11).drew;have d1:=hS11.c.at'.c1;have cPl:=λW=>Ik n W (by omega)
   have hbrc:br≠bc:=by have h1:=hSd.lt;have h2:=hSd.lt2;have h3:=hSd.lt3;omega
   clear hS11;go_region_held3 (λX=>X.cell? ⟨bc,1,none⟩=some (.int .i64 n)) (first|exact d1|exact e1|(rw [World.cell?_setCell_far _ _ _ _ hbrc];exact e1)|(rw [World.cell?_setCell_far _ _ _ _ hbrc,World.cell?_setCell_far _ _ _ _ hbrc];exact e1)|go_keep)
    (first|(go_at_call 96;(with_reducible refine (cPl _).mono ?_);rintro e w12 ⟨Ap,cp,rfl,hop,hb12⟩;have hS12:=hSd.go hb12;have e1:=hS12.c.at'.c1;obtain ⟨_,_,hR12⟩:=hS12.rdr;obtain ⟨f0,f1,f2,ff,_,_,_,_,_⟩:=id hR12;have ff1:=ff 1;have ff2:=ff 2)|fail)
   have hgb1:=Qv (p:=⟨br,1,none⟩) (Qv (p:=⟨br,2,none⟩) (QN w12 (some br)) (.inl rfl) (.int .i64 n)) (.inl rfl) (.slice Ap (Ze n).length cp);have hR13:=hR12.setup n Ap cp (Ze n).length;have hS13:CS w _ br B Ap cp (Ze n).length n w.heap.size bc D n (.slice none 0 0) r3:=⟨⟨_,_,hR13⟩,hS12.c.only hgb1 (by omega),hS12.res.only hgb1 (by have:=hS12.lt;have:=hS12.lt2;omega),Jg hS12.grow hgb1,hS12.lt,hS12.lt2,hS12.lt3⟩;have hPB:bc<w11.heap.size:=by have:=hSd.c.at'.lt;exact this
   have hPB2:br<w11.heap.size:=by have:=hSd.lt;have:=hSd.lt2;have:=hSd.lt3;omega
   have hPB3:w11.heap.size≤w12.heap.size:=hb12.size;have hop13:=Tx (base:=w11.heap.size) hop hgb1 hPB2;have hsz13:w11.heap.size≤((w12.setCell ⟨br,2,none⟩ (.int .i64 n)).setCell ⟨br,1,none⟩ (.slice Ap (Ze n).length cp)).heap.size:=by simpa using hPB3
   generalize ((w12.setCell ⟨br,2,none⟩ (.int .i64 n)).setCell ⟨br,1,none⟩ (.slice Ap (Ze n).length cp))=w13 at*;generalize w11.heap.size=PB at*;clear hgb1 hR13 hR12 f0 f1 f2 ff ff1 ff2 e1 d1 hop hb12 hS12 hSd hPB3 cPl;obtain ⟨A14,c14,hR14⟩:=hS13.rdr;have cU:=Sw br B A14 c14 r3 Ap cp (Ze n).length n 1 4096 w13 hR14 (by omega) (by omega);have hmf:∀(fn:Fn) (first cap:Array Value) (w:World),(Instr.makeFunc fn first cap).run prog w=.ok (.func fn first cap) w:=λ_ _ _ _=>rfl
   clear hR14;go_wp2_with fail
   cases hK:Uq 1 4096 r3 with
   |bad x=>
    have HY:=Hd (show PP=.bad x by rw [HX.out];unfold Iz;rw [HU.out];simp only;rw [hK]);exact (HNB.out _ HY.out).elim
   |ok m r4=>
    obtain ⟨_,_⟩:=Fu hK;have HK:=Hd hK;rw [hK] at cU;clear hK
    (with_reducible refine cU.mono ?_)
    clear cU;rintro e w14 ⟨rfl,hR15,hg15⟩;have hS15:=hS13.read hR15 hg15;have hop15:=Tx hop13 hg15 hPB2;have hsz15:=ZO hsz13 hg15.size;clear hR15 hg15 hS13 hop13 hsz13;obtain ⟨⟨b1,b2⟩,⟨b3,b4⟩,b5,b6⟩:=Zz2 (N:=n) (L:=m) ⟨by omega,hn64⟩ (by omega);obtain ⟨d0,d1,d2⟩:=hS15.c.at';by_cases hcel:4194304<4*(n:Int)*n*m
    .have q1:decide (4194304<4*(n:Int)*n*m)=true:=ZE hcel;have HY:=Hd (show PP=.bad 194 by rw [HX.out];unfold Iz;rw [HU.out];simp only;rw [HK.out];exact ZM hcel);exact (HNB.out _ HY.out).elim
    have q1:decide (4194304<4*(n:Int)*n*m)=false:=ZA hcel;have HQ:Hid ((∀x,Ss n (Ze n) m [] r4=.bad x->PP=.bad x)∧(∀os r5,Ss n (Ze n) m [] r4=.ok os r5->PP=if 0<r5.length then .bad 195 else .ok (D,(n:Int),os) r5)):=
     Hd ⟨λx hx=>by rw [HX.out];unfold Iz;rw [HU.out];simp only;rw [HK.out];simp only;rw [ZL hcel,hx],λos r5 hx=>by rw [HX.out];unfold Iz;rw [HU.out];simp only;rw [HK.out];simp only;rw [ZL hcel,hx]⟩
    have HG0:=Hd (Yw.nil w14 PB);clear hcel HX HK HU;go_wp2_with fail
    have hE:=elOct;obtain ⟨QT,hQT⟩:∃QT,QT=Ss n (Ze n) m [] r4:=⟨_,rfl⟩;have HQ0:=Hd (show Ss n (Ze n) (m - 0) (([]:List OR).map OR.oc) r4=QT by rw [hQT];rfl);rw [<-hQT] at HQ;clear hQT b1 b2 b3 b4 b5 b6 q1 d0 d1 d2 hmf;go_loopw [62] (λs62 wr=>∃i:Nat,s62=.int .i64 i∧i≤m∧∃Ao co,∃rs:List OR,∃r,Hid (Ss n (Ze n) (m - i) (rs.map OR.oc) r=QT)∧Hid (rs.length=i)∧CS w wr br B Ap cp (Ze n).length n w.heap.size bc D n (.slice Ao rs.length co) r∧Yw wr PB Ao co rs∧wr.ownsRow PB 248 2 (.slice Ap (Ze n).length cp) (Ze n).length (pv (Ze n))∧PB≤wr.heap.size) (λs _=>m - (intOf s).toNat)
    case atStart=>exact ⟨0,rfl,by omega,none,0,[],r4,HQ0,Hd rfl,hS15,HG0.out,hop15,hsz15⟩
    clear hS15 hop15 hsz15 HG0 HQ0;obtain ⟨i,rfl,hi,Ao,co,rs,r,HQI,HRL,hS,hG,hop,hsz⟩:=hrel;rcases ZJ i m with hlt9|hge
    .have q0:decide ((i:Int)<(m:Int))=true:=ZE (by omega);have q00:decide (i<m)=true:=ZE hlt9;have hSd:=hS.go (QK _ _).drew;have hGd:=hG.go (QK _ _).drew;have hopd:=Yx hop (QK _ _).drew;have hszd:PB≤wr.drew.heap.size:=hsz;obtain ⟨A16,c16,hR16⟩:=hSd.rdr;have cO:=Qz6 br B A16 c16 r Ap cp n wr.drew hR16 (by omega) (λX hX=>Zh1 (Tx hopd hX hPB2)) (λx hx=>HNB.out _ (HQ.out.1 x (by rw [<-HQI.out,show m - i=(m - i - 1)+1 by omega];exact Zp4 hx)));have d2:=hS.c.at'.c2;have d2d:=hSd.c.at'.c2;clear hR16 hS hG hop hsz;cases hO:Tp n (Ze n) r with
     |bad x=>
      have HY:=Hd (show PP=.bad x by
       refine HQ.out.1 x ?_;rw [<-HQI.out,show m - i=(m - i - 1)+1 by omega];exact Zp4 hO)
      exact (HNB.out _ HY.out).elim
     |ok o r5=>
      have HQN:=Hd (show Ss n (Ze n) (m - (i+1)) (rs.map OR.oc++[o]) r5=QT by rw [<-HQI.out,show m - i=(m - (i+1))+1 by omega,Jh2 hO]);have hon:o.n=n:=Vg9 hO;rw [hO] at cO;clear hO;have HON:=Hd hon;clear hon;have hsz40:(rs.length+1)*40≤140737488355328:=by have:=HRL.out;omega
      go_wp2_with fail
      go_region_law (first
       |(go_simp;go_at_call 153;(with_reducible refine cO.mono ?_);rintro e w5 ⟨⟨Ao5,co5,rfl,hOw⟩,hI5,hR5,hg5⟩;have hS5:=hSd.read hR5 hg5;have hG5:=hGd.read hg5 hPB2;have hop5:=Tx hopd hg5 hPB2;have hs5:=ZO hszd hg5.size;have c2:=hS5.c.at'.c2;have hal:=(QK w5.heap.size w5).alloc (ZH _) (.cells #[.int .i64 o.n,.bool o.e,.slice Ao5 o.m.length co5] 32);have c2b:=(hS5.go hal).c.at'.c2)
       |(refine Ye hE (w5.alloc (.cells #[.int .i64 o.n,.bool o.e,.slice Ao5 o.m.length co5] 32)) rfl (.tmp 65) (.tmp 68) rfl PB Ao co rs.length (ov rs) rfl (hG5.row.alloc _) [.int .i64 o.n,.bool o.e,.slice Ao5 o.m.length co5] w5.heap.size rfl rfl (Oh w5 32 ⟨o.n,o.e,Ao5,co5,o.m⟩) (by simp [Value.oneCell']) hsz40 (by simp;omega) ?_;intro A' c' w9 hr9 hb9 hg9;have hS9:=(hS5.go hal).low hb9 hPB;obtain ⟨e0,e1,e2⟩:=hS9.c.at';have ef2:=hS9.c.fz 2))
      all_goals
       have hG9:=(hG5.go hal).snoc (r:=⟨o.n,o.e,Ao5,co5,o.m⟩) ⟨by show Zu o.n;rw [HON.out];exact ⟨by omega,by omega⟩,hI5,(hOw.below hal).lower hszd⟩ hr9 hg9;have hop9:=Dh (Yx hop5 hal) (hG5.go hal).row (by decide) hg9;have hs9:=ZO hs5 (ZO hal.size hb9.size);have HS:=Hd (hS9.put (hS9.c.set (.slice A' (rs.length+1) c')));have HG:=Hd (hG9.low (p:=⟨bc,2,none⟩) hPB (.slice A' (rs.length+1) c'));have HO:=Hd (Eg hop9 (p:=⟨bc,2,none⟩) hPB (.slice A' (rs.length+1) c'));have HZ:=Hd (show PB≤(w9.setCell ⟨bc,2,none⟩ (.slice A' (rs.length+1) c')).heap.size by simpa using hs9);clear hG9 hop9 hs9 hS9 hr9 hb9 hg9 hG5 hop5 hS5 hs5 c2 c2b e0 e1 e2 ef2 hg5 hR5 hal hOw hI5;go_wp2_with fail
       go_roundw
       case rel=>exact ⟨i+1,by go_num,by omega,A',c',rs++[⟨o.n,o.e,Ao5,co5,o.m⟩],r5,Hd (by rw [List.map_append];exact HQN.out),Hd (by rw [ZC,HRL.out];rfl),by rw [ZC];exact HS.out,HG.out,HO.out,HZ.out⟩
       case measure=>simp [intOf];omega
    obtain rfl:i=m:=by omega
    have q0:decide ((i:Int)<(i:Int))=false:=by simp
    have q00:decide (i<i)=false:=by simp
    have hQ2:=HQ.out.2 (rs.map OR.oc) r (by rw [<-HQI.out,Nat.sub_self,Zc6]);obtain ⟨_,_,hR17⟩:=hS.rdr;have k0:=hR17.c0;obtain ⟨d0,d1,d2⟩:=hS.c.at';obtain ⟨⟨e0,e1,e2⟩,ef⟩:=id hS.res;have ef0:=ef 0;have ef1:=ef 1;have ef2:=ef 2;have hrl:=hR17.len;clear hge hi hR17 HQI HQ;by_cases hmore:0<r.length
    .have q5:decide ((0:Int)<(r.length:Int))=true:=ZE (by omega);have HY:=Hd (show PP=.bad 195 by rw [hQ2];exact ZM hmore);exact (HNB.out _ HY.out).elim
    have HY:=Hd (show PP=.ok (D,(n:Int),rs.map OR.oc) r by rw [hQ2];exact ZL hmore);have hr0:r.length=0:=by omega
    rw [hr0] at k0;clear hQ2 hmore hr0;go_wp2_with fail
    have hbx:=((hS.res.setD D).setN n).set (.slice Ao rs.length co);obtain ⟨⟨s0,s1,s2⟩,_⟩:=id hbx;have hbl:w.heap.size<PB:=by have:=hS.lt3;omega
    have hGf:=((hG.low (p:=⟨w.heap.size,0,none⟩) hbl (.int .u64 D)).low (p:=⟨w.heap.size,1,none⟩) hbl (.int .i64 n)).low (p:=⟨w.heap.size,2,none⟩) hbl (.slice Ao rs.length co);have HG:=Hd (Qv (p:=⟨w.heap.size,2,none⟩) (Qv (p:=⟨w.heap.size,1,none⟩) (Qv (p:=⟨w.heap.size,0,none⟩) hS.grow (.inr (ZH _)) (.int .u64 D)) (.inr (ZH _)) (.int .i64 n)) (.inr (ZH _)) (.slice Ao rs.length co));refine QL (v:=.agg #[.int .u64 D,.int .i64 n,.slice Ao rs.length co]) (by simp [results,results90,go_sem,s0,s1,s2]) rfl ?_;unfold Rc;rw [HY.out];exact ⟨⟨Ao,co,rs,rfl,hGf.lower (Nat.le_of_lt hbl),rfl⟩,HG.out⟩
 .have HX:=Hd (show PP=.bad 191 by rw [HPP.out];unfold Vr6;rw [ZL hL4.out,ZM hmg]);exact (HNB.out _ HX.out).elim
theorem Zy1 (bC bE:Nat) (w:World):
 CallsD prog 89 #[.pointer (some ⟨bC,0,none⟩),.pointer (some ⟨bE,0,none⟩)] .returning w λe u' w'=>e=.returned (.tuple #[])∧u'=.returning∧w'=w:=by
 refine callsD_of_wpS func89 rfl λc₀ cs hu=>?_
 apply wpS_seq
 apply wpS_region
 simp [wpOpsS,go_sem,recoverD,hu,ntmps89,Exit.thenS]
 refine wpS_of_wp ?_;simp only [Array.replicate_succ,Array.replicate_zero,List.push_toArray,List.append_toArray,List.nil_append,List.cons_append,List.setIfInBounds_toArray,List.set_cons_zero,List.set_cons_succ];cases c₀
 go_wp2_with fail
 simp_all [bodyPostS,results,results89]
def Qd6 (w:World) (P:(Int×Int×List OC)×Int) (e:Ending) (w':World):Prop:=
 (∃Ao co,∃rs:List OR,e=.returned (.tuple #[.agg #[.int .u64 P.1.1,.int .i64 P.1.2.1,.slice Ao rs.length co],.int .i64 P.2])∧Yw w' w.heap.size Ao co rs∧rs.map OR.oc=P.1.2.2)∧Below w.heap.size w w'
theorem Qo9 (A:Option Addr) (c:Nat) (b:List Int) (w:World) (hb:Bts b) (hr:Rd w w.heap.size .u8 A b.length (Qe b)) (hc:b.length≤c) (hcm:c≤maxLen) (hlm:(b.length:Int)≤4194304) (v:Int×Int×List OC) (r:List Int) (hK:Vr6 b=.ok v r):
 Calls prog 45 #[.slice A b.length c] w (Qd6 w (v,0)):=by
 have:∀(fn:Fn) (first cap:Array Value) (w:World),(Instr.makeFunc fn first cap).run prog w=.ok (.func fn first cap) w:=λ_ _ _ _=>rfl
 have hC:=Jb.new w 96 0 0 (.slice none 0 0);have hb1:Below w.heap.size w (w.alloc (.cells #[.int .u64 0,.int .i64 0,.slice none 0 0] 96)):=(QK _ _).alloc (ZH _) _;obtain ⟨w1,hw1⟩:∃w1,w1=w.alloc (.cells #[.int .u64 0,.int .i64 0,.slice none 0 0] 96):=⟨_,rfl⟩;rw [<-hw1] at hC hb1;have hs1:w1.heap.size=w.heap.size+1:=by rw [hw1];simp
 have hE:(w1.alloc (.cells #[.int .i64 0] 37)).cell? ⟨w.heap.size+1,0,none⟩=some (.int .i64 0):=by rw [<-hs1];simp [QM]
 have hEz:(w1.alloc (.cells #[.int .i64 0] 37)).frozen? ⟨w.heap.size+1,0,none⟩=false:=by rw [<-hs1];simp [go_sem]
 have hb2:Below w1.heap.size w1 (w1.alloc (.cells #[.int .i64 0] 37)):=(QK _ _).alloc (ZH _) _;obtain ⟨w2,hw2⟩:∃w2,w2=w1.alloc (.cells #[.int .i64 0] 37):=⟨_,rfl⟩;rw [<-hw2] at hE hEz hb2;have hs2:w2.heap.size=w.heap.size+2:=by rw [hw2];simp;omega
 have hC2:=hC.go hb2;have hB2:=hb1.trans (hb2.mono hb1.size);have hr2:=hr.below hB2;clear hC hb1 hb2 hr;have:decide (4194304<(b.length:Int))=false:=ZA (by omega);have hR:Dv (w2.alloc (.cells #[.slice A b.length c,.slice none 0 0,.int .i64 0] 167)) (w.heap.size+2) w.heap.size A c b none 0 0 0:=by
  rw [<-hs2];exact ⟨by simp [QM],by simp [QM],by simp [QM],λi=>by simp [go_sem],hr2.alloc hB2.size _,hB2.size,hb,hc,hcm,by omega⟩
 have hb3:Below w2.heap.size w2 (w2.alloc (.cells #[.slice A b.length c,.slice none 0 0,.int .i64 0] 167)):=(QK _ _).alloc (ZH _) _;obtain ⟨w3,hw3⟩:∃w3,w3=w2.alloc (.cells #[.slice A b.length c,.slice none 0 0,.int .i64 0] 167):=⟨_,rfl⟩;rw [<-hw3] at hR hb3;have hC3:=hC2.go hb3;have hE3:=Qq hb3 hE;have hEz3:=(hb3.frozen (p:=⟨w.heap.size+1,0,none⟩) (by simp only;omega)).trans hEz;have hB3:=hB2.trans (hb3.mono hB2.size);have:w.heap.size+2<w3.heap.size:=by rw [hw3];simp;omega
 have cK:=Qm9 (w.heap.size+2) w.heap.size A c b w3 hR (λx h=>by rw [hK] at h;cases h);rw [hK] at cK;clear hK;obtain ⟨D,N,_⟩:=v;have HB3:=Hd hB3;clear hb3 hC2 hE hEz hB2 hr2 hR hb hB3;go_enter_defers func45,ntmps45
 go_wp2_with fail
 rw [<-hw1,<-hw2,<-hw3]
 (with_reducible refine cK.mono ?_)
 clear cK hw1 hw2 hw3;rintro e w5 ⟨⟨Ao,co,rs,rfl,hG5,hrs⟩,hg5⟩;dsimp only at hrs |-
 have hC5:=hC3.only hg5 (by omega);have hE5:=Qy hg5 hE3 (by simp);have:=Jc hg5 hEz3 (by simp only;omega) (by simp);have HB5:=Hd (HB3.out.trans (Cv hg5 (by omega) (by omega)));have HG5:=Hd (hG5);have HRS:=Hd hrs;obtain ⟨⟨_,_,_⟩,kf⟩:=id hC5;have:=kf 0;have:=kf 1;have:=kf 2;clear hg5 hC3 hE3 hEz3 hG5 hrs;go_wp2_with fail
 refine leaves_cons (f:=89) (args:=#[.pointer (some ⟨w.heap.size,0,none⟩),.pointer (some ⟨w.heap.size+1,0,none⟩)]) (by simp) (by simp [go_sem]) ?_;refine (Zy1 w.heap.size (w.heap.size+1) _).mono ?_;rintro e _ _ ⟨rfl,rfl,rfl⟩;have hCd:=((hC5.setD D).setN N).set (.slice Ao rs.length co);have hEd:(((w5.setCell ⟨w.heap.size,0,none⟩ (.int .u64 D)).setCell ⟨w.heap.size,1,none⟩ (.int .i64 N)).setCell ⟨w.heap.size,2,none⟩ (.slice Ao rs.length co)).cell? ⟨w.heap.size+1,0,none⟩=some (.int .i64 0):=by
  rw [World.cell?_setCell_far _ _ _ _ (by simp),World.cell?_setCell_far _ _ _ _ (by simp),World.cell?_setCell_far _ _ _ _ (by simp)];exact hE5
 have hBd:=Hd ((((HB5.out.setCell (p:=⟨w.heap.size,0,none⟩) (ZH _) (.int .u64 D)).setCell (p:=⟨w.heap.size,1,none⟩) (ZH _) (.int .i64 N)).setCell (p:=⟨w.heap.size,2,none⟩) (ZH _) (.slice Ao rs.length co)).setCell (p:=⟨w.heap.size+1,0,none⟩) (Nat.le_succ _) (.int .i64 0));have hl0:w.heap.size<w3.heap.size:=by omega
 have hl1:w.heap.size+1<w3.heap.size:=by omega
 have hGd:=Hd ((((HG5.out.low (p:=⟨w.heap.size,0,none⟩) hl0 (.int .u64 D)).low (p:=⟨w.heap.size,1,none⟩) hl0 (.int .i64 N)).low (p:=⟨w.heap.size,2,none⟩) hl0 (.slice Ao rs.length co)).low (p:=⟨w.heap.size+1,0,none⟩) hl1 (.int .i64 0));generalize (((w5.setCell ⟨w.heap.size,0,none⟩ (.int .u64 D)).setCell ⟨w.heap.size,1,none⟩ (.int .i64 N)).setCell ⟨w.heap.size,2,none⟩ (.slice Ao rs.length co))=w6 at*;obtain ⟨⟨s0,s1,s2⟩,_⟩:=hCd.only (Qv (p:=⟨w.heap.size+1,0,none⟩) (QN w6 (some (w.heap.size+1))) (.inl rfl) (.int .i64 0)) (by omega);have s3:(w6.setCell ⟨w.heap.size+1,0,none⟩ (.int .i64 0)).cell? ⟨w.heap.size+1,0,none⟩=some (.int .i64 0):=World.cell?_setCell_same _ _ _ hEd;simp only [settle];refine ⟨.tuple #[.agg #[.int .u64 D,.int .i64 N,.slice Ao rs.length co],.int .i64 0],by simp [results,results45,go_sem,s0,s1,s2,s3],?_⟩;unfold Qd6;exact ⟨⟨Ao,co,rs,rfl,hGd.out.lower (Nat.le_of_lt hl0),HRS.out⟩,hBd.out⟩
end
