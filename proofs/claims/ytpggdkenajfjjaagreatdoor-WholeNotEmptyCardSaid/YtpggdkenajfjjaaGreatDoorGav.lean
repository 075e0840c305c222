/- Lemmas for wholeNotEmpty; no conditions. -/
import Derived.Test.YtpggdkenajfjjaaGreatDoorGag
import Derived.Handy
import Derived.Laws.IdiomStrings
set_option linter.all false
set_option maxRecDepth 100000
set_option maxHeartbeats 16000000
namespace Go.Proofs.YtpggdkenajfjjaaGreatDoor
open Go.RowKit Tryz
open Go.Lib renaming hid → Hd
theorem Qu6 {s:ByteArray} (h0:0<s.size):s.toList≠[]:=λh=>by
 have:=congrArg List.length h
 rw [ByteArray.toList_eq] at this;have e:s.data.toList.length=s.size:=by simp
 simp at this
 rw [<-e,this] at h0;simp at h0
theorem Zr1 {s:ByteArray} (h0:0<s.size):(!s.toList.isEmpty)=true:=by
 have:=Qu6 h0
 simpa using this
theorem Qp6 (s:ByteArray) (h0:0<s.size) (ha:(s[0]'h0).toNat<128) (w:World):
 Calls prog 259 #[.string s] w λe w'=>e=.returned (.tuple #[.int .i32 ((s[0]'h0).toNat:Int),.int .i64 1])∧w=w':=by
 have:=Qu6 h0;have:=Zr1 h0;have:((s[0]'h0).toNat:Int)<128:=by omega
 go_enter func259,ntmps259
 go_wp2_with fail
 go_ret2
 exact ⟨rfl,rfl⟩
theorem Vv.stepped {w:World} {b n:Nat} {s:ByteArray} {v:Value} (h:Vv w b s n v):Vv ((w.setCell ⟨b,1,none⟩ (.int .i64 ((n:Int)+1))).setCell ⟨b,3,none⟩ (.int .i64 ((n:Int)+1+1))) b s (n+1) v:=by
 obtain ⟨c0,c1,c2,c3,c4,fr⟩:=h;refine ⟨?_,?_,?_,?_,?_,λi=>?_⟩
 all_goals simp [c0,c1,c2,c3,c4,fr,go_sem]
theorem Ql7 (b n:Nat) (s:ByteArray) (v:Value) (w:World) (h:Vv w b s n v) (hA:Asc s) (hn:n<s.size) (hl:Vh s n≠10):
 Calls prog 314 #[.pointer (some ⟨b,0,none⟩)] w λe w'=>e=.returned (.tuple #[])∧Vv w' b s (n+1) v∧w.grownBy w' (some b):=by
 have c:=Dr b n s v w h (by omega) hA.size;have h0:0<(s.extract n s.size).size:=by simp;omega
 have hr:((s.extract n s.size)[0]'h0)=s[n]:=by
  rw [ByteArray.getElem_extract];simp
 have ha:((s.extract n s.size)[0]'h0).toNat<128:=by rw [hr];exact hA.lt n hn
 have cd:=λW=>Qp6 (s.extract n s.size) h0 ha W
 have e1:Vh s n=(((s.extract n s.size)[0]'h0).toNat:Int):=by unfold Vh;rw [dif_pos hn,hr]
 rw [<-e1] at cd;have:=hA.size;have:(Vh s n==10)=false:=by simpa using hl
 clear e1 hr ha h0;generalize Vh s n=r at*;have:=Hd hA;clear hA;go_enter func314,ntmps314
 go_wp2_with fail
 with_reducible refine c.mono ?_
 clear c;rintro e w1 ⟨rfl,hb⟩;go_wp2_with fail
 with_reducible refine (cd w1).mono ?_
 clear cd;rintro e _ ⟨rfl,rfl⟩;have h1:=h.below hb;obtain ⟨_,_,_,_,_,_⟩:=id h1;go_wp2_with fail
 go_returns
 exact ⟨rfl,h1.stepped,Qv (p:=⟨b,3,none⟩) (Qv (p:=⟨b,1,none⟩) (Qr hb _) (.inl rfl) _) (.inl rfl) _⟩
def Zh3 (w:World) (b:Nat):Nat:=match w.cell? ⟨b,1,none⟩ with|some (.int .i64 j)=>j.toNat|_=>0
theorem Vv.pos {w:World} {b n:Nat} {s:ByteArray} {v:Value} (h:Vv w b s n v):Zh3 w b=n:=by unfold Zh3;rw [h.c1];simp
structure Run (s:ByteArray) (p:Nat->Bool) (n m:Nat):Prop where
 le:n≤m
 size:m≤s.size
 yes:∀j,n≤j->j<m->p j=true
 no:m<s.size->p m=false
theorem Gk (b n m k:Nat) (s:ByteArray) (v:Value) (p:Nat->Bool) (w:World) (h:Vv w b s n v) (hA:Asc s) (hl:∀i,Vh s i≠10) (hR:Run s p n m) (hk:k=316∨k=262∨k=319)
 (hF:∀i,i<s.size->∀W,Calls prog k #[.int .i32 (Vh s i)] W λe w'=>e=.returned (.bool (p i))∧Below W.heap.size W w'):
 Calls prog 264 #[.pointer (some ⟨b,0,none⟩),.func (.func k) #[] #[]] w λe w'=>e=.returned (.string (s.extract n m))∧Vv w' b s m v∧w.grownBy w' (some b):=by
 obtain ⟨r1,_,r3,r4⟩:=hR;have cp:=λi W (hL:Vv W b s i v) (hi:i≤s.size)=>Lo b i s v W hL hA hi
 have cs:=λi W (hL:Vv W b s i v) (hi:i<s.size)=>Ql7 b i s v W hL hA hi (hl i)
 have CP:=Hd cp;have CS:=Hd cs;have CF:=Hd hF;have:=Hd hl;have H3:=Hd r3;have H4:=Hd r4;have:=hA.size;have:=Hd hA;have c:=cp n w h (by omega);clear cp cs hF hl r3 r4 hA;rcases hk with rfl|rfl|rfl
 all_goals
  obtain ⟨c0,c1,c2,c3,c4,fr⟩:=id h;go_enter func264,ntmps264
  go_wp2_with fail
  with_reducible refine c.mono ?_
  clear c;rintro e _ ⟨rfl,hb⟩;have h1:=h.below hb;have g1:=Qr hb (some b);clear c0 c1 c2 c3 c4 fr;obtain ⟨rn,hrn⟩:∃r,r=Vh s n:=⟨_,rfl⟩;obtain ⟨t,ht⟩:∃t,t=decide (n<s.size):=⟨_,rfl⟩;rw [<-hrn,<-ht];have HRN:=Hd hrn;have HT:=Hd ht;clear hrn ht hb;go_wp2_with fail
  go_loopw [6,7] (λc t wr=>∃i r u,c=.int .i32 r∧t=.bool u∧Hid (r=Vh s i)∧Hid (u=decide (i<s.size))∧n≤i∧i≤m∧Vv wr b s i v∧w.grownBy wr (some b)) (λ_ _ wr=>s.size - Zh3 wr b)
  case atStart=>exact ⟨n,rn,t,rfl,rfl,HRN,HT,ZH _,r1,h1,g1⟩
  case round=>
   obtain ⟨i,r,u,rfl,rfl,HR,HU,hi1,_,hL,hg⟩:=hrel;have hlp:=hL.pos;obtain ⟨c0,c1,c2,c3,c4,fr⟩:=id hL;clear h1 g1 HRN HT;rcases ZJ i m with him|him
   .have hu:u=true:=by rw [HU.out];exact ZE (by omega)
    have cf:=CF.out i (by omega) wr;rw [<-HR.out,H3.out i hi1 him] at cf;subst hu;go_wp2_with fail
    with_reducible refine cf.mono ?_
    clear cf;rintro e w2 ⟨rfl,hb2⟩;have hL2:=hL.below hb2;have hg2:=Qa hg hb2;have cs:=CS.out i w2 hL2 (by omega);clear hL hg hb2 c0 c1 c2 c3 c4 fr HR HU;go_wp2_with fail
    with_reducible refine cs.mono ?_
    clear cs;rintro e w3 ⟨rfl,hL3,hg3⟩;have hg4:=hg2.trans hg3;have cp:=CP.out (i+1) w3 hL3 (by omega);clear hL2 hg2 hg3;go_wp2_with fail
    with_reducible refine cp.mono ?_
    clear cp;rintro e _ ⟨rfl,hb4⟩;have hL4:=hL3.below hb4;have hg5:=Qa hg4 hb4;have hp4:=hL4.pos;clear hL3 hg4 hb4;obtain ⟨r',hr'⟩:∃r,r=Vh s (i+1):=⟨_,rfl⟩;obtain ⟨u',hu'⟩:∃t,t=decide (i+1<s.size):=⟨_,rfl⟩;rw [<-hr',<-hu'];have HR':=Hd hr';have HU':=Hd hu';have HP4:=Hd hp4;have HLP:=Hd hlp;clear hr' hu' hp4 hlp;go_wp2_with fail
    go_roundw
    case rel=>exact ⟨i+1,r',u',rfl,rfl,HR',HU',by omega,by omega,hL4,hg5⟩
    rw [HP4.out,HLP.out];omega
   obtain rfl:i=m:=by omega
   rcases ZJ i s.size with hs|hs
   .have hu:u=true:=by rw [HU.out];exact ZE (by omega)
    have cf:=CF.out i (by omega) wr;rw [<-HR.out,H4.out hs] at cf;subst hu;go_wp2_with fail
    with_reducible refine cf.mono ?_
    clear cf;rintro e w2 ⟨rfl,hb2⟩;have hL2:=hL.below hb2;have hg2:=Qa hg hb2;clear hL hg hb2 c0 c1 c2 c3 c4 fr HR HU hlp;obtain ⟨c0,c1,c2,c3,c4,fr⟩:=id hL2;have q1:(n:Int)≤i:=by omega
    have q2:(i:Int)≤s.size:=by omega
    go_wp2_with fail
    go_region
    go_wp2
    go_ret
    exact ⟨rfl,hL2.below ((QK _ _).drew),Yk hg2⟩
   have hu:u=false:=by rw [HU.out];exact ZA (by omega)
   subst hu;clear HR HU hlp;have q1:(n:Int)≤i:=by omega
   have q2:(i:Int)≤s.size:=by omega
   go_wp2_with fail
   go_region
   go_wp2
   go_ret
   exact ⟨rfl,hL.below ((QK _ _).drew),Yk hg⟩
abbrev Jz:ByteArray:=⟨#[118,97,114,32,120,59,32,120,32,61,32,49,59]⟩
abbrev Qr7:ByteArray:=⟨#[118,97,114]⟩
abbrev sX:ByteArray:=⟨#[120]⟩
abbrev Zg1:ByteArray:=⟨#[59]⟩
abbrev sEq:ByteArray:=⟨#[61]⟩
abbrev Fm:ByteArray:=⟨#[49]⟩
theorem Wu:Asc Jz:=⟨by decide,by decide⟩
theorem Bg:∀i,i<13->By (Vh Jz i):=by
 unfold By;decide
theorem Fx (i:Nat):Vh Jz i≠10:=by
 rcases ZJ i 13 with h|h
 .have:=Bg i h
  unfold By at this;omega
 have:Vh Jz i=0:=by unfold Vh;rw [dif_neg (by show ¬i<13;omega)]
 omega
def Jm3 (r:Int):Bool:=decide (Vr9 r=3)||decide (Vr9 r=4)
def Jg1 (r:Int):Bool:=decide (Vr9 r=1)||decide (Vr9 r=2)
def Jb7 (r:Int):Bool:=decide (Vr9 r=4)
theorem Pa (r:Int) (h:By r) (w:World):Calls prog 316 #[.int .i32 r] w λe w'=>e=.returned (.bool (Jm3 r))∧Below w.heap.size w w':=by
 have c:=Nq r h w;rcases h with rfl|rfl|rfl|rfl|rfl|rfl|rfl|rfl
 all_goals
  simp only [Vr9] at c;go_enter func316,ntmps316
  go_wp2_with fail
  refine c.mono ?_;rintro e _ ⟨rfl,hb⟩;go_wp2_with fail
  go_ret
  exact ⟨rfl,hb⟩
theorem Zr2 (r:Int) (h:By r) (w:World):Calls prog 262 #[.int .i32 r] w λe w'=>e=.returned (.bool (Jg1 r))∧Below w.heap.size w w':=by
 have c:=Nq r h w;rcases h with rfl|rfl|rfl|rfl|rfl|rfl|rfl|rfl
 all_goals
  simp only [Vr9] at c;go_enter func262,ntmps262
  go_wp2_with fail
  refine c.mono ?_;rintro e _ ⟨rfl,hb⟩;go_wp2_with fail
  go_ret
  exact ⟨rfl,hb⟩
theorem Jx2 (r:Int) (h:By r) (w:World):Calls prog 319 #[.int .i32 r] w λe w'=>e=.returned (.bool (Jb7 r))∧Below w.heap.size w w':=by
 have c:=Nq r h w;rcases h with rfl|rfl|rfl|rfl|rfl|rfl|rfl|rfl
 all_goals
  simp only [Vr9] at c;go_enter func319,ntmps319
  go_wp2_with fail
  refine c.mono ?_;rintro e _ ⟨rfl,hb⟩;go_wp2_with fail
  go_ret
  exact ⟨rfl,hb⟩
theorem Qe2 (w:World):Calls prog 317 #[.string Qr7] w λe w'=>e=.returned (.bool true)∧w=w':=by
 go_enter func317,ntmps317
 go_wp2
 go_ret
 exact ⟨rfl,rfl⟩
theorem Qj1 (w:World):Calls prog 317 #[.string sX] w λe w'=>e=.returned (.bool false)∧w=w':=by
 go_enter func317,ntmps317
 go_wp2
 go_ret
 exact ⟨rfl,rfl⟩
theorem Qd8 (w:World):Calls prog 348 #[.string sX] w λe w'=>e=.returned (.int .i64 1)∧Below w.heap.size w w':=by
 have hA:((sX[0]'(by decide)).toNat)<128:=by decide
 have:=λty=>run_next_ascii (P:=prog) w sX 0 ty (by decide) hA
 have:=λty=>run_next_end (P:=prog) w sX 1 ty (by decide)
 go_enter func348,ntmps348
 go_wp2
 go_rounds 2
 go_ret
 exact ⟨rfl,(QK _ _).alloc (ZH _) _⟩
theorem Oa (w:World):Calls prog 318 #[.string sX] w λe w'=>e=.returned (.bool false)∧Below w.heap.size w w':=by
 have c:=Qd8 w;go_enter func318,ntmps318
 go_wp2_with fail
 refine c.mono ?_;rintro e _ ⟨rfl,hb⟩;go_wp2_with fail
 go_ret
 exact ⟨rfl,hb⟩
theorem Zb3 (w:World) (s:ByteArray):∃c W1,(convert 9 47 (.string s)).run prog w=.ok (.slice (some ⟨w.heap.size,0,none⟩) s.size c) W1∧(∀i (h:i<s.size),W1.cell? ⟨w.heap.size,i,none⟩=some (.int .u8 ((s[i]'h).toNat:Int)))∧Below w.heap.size w W1:=by
 refine ⟨_,_,run_bytes_of_string w 9 47 5 s underlying9 underlying47 underlying5,λi h=>?_,?_⟩
 .have e:(w.drew.alloc (.cells (bytesRow s (grownCap w s.size 0 5)) 5 ((bytesRow s (grownCap w s.size 0 5)).size,(bytesRow s (grownCap w s.size 0 5)).size+1))).cell? ⟨w.heap.size,i,none⟩=(bytesRow s (grownCap w s.size 0 5))[i]?:=by
   unfold World.cell? World.alloc World.drew;simp
  exact e.trans (bytesRow_at s _ i h)
 exact (QK _ _).drew.alloc (ZH _) _
theorem Qx7 (w:World):Calls prog 320 #[.string Fm,.int .i64 10,.int .i64 64] w λe w'=>e=.returned (.tuple #[.int .i64 1,.nilIface])∧Below w.heap.size w w':=by
 obtain ⟨_,W1,hcv,hcell,hb⟩:=Zb3 w Fm;have:W1.cell? ⟨w.heap.size,0,none⟩=some (.int .u8 49):=hcell 0 (by decide);have:((Fm[0]'(by decide)).toNat:Int)=49:=rfl;have hz:Fm.size=1:=rfl;rw [hz] at hcv;clear hcell hz;have:IntKind.u64.wrap (IntKind.u64.wrap 18446744073709551616 - 1)=18446744073709551615:=by decide
 go_enter func320,ntmps320
 go_wp2
 go_rounds 2
 all_goals
  go_ret2
  exact ⟨rfl,hb⟩
section
theorem Fw (l p:List UInt8) (hl:l.length≤1000) (hp:p.length≤1000) (w:World):
 Calls prog 265 #[.string ⟨l.toArray⟩,.string ⟨p.toArray⟩] w λe w'=>e=.returned (.bool (decide (p.length≤l.length)&&(l.take p.length==p)))∧w=w':=by
 obtain ⟨t,ht⟩:∃t,t=(decide (p.length≤l.length)&&(l.take p.length==p)):=⟨_,rfl⟩;rw [<-ht];have HT:=Hd ht;clear ht;by_cases h:p.length≤l.length
 .go_enter func265,ntmps265
  go_wp2
  go_ret
  exact ⟨by
   rw [HT.out,ZE h,Bool.true_and];show Ending.returned (.bool (((⟨l.toArray⟩:ByteArray).extract 0 p.length).toList==p))=_
   rw [ByteArray.extract_mk,ByteArray.toList_mk,ZT,Nat.sub_zero],rfl⟩
 .go_enter func265,ntmps265
  go_wp2
  go_ret
  exact ⟨by rw [HT.out,ZA h];rfl,rfl⟩
theorem Lt {s:ByteArray} {p:Nat->Bool} {n m:Nat} (h:n≤m) (hs:m≤s.size) (hy:∀j,j<m->n≤j->p j=true) (hn:m<s.size->p m=false):Run s p n m:=⟨h,hs,λj a b=>hy j b a,hn⟩
theorem Pr (b n m:Nat) (v:Value) (w:World) (h:Vv w b Jz n v) (hR:Run Jz (λi=>Jm3 (Vh Jz i)) n m):
 Calls prog 264 #[.pointer (some ⟨b,0,none⟩),.func (.func 316) #[] #[]] w λe w'=>e=.returned (.string (Jz.extract n m))∧Vv w' b Jz m v∧w.grownBy w' (some b):=
 Gk b n m _ Jz v _ w h Wu Fx hR (.inl rfl) (λi hi W=>Pa _ (Bg i hi) W)
theorem Zo4 (b n m:Nat) (v:Value) (w:World) (h:Vv w b Jz n v) (hR:Run Jz (λi=>Jg1 (Vh Jz i)) n m):
 Calls prog 264 #[.pointer (some ⟨b,0,none⟩),.func (.func 262) #[] #[]] w λe w'=>e=.returned (.string (Jz.extract n m))∧Vv w' b Jz m v∧w.grownBy w' (some b):=
 Gk b n m _ Jz v _ w h Wu Fx hR (.inr (.inl rfl)) (λi hi W=>Zr2 _ (Bg i hi) W)
theorem Zt3 (b n m:Nat) (v:Value) (w:World) (h:Vv w b Jz n v) (hR:Run Jz (λi=>Jb7 (Vh Jz i)) n m):
 Calls prog 264 #[.pointer (some ⟨b,0,none⟩),.func (.func 319) #[] #[]] w λe w'=>e=.returned (.string (Jz.extract n m))∧Vv w' b Jz m v∧w.grownBy w' (some b):=
 Gk b n m _ Jz v _ w h Wu Fx hR (.inr (.inr rfl)) (λi hi W=>Jx2 _ (Bg i hi) W)
def Xs (k:Int) (s:ByteArray) (n:Int) (l c:Int):Value:=.agg #[.int .i64 k,.string s,.int .i64 n,.int .i64 l,.int .i64 c]
structure Vr (w:World) (g:Nat) (k:Int) (s:ByteArray) (n l c:Int):Prop where
 c0:w.cell? ⟨g,0,none⟩=some (.int .i64 k)
 c1:w.cell? ⟨g,1,none⟩=some (.string s)
 c2:w.cell? ⟨g,2,none⟩=some (.int .i64 n)
 c3:w.cell? ⟨g,3,none⟩=some (.int .i64 l)
 c4:w.cell? ⟨g,4,none⟩=some (.int .i64 c)
 fr:∀i,w.frozen? ⟨g,i,none⟩=false
section
variable {w w':World} {g b:Nat} {k n l c:Int} {s:ByteArray}
theorem Vr.lt (h:Vr w g k s n l c):g<w.heap.size:=QO w ⟨g,0,none⟩ h.c0
theorem Vr.only (h:Vr w g k s n l c) (hg:w.grownBy w' (some b)) (hne:g≠b):Vr w' g k s n l c:=
 ⟨Qy hg h.c0 hne,Qy hg h.c1 hne,Qy hg h.c2 hne,Qy hg h.c3 hne,Qy hg h.c4 hne,λi=>Jc hg (h.fr i) h.lt hne⟩
theorem Vr.below (h:Vr w g k s n l c) (hb:Below w.heap.size w w'):Vr w' g k s n l c:=by
 have e:=λi=>hb.cell (p:=⟨g,i,none⟩) h.lt
 exact ⟨(e 0).trans h.c0,(e 1).trans h.c1,(e 2).trans h.c2,(e 3).trans h.c3,(e 4).trans h.c4,λi=>(hb.frozen (p:=⟨g,i,none⟩) h.lt).trans (h.fr i)⟩
theorem Vr.new (w:World) (k:Int) (s:ByteArray) (n l c:Int) (t:TypeId):Vr (w.alloc (.cells #[.int .i64 k,.string s,.int .i64 n,.int .i64 l,.int .i64 c] t)) w.heap.size k s n l c:=by
 refine ⟨?_,?_,?_,?_,?_,λi=>?_⟩
 all_goals simp [go_sem]
end
theorem Vv.only {w w':World} {b g n:Nat} {s:ByteArray} {v:Value} (h:Vv w b s n v) (hg:w.grownBy w' (some g)) (hne:b≠g):Vv w' b s n v:=
 ⟨Qy hg h.c0 hne,Qy hg h.c1 hne,Qy hg h.c2 hne,Qy hg h.c3 hne,Qy hg h.c4 hne,λi=>Jc hg (h.fr i) h.lt hne⟩
def Yv (w:World) (g:Nat) (k:Int) (s:ByteArray) (n l c:Int):World:=((((w.setCell ⟨g,0,none⟩ (.int .i64 k)).setCell ⟨g,1,none⟩ (.string s)).setCell ⟨g,2,none⟩ (.int .i64 n)).setCell ⟨g,3,none⟩ (.int .i64 l)).setCell ⟨g,4,none⟩ (.int .i64 c)
theorem Sy (w:World) (g:Nat) (k:Int) (s:ByteArray) (n l c:Int):w.grownBy (Yv w g k s n l c) (some g):=by
 unfold Yv;exact Qv (p:=⟨g,4,none⟩) (Qv (p:=⟨g,3,none⟩) (Qv (p:=⟨g,2,none⟩) (Qv (p:=⟨g,1,none⟩) (Qv (p:=⟨g,0,none⟩) (QN _ _) (.inl rfl) _) (.inl rfl) _) (.inl rfl) _) (.inl rfl) _) (.inl rfl) _
theorem Vr.put {w:World} {g:Nat} {k n l c:Int} {s:ByteArray} (h:Vr w g k s n l c) (k':Int) (s':ByteArray) (n' l' c':Int):Vr (Yv w g k' s' n' l' c') g k' s' n' l' c':=by
 obtain ⟨c0,c1,c2,c3,c4,fr⟩:=h;refine ⟨?_,?_,?_,?_,?_,λi=>?_⟩
 all_goals simp [Yv,c0,c1,c2,c3,c4,fr,go_sem]
theorem Vz5 {w w1:World} {b n:Nat} {v:Value} {k m l c:Int} {s:ByteArray} (hT:Vr w1 w.heap.size k s m l c) (hL:Vv w1 b Jz n v) (hG:w.grownBy w1 (some b)) (hne:w.heap.size≠b) (k':Int) (s':ByteArray) (m' l' c':Int) (o:Obj):
 Vr ((Yv w1 w.heap.size k' s' m' l' c').alloc o) w.heap.size k' s' m' l' c'∧Vv ((Yv w1 w.heap.size k' s' m' l' c').alloc o) b Jz n v∧w.grownBy ((Yv w1 w.heap.size k' s' m' l' c').alloc o) (some b):=by
 have g:=Sy w1 w.heap.size k' s' m' l' c';have hb:∀W:World,Below W.heap.size W (W.alloc o):=λW=>(QK _ _).alloc (ZH _) _
 refine ⟨(hT.put k' s' m' l' c').below (hb _),(hL.only g (Ne.symm hne)).below (hb _),Qa ?_ (hb _)⟩;unfold Yv;exact Qv (p:=⟨_,4,none⟩) (Qv (p:=⟨_,3,none⟩) (Qv (p:=⟨_,2,none⟩) (Qv (p:=⟨_,1,none⟩) (Qv (p:=⟨_,0,none⟩) hG (.inr (ZH _)) _) (.inr (ZH _)) _) (.inr (ZH _)) _) (.inr (ZH _)) _) (.inr (ZH _)) _
theorem La (w:World) (b:Nat) (n:Nat) (v:Value) (h:Vv w b Jz n v):∃W,W=w.alloc (.cells #[.int .i64 0,.string ⟨#[]⟩,.int .i64 0,.int .i64 0,.int .i64 0] 214)∧Vr W w.heap.size 0 ⟨#[]⟩ 0 0 0∧Vv W b Jz n v∧w.grownBy W (some b)∧w.heap.size≠b∧b<w.heap.size:=
 ⟨_,rfl,Vr.new _ _ _ _ _ _ _,h.below ((QK _ _).alloc (ZH _) _),Qr ((QK _ _).alloc (ZH _) _) _,by have:=h.lt;omega,h.lt⟩
theorem Jo6 (b:Nat) (v:Value) (w:World) (h:Vv w b Jz 0 v):
 Calls prog 268 #[.pointer (some ⟨b,0,none⟩)] w λe w'=>e=.returned (.tuple #[Xs 3 Qr7 0 0 0,.int .i64 0])∧Vv w' b Jz 3 v∧w.grownBy w' (some b):=by
 obtain ⟨W,hW,hT,hL,hG,hne,_⟩:=La w b 0 v h;have c:=Pr b 0 3 v W hL (Lt (by decide) (by decide) (by decide) (by decide));rw [show Jz.extract 0 3=Qr7 by decide] at c;go_enter func268,ntmps268
 go_wp2_with fail
 rw [<-hW];clear hW h;with_reducible refine c.mono ?_
 clear c;rintro e _ ⟨rfl,hL1,hG1⟩;have hT1:=hT.only hG1 hne;have hG2:=hG.trans hG1;have:=hT1.lt;clear hT hL hG hG1;go_wp2_with fail
 have c2:=λW=>Qe2 W
 with_reducible refine (c2 _).mono ?_
 rintro e _ ⟨rfl,rfl⟩;obtain ⟨_,_,_,_,_,_⟩:=id hT1;go_wp2_with fail
 obtain ⟨hT2,hL2,hG3⟩:=Vz5 hT1 hL1 hG2 hne 3 Qr7 0 0 0 (.cells #[.int .i64 3,.string Qr7,.int .i64 0,.int .i64 0,.int .i64 0] 214);obtain ⟨s0,s1,s2,s3,s4,_⟩:=id hT2;unfold Yv at s0 s1 s2 s3 s4;exact QL (v:=.tuple #[Xs 3 Qr7 0 0 0,.int .i64 0]) (by simp [results,results268,go_sem,s0,s1,s2,s3,s4,Xs]) rfl ⟨rfl,hL2,hG3⟩
end
theorem Qc8 {w w1:World} {b n:Nat} {v:Value} {k m l c:Int} {s:ByteArray} (hT:Vr w1 w.heap.size k s m l c) (hL:Vv w1 b Jz n v) (hG:w.grownBy w1 (some b)) (hne:w.heap.size≠b) (k':Int) (s':ByteArray) (m' l' c':Int):
 Vr (Yv w1 w.heap.size k' s' m' l' c') w.heap.size k' s' m' l' c'∧Vv (Yv w1 w.heap.size k' s' m' l' c') b Jz n v∧w.grownBy (Yv w1 w.heap.size k' s' m' l' c') (some b):=by
 have g:=Sy w1 w.heap.size k' s' m' l' c';refine ⟨hT.put k' s' m' l' c',hL.only g (Ne.symm hne),?_⟩;unfold Yv;exact Qv (p:=⟨_,4,none⟩) (Qv (p:=⟨_,3,none⟩) (Qv (p:=⟨_,2,none⟩) (Qv (p:=⟨_,1,none⟩) (Qv (p:=⟨_,0,none⟩) hG (.inr (ZH _)) _) (.inr (ZH _)) _) (.inr (ZH _)) _) (.inr (ZH _)) _) (.inr (ZH _)) _
theorem Sv (w:World) (k:Int) (s:ByteArray) (n l c:Int):∃W,W=w.alloc (.cells #[.int .i64 k,.string s,.int .i64 n,.int .i64 l,.int .i64 c] 214)∧Vr W w.heap.size k s n l c∧Below w.heap.size w W:=
 ⟨_,rfl,Vr.new _ _ _ _ _ _ _,(QK _ _).alloc (ZH _) _⟩
theorem Ju4 (b n:Nat) (hn:n=4∨n=7) (v:Value) (w:World) (h:Vv w b Jz n v):
 Calls prog 268 #[.pointer (some ⟨b,0,none⟩)] w λe w'=>e=.returned (.tuple #[Xs 1 sX 0 0 0,.int .i64 0])∧Vv w' b Jz (n+1) v∧w.grownBy w' (some b):=by
 obtain ⟨W,hW,hT,hL,hG,hne,_⟩:=La w b n v h;have c:Calls prog 264 #[.pointer (some ⟨b,0,none⟩),.func (.func 316) #[] #[]] W λe w'=>e=.returned (.string sX)∧Vv w' b Jz (n+1) v∧W.grownBy w' (some b):=by
  rcases hn with rfl|rfl
  .exact Pr b 4 5 v W hL (Lt (by decide) (by decide) (by decide) (by decide))
  exact Pr b 7 8 v W hL (Lt (by decide) (by decide) (by decide) (by decide))
 clear hn;go_enter func268,ntmps268
 go_wp2_with fail
 rw [<-hW];clear hW h;with_reducible refine c.mono ?_
 clear c;rintro e w1 ⟨rfl,hL1,hG1⟩;have hT1:=hT.only hG1 hne;have hG2:=hG.trans hG1;have:=hT1.lt;clear hT hL hG hG1;go_wp2_with fail
 have c2:=λW=>Qj1 W
 with_reducible refine (c2 _).mono ?_
 rintro e _ ⟨rfl,rfl⟩;clear c2;have hB:=(QK w1.heap.size w1).alloc (ZH _) (.cells #[.int .i64 1,.string sX,.int .i64 0,.int .i64 0,.int .i64 0] 214);have hT2:=hT1.below hB;have hT3:=Vr.new w1 1 sX 0 0 0 214;have hL2:=hL1.below hB;have hG3:=Qa hG2 hB;have:=hB.size;have:=hT3.lt;generalize hq:w1.alloc (.cells #[.int .i64 1,.string sX,.int .i64 0,.int .i64 0,.int .i64 0] 214)=W2 at*;clear hT1 hL1 hG2 hB hq;obtain ⟨q0,q1,q2,q3,q4,qf⟩:=id hT3;go_wp2_with fail
 with_reducible refine (Oa _).mono ?_
 rintro e _ ⟨rfl,hb3⟩;have hT4:=hT2.below hb3;have hT5:=hT3.below hb3;have hL4:=hL2.below hb3;have hG4:=Qa hG3 hb3;clear hT2 hT3 hL2 hG3 hb3 q0 q1 q2 q3 q4 qf;obtain ⟨_,_,_,_,_,_⟩:=id hT4;obtain ⟨_,_,_,_,_,_⟩:=id hT5;go_wp2_with fail
 obtain ⟨hT2,hL2,hG3⟩:=Qc8 hT4 hL4 hG4 hne 1 sX 0 0 0;obtain ⟨s0,s1,s2,s3,s4,_⟩:=id hT2;unfold Yv at s0 s1 s2 s3 s4;exact QL (v:=.tuple #[Xs 1 sX 0 0 0,.int .i64 0]) (by simp [results,results268,go_sem,s0,s1,s2,s3,s4,Xs]) rfl ⟨rfl,hL2,hG3⟩
theorem Zj1 (b:Nat) (v:Value) (w:World) (h:Vv w b Jz 11 v):
 Calls prog 269 #[.pointer (some ⟨b,0,none⟩)] w λe w'=>e=.returned (.tuple #[Xs 2 Fm 1 0 0,.int .i64 0])∧Vv w' b Jz 12 v∧w.grownBy w' (some b):=by
 obtain ⟨W,hW,hT,hL,hG,hne,_⟩:=La w b 11 v h;have c:Calls prog 264 #[.pointer (some ⟨b,0,none⟩),.func (.func 319) #[] #[]] W λe w'=>e=.returned (.string Fm)∧Vv w' b Jz 12 v∧W.grownBy w' (some b):=Zt3 b 11 12 v W hL (Lt (by decide) (by decide) (by decide) (by decide))
 go_enter func269,ntmps269
 go_wp2_with fail
 rw [<-hW];clear hW h;with_reducible refine c.mono ?_
 clear c;rintro e w1 ⟨rfl,hL1,hG1⟩;have hT1:=hT.only hG1 hne;have hG2:=hG.trans hG1;clear hT hL hG hG1;obtain ⟨W2,hW2,hT3,hB⟩:=Sv w1 2 Fm 0 0 0;have hT2:=hT1.below hB;have hL2:=hL1.below hB;have hG3:=Qa hG2 hB;have:=hT1.lt;have:=hB.size;have:=hT3.lt;have:=hL1.lt;clear hT1 hL1 hG2 hB;obtain ⟨q0,q1,q2,q3,q4,qf⟩:=id hT3;rw [hW2] at q0 q1 q2 q3 q4;go_wp2_with fail
 rw [<-hW2];clear hW2;with_reducible refine (Qx7 W2).mono ?_
 rintro e w3 ⟨rfl,hb3⟩;have hT4:=hT2.below hb3;have hT5:=hT3.below hb3;have hL4:=hL2.below hb3;have hG4:=Qa hG3 hb3;clear hT2 hT3 hL2 hG3 hb3 q0 q1 q2 q3 q4 qf;have cp:=Lo b 12 Jz v w3 hL4 Wu (by decide);rw [show Vh Jz 12=59 by decide,show decide (12<Jz.size)=true by decide] at cp;go_wp2_with fail
 with_reducible refine cp.mono ?_
 clear cp;rintro e w4 ⟨rfl,hb4⟩;have hT6:=hT4.below hb4;have hT7:=hT5.below hb4;have hL6:=hL4.below hb4;have hG6:=Qa hG4 hb4;clear hT4 hT5 hL4 hG4 hb4;obtain ⟨k0,k1,k2,k3,k4,kf⟩:=id hT7;obtain ⟨j0,j1,j2,j3,j4,jf⟩:=id hT6;have cc:=Nq 59 (by unfold By;decide) w4;simp only [Vr9] at cc;go_wp2_with fail
 clear k0 k1 k2 k3 k4 kf j0 j1 j2 j3 j4 jf;with_reducible refine cc.mono ?_
 clear cc;rintro e w5 ⟨rfl,hb5⟩;have hT8:=hT6.below hb5;have hT9:=hT7.below hb5;have hL8:=hL6.below hb5;have hG8:=Qa hG6 hb5;clear hT6 hT7 hL6 hG6 hb5;obtain ⟨k0,k1,k2,k3,k4,kf⟩:=id hT9;obtain ⟨j0,j1,j2,j3,j4,jf⟩:=id hT8;go_wp2_with fail
 have g:=Qv (p:=⟨w1.heap.size,2,none⟩) (QN w5 (some w1.heap.size)) (.inl rfl) (.int .i64 1);have hG9:=Qv (p:=⟨w1.heap.size,2,none⟩) hG8 (.inr (by show w.heap.size≤w1.heap.size;omega)) (.int .i64 1);obtain ⟨hT2,hL2,hG3⟩:=Qc8 (hT8.only g (by omega)) (hL8.only g (by omega)) hG9 hne 2 Fm 1 0 0;obtain ⟨s0,s1,s2,s3,s4,_⟩:=id hT2;unfold Yv at s0 s1 s2 s3 s4;exact QL (v:=.tuple #[Xs 2 Fm 1 0 0,.int .i64 0]) (by simp [results,results269,go_sem,s0,s1,s2,s3,s4,Xs]) rfl ⟨rfl,hL2,hG3⟩
theorem Sm (l p:List UInt8) (hl:l.length≤1000) (hp:p.length≤1000) (h:(decide (p.length≤l.length)&&(l.take p.length==p))=false) (w:World):
 Calls prog 265 #[.string ⟨l.toArray⟩,.string ⟨p.toArray⟩] w λe w'=>e=.returned (.bool false)∧w=w':=by
 have:=Fw l p hl hp w
 rw [h] at this;exact this
def Jf7 (n:Nat) (c:UInt8) (l:List UInt8):Prop:=(n=5∧c=59∧l=[59,32,120,32,61,32,49,59])∨(n=9∧c=61∧l=[61,32,49,59])∨(n=12∧c=59∧l=[59])
theorem Qa6 (b n:Nat) (c:UInt8) (l:List UInt8) (hs:Jf7 n c l) (v:Value) (w:World) (h:Vv w b Jz n v):
 Calls prog 270 #[.pointer (some ⟨b,0,none⟩)] w λe w'=>e=.returned (.tuple #[Xs 4 ⟨#[c]⟩ 0 0 0,.int .i64 0])∧Vv w' b Jz (n+1) v∧w.grownBy w' (some b):=by
 obtain ⟨W,hW,hT,hL,hG,hne,_⟩:=La w b n v h;have hn:n<13:=by unfold Jf7 at hs;omega
 have cr:∀W',Vv W' b Jz n v->Calls prog 266 #[.pointer (some ⟨b,0,none⟩)] W' λe w'=>e=.returned (.string ⟨l.toArray⟩)∧Below W'.heap.size W' w':=λW' hL=>by
  have:=Dr b n Jz v W' hL (by show n≤13;omega) (by decide)
  rcases hs with ⟨rfl,rfl,rfl⟩|⟨rfl,rfl,rfl⟩|⟨rfl,rfl,rfl⟩
  .exact this
  .exact this
  exact this
 have cst:=λW' hL'=>Ql7 b n Jz v W' hL' Wu (by show n<13;omega) (Fx n)
 have CR:=Hd cr;have CS:=Hd cst;clear cr cst;rcases hs with ⟨rfl,rfl,rfl⟩|⟨rfl,rfl,rfl⟩|⟨rfl,rfl,rfl⟩
 all_goals
  go_enter func270,ntmps270
  go_wp2_with fail
  rw [<-hW];clear hW h;go_loopw [5,8] (λs i wr=>∃k:Nat,k≤6∧i=.int .i64 k∧Vr wr w.heap.size 0 ⟨#[]⟩ 0 0 0∧Vv wr b Jz _ v∧w.grownBy wr (some b)) (λ_ i _=>6 - (intOf i).toNat)
  case atStart=>exact ⟨0,by omega,rfl,hT,hL,hG⟩
  case round=>
   obtain ⟨k,hk,rfl,hT1,hL1,hG1⟩:=hrel;clear hT hL hG;have hbl:=hL1.lt;have cr:=CR.out wr hL1;have ix0:∀W:World,(Instr.index 396 (.agg #[.string ⟨#[61,61]⟩,.string ⟨#[33,61]⟩,.string ⟨#[60,61]⟩,.string ⟨#[62,61]⟩,.string ⟨#[38,38]⟩,.string ⟨#[124,124]⟩]) (.int .i64 0)).run prog W=.ok (.string ⟨#[61,61]⟩) W:=λ_=>by kernel_rfl
   have ix1:∀W:World,(Instr.index 396 (.agg #[.string ⟨#[61,61]⟩,.string ⟨#[33,61]⟩,.string ⟨#[60,61]⟩,.string ⟨#[62,61]⟩,.string ⟨#[38,38]⟩,.string ⟨#[124,124]⟩]) (.int .i64 1)).run prog W=.ok (.string ⟨#[33,61]⟩) W:=λ_=>by kernel_rfl
   have ix2:∀W:World,(Instr.index 396 (.agg #[.string ⟨#[61,61]⟩,.string ⟨#[33,61]⟩,.string ⟨#[60,61]⟩,.string ⟨#[62,61]⟩,.string ⟨#[38,38]⟩,.string ⟨#[124,124]⟩]) (.int .i64 2)).run prog W=.ok (.string ⟨#[60,61]⟩) W:=λ_=>by kernel_rfl
   have ix3:∀W:World,(Instr.index 396 (.agg #[.string ⟨#[61,61]⟩,.string ⟨#[33,61]⟩,.string ⟨#[60,61]⟩,.string ⟨#[62,61]⟩,.string ⟨#[38,38]⟩,.string ⟨#[124,124]⟩]) (.int .i64 3)).run prog W=.ok (.string ⟨#[62,61]⟩) W:=λ_=>by kernel_rfl
   have ix4:∀W:World,(Instr.index 396 (.agg #[.string ⟨#[61,61]⟩,.string ⟨#[33,61]⟩,.string ⟨#[60,61]⟩,.string ⟨#[62,61]⟩,.string ⟨#[38,38]⟩,.string ⟨#[124,124]⟩]) (.int .i64 4)).run prog W=.ok (.string ⟨#[38,38]⟩) W:=λ_=>by kernel_rfl
   have ix5:∀W:World,(Instr.index 396 (.agg #[.string ⟨#[61,61]⟩,.string ⟨#[33,61]⟩,.string ⟨#[60,61]⟩,.string ⟨#[62,61]⟩,.string ⟨#[38,38]⟩,.string ⟨#[124,124]⟩]) (.int .i64 5)).run prog W=.ok (.string ⟨#[124,124]⟩) W:=λ_=>by kernel_rfl
   rcases ZJ k 6 with hk6|hk6
   .rcases (show k=0∨k=1∨k=2∨k=3∨k=4∨k=5 by omega) with rfl|rfl|rfl|rfl|rfl|rfl
    all_goals
     clear hk hk6;go_wp2_with fail
     with_reducible refine cr.mono ?_
     clear cr;rintro e w2 ⟨rfl,hb2⟩;have hT2:=hT1.below hb2;have hL2:=hL1.below hb2;have hG2:=Qa hG1 hb2;clear hT1 hL1 hG1 hb2;go_wp2_with fail
     with_reducible refine (Sm _ _ (by decide) (by decide) (by decide) w2).mono ?_
     rintro e w3 ⟨rfl,rfl⟩;go_wp2_with fail
     go_roundw
     case rel=>first|exact ⟨1,by omega,rfl,hT2,hL2,hG2⟩|exact ⟨2,by omega,rfl,hT2,hL2,hG2⟩|exact ⟨3,by omega,rfl,hT2,hL2,hG2⟩|exact ⟨4,by omega,rfl,hT2,hL2,hG2⟩|exact ⟨5,by omega,rfl,hT2,hL2,hG2⟩|exact ⟨6,by omega,rfl,hT2,hL2,hG2⟩
     case measure=>simp [intOf]
   obtain rfl:k=6:=by omega
   clear hk hk6;go_wp2_with fail
   with_reducible refine cr.mono ?_
   clear cr;rintro e w2 ⟨rfl,hb2⟩;have hT2:=hT1.below hb2;have hL2:=hL1.below hb2;have hG2:=Qa hG1 hb2;clear hT1 hL1 hG1 hb2;have cs:=CS.out w2 hL2;have x1:(⟨#[59,32,120,32,61,32,49,59]⟩:ByteArray).extract 0 1=⟨#[59]⟩:=by decide
   have x2:(⟨#[61,32,49,59]⟩:ByteArray).extract 0 1=⟨#[61]⟩:=by decide
   have x3:(⟨#[59]⟩:ByteArray).extract 0 1=⟨#[59]⟩:=by decide
   go_wp2_with fail
   with_reducible refine cs.mono ?_
   clear cs;rintro e w3 ⟨rfl,hL3,hG3⟩;have hT3:=hT2.only hG3 hne;have hG4:=hG2.trans hG3;have hs:=hT3.lt;clear hT2 hL2 hG2 hG3;obtain ⟨_,_,_,_,_,_⟩:=id hT3;go_wp2_with fail
   obtain ⟨hT4,hL4,hG5⟩:=Qc8 hT3 hL3 hG4 hne 4 _ 0 0 0;obtain ⟨s0,s1,s2,s3,s4,_⟩:=id hT4;unfold Yv at s0 s1 s2 s3 s4;exact QL (v:=.tuple #[Xs 4 _ 0 0 0,.int .i64 0]) (by simp [results,results270,go_sem,s0,s1,s2,s3,s4,Xs]) rfl ⟨rfl,hL4,hG5⟩
theorem Zu2 (s:ByteArray) (hA:Asc s) (w:World):Calls prog 204 #[.string s] w λe w'=>e=.returned (.tuple #[.int .i64 0,.int .i64 0])∧Below w.heap.size w w':=by
 have hsz:=hA.size;have HA:=Hd hA.lt;clear hA;go_enter func204,ntmps204
 go_wp2
 go_loopw [4] (λ_ wr=>∃pos,pos≤s.size∧wr=w.iter s pos) (λ_ wr=>s.size - wr.iterPos w.heap.size)
 case atStart=>exact ⟨0,Nat.zero_le _,rfl⟩
 obtain ⟨pos,_,rfl⟩:=hrel;rcases ZJ pos s.size with hlt|hge
 .have ha:=HA.out pos hlt;have rn:=λty=>run_next_ascii (P:=prog) w s pos ty hlt ha
  have hne:(((s[pos]'hlt).toNat:Int)!=65533)=true:=by
   have:((s[pos]'hlt).toNat:Int)≠65533:=by omega
   simpa using this
  go_wp2
  exact ⟨⟨pos+1,hlt,rfl⟩,by simp;omega⟩
 have rn:=λty=>run_next_end (P:=prog) w s pos ty (by omega)
 go_wp2
 go_ret2
 exact ⟨rfl,(QK _ _).alloc (ZH _) _⟩
