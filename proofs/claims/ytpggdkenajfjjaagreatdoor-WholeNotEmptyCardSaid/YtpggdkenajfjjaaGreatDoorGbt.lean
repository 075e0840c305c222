/- Lemmas for wholeNotEmpty; no conditions. -/
import Derived.Test.YtpggdkenajfjjaaGreatDoorGbr
import Derived.Test.YtpggdkenajfjjaaGreatDoorGbk
set_option linter.all false
set_option maxRecDepth 100000
set_option maxHeartbeats 16000000
namespace Go.Proofs.YtpggdkenajfjjaaGreatDoor
open Go.RowKit Tryz
open Go.Lib renaming hid → Hd
section
open Gn
def Lh (a0 a2:Value) (p x:Int) (es:Value) (m1 m2:Nat):List Value:=[a0,.int .i64 0,a2,.int .i64 p,.int .i64 x,es,.map (some m1),.map (some m2)]
def Fp:Ql:=⟨0,1,2,0,-1,0,-1,1,-1,0⟩
theorem Vo8 {w:World} {b m1 m2:Nat} {a0 a2 es:Value} {p x:Int} (h:Bx w b (Lh a0 a2 p x es m1 m2)) (p':Int):Bx (w.setCell ⟨b,3,none⟩ (.int .i64 p')) b (Lh a0 a2 p' x es m1 m2)∧w.grownBy (w.setCell ⟨b,3,none⟩ (.int .i64 p')) (some b):=
 ⟨by have k:=h.set (i:=3) (by simp [Lh]) (.int .i64 p');unfold Lh at k |-;simpa using k,Qv (p:=⟨b,3,none⟩) (QN w (some b)) (.inl rfl) _⟩
theorem Vo3 {w:World} {b m1 m2:Nat} {a0 a2 es:Value} {p x:Int} (h:Bx w b (Lh a0 a2 p x es m1 m2)) (x':Int):Bx (w.setCell ⟨b,4,none⟩ (.int .i64 x')) b (Lh a0 a2 p x' es m1 m2)∧w.grownBy (w.setCell ⟨b,4,none⟩ (.int .i64 x')) (some b):=
 ⟨by have k:=h.set (i:=4) (by simp [Lh]) (.int .i64 x');unfold Lh at k |-;simpa using k,Qv (p:=⟨b,4,none⟩) (QN w (some b)) (.inl rfl) _⟩
theorem Vo9 {w:World} {b m1 m2:Nat} {a0 a2 es:Value} {p x:Int} (h:Bx w b (Lh a0 a2 p x es m1 m2)) (es':Value):Bx (w.setCell ⟨b,5,none⟩ es') b (Lh a0 a2 p x es' m1 m2)∧w.grownBy (w.setCell ⟨b,5,none⟩ es') (some b):=
 ⟨by have k:=h.set (i:=5) (by simp [Lh]) es';unfold Lh at k |-;simpa using k,Qv (p:=⟨b,5,none⟩) (QN w (some b)) (.inl rfl) _⟩
theorem Zm8 (b m1 m2:Nat) (a0 a2 es:Value) (x:Int) (w:World) (h:Bx w b (Lh a0 a2 1 x es m1 m2)):Calls prog 87 #[.pointer (some ⟨b,0,none⟩)] w λe w'=>e=.returned (.int .i64 1)∧Bx w' b (Lh a0 a2 2 x es m1 m2)∧w.grownBy w' (some b):=by
 have:=h.cell 3 _ rfl;have:=h.fr;have:=h.lt;have H:=Hd (Vo8 h 2);clear h;go_enter func87,ntmps87
 go_wp2_with fail
 go_ret
 exact ⟨rfl,H.out.1,H.out.2⟩
theorem Jm9 (w:World):Calls prog 227 #[.int .i64 0,.int .i64 1,.int .i64 2] w λe w'=>e=.returned (.agg #[.int .i64 0,.int .i64 1,.int .i64 2,.int .i64 (-1),.int .i64 (-1),.int .i64 0,.int .i64 (-1),.int .i64 0,.int .i64 (-1),.int .i64 0])∧Below w.heap.size w w':=by
 obtain ⟨W,hW,hX,hB⟩:=Qh w [.int .i64 0,.int .i64 0,.int .i64 0,.int .i64 0,.int .i64 0,.int .i64 0,.int .i64 0,.int .i64 0,.int .i64 0,.int .i64 0] 56;have cN:=λW=>He W
 have HX:=Hd hX;have HB:=Hd hB;clear hX hB;go_enter func227,ntmps227
 go_upto_region 1 with fail
 rw [<-hW];clear hW;go_wp2_with fail
 with_reducible refine (cN _).mono ?_
 rintro e _ ⟨rfl,hb1⟩;have HX1:=Hd (HX.out.below hb1);have HB1:=Ht HB hb1;clear hb1;go_wp2_with fail
 with_reducible refine (cN _).mono ?_
 rintro e w2 ⟨rfl,hb2⟩;have hX2:=HX1.out.below hb2;have HB2:=Ht HB1 hb2;have HX2:=Hd hX2;clear hb2 cN;obtain ⟨x0,x1,x2,x3,x4,x5,x6,x7,x8,x9⟩:=hX2.c9;have:=hX2.fr;have:=hX2.lt;clear hX2;go_wp2_with fail
 have hput:=HX2.out.put (vs':=[.int .i64 0,.int .i64 1,.int .i64 2,.int .i64 (-1),.int .i64 (-1),.int .i64 0,.int .i64 (-1),.int .i64 0,.int .i64 (-1),.int .i64 0]) rfl;have hbel:=Qn (g:=w.heap.size) (ZH _) [.int .i64 0,.int .i64 1,.int .i64 2,.int .i64 (-1),.int .i64 (-1),.int .i64 0,.int .i64 (-1),.int .i64 0,.int .i64 (-1),.int .i64 0] 0 w2 HB2.out;clear x0 x1 x2 x3 x4 x5 x6 x7 x8 x9;obtain ⟨x0,x1,x2,x3,x4,x5,x6,x7,x8,x9⟩:=hput.c9;simp only [Qm,Nat.reduceAdd,Nat.zero_add] at hbel x0 x1 x2 x3 x4 x5 x6 x7 x8 x9;clear hput;generalize hW9:((((((((((w2.setCell ⟨w.heap.size,0,none⟩ (.int .i64 0)).setCell ⟨w.heap.size,1,none⟩ (.int .i64 1)).setCell ⟨w.heap.size,2,none⟩ (.int .i64 2)).setCell ⟨w.heap.size,3,none⟩ (.int .i64 (-1))).setCell ⟨w.heap.size,4,none⟩ (.int .i64 (-1))).setCell ⟨w.heap.size,5,none⟩ (.int .i64 0)).setCell ⟨w.heap.size,6,none⟩ (.int .i64 (-1))).setCell ⟨w.heap.size,7,none⟩ (.int .i64 0)).setCell ⟨w.heap.size,8,none⟩ (.int .i64 (-1))).setCell ⟨w.heap.size,9,none⟩ (.int .i64 0))=W9 at*;exact QL (v:=.agg #[.int .i64 0,.int .i64 1,.int .i64 2,.int .i64 (-1),.int .i64 (-1),.int .i64 0,.int .i64 (-1),.int .i64 0,.int .i64 (-1),.int .i64 0]) (by simp [results,results227,go_sem,x0,x1,x2,x3,x4,x5,x6,x7,x8,x9]) rfl ⟨rfl,hbel⟩
theorem Vg7:Ga prog 58 3 (.int .i64 0) 8:=⟨underlying58,by kernel_rfl,rfl,by decide⟩
def edV:Value:=.agg #[.int .i64 0,.int .i64 1,.int .i64 2,.int .i64 0,.int .i64 (-1),.int .i64 0,.int .i64 (-1),.int .i64 1,.int .i64 (-1),.int .i64 0]
def edC:List Value:=[.int .i64 0,.int .i64 1,.int .i64 2,.int .i64 0,.int .i64 (-1),.int .i64 0,.int .i64 (-1),.int .i64 1,.int .i64 (-1),.int .i64 0]
theorem elEdge:Ni prog 24 56 (.agg #[.int .i64 0,.int .i64 0,.int .i64 0,.int .i64 0,.int .i64 0,.int .i64 0,.int .i64 0,.int .i64 0,.int .i64 0,.int .i64 0]) 10 80:=⟨underlying24,by kernel_rfl,rfl,by decide,by decide⟩
theorem Vj3 (w:World) (t:TypeId):∀i u,edC[i]? =some u->(w.alloc (.cells #[.int .i64 0,.int .i64 1,.int .i64 2,.int .i64 0,.int .i64 (-1),.int .i64 0,.int .i64 (-1),.int .i64 1,.int .i64 (-1),.int .i64 0] t)).cell? ((⟨w.heap.size,0,none⟩:Addr).add i)=some u:=by
 intro i u h;rw [show ((⟨w.heap.size,0,none⟩:Addr).add i)=⟨w.heap.size,i,none⟩ by unfold Addr.add;split<;>simp_all,QM];simpa [edC] using h
theorem Vc4:∀u∈edC,u.oneCell'=true:=by simp [edC,Value.oneCell']
theorem Jl1 (b m1 m2:Nat) (a0 a2:Value) (p x:Int) (w:World) (h:Bx w b (Lh a0 a2 p x (.slice none 0 0) m1 m2)):Calls prog 229 #[.pointer (some ⟨b,0,none⟩),edV] w λe w'=>∃g c,e=.returned (.tuple #[])∧Bx w' b (Lh a0 a2 p x (.slice (some ⟨g,0,none⟩) 1 c) m1 m2)∧Cl w' g edC∧w.heap.size≤g∧(1≤c∧c≤maxLen)∧w.grownBy w' (some b):=by
 obtain ⟨W,hW,hX,hB⟩:=Qh w edC 56;have HX:=Hd (h.below hB);have:=Hd hX;have HB:=Hd hB;have:=h.lt;have:=hX.lt;have:=(h.below hB).cell 5 _ rfl;have:=(h.below hB).lt;obtain ⟨_,_,_,_,_,_,_,_,_,_⟩:=hX.c9;have:b≠w.heap.size:=by omega
 unfold edV;unfold edC at hW;clear h hX hB;go_enter func229,ntmps229
 go_upto_region 1 with fail
 rw [<-hW];clear hW;have HbW:=Hd (((QK _ W).alloc (ZH _) (.cells #[.int .i64 0,.int .i64 1,.int .i64 2,.int .i64 0,.int .i64 (-1),.int .i64 0,.int .i64 (-1),.int .i64 1,.int .i64 (-1),.int .i64 0] 56)).drew);go_region_law (refine Ye elEdge ((W.alloc (.cells #[.int .i64 0,.int .i64 1,.int .i64 2,.int .i64 0,.int .i64 (-1),.int .i64 0,.int .i64 (-1),.int .i64 1,.int .i64 (-1),.int .i64 0] 56)).drew) rfl (.tmp 9) (.tmp 11) rfl (W.heap.size+1) none 0 0 [] rfl (QV _ _ _ _) edC W.heap.size rfl rfl (Vj3 W _) Vc4 (by omega) (by simp) ?_;intro A' c' w9 hr9 hb9 hg9;have k0:=(HX.out.below HbW.out).under hb9 (by omega);have q0:=k0.cell 5 _ rfl;have q1:=k0.fr 5;have:=k0.lt;have K0:=Hd k0;have HR:=Hd hr9;have HB9:=Hd hb9;clear k0 hr9 hb9 hg9)
 all_goals
  obtain ⟨g,rfl,_,hle,hcl⟩:=Xh HR.out (by omega);have Hcl:=Hd hcl;obtain ⟨h10,g10⟩:=Vo9 K0.out (.slice (some ⟨g,0,none⟩) 1 c');have hbb:Below w.heap.size w w9:=HB.out.trans ((HbW.out.trans (HB9.out.mono (Nat.le_succ _))).mono HB.out.size);have hC:Cl (w9.setCell ⟨b,5,none⟩ (.slice (some ⟨g,0,none⟩) 1 c')) g edC:=Cl.only ⟨hle,λj u hu=>Hcl.out j u (by simpa using hu)⟩ g10 (by omega);have hG:w.grownBy (w9.setCell ⟨b,5,none⟩ (.slice (some ⟨g,0,none⟩) 1 c')) (some b):=(Qr hbb (some b)).trans g10;have HH:=Hd (show _∧_∧_ from ⟨h10,hC,hG⟩);have hgg:w.heap.size≤g:=by omega
  clear hcl h10 g10 hC hG hbb q0 q1;go_wp2_with fail
  go_end0
  exact ⟨g,c',rfl,HH.out.1,HH.out.2.1,hgg,⟨Lv HR.out,World.ownsRow.capMax HR.out⟩,HH.out.2.2⟩
theorem Zm5 (b:Nat) (w:World):Calls prog 282 #[.pointer (some ⟨b,0,none⟩),Jt.inner] w λe w'=>e=.returned (.tuple #[.agg #[.int .i64 (-1),.int .i64 1],.bool true])∧Below w.heap.size w w':=by
 unfold Jt Value.inner;go_enter func282,ntmps282
 go_wp2
 exact QL (v:=.tuple #[.agg #[.int .i64 (-1),.int .i64 1],.bool true]) (by simp [results,results282,go_sem]) rfl ⟨rfl,by go_grown⟩
def Qn7:List Value:=[.int .i64 0,.int .i64 1,.int .i64 2,.int .i64 (-1),.int .i64 (-1),.int .i64 0,.int .i64 (-1),.int .i64 0,.int .i64 (-1),.int .i64 0]
theorem Qr5 {w:World} {g:Nat} (h:Bx w g Qn7):Bx (((w.setCell ⟨g,3,none⟩ (.int .i64 0)).setCell ⟨g,6,none⟩ (.int .i64 (-1))).setCell ⟨g,7,none⟩ (.int .i64 1)) g edC∧w.grownBy (((w.setCell ⟨g,3,none⟩ (.int .i64 0)).setCell ⟨g,6,none⟩ (.int .i64 (-1))).setCell ⟨g,7,none⟩ (.int .i64 1)) (some g):=by
 refine ⟨?_,Qv (p:=⟨g,7,none⟩) (Qv (p:=⟨g,6,none⟩) (Qv (p:=⟨g,3,none⟩) (QN w (some g)) (.inl rfl) _) (.inl rfl) _) (.inl rfl) _⟩;have h1:Bx (w.setCell ⟨g,3,none⟩ (.int .i64 0)) g [.int .i64 0,.int .i64 1,.int .i64 2,.int .i64 0,.int .i64 (-1),.int .i64 0,.int .i64 (-1),.int .i64 0,.int .i64 (-1),.int .i64 0]:=by have k:=h.set (i:=3) (by simp [Qn7]) (.int .i64 0);unfold Qn7 at k;simpa using k
 have h2:Bx ((w.setCell ⟨g,3,none⟩ (.int .i64 0)).setCell ⟨g,6,none⟩ (.int .i64 (-1))) g [.int .i64 0,.int .i64 1,.int .i64 2,.int .i64 0,.int .i64 (-1),.int .i64 0,.int .i64 (-1),.int .i64 0,.int .i64 (-1),.int .i64 0]:=by have k:=h1.set (i:=6) (by simp) (.int .i64 (-1));simpa using k
 have k:=h2.set (i:=7) (by simp) (.int .i64 1);unfold edC;simpa using k
theorem Zw1 (b m1 m2:Nat) (a0 a2:Value) (p x:Int) (w:World) (h:Bx w b (Lh a0 a2 p x (.slice none 0 0) m1 m2)):Calls prog 226 #[.pointer (some ⟨b,0,none⟩),.int .i64 0,Jt.inner,.int .i64 0,.int .i64 1] w λe w'=>∃g c,e=.returned (.tuple #[])∧Bx w' b (Lh a0 a2 p x (.slice (some ⟨g,0,none⟩) 1 c) m1 m2)∧Cl w' g edC∧w.heap.size≤g∧(1≤c∧c≤maxLen)∧w.grownBy w' (some b):=by
 obtain ⟨W,hW,hX,hB⟩:=Qh w Zw 234;have cP:=Zm5 b W;have H1:=Hd (h.below hB);have HB1:=Hd hB;have:=h.lt;obtain ⟨x0,x1,x2,x3⟩:=hX.c3;have xl:=hX.lt;unfold Jt Value.inner at*;unfold Zw at hW;clear h hX hB;go_enter func226,ntmps226
 go_upto_region 1 with fail
 rw [<-hW];clear hW;go_wp2_with fail
 with_reducible refine cP.mono ?_
 clear cP;rintro e w2 ⟨rfl,hb2⟩;have H2:=Hd (H1.out.below hb2);have HB2:=Ht HB1 hb2;clear hb2 x0 x1 x2 x3 xl H1 HB1;obtain ⟨W3,hW3,hX3,hB3⟩:=Qh w2 [.int .i64 (-1),.int .i64 1] 54;have cB:=Jm9 W3;have H3:=Hd (H2.out.below hB3);have HX3:=Hd hX3;have HB3:=Ht HB2 hB3;clear hX3 hB3;go_upto_region 2 with fail
 rw [<-hW3];clear hW3;go_wp2_with fail
 with_reducible refine cB.mono ?_
 clear cB;rintro e w4 ⟨rfl,hb4⟩;obtain ⟨W5,hW5,hX5,hB5⟩:=Qh w4 Qn7 56;have hX35:=(HX3.out.below hb4).below hB5;have H5:=Hd ((H3.out.below hb4).below hB5);have HB5:=Hd (((Ht HB3 hb4).out).trans (hB5.mono (ZO HB3.out.size hb4.size)));have:w2.heap.size<w4.heap.size:=ZI HX3.out.lt hb4.size;have:=HB2.out.size;have HX5:=Hd hX5;unfold Qn7 at hW5;clear hb4 hB5 H2 HB2 H3 HB3 HX3;go_upto_region 5 with fail
 rw [<-hW5];clear hW5;obtain ⟨y0,y1⟩:=hX35.c1;have z3:=hX5.cell 3 _ rfl;have z6:=hX5.cell 6 _ rfl;have z7:=hX5.cell 7 _ rfl;have zf:=hX5.fr;have zl:=hX5.lt;have:w2.heap.size≠w4.heap.size:=by omega
 have:w4.heap.size≠w2.heap.size:=by omega
 clear hX35 hX5;go_cut [] (λwx=>Bx wx w4.heap.size edC∧W5.grownBy wx (some w4.heap.size))
 case first=>
  go_region
  all_goals
   go_wp2_with fail
   go_meet
   case rel=>exact ⟨(Qr5 HX5.out).1.drew,Yk (Qr5 HX5.out).2⟩
 obtain ⟨hX6,hG6⟩:=hcut;have h6:=H5.out.only hG6 (by omega);have cE:=Jl1 b m1 m2 a0 a2 p x wc h6;unfold edV at cE;have HB6:=Hd (HB5.out.grown hG6 HB5.out.size (λk e=>by cases e;omega));clear y0 y1 z3 z6 z7 zf zl HX5 hG6;obtain ⟨z0,z1,z2,z3,z4,z5,z6,z7,z8,z9⟩:=hX6.c9;have zl:=hX6.lt;clear hX6 h6;go_wp2_with fail
 with_reducible refine cE.mono ?_
 clear cE;rintro e _ ⟨g,c,rfl,hX7,hC7,_,hc7,hG7⟩;have HH:=Hd (show _∧_∧_ from ⟨hX7,hC7,(Qr HB6.out (some b)).trans hG7⟩);have hgg:w.heap.size≤g:=by have:=HB6.out.size;omega
 clear hX7 hC7 hG7 z0 z1 z2 z3 z4 z5 z6 z7 z8 z9 zl;go_wp2_with fail
 go_end0
 exact ⟨g,c,rfl,HH.out.1,HH.out.2.1,hgg,hc7,HH.out.2.2⟩
theorem Jb9 (b m1 m2 ge ce:Nat) (a0 a2:Value) (p x:Int) (w:World) (h:Bx w b (Lh a0 a2 p x (.slice none 0 0) m1 m2)) (hE:Cl w ge Zw) (hM:Vj w m1 (Zj2 0) 1) (hne:m1≠b):Calls prog 148 #[.pointer (some ⟨b,0,none⟩),(Ya ge ce).inner,.int .i64 0,.int .i64 1] w λe w'=>∃g c,e=.returned (.tuple #[])∧Bx w' b (Lh a0 a2 p x (.slice (some ⟨g,0,none⟩) 1 c) m1 m2)∧Cl w' g edC∧w.heap.size≤g∧(1≤c∧c≤maxLen)∧w.grownBy w' (some b):=by
 obtain ⟨W,hW,hX,hB⟩:=Qh w (Ja ge ce) 222;have hBd:Below W.heap.size W W.drew:=(QK _ W).drew;have cA:=Hd (Zw1 b m1 m2 a0 a2 p x W.drew ((h.below hB).below hBd));have hE1:=hE.go hB;have:=Dp (P:=prog) underlying143 .string underlying9 (.inl rfl) ((hM.go hB).drew) (key:=.string sX) (v:=.int .i64 0) 0 rfl;have:=(h.below hB).cell 6 _ rfl;have:=(h.below hB).lt;have:=h.lt;have HB:=Hd (hB.trans (hBd.mono hB.size));obtain ⟨_,_,_⟩:=hX.c2;have:=hX.lt;have:=hE1.2 0 _ rfl;have:=hE1.2 1 _ rfl;have:=hE1.2 2 _ rfl;have:=hE1.2 3 _ rfl;have:=hE1.1;unfold Jt Value.inner at cA;unfold Ya Value.inner;unfold Ja at hW;clear h hX hB hE hE1 hM hBd;go_enter func148,ntmps148
 go_upto_region 1 with fail
 rw [<-hW];clear hW;go_wp2_with fail
 go_region_law ((go_simp;go_at_call 226;(with_reducible refine cA.out.mono ?_);rintro e _ ⟨g,c,rfl,hX7,hC7,_,hc7,hG7⟩;have HH:=Hd (show _∧_∧_ from ⟨hX7,hC7,(Qr HB.out (some b)).trans hG7⟩);clear hX7 hC7 hG7))
 all_goals
  have hgg:w.heap.size≤g:=by have:=HB.out.size;omega
  go_wp2_with fail
  go_end0
  exact ⟨g,c,rfl,HH.out.1,HH.out.2.1,hgg,hc7,HH.out.2.2⟩
theorem Zm9 (b m1 m2 gb cb ge ce:Nat) (a0 a2:Value) (p x:Int) (w:World) (h:Bx w b (Lh a0 a2 p x (.slice none 0 0) m1 m2)) (hS:Cl w gb (Ja ge ce)) (hE:Cl w ge Zw) (hM:Vj w m1 (Zj2 0) 1) (hne:m1≠b):Calls prog 88 #[.pointer (some ⟨b,0,none⟩),.slice (some ⟨gb,0,none⟩) 1 cb,.int .i64 0,.int .i64 1] w λe w'=>∃g c,e=.returned (.tuple #[])∧Bx w' b (Lh a0 a2 p x (.slice (some ⟨g,0,none⟩) 1 c) m1 m2)∧Cl w' g edC∧w.heap.size≤g∧(1≤c∧c≤maxLen)∧w.grownBy w' (some b):=by
 have hE64:=Vg7;have HW:=Hd h;have HSb:=Hd hS;have HEx:=Hd hE;have HM:=Hd hM;have:=h.lt;have:=hS.1;have:=hE.1;have:=hM.lt;clear h hS hE hM;go_enter func88,ntmps88
 obtain ⟨W0,hW0,hol,hB0⟩:∃W0,W0=w.alloc (.cells #[.int .i64 0] 3)∧Ow W0 w.heap.size 3 .i64 (some ⟨w.heap.size,0,none⟩) 1 [0]∧Below w.heap.size w W0:=⟨_,rfl,Ow.lit w w.heap.size 3 .i64 [0] (ZH _) (by decide),(QK w.heap.size w).alloc (ZH _) _⟩;have Hol:=Hd hol;have HB0:=Hd hB0;have hs0:=hB0.size;clear hol hB0;go_upto_region 2 with fail
 rw [<-hW0];clear hW0;go_wp2_with fail
 refine wp_loop_rounds 1 ?_;rw [QX];go_wp2_with (at_builtin;refine Nh hE64 W0 rfl (.tmp 27) (.tmp 29) rfl w.heap.size .i64 (some ⟨w.heap.size,0,none⟩) 1 [0] rfl Hol.out 1 rfl (by decide) hs0 ?_;intro A' c' w9 ho9 hb9)
 obtain ⟨g9,rfl,_,_,hc9⟩:∃g,A'=some ⟨g,0,none⟩∧w.heap.size≤g∧g<w9.heap.size∧∀i,i<2->w9.cell? ⟨g,i,none⟩=some (.int .i64 (Qe [0,1] i)):=by
  rcases ho9.form with ⟨_,_,h⟩|⟨g,h1,h2,h3,_,_,h5⟩
  .simp at h
  exact ⟨g,h1,h2,h3,h5⟩
 have c0:=hc9 0 (by omega);have c1:=hc9 1 (by omega);have HB9:=Hd (HB0.out.trans hb9);have hS9:=HSb.out.go HB9.out;have y0:=hS9.2 0 _ rfl;have y1:=hS9.2 1 _ rfl;have y2:=hS9.2 2 _ rfl;have y3:=hS9.2 3 _ rfl;have y4:=hS9.2 4 _ rfl;have y5:=hS9.2 5 _ rfl;have yl:=hS9.1;obtain ⟨W,hWq,hX,hBq⟩:=Qh w9 (Ja ge ce) 222;have HBq:=Hd hBq;have hBd:Below W.heap.size W W.drew:=(QK _ W).drew;have HBW:=Hd (((Ht HB9 hBq).out).trans (hBd.mono (ZO HB9.out.size hBq.size)));have cS:=Hd (Jb9 b m1 m2 ge ce a0 a2 p x W.drew (HW.out.below HBW.out) (HEx.out.go HBW.out) (HM.out.go HBW.out) hne);unfold Ya Value.inner at cS;unfold Ja at hWq;rw [show Qe [0,1] 0=0 from rfl] at c0;rw [show Qe [0,1] 1=1 from rfl] at c1;clear hc9 ho9 hb9 hBq hBd hS9 Hol HB0 hs0;refine wp_loop_rounds 2 ?_;rw [QX];go_upto_region 10 with fail
 rw [<-hWq];obtain ⟨z0,z1,z2,z3,z4,z5⟩:=hX.c5;have:=hX.lt;have c0':=Qq HBq.out c0;have c1':=Qq HBq.out c1;have:g9<W.heap.size:=by omega
 have:IntKind.i64.wrap 1=1:=by decide
 clear hWq y0 y1 y2 y3 y4 y5 yl c0 c1 hX;go_region_law ((go_simp;go_at_call 148;(with_reducible refine cS.out.mono ?_);rintro e _ ⟨g,c,rfl,hX7,hC7,_,hc7,hG7⟩;have HH:=Hd (show _∧_∧_ from ⟨hX7,hC7,(Qr HBW.out (some b)).trans hG7⟩);have hgg:w.heap.size≤g:=(by have:=HBW.out.size;omega);clear hX7 hC7 hG7))
 all_goals
  clear z0 z1 z2 z3 z4 z5 c0' c1';go_wp2_with fail
  rw [QX];go_wp2_with fail
  go_end0
  exact ⟨g,c,rfl,HH.out.1,HH.out.2.1,hgg,hc7,HH.out.2.2⟩
def Ag:Zv:=⟨1,0,[],2,1,[Fp]⟩
def Jh1 (w:World) (e:Ending) (w':World):Prop:=∃m,e=.returned (.tuple #[Jm m Ag,.int .i64 0])∧Hg w' m Ag∧Below w.heap.size w w'
theorem Vb4 {w:World} {gv cv ga ca g c:Nat} (hC:Cl w g edC) (hc:1≤c∧c≤maxLen) (hv:1≤cv∧cv≤maxLen) (ha:ca≤maxLen):Hg w ⟨some ⟨gv,0,none⟩,cv,some ⟨ga,0,none⟩,ca,some ⟨g,0,none⟩,c⟩ Ag:=by
 refine ⟨λ_=>⟨g,0,rfl,hC.1,λi hi j u hu=>?_⟩,(λh=>absurd h (by decide)),⟨hc.1,hc.2⟩,⟨Nat.zero_le _,ha⟩,⟨hv.1,hv.2⟩,by decide,by decide,by decide,λi hi j n hn=>?_,(λi hi=>absurd hi (Nat.not_lt_zero i))⟩
 .obtain rfl:i=0:=by simpa [Ag] using hi
  have:=hC.2 j u hu
  simpa using this
 obtain rfl:i=0:=by simpa [Ag] using hi
 have h2:edC[j]? =some (Value.int .i64 n):=hn;unfold edC at h2;match j,h2 with
 |0,h2|1,h2|2,h2|3,h2|4,h2|5,h2|6,h2|7,h2|8,h2|9,h2=>simp at h2;subst h2;decide
theorem PgB.only {w0 w w':World} {gd cd gb cb ge ce x:Nat} (h:PgB w0 gd cd gb cb ge ce w) (hg:w.grownBy w' (some x)) (hx:w0.heap.size<x) (hl:gd<w0.heap.size∧gb<w0.heap.size∧ge<w0.heap.size):PgB w0 gd cd gb cb ge ce w':=
 ⟨h.bx.only hg (by omega),⟨h.pr.decls.only hg (by omega),h.pr.body.only hg (by omega),h.pr.expr.only hg (by omega)⟩,h.bl.grown hg h.bl.size (λk e=>by cases e;omega)⟩
theorem Zp6 (gd cd gb cb ge ce:Nat) (w:World) (h:Va w gd gb ge ce):Calls prog 44 #[Wl gd cd gb cb] w (Jh1 w):=by
 obtain ⟨W1,hW1,hX1,hB1⟩:=Qh w (Qs gd cd gb cb) 86;obtain ⟨W,hW,hX2,hB2⟩:=Qh W1 [.slice none 0 0,.int .i64 0,.slice none 0 0,.int .i64 0,.int .i64 0,.slice none 0 0] 26;have hs1:W1.heap.size=w.heap.size+1:=by rw [hW1];simp
 have hlow:gd<w.heap.size∧gb<w.heap.size∧ge<w.heap.size:=⟨h.decls.1,h.body.1,h.expr.1⟩;have hP:PgB w gd cd gb cb ge ce W:=⟨hX1.below hB2,(h.go hB1).go hB2,hB1.trans (hB2.mono hB1.size)⟩;rw [hs1] at hX2;rw [hW1] at hW;have cV:=Zm3 gd cd gb cb ge ce W hP.pr;obtain ⟨y0,y1⟩:=hP.bx.c1;have hl:=hP.bx.lt;have HP:=Hd hP;have HR:=Hd hX2;unfold Wl Qs at*;clear h hX1 hB1 hX2 hB2 hW1 hs1 hP;go_enter func44,ntmps44
 go_upto_region 1 with fail
 rw [<-hW];clear hW;go_wp2_with fail
 with_reducible refine cV.mono ?_
 clear cV;rintro e w1 ⟨gv,cv,rfl,hCv,hcv,hb1⟩;have h1:=HP.out.go hb1;have HR1:=Hd (HR.out.below hb1);have cA:=Ql9 gd cd gb cb ge ce w1 h1.pr;have H1:=Hd h1;have HCv:=Hd hCv;clear hb1 y0 y1 hl HP HR hCv;obtain ⟨y0,y1⟩:=h1.bx.c1;have hl:=h1.bx.lt;clear h1;unfold Wl at cA;go_wp2_with fail
 with_reducible refine cA.mono ?_
 clear cA;rintro e w2 ⟨ga,ca,rfl,hca,hb2⟩;have h2:=H1.out.go hb2;have HR2:=Hd (HR1.out.below hb2);have HCv2:=Hd (HCv.out.go hb2);have H2:=Hd h2;clear hb2 y0 y1 hl H1 HR1 HCv h2;have m1:=λW=>Vu1 W
 obtain ⟨W5,hW5,hX5,hB5⟩:=Qh ((w2.alloc (.map #[] 0)).alloc (.map #[] 0)) (Lh (.slice (some ⟨gv,0,none⟩) 1 cv) (.slice (some ⟨ga,0,none⟩) 0 ca) 1 0 (.slice none 0 0) w2.heap.size (w2.heap.size+1)) 159;have hs5:((w2.alloc (.map #[] 0)).alloc (.map #[] 0)).heap.size=w2.heap.size+1+1:=by simp
 have hB25:Below w2.heap.size w2 W5:=(((QK w2.heap.size w2).alloc (ZH _) (.map #[] 0)).alloc (by simp) (.map #[] 0)).trans (hB5.mono (by simp;omega));have hM5:Vj W5 w2.heap.size [] 0:=((Vj.new w2).go ((QK _ _).alloc (ZH _) (.map #[] 0))).go hB5;rw [hs5] at hX5;have H5:=Hd (H2.out.go hB25);have HR5:=Hd (HR2.out.below hB25);have HCv5:=Hd (HCv2.out.go hB25);have:w.heap.size+1<w2.heap.size:=HR2.out.lt;unfold Lh at hW5;clear hB5 hs5 hB25 H2 HR2 HCv2;go_upto_region 6 with fail
 rw [<-hW5];clear hW5 m1;have u1:=Rr (P:=prog) underlying143 .string underlying9 (.inl rfl) hM5 (key:=.string sX) rfl (.int .i64 0);obtain ⟨W6,hW6⟩:∃W6,W6=Ky W5 w2.heap.size (Zj2 0) 1:=⟨_,rfl⟩;have hM6:Vj W6 w2.heap.size (Zj2 0) 1:=hW6▸hM5.put;have hG6:W5.grownBy W6 (some w2.heap.size):=hW6▸Ug _ _;have u2:(Instr.mapUpdate 143 (.map (some w2.heap.size)) (.string sX) (.int .i64 0)).run prog W5=.ok () W6:=hW6▸u1;clear u1 hW6;have x1:=hX5.cell 6 _ rfl;have xl:=hX5.lt;have v0:=HCv5.out.2 0 _ rfl;have vl:=HCv5.out.1;have hX6:=hX5.only hG6 (by omega);have:=HCv5.out.1;have H6:=Hd (H5.out.only hG6 (by omega) hlow);have HR6:=Hd (HR5.out.only hG6 (by omega));have HM6:=Hd hM6;have HX6:=Hd hX6;clear hX5 hM5 hM6 hX6 hG6 H5 HR5 HCv5;go_wp2_with fail
 refine wp_loop_rounds 2 ?_;rw [QX];go_wp2_with fail
 rw [QX];go_wp2_with fail
 refine wp_loop_rounds 1 ?_;rw [QX];clear x1 xl v0 vl u2;have y1:=H6.out.bx.cell 1 _ rfl;have hl:=H6.out.bx.lt;have cF:=Hd (Zm8 _ _ _ _ _ _ _ W6 HX6.out);go_wp2_with fail
 with_reducible refine cF.out.mono ?_
 clear cF;rintro e w7 ⟨rfl,hX7,hG7⟩;have H7:=Hd (H6.out.only hG7 (by omega) hlow);have HR7:=Hd (HR6.out.only hG7 (by omega));have HM7:=Hd (HM6.out.only hG7 (by omega));have z4:=hX7.cell 4 _ rfl;have zf:=hX7.fr;have zl:=hX7.lt;obtain ⟨hX8,hG8⟩:=Vo3 hX7 1;have H8:=Hd (H7.out.only hG8 (by omega) hlow);have HR8:=Hd (HR7.out.only hG8 (by omega));have HM8:=Hd (HM7.out.only hG8 (by omega));have HX8:=Hd hX8;clear hX7 hG7 hX8 hG8 y1 hl H6 H7 HR6 HR7 HM6 HM7 HX6;go_upto_region 18 with fail
 generalize w7.setCell ⟨w2.heap.size+1+1,4,none⟩ (.int .i64 1)=W8 at*;clear z4 zf zl;have hBd:Below W8.heap.size W8 W8.drew:=(QK _ W8).drew;have h8:=H8.out.go hBd;have cB:=Hd (Zm9 (w2.heap.size+1+1) w2.heap.size (w2.heap.size+1) gb cb ge ce _ _ 2 1 W8.drew (HX8.out.below hBd) h8.pr.body h8.pr.expr (HM8.out.go hBd) (by omega));have y1:=H8.out.bx.cell 1 _ rfl;have hl:=H8.out.bx.lt;have z4:=HX8.out.cell 4 _ rfl;have zl:=HX8.out.lt;clear hBd h8;go_wp2_with fail
 go_region_law ((go_simp;go_at_call 88;(with_reducible refine cB.out.mono ?_);rintro e w9 ⟨g,c,rfl,hX9,hC9,hg9,hc9,hG9⟩;have HX9:=Hd hX9;have HC9:=Hd hC9;have HG9:=Hd (World.grownBy.trans (Yk (QN W8 (some (w2.heap.size+1+1)))) hG9);clear hX9 hC9 hG9))
 all_goals
  clear cB y1 hl z4 zl;have HR9:=Hd (HR8.out.only HG9.out (by omega));have H9:=Hd (H8.out.only HG9.out (by omega) hlow);obtain ⟨z0,z1,z2,z3,z4,z5⟩:=HX9.out.c5;have zl:=HX9.out.lt;obtain ⟨r0,r1,r2,r3,r4,r5⟩:=HR9.out.c5;have rf:=HR9.out.fr;have rl:=HR9.out.lt;go_wp2_with fail
  have hput:=HR9.out.put (vs':=[.slice (some ⟨gv,0,none⟩) 1 cv,.int .i64 0,.slice (some ⟨ga,0,none⟩) 0 ca,.int .i64 2,.int .i64 1,.slice (some ⟨g,0,none⟩) 1 c]) rfl;have hbel:=Qn (g:=w.heap.size+1) (Nat.le_succ _) [.slice (some ⟨gv,0,none⟩) 1 cv,.int .i64 0,.slice (some ⟨ga,0,none⟩) 0 ca,.int .i64 2,.int .i64 1,.slice (some ⟨g,0,none⟩) 1 c] 0 w9 H9.out.bl;have hgrow:=Za w9 (w.heap.size+1) [.slice (some ⟨gv,0,none⟩) 1 cv,.int .i64 0,.slice (some ⟨ga,0,none⟩) 0 ca,.int .i64 2,.int .i64 1,.slice (some ⟨g,0,none⟩) 1 c] 0;have hgin:=Vb4 (gv:=gv) (ga:=ga) (ca:=ca) (HC9.out.only hgrow (by have:=HR8.out.lt;simp at hg9;omega)) hc9 hcv hca;clear z0 z1 z2 z3 z4 z5 zl r0 r1 r2 r3 r4 r5 rf rl hgrow;obtain ⟨r0,r1,r2,r3,r4,r5⟩:=hput.c5;simp only [Qm,Nat.reduceAdd,Nat.zero_add] at hbel r0 r1 r2 r3 r4 r5 hgin;exact QL (v:=.tuple #[Jm ⟨some ⟨gv,0,none⟩,cv,some ⟨ga,0,none⟩,ca,some ⟨g,0,none⟩,c⟩ Ag,.int .i64 0]) (by simp [results,results44,go_sem,r0,r1,r2,r3,r4,r5,Jm,Qt,Ag]) rfl ⟨_,rfl,hgin,hbel⟩
end
