/- Lemmas for wholeNotEmpty; no conditions. -/
import Derived.Test.YtpggdkenajfjjaaGreatDoorGbp
import Derived.Laws.EntriesVeiled
set_option linter.all false
set_option maxRecDepth 100000
set_option maxHeartbeats 16000000
namespace Go.Proofs.YtpggdkenajfjjaaGreatDoor
open Go.RowKit Tryz
open Go.Lib renaming hid → Hd
def Tv (bw bf:Nat):Value:=.func (.func 278) #[] #[.pointer (some ⟨bw,0,none⟩),.pointer (some ⟨bf,0,none⟩)]
structure Wk (w:World) (bw bf b:Nat) (n d:Int) (v:Value):Prop where
 bx:Bx w b (Cc n d v)
 cw:w.cell? ⟨bw,0,none⟩=some (.pointer (some ⟨b,0,none⟩))
 cf:w.cell? ⟨bf,0,none⟩=some (Tv bw bf)
 ne1:bw≠b
 ne2:bf≠b
theorem Wk.go {w w':World} {bw bf b:Nat} {n d:Int} {v:Value} (h:Wk w bw bf b n d v) (hb:Below w.heap.size w w'):Wk w' bw bf b n d v:=⟨h.bx.below hb,Qq hb h.cw,Qq hb h.cf,h.ne1,h.ne2⟩
theorem Wk.step {w w':World} {bw bf b:Nat} {n d n' d':Int} {v v':Value} (h:Wk w bw bf b n d v) (hX:Bx w' b (Cc n' d' v')) (hg:w.grownBy w' (some b)):Wk w' bw bf b n' d' v':=⟨hX,Qy hg h.cw h.ne1,Qy hg h.cf h.ne2,h.ne1,h.ne2⟩
theorem Zq2 (d:Int) (bw bf:Nat) (w:World):Calls prog 278 #[.slice none 0 0,.int .i64 d,.pointer (some ⟨bw,0,none⟩),.pointer (some ⟨bf,0,none⟩)] w λe w'=>e=.returned (.bool true)∧Below w.heap.size w w':=by
 go_enter func278,ntmps278
 go_wp2
 go_rounds 1
 go_wp2
 go_ret
 exact ⟨rfl,by go_grown⟩
theorem Vo1 (W:World):(method 577 420 (.agg #[.int .i64 1,.int .i64 1,.string ⟨#[]⟩,.slice none 0 0]) "gnomon/tree.parts").run prog W=.ok (403,.agg #[.int .i64 1,.int .i64 1,.string ⟨#[]⟩,.slice none 0 0]) W:=by kernel_rfl
theorem Vf9 (W:World):(method 577 362 (.agg #[.string sX,.int .i64 0]) "gnomon/tree.parts").run prog W=.ok (395,.agg #[.string sX,.int .i64 0]) W:=by kernel_rfl
theorem Vp5 (be ce:Nat) (W:World):(method 577 364 (.agg #[.int .i64 1,.string sX,.slice (some ⟨be,0,none⟩) 1 ce,.slice none 0 0,.slice none 0 0,.slice none 0 0]) "gnomon/tree.parts").run prog W=.ok (397,.agg #[.int .i64 1,.string sX,.slice (some ⟨be,0,none⟩) 1 ce,.slice none 0 0,.slice none 0 0,.slice none 0 0]) W:=by kernel_rfl
theorem Vf2 (g c bw bf b:Nat) (v:Value) (w:World) (h:Wk w bw bf b 2 1 v) (hC:Cl w g [Jt]) (hgb:g≠b):Calls prog 278 #[.slice (some ⟨g,0,none⟩) 1 c,.int .i64 2,.pointer (some ⟨bw,0,none⟩),.pointer (some ⟨bf,0,none⟩)] w λe w'=>e=.returned (.bool true)∧Wk w' bw bf b 3 2 v∧w.grownBy w' (some b):=by
 have y0:=hC.2 0 _ rfl;have:=hC.1;have cM:=Hd (Vw5 b v w.drew (h.bx.below (QK _ w).drew));have H:=Hd (h.go (QK _ w).drew);have cP:=λW=>Zb8 W
 have:=λW=>Vo1 W
 have:IntKind.i64.wrap 3=3:=by decide
 have cN:=λW=>Zq2 3 bw bf W
 have x0:=h.cw;have x1:=h.cf;have l0:=QO w _ h.cw;have l1:=QO w _ h.cf;unfold Tv at x1;unfold Jt at y0 cM;unfold Jt Value.inner at cP;clear h hC;go_enter func278,ntmps278
 go_wp2_with fail
 refine wp_loop_rounds 2 ?_;rw [QX];go_wp2_with fail
 go_region_law (first
  |(go_simp;go_at_call 279;(with_reducible refine cM.out.mono ?_);rintro e w1 ⟨rfl,hX1,hg1⟩;have h1:=H.out.step hX1 hg1;have x0:=h1.cw;have x1:=h1.cf;have l0:=QO w1 _ h1.cw;have l1:=QO w1 _ h1.cf;unfold Tv at x1;have H1:=Hd h1;have G1:=Hd hg1;clear h1 hX1 hg1)
  |(go_simp;go_at_call 403;(with_reducible refine (cP _).mono ?_);rintro e w2 ⟨rfl,hb2⟩;have h2:=H1.out.go hb2;have x0:=h2.cw;have x1:=h2.cf;have l0:=QO w2 _ h2.cw;have l1:=QO w2 _ h2.cf;unfold Tv at x1;have H2:=Hd h2;have G2:=Hd (Qa G1.out hb2);clear h2 hb2)
  |(go_simp;go_at_call 278;(with_reducible refine (cN _).mono ?_);rintro e _ ⟨rfl,hb3⟩;have H3:=Hd (H2.out.go hb3);have G3:=Hd (Qa G2.out hb3);clear hb3))
 all_goals
  go_wp2_with fail
  rw [QX];go_wp2_with fail
  go_ret
  exact ⟨rfl,H3.out,World.grownBy.trans (Yk (QN w (some b))) G3.out⟩
theorem Jt9 (g c be ce bw bf b:Nat) (w:World) (h:Wk w bw bf b 0 0 (.slice none 0 0)) (hC:Cl w g [Xw,Ya be ce]) (hE:Cl w be Zw) (hgb:g≠b) (heb:be≠b):Calls prog 278 #[.slice (some ⟨g,0,none⟩) 2 c,.int .i64 1,.pointer (some ⟨bw,0,none⟩),.pointer (some ⟨bf,0,none⟩)] w λe w'=>∃g' c',e=.returned (.bool true)∧Wk w' bw bf b 3 2 (.slice (some ⟨g',0,none⟩) 1 c')∧w.grownBy w' (some b):=by
 have y0:=hC.2 0 _ rfl;have hl:=hC.1;have cM:=Hd (Vy9 b w.drew (h.bx.below (QK _ w).drew));have H:=Hd (h.go (QK _ w).drew);have HC:=Hd (hC.go (QK _ w).drew);have HE:=Hd (hE.go (QK _ w).drew);have cP:=λW=>Zv5 W
 have cN:=λW=>Zq2 2 bw bf W
 have mt:=λW=>Vf9 W
 have:IntKind.i64.wrap 2=2:=by decide
 have x0:=h.cw;have x1:=h.cf;have l0:=QO w _ h.cw;have l1:=QO w _ h.cf;unfold Tv at x1;unfold Xw at y0 cM;unfold Xw Value.inner at cP;clear h hC hE;go_enter func278,ntmps278
 go_wp2_with fail
 refine wp_loop_rounds 3 ?_;rw [QX];go_wp2_with fail
 go_region_law (first
  |(go_simp;go_at_call 279;(with_reducible refine cM.out.mono ?_);rintro e w1 ⟨g',c',rfl,hX1,hg1,hc1,_⟩;have h1:=H.out.step hX1 hg1;have x0:=h1.cw;have x1:=h1.cf;have l0:=QO w1 _ h1.cw;have l1:=QO w1 _ h1.cf;unfold Tv at x1;have H1:=Hd h1;have G1:=Hd hg1;have C1:=Hd hc1;have hne:g'≠b:=(by have:=H.out.bx.lt;omega);clear h1 hX1 hg1 hc1)
  |(go_simp;go_at_call 395;(with_reducible refine (cP _).mono ?_);rintro e w2 ⟨rfl,hb2⟩;have h2:=H1.out.go hb2;have x0:=h2.cw;have x1:=h2.cf;have l0:=QO w2 _ h2.cw;have l1:=QO w2 _ h2.cf;unfold Tv at x1;have H2:=Hd h2;have G2:=Hd (Qa G1.out hb2);have C2:=Hd (C1.out.go hb2);clear h2 hb2)
  |(go_simp;go_at_call 278;(with_reducible refine (cN _).mono ?_);rintro e w3 ⟨rfl,hb3⟩;have H3:=Hd (H2.out.go hb3);have G3:=Hd (Qa G2.out hb3);have C3:=Hd (C2.out.go hb3);clear hb3))
 all_goals
  clear mt cP cN cM x0 x1 l0 l1;have HC3:=Hd (HC.out.only G3.out hgb);have HE3:=Hd (HE.out.only G3.out heb);have H4:=Hd (H3.out.go (QK _ w3).drew);have cM:=Hd (Vk2 b g' c' be ce w3.drew H4.out.bx (C3.out.go (QK _ w3).drew) hne);have y0:=HC3.out.2 1 _ rfl;have hl:=HC3.out.1;have x0:=H3.out.cw;have x1:=H3.out.cf;have l0:=QO w3 _ H3.out.cw;have l1:=QO w3 _ H3.out.cf;have mt:=λW=>Vp5 be ce W
  unfold Tv at x1;unfold Ya at y0 cM;go_wp2_with fail
  rw [QX];go_wp2_with fail
  go_region_law (first
   |(go_simp;go_at_call 279;(with_reducible refine cM.out.mono ?_);rintro e w5 ⟨rfl,hX5,hg5,_⟩;have h5:=H4.out.step hX5 hg5;have x0:=h5.cw;have x1:=h5.cf;have l0:=QO w5 _ h5.cw;have l1:=QO w5 _ h5.cf;unfold Tv at x1;have H5:=Hd h5;have G5:=Hd (G3.out.trans (World.grownBy.trans (Yk (QN w3 (some b))) hg5));have HE5:=Hd ((HE3.out.go (QK _ w3).drew).only hg5 heb);have cP:=Hd (λW h=>Zd7 be ce W h);unfold Ya Value.inner at cP;clear h5 hX5 hg5)
   |(go_simp;go_at_call 397;(with_reducible refine (cP.out _ HE5.out).mono ?_);rintro e w6 ⟨gn,cn,rfl,_,hcn,hb6⟩;have h6:=H5.out.go hb6;have x0:=h6.cw;have x1:=h6.cf;have l0:=QO w6 _ h6.cw;have l1:=QO w6 _ h6.cf;unfold Tv at x1;have H6:=Hd h6;have G6:=Hd (Qa G5.out hb6);have C6:=Hd hcn;have hnb:gn≠b:=(by have:=H5.out.bx.lt;omega);clear h6 hb6 hcn)
   |(go_simp;go_at_call 278;(with_reducible refine (Vf2 gn cn bw bf b _ _ H6.out C6.out hnb).mono ?_);rintro e _ ⟨rfl,hw7,hg7⟩;have H7:=Hd hw7;have G7:=Hd (G6.out.trans hg7);clear hw7 hg7))
  all_goals
   go_wp2_with fail
   rw [QX];go_wp2_with fail
   go_ret
   exact ⟨g',c',rfl,H7.out,World.grownBy.trans (Yk (QN w (some b))) G7.out⟩
theorem Zz4 (g c be ce:Nat) (w:World) (hC:Cl w g [Xw,Ya be ce]) (hE:Cl w be Zw):Calls prog 217 #[.slice (some ⟨g,0,none⟩) 2 c] w λe w'=>∃b g' c',e=.returned (.pointer (some ⟨b,0,none⟩))∧Bx w' b (Cc 3 2 (.slice (some ⟨g',0,none⟩) 1 c'))∧Below w.heap.size w w':=by
 obtain ⟨W1,hW1,hX1,hB1⟩:=Qh w (Cc 0 0 (.slice none 0 0)) 225;obtain ⟨W2,hW2,hX2,hB2⟩:=Qh W1 [.pointer (some ⟨w.heap.size,0,none⟩)] 226;obtain ⟨W3,hW3,hX3,hB3⟩:=Qh W2 [Tv (w.heap.size+1) (w.heap.size+1+1)] 356;have h1:W1.heap.size=w.heap.size+1:=by rw [hW1];simp
 have h2:W2.heap.size=w.heap.size+1+1:=by rw [hW2];simp [h1]
 have hBw:=(hB1.trans (hB2.mono hB1.size)).trans (hB3.mono (ZO hB1.size hB2.size));rw [h1] at hX2;rw [h2] at hX3;have hX13:=(hX1.below hB2).below hB3;have hX23:=hX2.below hB3;have hwk:Wk W3 (w.heap.size+1) (w.heap.size+1+1) w.heap.size 0 0 (.slice none 0 0):=⟨hX13,hX23.cell 0 _ rfl,hX3.cell 0 _ rfl,by omega,by omega⟩;have hgl:=hC.1;have hel:=hE.1;have cW:=Jt9 g c be ce (w.heap.size+1) (w.heap.size+1+1) w.heap.size W3 hwk ⟨ZI hC.1 hBw.size,λj u hu=>(hBw.cell (p:=⟨g,j,none⟩) hgl).trans (hC.2 j u hu)⟩ ⟨ZI hE.1 hBw.size,λj u hu=>(hBw.cell (p:=⟨be,j,none⟩) hel).trans (hE.2 j u hu)⟩ (by omega) (by omega);have x1:=hX3.cell 0 _ rfl;have l1:=hX3.lt;have HB:=Hd hBw;rw [hW2,hW1] at hW3;unfold Cc Tv at hW3;unfold Tv at x1;clear hX1 hB1 hX2 hB2 hX3 hB3 hX13 hX23 hwk hgl hel hC hE hBw h1 h2 hW1 hW2;go_enter func217,ntmps217
 go_upto_region 4 with fail
 rw [<-hW3];clear hW3;go_wp2_with fail
 with_reducible refine cW.mono ?_
 rintro e w4 ⟨g',c',rfl,hw4,hg4⟩;have:=hw4.cw;have:=QO w4 _ hw4.cw;have:=hw4.bx.cell 3 _ rfl;have:=hw4.bx.cell 4 _ rfl;have H4:=Hd hw4;have HB4:=Hd (HB.out.grown hg4 HB.out.size (λk e=>by cases e;omega));clear hw4 hg4 cW x1 l1;go_wp2_with fail
 go_ret
 exact ⟨w.heap.size,g',c',rfl,H4.out.bx,HB4.out⟩
structure PgB (w0:World) (gd cd gb cb ge ce:Nat) (w:World):Prop where
 bx:Bx w w0.heap.size (Qs gd cd gb cb)
 pr:Va w gd gb ge ce
 bl:Below w0.heap.size w0 w
theorem PgB.go {w0 w w':World} {gd cd gb cb ge ce:Nat} (h:PgB w0 gd cd gb cb ge ce w) (hb:Below w.heap.size w w'):PgB w0 gd cd gb cb ge ce w':=⟨h.bx.below hb,h.pr.go hb,h.bl.trans (hb.mono h.bl.size)⟩
theorem Jj9:∀u∈[Xw],u.oneCell'=true:=by simp [Xw,Value.oneCell']
theorem Zp1 (be ce:Nat):∀u∈[Ya be ce],u.oneCell'=true:=by simp [Ya,Value.oneCell']
theorem Zd2 (w:World) (g c k d be ce:Nat) (hC:Cl w g [Xw]) (hK:Cl w k [Ya be ce]) (t:TypeId):Calls prog 218 #[.slice (some ⟨w.heap.size,0,none⟩) 2 2] (w.alloc (.cells #[.slice (some ⟨g,0,none⟩) 1 c,.slice (some ⟨k,0,none⟩) 1 d] t))
 λe w'=>∃gr cr,e=.returned (.slice (some ⟨gr,0,none⟩) 2 cr)∧w.heap.size≤gr∧Cl w' gr [Xw,Ya be ce]∧Below w.heap.size w w':=by
 have hB:=(QK _ w).alloc (ZH _) (.cells #[.slice (some ⟨g,0,none⟩) 1 c,.slice (some ⟨k,0,none⟩) 1 d] t);have hs:=hB.size;refine (Jc1 w.heap.size 2 g c k d Xw (Ya be ce) _ (Jf3 w [.slice (some ⟨g,0,none⟩) 1 c,.slice (some ⟨k,0,none⟩) 1 d] (by simp) _) (hC.go hB) (hK.go hB) Jj9 (Zp1 be ce)).mono ?_;rintro e w' ⟨gr,cr,rfl,hg,hC',hb⟩;exact ⟨gr,cr,rfl,ZO hs hg,hC',hB.trans (hb.mono hs)⟩
theorem Ja5 (gd cd gb cb ge ce:Nat) (w:World) (h:Va w gd gb ge ce):Calls prog 143 #[Wl gd cd gb cb] w λe w'=>∃b g' c',e=.returned (.pointer (some ⟨b,0,none⟩))∧Bx w' b (Cc 3 2 (.slice (some ⟨g',0,none⟩) 1 c'))∧Below w.heap.size w w':=by
 obtain ⟨W,hW,hX,hB⟩:=Qh w (Qs gd cd gb cb) 86;have hP:PgB w gd cd gb cb ge ce W.drew:=PgB.go ⟨hX,h.go hB,hB⟩ (QK _ _).drew;obtain ⟨y0,y1⟩:=hX.c1;have hl:=hX.lt;have HP:=Hd hP;unfold Wl Qs at*;clear hX hB hP h;go_enter func143,ntmps143
 go_upto_region 1 with fail
 rw [<-hW];clear hW;go_region_law (first
  |(go_simp;go_at_call 219;(with_reducible refine (Qv6 gd cd _ HP.out.pr.decls).mono ?_);rintro e _ ⟨g1,c1,rfl,_,hC1,hb1⟩;have h1:=HP.out.go hb1;have y0:=h1.bx.cell 0 _ rfl;have y1:=h1.bx.cell 1 _ rfl;have hl:=h1.bx.lt;have H1:=Hd h1;have C1:=Hd hC1;clear h1 hC1 hb1)
  |(go_simp;go_at_call 221;(with_reducible refine (Qx1 gb cb ge ce _ H1.out.pr.body).mono ?_);rintro e w2 ⟨g2,c2,rfl,_,hC2,hb2⟩;have H2:=Hd (H1.out.go hb2);have C2:=Hd hC2;have C12:=Hd (C1.out.go hb2);clear hC2 hb2)
  |(go_simp;go_at_call 218;(with_reducible refine (Zd2 w2 g1 c1 g2 c2 ge ce C12.out C2.out _).mono ?_);rintro e w3 ⟨g3,c3,rfl,_,hC3,hb3⟩;have H3:=Hd (H2.out.go hb3);have C3:=Hd hC3;clear hC3 hb3)
  |(go_simp;go_at_call 217;(with_reducible refine (Zz4 g3 c3 ge ce w3 C3.out H3.out.pr.expr).mono ?_);rintro e _ ⟨b4,g4,c4,rfl,hX4,hb4⟩;have X4:=Hd hX4;have B4:=Hd (H3.out.bl.trans (hb4.mono H3.out.bl.size));clear hX4 hb4))
 all_goals
  go_wp2_with fail
  go_ret
  exact ⟨b4,g4,c4,rfl,X4.out,B4.out⟩
theorem Is:Za8:=by
 intro gd cd gb cb ge ce w h;obtain ⟨W,hW,hX,hB⟩:=Qh w (Qs gd cd gb cb) 86;have cA:=Ja5 gd cd gb cb ge ce W (h.go hB);obtain ⟨y0,y1⟩:=hX.c1;have hl:=hX.lt;unfold Wl Qs at*;have HB:=Hd hB;clear hX hB h;go_enter func82,ntmps82
 go_upto_region 1 with fail
 rw [<-hW];clear hW;go_wp2_with fail
 with_reducible refine cA.mono ?_
 rintro _ _ ⟨_,_,_,rfl,hX1,hb1⟩;have:=hX1.cell 2 _ rfl;have:=hX1.lt;have HB1:=Ht HB hb1;clear hX1 hb1 cA y0 y1 hl;go_wp2_with fail
 go_ret
 exact ⟨rfl,HB1.out⟩
