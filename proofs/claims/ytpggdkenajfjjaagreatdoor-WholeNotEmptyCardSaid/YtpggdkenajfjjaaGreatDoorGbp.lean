/- Lemmas for wholeNotEmpty; no conditions. -/
import Derived.Test.YtpggdkenajfjjaaGreatDoorGbo
set_option linter.all false
set_option maxRecDepth 100000
set_option maxHeartbeats 16000000
namespace Go.Proofs.YtpggdkenajfjjaaGreatDoor
open Go.RowKit Tryz
open Go.Lib renaming hid → Hd
structure PS (w0:World) (be ce:Nat) (w:World):Prop where
 bx:Bx w w0.heap.size (Ja be ce)
 cl:Cl w be Zw
 bl:Below w0.heap.size w0 w
theorem PS.go {w0 w w':World} {be ce:Nat} (h:PS w0 be ce w) (hb:Below w.heap.size w w'):PS w0 be ce w':=⟨h.bx.below hb,h.cl.go hb,h.bl.trans (hb.mono h.bl.size)⟩
theorem Jf3 (w:World) (vs:List Value) (hv:0<vs.length) (t:TypeId):Cl (w.alloc (.cells vs.toArray t)) w.heap.size vs:=by
 refine ⟨by simp,λj u hu=>?_⟩;rw [QM];simpa using hu
theorem Zc9 (w:World) (gn cn:Nat) (hC:Cl w gn [Jt]) (t:TypeId):Calls prog 218 #[.slice (some ⟨w.heap.size,0,none⟩) 4 4] (w.alloc (.cells #[.slice none 0 0,.slice (some ⟨gn,0,none⟩) 1 cn,.slice none 0 0,.slice none 0 0] t))
 λe w'=>∃g c,e=.returned (.slice (some ⟨g,0,none⟩) 1 c)∧w.heap.size≤g∧Cl w' g [Jt]∧Below w.heap.size w w':=by
 have hB:=(QK _ w).alloc (ZH _) (.cells #[.slice none 0 0,.slice (some ⟨gn,0,none⟩) 1 cn,.slice none 0 0,.slice none 0 0] t);have hs:=hB.size;refine (Ja9 w.heap.size 4 gn cn Jt _ (Jf3 w [.slice none 0 0,.slice (some ⟨gn,0,none⟩) 1 cn,.slice none 0 0,.slice none 0 0] (by simp) _) (hC.go hB) Zn7).mono ?_;rintro e w' ⟨g,c,rfl,hg,hC',hb⟩;exact ⟨g,c,rfl,ZO hs hg,hC',hB.trans (hb.mono hs)⟩
theorem Zd7 (be ce:Nat) (w:World) (h:Cl w be Zw):Calls prog 397 #[(Ya be ce).inner] w λe w'=>∃gn cn,e=.returned (.slice (some ⟨gn,0,none⟩) 1 cn)∧w.heap.size≤gn∧Cl w' gn [Jt]∧Below w.heap.size w w':=by
 unfold Ya Value.inner;obtain ⟨W,hW,hX,hB⟩:=Qh w (Ja be ce) 364;have hS:PS w be ce W.drew:=PS.go ⟨hX,h.go hB,hB⟩ (QK _ _).drew;unfold Ja at hW;have cC:=Hd (λW (hS:PS w be ce W)=>(Qk1 W).mono λe w' h=>(⟨h.1,hS.go h.2⟩:_∧PS w be ce w'));have:=Hd (λW (hS:PS w be ce W)=>(Cp W).mono λe w' h=>(⟨h.1,hS.go h.2⟩:_∧PS w be ce w'));clear h hX hB;go_enter func397,ntmps397
 go_upto_region 1 with fail
 rw [<-hW];clear hW;have y2:=hS.bx.cell 2 _ rfl;have y3:=hS.bx.cell 3 _ rfl;have y4:=hS.bx.cell 4 _ rfl;have y5:=hS.bx.cell 5 _ rfl;have hl:=hS.bx.lt;have HS:=Hd hS;clear hS;go_wp2_with fail
 go_region_law (first
  |(go_simp;go_at_call 398;(with_reducible refine (cC.out _ HS.out).mono ?_);clear HS;rintro e w8 ⟨rfl,hS⟩;have y2:=hS.bx.cell 2 _ rfl;have y3:=hS.bx.cell 3 _ rfl;have y4:=hS.bx.cell 4 _ rfl;have y5:=hS.bx.cell 5 _ rfl;have hl:=hS.bx.lt;have HS:=Hd hS;clear hS)
  |(go_simp;go_at_call 221;(with_reducible refine (Cp _).mono ?_);rintro e w8 ⟨rfl,hb⟩;have hS:=HS.out.go hb;clear HS;have hC:=HC.out.go hb;clear HC;have y2:=hS.bx.cell 2 _ rfl;have y3:=hS.bx.cell 3 _ rfl;have y4:=hS.bx.cell 4 _ rfl;have y5:=hS.bx.cell 5 _ rfl;have hl:=hS.bx.lt;have HS:=Hd hS;have HC:=Hd hC;clear hS hb hC)
  |(go_simp;go_at_call 400;(with_reducible refine (Qx8 be ce _ HS.out.cl).mono ?_);rintro e _ ⟨gn,cn,rfl,_,hC,hb⟩;have hS:=HS.out.go hb;clear HS;have y2:=hS.bx.cell 2 _ rfl;have y3:=hS.bx.cell 3 _ rfl;have y4:=hS.bx.cell 4 _ rfl;have y5:=hS.bx.cell 5 _ rfl;have hl:=hS.bx.lt;have HS:=Hd hS;have HC:=Hd hC;clear hS hb hC)
  |(go_simp;go_at_call 218;(with_reducible refine (Zc9 w8 gn cn HC.out _).mono ?_);rintro e _ ⟨gr,cr,rfl,hgr,hCr,hbr⟩;have:=ZO HS.out.bl.size hgr;have HC2:=Hd hCr;have HB2:=Hd (HS.out.bl.trans (hbr.mono HS.out.bl.size));clear hCr hbr HS HC))
 all_goals
  go_wp2_with fail
  go_ret
  exact ⟨gr,cr,rfl,by omega,HC2.out,HB2.out⟩
