/- Lemmas for wholeNotEmpty; no conditions. -/
import Derived.Test.YtpggdkenajfjjaaGreatDoorGbe
import Derived.Test.YtpggdkenajfjjaaGreatDoorGbu
import Derived.Test.YtpggdkenajfjjaaGreatDoorGac
import Derived.Sort.CutIn
set_option linter.all false
set_option maxRecDepth 100000
set_option maxHeartbeats 16000000
namespace Go.Proofs.YtpggdkenajfjjaaGreatDoor
open Go.RowKit Tryz
open Go.Lib renaming hid → Hd
section
attribute [local go_sem] Oper.semAt_some
open Gn
theorem Ow.ownTurn {w w':World} {base c:Nat} {e:TypeId} {k:IntKind} {A:Option Addr} {xs:List Int} {row:Option Nat} (h:Ow w base e k A c xs) (hg:w.grownBy w' row) (hr:∀r,row=some r->∃o:Obj,w.heap[r]? =some o∧o.isCells=false):Ow w' base e k A c xs:=by
 rcases h.form with ⟨rfl,rfl,rfl⟩|⟨g,rfl,_⟩
 .exact Ow.nil _ _ _ _
 refine World.ownsRow.kept (row:=row) h hg (.inr ?_);intro e;rcases h.2 with ⟨h1,_⟩|⟨g',cap,cur,hv,_,hh,_⟩
 .cases h1
 cases hv
 obtain ⟨o,ho,hc⟩:=hr _ (by rw [<-e];rfl);rw [hh] at ho;cases ho
 cases hc
theorem Jy.ownTurn {w w':World} {b:Nat} {N:Int} {E:Bool} {v:Value} {row:Option Nat} (h:Jy w b N E v) (hg:w.grownBy w' row) (hr:∀r,row=some r->∃o:Obj,w.heap[r]? =some o∧o.isCells=false):Jy w' b N E v:=
 ⟨cell_kept h.c0 hg hr,cell_kept h.c1 hg hr,cell_kept h.c2 hg hr⟩
theorem Qn8 {w w':World} {a:Addr} {v:Value} {row:Option Nat} {i:Nat} (h:w.cell? ⟨a.block,0,none⟩=some v) (hg:w.grownBy w' row) (hr:∀r,row=some r->∃o:Obj,w.heap[r]? =some o∧o.isCells=false):w'.frozen? ⟨a.block,i,none⟩=w.frozen? ⟨a.block,i,none⟩:=by
 obtain ⟨o,ho,hc⟩:=cells_of_cell h;exact QU (grownBy_keeps_cells hg hr ho hc)
theorem Vc.ownTurn {w w':World} {b:Nat} {N:Int} {E:Bool} {v:Value} {row:Option Nat} (h:Vc w b N E v) (hg:w.grownBy w' row) (hr:∀r,row=some r->∃o:Obj,w.heap[r]? =some o∧o.isCells=false):Vc w' b N E v:=
 ⟨h.box.ownTurn hg hr,λi=>(Qn8 (a:=⟨b,0,none⟩) h.box.c0 hg hr).trans (h.fz i)⟩
structure Fg (w:World) (base:Nat) (N:Int) (q c:Nat) (A:Option Addr) (X:List Int) (W:World):Prop where
 out:Jy W w.heap.size N false (.slice A q c)
 res:Vc W (w.heap.size+1) 0 false (.slice none 0 0)
 row:Ow W base 2 .i64 A c X
 len:X.length=q
 below:Below base w W
 bs:base≤w.heap.size
 ne:∀g,A=some ⟨g,0,none⟩->g<w.heap.size
theorem Fg.go {w W W':World} {base:Nat} {N:Int} {q c:Nat} {A:Option Addr} {X:List Int} (h:Fg w base N q c A X W) (hb:Below W.heap.size W W'):Fg w base N q c A X W':=
 ⟨h.out.below hb,h.res.below hb,h.row.below hb,h.len,h.below.trans (hb.mono (ZO h.bs h.below.size)),h.bs,h.ne⟩
theorem Fg.set {w W:World} {base g:Nat} {N:Int} {q c:Nat} {X:List Int} (h:Fg w base N q c (some ⟨g,0,none⟩) X W) (p:Nat) (u:Int):Fg w base N q c (some ⟨g,0,none⟩) (X.set p u) (W.setCell ⟨g,p,none⟩ (.int .i64 u)):=by
 have hg:=Qv (QN W (some g)) (p:=⟨g,p,none⟩) (.inl rfl) (.int .i64 u);have:=h.ne g rfl;exact ⟨h.out.only hg (by omega),h.res.only hg (by omega),h.row.set' p u,by rw [QJ];exact h.len,h.below.setCell h.row.blockGe.1 _,h.bs,h.ne⟩
theorem Fg.own {w W W':World} {base B:Nat} {N:Int} {q c:Nat} {A:Option Addr} {X:List Int} {row:Option Nat} (hB:base≤B) (h:Fg w base N q c A X W) (hg:W.grownBy W' row) (hr:∀r,row=some r->B≤r∧∃o:Obj,W.heap[r]? =some o∧o.isCells=false):Fg w base N q c A X W':=
 ⟨h.out.ownTurn hg (λr e=>(hr r e).2),h.res.ownTurn hg (λr e=>(hr r e).2),h.row.ownTurn hg (λr e=>(hr r e).2),h.len,
  h.below.grown hg (ZO h.bs h.below.size) (λk e=>ZO hB (hr k e).1),h.bs,h.ne⟩
namespace Gn
def Ja8 (m v i:Nat) (X:List Int):Nat->List Int
 |0=>X
 |1=>Cn m i (2*v) X
 |_=>Zt9 m v i X
theorem Jt5 {n v i k:Nat} {X:List Int} (hv:v<n) (hk:k<2):∃j,j<2*n∧(j:Int)=2*(v:Int)+k∧Ja8 (2*n) v i X (k+1)=Cn (2*n) i j (Ja8 (2*n) v i X k):=by
 rcases (by omega:k=0∨k=1) with rfl|rfl
 .exact ⟨2*v,by omega,by omega,rfl⟩
 exact ⟨2*v+1,by omega,by omega,rfl⟩
end Gn
theorem Qv5 (n:Nat) (hn:n≤64) (A:Option Addr) (c:Nat) (M:List Int) (bM nn:Nat) (g:Int->Bool) (w:World) (base:Nat) (hbs:base≤w.heap.size) (ho:Ow w base 2 .i64 A c M) (hlen:M.length=(2*n)*(2*n)) (hg:Gm w bM nn g) (hin:∀x,g x=true->∃v:Nat,x=v∧v<n):
 CallsIn Fence.wide 6 prog 291 #[.agg #[.int .i64 n,.bool false,.slice A M.length c],.map (some bM)] w λe w'=>e=.returned (.agg #[.int .i64 n,.bool false,.slice A M.length c])∧Ow w' base 2 .i64 A c (Jf (2*n) (λv=>g v) M)∧Below base w w':=by
 obtain ⟨W,hW,hR,hs⟩:=Me w 32 n false (.slice A M.length c);obtain ⟨k0,k1,k2,r0,r1,r2,fc,fr,hB,hlt⟩:=id hR;have:M.length≤16384:=by rw [hlen,Bz];exact Sc hn
 have hF:Fg w base n M.length c A M W:=⟨⟨k0,k1,k2⟩,⟨⟨r0,r1,r2⟩,fr⟩,ho.below hB,rfl,hB.mono hbs,hbs,λg' hg'=>by subst hg';exact ho.blockGe.2⟩;have hG:Gm W bM nn g:=by
  obtain ⟨D0,hown,hD⟩:=hg;have hbl:=hown.lt;obtain ⟨es,clock,hb,Ft,hs,hDD⟩:=hown;exact ⟨D0,⟨es,clock,(hB.block bM hbl).trans hb,Ft,hs,hDD⟩,hD⟩
 have HLen:=Hd hlen;clear hg ho hlen;refine callsIn_of_wp_marks func291 rfl trivial ?_ rfl;simp only [ntmps291,List.size_toArray,QI,List.length_nil,Nat.reduceAdd,Nat.reduceSub,Array.replicate_succ,Array.replicate_zero,List.push_toArray,List.append_toArray,List.nil_append,List.cons_append];gi_wp2_with (refine ⟨trivial,?_⟩;gi_at_call 332;refine (Vk7 Fence.wide 5 trivial rfl _ _).mono ?_;rintro e w' ⟨rfl,rfl⟩)
 rw [<-hW];have hb1:Below W.heap.size W (W.alloc (.cells #[.map (some bM)] 379)):=(QK _ _).alloc (ZH _) _;obtain ⟨W1,hW1⟩:∃W1,W1=W.alloc (.cells #[.map (some bM)] 379):=⟨_,rfl⟩;have hs1:W1.heap.size=w.heap.size+3:=by rw [hW1];simp;omega
 have cK:W1.cell? ⟨W.heap.size,0,none⟩=some (.map (some bM)):=by rw [hW1];simp [go_sem]
 rw [<-hW1] at hb1 |-
 have hF1:=hF.go hb1;have hG1:Gm W1 bM nn g:=by
  obtain ⟨D0,hown,hD⟩:=hG;have hbl:=hown.lt;obtain ⟨es,clock,hb,Ft,hs,hDD⟩:=hown;exact ⟨D0,⟨es,clock,(hb1.block bM hbl).trans hb,Ft,hs,hDD⟩,hD⟩
 have HB:=Hd hB;clear hW hW1 hR k0 k1 k2 r0 r1 r2 fc fr hB hF hG hlt;have hbK:W.heap.size=w.heap.size+1+1:=hs;rw [hbK] at cK hb1;obtain ⟨bK,hbK'⟩:∃bK,bK=w.heap.size+1+1:=⟨_,rfl⟩;rw [<-hbK'] at cK hb1 |-
 refine wpIn_rangeFunc_ownF (F:=Fence.wide) rfl (by omega) (gf:=353) (lb:=#[.pointer (some ⟨bK,0,none⟩)]) rfl trivial (enters_of func353 (by kernel_rfl) rfl)
  (Zc7 Fence.wide 5 trivial rfl (by omega) bK bM nn g W1 (by omega) cK hG1) walksK_t walksK_b (QK _ _) (λ_=>rfl)
  (λpre X=>∃Z,Hid (Z=wL (2*n) (pre.map λx:{x:Int // g x=true}=>x.1.toNat) M)∧Fg w base n M.length c A Z X)
  (λ_ _ _=>False)
  (λs X X' row ⟨Z,hZ,h⟩ hg hr=>⟨Z,hZ,Fg.own (W:=X) (W':=X') (by omega) h hg hr⟩)
  (λ_ _ _ _ _ h _ _=>h)
  ⟨M,Hd rfl,hF1⟩ ?a1 ?assign ?body ?done ?stop
 case assign=>
  intro l x X K hK;gi_wp2
  exact hK
 case body=>
  rintro l pre ⟨xv,hxv⟩ X ⟨Z,HZ0,hI⟩ _;obtain ⟨v,rfl,hv⟩:=hin xv hxv;have HZl:=Hd (show Z.length=(2*n)*(2*n) by rw [HZ0.out,Ju7,HLen.out]);dsimp only;generalize hq0:M.length=q at*;have:=Hd hq0;clear hq0 cK hb1 hF1 hG1 hbK hbK' hs hs1 HB hin;obtain ⟨k0,k1,k2⟩:=id hI.out;obtain ⟨a0,ha0⟩:∃a0:Nat,a0=2*v:=⟨_,rfl⟩;have:2*(v:Int)=(a0:Int):=by omega
  have:a0+1<2*n:=by omega
  have HA:=Hd ha0;clear ha0;gi_wp2
  gi_loopw [18] (λs' wr=>∃i:Nat,s'=.int .i64 i∧i≤2*n∧∃Y:List Int,Hid (Y=wI (2*n) v i Z)∧Fg w base n q c A Y wr∧KeepsOthers X wr) (λs _=>2*n - (Go.RowKit.intOf s).toNat)
  case atStart=>exact ⟨0,rfl,by omega,Z,Hd rfl,hI,KeepsOthers.refl _⟩
  obtain ⟨i,rfl,_,Y,HY,hR,hK⟩:=hrel;clear hI k0 k1 k2;obtain ⟨k0,k1,k2⟩:=id hR.out;rcases ZJ i (2*n) with hit|hige
  .have di:decide ((i:Int)<2*(n:Int))=true:=ZE (by omega);have:=Hd (show Y.length=(2*n)*(2*n) by rw [HY.out,Jm2,HZl.out]);gi_wp2
   gi_loopw [27] (λs' wr=>∃k:Nat,s'=.int .i64 k∧k≤2∧∃U:List Int,Hid (U=Ja8 (2*n) v i Y k)∧Fg w base n q c A U wr∧KeepsOthers X wr) (λs _=>2 - (Go.RowKit.intOf s).toNat)
   case atStart=>exact ⟨0,rfl,by omega,Y,Hd rfl,hR,hK⟩
   obtain ⟨k,rfl,_,U,HU,hS,hK2⟩:=hrel;clear hR hK k0 k1 k2;obtain ⟨k0,k1,k2⟩:=id hS.out;rcases ZJ k 2 with hkt|hkge
   .have dk:decide ((k:Int)<2)=true:=ZE (by omega);obtain ⟨j,hj,hje,hst⟩:=Jt5 (n:=n) (v:=v) (i:=i) (X:=Y) hv hkt;rw [<-HU.out] at hst;have ha0:=HA.out;have:∀X:World,(Instr.index 132 (.agg #[.int .i64 (a0:Int),.int .i64 ((a0:Int)+1)]) (.int .i64 k)).run prog X=.ok (.int .i64 j) X:=λX=>by
     rcases (by omega:k=0∨k=1) with rfl|rfl
     .rw [show (j:Int)=(a0:Int) by omega];kernel_rfl
     rw [show (j:Int)=(a0:Int)+1 by omega];kernel_rfl
    clear hje ha0;have HUl:=Hd (show U.length=q from hS.len);by_cases hij:i=j
    .have dij:((i:Int)!=(j:Int))=false:=by rw [hij];exact bne_self_eq_false _
     have HS:=Hd (show Ja8 (2*n) v i Y (k+1)=U by rw [hst];unfold Cn;rw [ZM hij]);clear hst hij;gi_wp2
     go_roundw
     case rel=>exact ⟨k+1,by go_num,by omega,U,Hd HS.out.symm,hS,hK2⟩
     simp [Go.RowKit.intOf];omega
    have dij:((i:Int)!=(j:Int))=true:=bne_iff_ne.2 (by omega);have HS:=Hd (show Ja8 (2*n) v i Y (k+1)=(U.set (i*(2*n)+j) 9223372036854775807).set (j*(2*n)+i) 9223372036854775807 by rw [hst];unfold Cn;rw [ZL hij]);have hp1:i*(2*n)+j<q:=by rw [HLen.out];exact Zy hit hj
    have hp2:j*(2*n)+i<q:=by rw [HLen.out];exact Zy hj hit
    obtain ⟨g',rfl,_,_⟩:=hS.row.blockOf (by rw [HUl.out];omega);have:2*(n:Int)*(i:Int)=((i*(2*n):Nat):Int):=by push_cast;exact Int.mul_comm _ _
    have:2*(n:Int)*(j:Int)=((j*(2*n):Nat):Int):=by push_cast;exact Int.mul_comm _ _
    generalize i*(2*n)=pi at*;generalize j*(2*n)=pj at*;have:(pi:Int)+(j:Int)<(q:Int):=by omega
    have:(pj:Int)+(i:Int)<(q:Int):=by omega
    clear hst hij;gi_upto_region 12 with fail
    obtain ⟨T,hT⟩:∃T:Bool->World->Prop,T=λt W'=>Fg w base n q c (some ⟨g',0,none⟩) (bif t then U.set (pi+j) 9223372036854775807 else U) W'∧KeepsOthers X W':=⟨_,rfl⟩
    have hT':∀t W',T t W'↔Fg w base n q c (some ⟨g',0,none⟩) (bif t then U.set (pi+j) 9223372036854775807 else U) W'∧KeepsOthers X W':=λt W=>by rw [hT]
    clear hT;have l0:∀x:TW T,x.w.cell? ⟨w.heap.size,0,none⟩=some (.int .i64 n):=λx=>((hT' _ _).1 x.h).1.out.c0
    have l2:∀x:TW T,x.w.cell? ⟨w.heap.size,2,none⟩=some (.slice (some ⟨g',0,none⟩) q c):=λx=>((hT' _ _).1 x.h).1.out.c2
    haveI:Nonempty (TW T):=⟨⟨false,wr,(hT' _ _).2 ⟨hS,hK2⟩⟩⟩
    refine Es T 19 20 (by kernel_rfl) ?hQ (by kernel_rfl) (by kernel_rfl) ((hT' _ _).2 ⟨hS.go (QK _ _).drew,hK2.trans (KeepsOthers.drew _)⟩) ?_
    case hQ=>rintro ⟨_,_,h⟩;exact h
    simp only [ZP,ZQ,ZR,ZT];clear hS hK2 k0 k1 k2
    iterate 19 (refine Jj1 (by decide) (by rfl) rfl ?_;intro K hK;go_big_quiet_op;go_big_quiet_on)
    refine Jv3 rfl (by rfl) ?_ (Jt4 ?_)
    .intro W' hW;have hW:=(hT' _ _).1 hW;have hW1:Fg w base n q c (some ⟨g',0,none⟩) U W':=hW.1;have kk:=hW1.row.cellAt (i:=pi+j) (by rw [HUl.out];exact hp1);have kf:=hW1.row.frozenAt (pi+j);refine ⟨W'.setCell ⟨g',pi+j,none⟩ (.int .i64 9223372036854775807),?_,(hT' _ _).2 ⟨hW1.set _ _,hW.2.trans (KeepsOthers.setCell _ _ _)⟩⟩;simp [execOp,Act.eval,go_sem,kk,kf]
    intro w5 hw5;have hW:=(hT' _ _).1 hw5;have hS5:Fg w base n q c (some ⟨g',0,none⟩) (U.set (pi+j) 9223372036854775807) w5:=hW.1;have kk:=hS5.row.cellAt (i:=pj+i) (by rw [hS5.len];exact hp2);have kf:=hS5.row.frozenAt (pj+i);have hS8:=Hd (hS5.set (pj+i) 9223372036854775807);have hK8:=Hd (hW.2.trans (KeepsOthers.setCell _ ⟨g',pj+i,none⟩ (.int .i64 9223372036854775807)));clear hW hS5 hw5 l0 l2 hT';go_wp2_with fail
    refine Qu ?_;clear kk kf;gi_wp2
    go_roundw
    case rel=>exact ⟨k+1,by go_num,by omega,_,Hd HS.out.symm,hS8.out,hK8.out⟩
    simp [Go.RowKit.intOf];omega
   obtain rfl:k=2:=by omega
   gi_wp2
   go_roundw
   case rel=>exact ⟨i+1,by go_num,by omega,U,Hd (by rw [HU.out,HY.out];rfl),hS,hK2⟩
   simp [Go.RowKit.intOf];omega
  obtain rfl:i=2*n:=by omega
  have di:decide (((2*n:Nat):Int)<2*(n:Int))=false:=ZA (by omega);gi_wp2
  exact ⟨hK,hK.walks,Y,Hd (by rw [HY.out,HZ0.out,List.map_append];exact (Vk3 _ _ _ _).symm),hR⟩
 case done=>
  rintro D _ X hD hall ⟨Z,HZ,hI⟩ hK;have HZ1:Z=Jf (2*n) (λv=>g v) M:=by
   rw [HZ.out];refine Vv7 HLen.out (λu hu=>?_) (λu hu=>⟨λh=>?_,λh=>?_⟩)
   .obtain ⟨⟨x,hx⟩,_,rfl⟩:=List.mem_map.1 hu;obtain ⟨v,rfl,hv⟩:=hin x hx;exact hv
   .exact List.mem_map.2 ⟨⟨(u:Int),h⟩,hall _,rfl⟩
   obtain ⟨⟨x,hx⟩,_,rfl⟩:=List.mem_map.1 h;obtain ⟨v,rfl,hv⟩:=hin x hx;exact hx
  have HZ2:=Hd HZ1;clear HZ1 HZ;obtain ⟨y7,g7⟩:=hI.res.put n false (.slice A M.length c);have hO:=hI.row.turn g7 (λg' hg'=>by have:=hI.ne g' hg';omega);have hB:=((hI.below.setCell (p:=⟨w.heap.size+1,0,none⟩) (by simp;omega) (.int .i64 n)).setCell (p:=⟨w.heap.size+1,1,none⟩) (by simp;omega) (.bool false)).setCell (p:=⟨w.heap.size+1,2,none⟩) (by simp;omega) (.slice A M.length c);have hK3:=((KeepsOthers.setCell X ⟨w.heap.size+1,0,none⟩ (.int .i64 n)).trans ((KeepsOthers.setCell _ ⟨w.heap.size+1,1,none⟩ (.bool false)).trans (KeepsOthers.setCell _ ⟨w.heap.size+1,2,none⟩ (.slice A M.length c)))).same D _ hK rfl;have:base≤D:=by omega
  obtain ⟨k0,k1,k2⟩:=id hI.out;obtain ⟨⟨r0,r1,r2⟩,fr⟩:=id hI.res;have HH:=Hd (And.intro y7.box (And.intro hO (And.intro hB hK3)));clear y7 g7 hO hB hK3 cK hb1 hF1 hG1 hbK hbK' HB hin hall hI;gi_wp2
  obtain ⟨hb,hO,hB,hK3⟩:=HH.out;refine ⟨by simp,.inl ⟨_,_,rfl,run_takeDeferred hK3,?_⟩⟩;have hb2:=hb.ownTurn (grownBy_putObj' _ D (.deferred none)) (λr e=>by cases e;exact ⟨_,hK3,rfl⟩);have hO2:=hO.ownTurn (grownBy_putObj' _ D (.deferred none)) (λr e=>by cases e;exact ⟨_,hK3,rfl⟩);obtain ⟨c0,c1,c2⟩:=hb2;refine ⟨.agg #[.int .i64 n,.bool false,.slice A M.length c],by simp [results,f291,go_sem,c0,c1,c2],rfl,?_,hB.trans ?_⟩
  .rw [<-HZ2.out];exact hO2
  exact belowK_b (w:=w) hbs _ D _ _ (by omega) hK3 rfl rfl
 case stop=>
  rintro D c pre X _ _ h _;exact h.elim
end
section
open Gn
def Vc9 (base:Nat) (w:World) (A:Option Addr) (c:Nat) (P:Int×Bool×List Int) (e:Ending) (w':World):Prop:=
 e=.returned (.agg #[.int .i64 P.1,.bool P.2.1,.slice A P.2.2.length c])∧Ow w' base 2 .i64 A c P.2.2∧Below base w w'
theorem Gp (n:Nat) (E:Bool) (A:Option Addr) (c:Nat) (M:List Int) (hc:Je n E M=0) (bM nn:Nat) (g:Int->Bool) (w:World) (base:Nat) (hbs:base≤w.heap.size) (ho:Ow w base 2 .i64 A c M) (hg:Gm w bM nn g) (hin:∀x,g x=true->∃v:Nat,x=v∧v<n) (P:Int×Bool×List Int) (hP:P=Oo (n,E,M) (λv=>g v)):
 Calls prog 291 #[.agg #[.int .i64 n,.bool E,.slice A M.length c],.map (some bM)] w (Vc9 base w A c P):=by
 obtain ⟨m,hm,hn,h1,h0⟩:=Zz hc;obtain rfl:n=m:=by omega
 rcases E with _|_
 .have hl:M.length=(2*n)*(2*n):=by rw [(h0 rfl).1,Bz]
  refine ((callsIn_wide (n:=6)).1 (Qv5 n hn A c M bM nn g w base hbs ho hl hg hin)).mono ?_;rintro _ _ ⟨rfl,h2,h3⟩;have:P=((n:Int),false,Jf (2*n) (λv=>g v) M):=by rw [hP];unfold Oo;rw [ZL (by simp)];simp
  subst this;exact ⟨by rw [Yr,hl],h2,h3⟩
 .have hP2:P=((n:Int),true,M):=by rw [hP];rfl
  subst hP2;have hO:=(ho.alloc (.cells #[.int .i64 n,.bool true,.slice A M.length c] 32)).alloc (.cells #[.int .i64 n,.bool true,.slice A M.length c] 32);have hB3:=((QK base w).alloc hbs (.cells #[.int .i64 n,.bool true,.slice A M.length c] 32)).alloc (by simp;omega) (.cells #[.int .i64 n,.bool true,.slice A M.length c] 32);have HH:=Hd (And.intro hO hB3);clear hP hc h1 h0 hm hg hin ho hO hB3;go_enter func291,ntmps291
  go_wp2_with fail
  obtain ⟨hO,hB3⟩:=HH.out;exact QL (v:=.agg #[.int .i64 n,.bool true,.slice A M.length c]) (by simp [results,results291,go_sem]) rfl ⟨rfl,hO,hB3⟩
theorem Qg8 (N:Int) (E:Bool) (A:Option Addr) (c:Nat) (M:List Int) (v:Int) (w:World) (h:Vd w w.heap.size A c N M) (hv:Zu v) (hM:(M.length:Int)≤17592186043904) (p:Int) (hp:Rt N E M v=p) (R:Int×Bool×List Int) (hR:Kj N E M v=R):
 Calls prog 242 #[.agg #[.int .i64 N,.bool E,.slice A M.length c],.int .i64 v] w (Ji6 w R p):=by
 obtain ⟨W,hW,hR0,hs⟩:=Me w 32 N E (.slice A M.length c);have h1:=h.go hR0.below;obtain ⟨k0,k1,k2,r0,r1,r2,fc,fr,hB,hlt⟩:=id hR0;have hK:Jy W w.heap.size N E (.slice A M.length c):=⟨k0,k1,k2⟩;have hX:Vc W (w.heap.size+1) 0 false (.slice none 0 0):=⟨⟨r0,r1,r2⟩,fr⟩;have cC:=Ul A c N E M W h1;have HP:=Hd hp;have HR:=Hd hR;have:=Hd h;obtain ⟨x1,hx1⟩:∃x,x=Je N E M:=⟨_,rfl⟩;have HX1:=Hd hx1;rw [<-hx1] at cC;clear hp hR hR0 h hx1;go_enter func242,ntmps242
 go_wp2_with fail
 rw [<-hW];clear hW;refine cC.mono ?_;clear cC;rintro e w1 ⟨rfl,hb1⟩;have hK1:=hK.below hb1;have hX1:=hX.below hb1;have hi1:=h1.go hb1;have hB1:=hB.trans (hb1.mono hB.size);have hs1:w.heap.size+2≤w1.heap.size:=by rw [<-hs];exact hb1.size
 clear hb1 k0 k1 k2 r0 r1 r2 fc fr hB hK hX h1 hs hlt;obtain ⟨k0,k1,k2⟩:=id hK1;obtain ⟨⟨r0,r1,r2⟩,fr⟩:=id hX1;by_cases hx0:x1=0
 .have hd:(x1 !=0)=false:=bne_eq_false_iff_eq.2 hx0;have hc:Je N E M=0:=by rw [<-HX1.out];exact hx0
  clear hx0;by_cases hin:v<0∨v≥N
  .have hE:p=122:=by rw [<-HP.out];unfold Rt;rw [ZL (λk=>k hc),ZM hin]
   have hR2:R=(0,false,[]):=by rw [<-HR.out];unfold Kj;rw [HP.out,ZL (by omega)]
   subst hE hR2;clear HP HR hc HX1;have hS:=Hd (hX1.res hB1 (by omega) 0 false (.slice none 0 0));have hO:=Hd ((Ow.nil w1 (w.heap.size+2) 2 .i64).put3 (b:=w.heap.size+1) (by omega) (.int .i64 0) (.bool false) (.slice none 0 0));clear hX1;by_cases hv0:v<0
   rotate_left
   focus
    have:N≤v:=by omega
    clear hin
   all_goals
    go_wp2_with fail
    obtain ⟨⟨s0,s1,s2⟩,hB3⟩:=hS.out;exact QL (v:=.tuple #[.agg #[.int .i64 0,.bool false,.slice none 0 0],.int .i64 122]) (by simp [results,results242,go_sem,r0,r1,r2]) rfl ⟨none,0,rfl,hO.out.lower (by omega),hB3⟩
  have hE:p=0:=by rw [<-HP.out];unfold Rt;rw [ZL (λk=>k hc),ZL hin]
  subst hE;have hR2:R=Rz N E M (λu=>decide ((u:Int)=v)):=by rw [<-HR.out];unfold Kj;rw [HP.out,ZM rfl]
  obtain ⟨n,rfl,_,_⟩:=Zz hc;have hck:=Lc hc;have cO:=Vr5 n E A c M w1 hi1 hM;unfold Rz at hR2;obtain ⟨Q,hQ⟩:∃Q,Q=clo n E M:=⟨_,rfl⟩;rw [<-hQ] at hR2 hck cO;clear hQ HR HP HX1;obtain ⟨_,Ec,Mc⟩:=Q;dsimp only at hck;obtain ⟨rfl,hck⟩:=hck;have:¬v<0:=by omega
  have:v<(n:Int):=by omega
  have HR2:=Hd hR2;have HCk:=Hd hck;clear hin hc hR2 hck hi1;have hmm:=@run_makeMap prog;go_wp2_with fail
  with_reducible refine cO.mono ?_
  clear cO;rintro e w2 ⟨A2,c2,rfl,ho2,hb2⟩;dsimp only at ho2 |-
  clear k0 k1 k2 r0 r1 r2 fr;go_wp2_with (refine Gq _ rfl _ _ _ rfl w2.heap.size 0 (λ_=>false) rfl (Gm.made w2) (by decide) v hv rfl rfl ?_;intro w3 hG3 hg3)
  have hs2:=hb2.size;have hb3:Below w1.heap.size w1 w3:=(hb2.alloc hb2.size _).grown hg3 (by simp;omega) (λk e=>by cases e;exact hs2);have ho3:=(ho2.alloc (.map #[] 0)).turn hg3 (λg' hg'=>by subst hg';have:=ho2.blockGe.2;omega);have hG3':=hG3.congr (g':=λy=>decide (y=v)) (λy=>by simp);have cF:=Gp n Ec A2 c2 Mc HCk.out w2.heap.size (0+1) (λy=>decide (y=v)) w3 w1.heap.size hb3.size ho3 hG3' (λx hx=>⟨v.toNat,by have:=ZN hx;omega,by omega⟩) R HR2.out;clear hG3 hg3 ho3 hG3' ho2 hb2 hs2 hmm;with_reducible refine cF.mono ?_
  clear cF;obtain ⟨Nr,Er,Mr⟩:=R;rintro e _ ⟨rfl,ho4,hb4⟩;dsimp only at ho4 |-
  have hb14:=hb3.trans hb4;have hX4:=hX1.below hb14;have hB4:=hB1.trans (hb14.mono hB1.size);have:=ZO hs1 hb14.size;clear hX1 hb3 hb4 hb14;obtain ⟨⟨r0,r1,r2⟩,fr⟩:=id hX4;have hS:=Hd (hX4.res hB4 (by omega) Nr Er (.slice A2 Mr.length c2));have hO:=Hd (ho4.put3 (b:=w.heap.size+1) (by omega) (.int .i64 Nr) (.bool Er) (.slice A2 Mr.length c2));clear hX4 HR2 HCk;go_wp2_with fail
  obtain ⟨⟨s0,s1,s2⟩,hB5⟩:=hS.out;exact QL (v:=.tuple #[.agg #[.int .i64 Nr,.bool Er,.slice A2 Mr.length c2],.int .i64 0]) (by simp [results,results242,go_sem,r0,r1,r2]) rfl ⟨A2,c2,rfl,hO.out.lower (by omega),hB5⟩
 .have hd:(x1 !=0)=true:=bne_iff_ne.2 hx0;have hE:p=x1:=by rw [<-HP.out,HX1.out];unfold Rt;rw [ZM (by rw [<-HX1.out];exact hx0)]
  have hR2:R=(0,false,[]):=by rw [<-HR.out];unfold Kj;rw [HP.out,ZL (by omega)]
  subst hE hR2;clear HP HR HX1 hx0;have hS:=Hd (hX1.res hB1 (by omega) 0 false (.slice none 0 0));have hO:=Hd ((Ow.nil w1 (w.heap.size+2) 2 .i64).put3 (b:=w.heap.size+1) (by omega) (.int .i64 0) (.bool false) (.slice none 0 0));clear hX1;go_wp2_with fail
  obtain ⟨⟨s0,s1,s2⟩,hB3⟩:=hS.out;exact QL (v:=.tuple #[.agg #[.int .i64 0,.bool false,.slice none 0 0],.int .i64 p]) (by simp [results,results242,go_sem,r0,r1,r2]) rfl ⟨none,0,rfl,hO.out.lower (by omega),hB3⟩
end
section
open Gn
namespace Gn
end Gn
end
section
open Gn
structure Qi (w:World) (A:Option Addr) (c:Nat) (P:Zj):Prop where
 oi:Vd w w.heap.size A c P.1 P.2.2
 ok:Je P.1 P.2.1 P.2.2=0
theorem Qi.go {w w':World} {A:Option Addr} {c:Nat} {P:Zj} (h:Qi w A c P) (hb:Below w.heap.size w w'):Qi w' A c P:=
 ⟨⟨h.oi.hN,(h.oi.rd.below hb).more hb.size,h.oi.i64,h.oi.le,h.oi.max⟩,h.ok⟩
theorem Qi.len {w:World} {A:Option Addr} {c:Nat} {P:Zj} (h:Qi w A c P):(P.2.2.length:Int)≤17592186043904:=by
 obtain ⟨n,_,h64,h1,h2⟩:=Zz h.ok;cases hE:P.2.1 with
 |true=>rw [h1 hE];simp
 |false=>
  rw [(h2 hE).1];have:n*n≤64*64:=QA h64 h64
  rw [Nat.mul_assoc];omega
def Qf (P:Zj) (A:Option Addr) (c:Nat):Value:=.agg #[.int .i64 P.1,.bool P.2.1,.slice A P.2.2.length c]
def Qp (P:Zj) (A:Option Addr) (c:Nat):List Value:=[.int .i64 P.1,.bool P.2.1,.slice A P.2.2.length c]
def Jj:List Value:=[.int .i64 0,.bool false,.slice none 0 0]
def Zd (w:World) (P:Zj) (e:Ending) (w':World):Prop:=∃A c,e=.returned (Qf P A c)∧Qi w' A c P∧Below w.heap.size w w'
theorem Sd {w:World} {base:Nat} {A:Option Addr} {c:Nat} {P:Zj} (h:Ow w base 2 .i64 A c P.2.2) (hc:Je P.1 P.2.1 P.2.2=0):Qi w A c P:=by
 obtain ⟨_,hn,_,_⟩:=Zz hc;exact ⟨⟨by rw [hn];unfold Zu;omega,h.rd,Td hc,h.cap,h.capMax⟩,hc⟩
theorem Sx {P:Zj} (h:Je P.1 P.2.1 P.2.2=0):(Qo P).1=P.1∧Je (Qo P).1 (Qo P).2.1 (Qo P).2.2=0:=by
 have:=Lc h
 unfold Qo;exact ⟨this.1,by rw [this.1];exact this.2⟩
theorem Wc {P:Zj} (h:Je P.1 P.2.1 P.2.2=0):(Zp P.1 P.2.1 P.2.2).2=0:=by
 unfold Zp;rw [ZL (λk=>k h)];split
 .rfl
 split<;>rfl
structure Xb (w:World) (b:Nat) (vs:List Value):Prop where
 bx:Bx w b vs
 end_:∀i,vs.length≤i->w.cell? ⟨b,i,none⟩=none
theorem Xb.go {w w':World} {b:Nat} {vs:List Value} (h:Xb w b vs) (hb:Below w.heap.size w w'):Xb w' b vs:=⟨h.bx.below hb,λi hi=>(hb.cell (p:=⟨b,i,none⟩) h.bx.lt).trans (h.end_ i hi)⟩
theorem Zk (w:World) (vs:List Value) (t:TypeId):∃W,W=w.alloc (.cells vs.toArray t)∧Xb W w.heap.size vs∧Below w.heap.size w W∧W.heap.size=w.heap.size+1:=by
 obtain ⟨W,hW,hX,hB⟩:=Qh w vs t;exact ⟨W,hW,⟨hX,λi hi=>by rw [hW,QM];simp;exact hi⟩,hB,by rw [hW];simp⟩
theorem Vu (w:World) (vs:List Value) (t:TypeId) (us:List Value) (t':TypeId):∃W,W=(w.alloc (.cells vs.toArray t)).alloc (.cells us.toArray t')∧Xb W w.heap.size vs∧Xb W (w.heap.size+1) us∧Below w.heap.size w W∧W.heap.size=w.heap.size+2:=by
 obtain ⟨W1,hW1,hX1,hB1,h1⟩:=Zk w vs t;obtain ⟨W2,hW2,hX2,hB2,_⟩:=Zk W1 us t';rw [h1] at hX2;exact ⟨W2,by rw [hW2,hW1],hX1.go hB2,hX2,hB1.trans (hB2.mono (by omega)),by omega⟩
theorem Qs3 {W:World} {b:Nat} {P:Zj} {A:Option Addr} {c:Nat} {us:List Value} (hl:us.length=3) (h1:∀k x,us[1]?≠some (.int k x)) (h2:∀k x,us[2]?≠some (.int k x)) (hY:Xb W b us) (hO:Qi W A c P) (vs:List Value):Qi (Qm W b 0 vs) A c P:=by
 refine ⟨⟨hO.oi.hN,λhn=>?_,hO.oi.i64,hO.oi.le,hO.oi.max⟩,hO.ok⟩;obtain ⟨g,off,rfl,hg,hc⟩:=hO.oi.rd hn;have hlen:4≤P.2.2.length:=by
  obtain ⟨n,_,_,k1,k2⟩:=Zz hO.ok;cases hE:P.2.1 with
  |true=>rw [k1 hE] at hn;simp at hn
  |false=>
   have:=(k2 hE).1
   rw [this] at hn |-
   rcases Nat.eq_zero_or_pos n with rfl|hp
   .simp at hn
   have:1*1≤n*n:=QA hp hp
   rw [Nat.mul_assoc];omega
 have hne:g≠b:=by
  rintro rfl;rcases ZJ off 3 with ho|ho
  .rcases (show off=0∨off=1∨off=2 by omega) with rfl|rfl|rfl
   .have e:=hc 1 (by omega);have e2:=hY.bx.cell 1 us[1] (ZF (by omega));rw [show (0+1:Nat)=1 from rfl,e2] at e;exact h1 _ _ (by rw [ZF (by omega)];exact e)
   .have e:=hc 0 (by omega);have e2:=hY.bx.cell 1 us[1] (ZF (by omega));rw [show (1+0:Nat)=1 from rfl,e2] at e;exact h1 _ _ (by rw [ZF (by omega)];exact e)
   have e:=hc 0 (by omega);have e2:=hY.bx.cell 2 us[2] (ZF (by omega));rw [show (2+0:Nat)=2 from rfl,e2] at e;exact h2 _ _ (by rw [ZF (by omega)];exact e)
  have e:=hc 0 (by omega);rw [hY.end_ (off+0) (by omega)] at e;cases e
 have hp:=Za W b vs 0;exact ⟨g,off,rfl,ZI hg hp.size,λi hi=>Qy hp (hc i hi) hne⟩
theorem Xb.put {W:World} {b:Nat} {us vs:List Value} (hY:Xb W b us) (hl:vs.length=us.length):Xb (Qm W b 0 vs) b vs:=by
 refine ⟨hY.bx.put hl,λi hi=>?_⟩;have:∀(vs:List Value) (k:Nat) (W:World),W.cell? ⟨b,i,none⟩=none->k+vs.length≤i->(Qm W b k vs).cell? ⟨b,i,none⟩=none:=by
  intro vs;induction vs with
  |nil=>intro k W h _;exact h
  |cons v r ih=>
   intro k W h hk;refine ih (k+1) _ ?_ (by simp at hk;omega);rw [QP W _ _ v (by intro e;injection e with _ e;simp at hk;omega)];exact h
 exact this vs 0 W (hY.end_ i (by omega)) (by omega)
theorem Vw3 {w W:World} {b:Nat} {Q:Zj} {A:Option Addr} {c:Nat} {us:List Value} (hl:us.length=3) (h1:∀k x,us[1]?≠some (.int k x)) (h2:∀k x,us[2]?≠some (.int k x)) (hY:Xb W b us) (hO:Qi W A c Q) (hB:Below w.heap.size w W) (hb:w.heap.size≤b):
 Xb (Qm W b 0 (Qp Q A c)) b (Qp Q A c)∧Qi (Qm W b 0 (Qp Q A c)) A c Q∧Below w.heap.size w (Qm W b 0 (Qp Q A c)):=
 ⟨hY.put (by rw [hl];rfl),Qs3 hl h1 h2 hY hO _,Qn hb _ _ _ hB⟩
theorem Zx {w W:World} {b:Nat} {Q:Zj} {A:Option Addr} {c:Nat} (hY:Xb W b Jj) (hO:Qi W A c Q) (hB:Below w.heap.size w W) (hb:w.heap.size≤b):
 Xb (Qm W b 0 (Qp Q A c)) b (Qp Q A c)∧Qi (Qm W b 0 (Qp Q A c)) A c Q∧Below w.heap.size w (Qm W b 0 (Qp Q A c)):=
 Vw3 rfl (by intro k x e;cases e) (by intro k x e;cases e) hY hO hB hb
theorem Yl (P:Zj) (A:Option Addr) (c:Nat) (w:World) (h:Qi w A c P):Calls prog 123 #[Qf P A c] w (Zd w (Qo P)):=by
 obtain ⟨W,hW,hX,hY,hB,_⟩:=Vu w (Qp P A c) 32 Jj 32;have cC:=Hd (Nd P.1 P.2.1 A c P.2.2 W (h.go hB).oi h.len);obtain ⟨Q,hQ⟩:∃Q:Zj,Hid (Qo P=Q):=⟨_,Hd rfl⟩;have hc:Je (Qo P).1 (Qo P).2.1 (Qo P).2.2=0:=(Sx h.ok).2;rw [hQ.out] at hc |-
 obtain ⟨y0,y1,y2⟩:=hX.bx.c2;have yl:=hX.bx.lt;unfold Qf;unfold Qp at hW;unfold Jj at hW;have HY:=Hd hY;have HB:=Hd hB;clear h hX hY hB;go_enter func123,ntmps123
 go_upto_region 1 with fail
 rw [<-hW];clear hW;unfold Ww at cC;rw [show (Zp P.1 P.2.1 P.2.2).1.1=Q from hQ.out] at cC;go_upto_region 2 with (go_at_call 12;(with_reducible refine cC.out.mono ?_);rintro _ w1 ⟨A',c',rfl,ho,hb⟩;obtain ⟨_,hW2,hX2,hB2,_⟩:=Zk w1 (Qp Q A' c') 32;have HO:=Hd (Sd ho hc);have HB1:=Hd hb;have HB2:=Hd hB2;have HX2:=Hd hX2;unfold Qp at hW2;clear ho hb hX2 hB2)
 rw [<-hW2];clear hW2 y0 y1 y2 yl;have hYW:=(HY.out.go HB1.out).go HB2.out;obtain ⟨_,_,_⟩:=HX2.out.bx.c2;have:=HX2.out.bx.lt;obtain ⟨_,_,_⟩:=hYW.bx.c2;have:=hYW.bx.fr;have:=hYW.bx.lt;have HYW:=Hd hYW;clear hYW;go_wp2_with fail
 obtain ⟨k,kO,kB⟩:=Zx (b:=w.heap.size+1) HYW.out (HO.out.go HB2.out) (HB.out.trans ((HB1.out.mono (by omega)).trans (HB2.out.mono (by have:=HB1.out.size;omega)))) (by omega);obtain ⟨k0,k1,k2⟩:=k.bx.c2;simp only [Qp,Qm] at k0 k1 k2;exact QL (v:=Qf Q A' c') (by simp [results,results123,go_sem,k0,k1,k2,Qf]) rfl ⟨A',c',rfl,kO,kB⟩
theorem Ze6 {P:Zj} (h:Je P.1 P.2.1 P.2.2=0) (i j c:Int):Je (Yf P i j c).1 (Yf P i j c).2.1 (Yf P i j c).2.2=0:=by
 obtain ⟨n,hn,h64,_,_⟩:=Zz h;obtain ⟨_,E,_⟩:=P;dsimp only at*;subst hn;have z0:Je 0 false []=0:=by decide
 unfold Yf Up;dsimp only;rw [ZL (λk=>k h)];cases hi:Hn ((n:Nat):Int).toNat i j with
 |false=>rw [ZM rfl];exact z0
 |true=>
  rw [ZL (by simp)];cases E with
  |true=>rw [ZM rfl];exact Nv h64
  |false=>
   rw [ZL (by simp)];by_cases hij:i=j
   .rw [ZM hij];split
    .exact Nv h64
    exact h
   rw [ZL hij];unfold Hn at hi;simp at hi
   exact Zo1 h (by omega) (by omega) (by omega)
theorem Ui (P:Zj) (A:Option Addr) (c:Nat) (i j b:Int) (w:World) (h:Qi w A c P):Calls prog 247 #[Qf P A c,.int .i64 i,.int .i64 j,.int .i64 b] w (Zd w (Yf P i j b)):=by
 obtain ⟨W,hW,hX,hY,hB,_⟩:=Vu w (Qp P A c) 32 Jj 32;have cC:=Hd (Jr9 P.1 P.2.1 A c P.2.2 i j b W (h.go hB).oi h.len);obtain ⟨Q,hQ⟩:∃Q:Zj,Hid (Yf P i j b=Q):=⟨_,Hd rfl⟩;have hc:Je (Yf P i j b).1 (Yf P i j b).2.1 (Yf P i j b).2.2=0:=Ze6 h.ok i j b;rw [hQ.out] at hc |-
 obtain ⟨y0,y1,y2⟩:=hX.bx.c2;have yl:=hX.bx.lt;unfold Qf;unfold Qp at hW;unfold Jj at hW;have HY:=Hd hY;have HB:=Hd hB;clear h hX hY hB;go_enter func247,ntmps247
 go_upto_region 1 with fail
 rw [<-hW];clear hW;unfold Pv at cC;rw [show (Up P.1 P.2.1 P.2.2 i j b).1=Q from hQ.out] at cC;go_upto_region 2 with (go_at_call 298;(with_reducible refine cC.out.mono ?_);rintro _ w1 ⟨A',c',rfl,ho,hb⟩;obtain ⟨_,hW2,hX2,hB2,_⟩:=Zk w1 (Qp Q A' c') 32;have HO:=Hd (Sd ho hc);have HB1:=Hd hb;have HB2:=Hd hB2;have HX2:=Hd hX2;unfold Qp at hW2;clear ho hb hX2 hB2)
 rw [<-hW2];clear hW2 y0 y1 y2 yl;have hYW:=(HY.out.go HB1.out).go HB2.out;obtain ⟨_,_,_⟩:=HX2.out.bx.c2;have:=HX2.out.bx.lt;obtain ⟨_,_,_⟩:=hYW.bx.c2;have:=hYW.bx.fr;have:=hYW.bx.lt;have HYW:=Hd hYW;clear hYW;go_wp2_with fail
 obtain ⟨k,kO,kB⟩:=Zx (b:=w.heap.size+1) HYW.out (HO.out.go HB2.out) (HB.out.trans ((HB1.out.mono (by omega)).trans (HB2.out.mono (by have:=HB1.out.size;omega)))) (by omega);obtain ⟨k0,k1,k2⟩:=k.bx.c2;simp only [Qp,Qm] at k0 k1 k2;exact QL (v:=Qf Q A' c') (by simp [results,results247,go_sem,k0,k1,k2,Qf]) rfl ⟨A',c',rfl,kO,kB⟩
theorem Ql8 {P:Zj} (h:Je P.1 P.2.1 P.2.2=0) (v:Int):Je (My P v).1 (My P v).2.1 (My P v).2.2=0:=by
 obtain ⟨_,hn,_,_,_⟩:=Zz h;obtain ⟨_,_,_⟩:=P;dsimp only at*;subst hn;unfold My Kj;dsimp only;split
 .have:=Ix (g:=λu=>decide ((u:Int)=v)) h
  rw [this.1];exact this.2
 decide
theorem Db (P:Zj) (A:Option Addr) (c:Nat) (v:Int) (w:World) (h:Qi w A c P) (hv:Zu v):Calls prog 180 #[Qf P A c,.int .i64 v] w (Zd w (My P v)):=by
 obtain ⟨W,hW,hX,hY,hB,_⟩:=Vu w (Qp P A c) 32 Jj 32;have cC:=Hd (Qg8 P.1 P.2.1 A c P.2.2 v W (h.go hB).oi hv h.len _ rfl _ rfl);obtain ⟨Q,hQ⟩:∃Q:Zj,Hid (My P v=Q):=⟨_,Hd rfl⟩;have hc:Je (My P v).1 (My P v).2.1 (My P v).2.2=0:=Ql8 h.ok v;rw [hQ.out] at hc |-
 obtain ⟨y0,y1,y2⟩:=hX.bx.c2;have yl:=hX.bx.lt;unfold Qf;unfold Qp at hW;unfold Jj at hW;have HY:=Hd hY;have HB:=Hd hB;clear h hX hY hB;go_enter func180,ntmps180
 go_upto_region 1 with fail
 rw [<-hW];clear hW;unfold Ji6 at cC;rw [show Kj P.1 P.2.1 P.2.2 v=Q from hQ.out] at cC;go_upto_region 2 with (go_at_call 242;(with_reducible refine cC.out.mono ?_);rintro _ w1 ⟨A',c',rfl,ho,hb⟩;obtain ⟨_,hW2,hX2,hB2,_⟩:=Zk w1 (Qp Q A' c') 32;have HO:=Hd (Sd ho hc);have HB1:=Hd hb;have HB2:=Hd hB2;have HX2:=Hd hX2;unfold Qp at hW2;clear ho hb hX2 hB2)
 rw [<-hW2];clear hW2 y0 y1 y2 yl;have hYW:=(HY.out.go HB1.out).go HB2.out;obtain ⟨_,_,_⟩:=HX2.out.bx.c2;have:=HX2.out.bx.lt;obtain ⟨_,_,_⟩:=hYW.bx.c2;have:=hYW.bx.fr;have:=hYW.bx.lt;have HYW:=Hd hYW;clear hYW;go_wp2_with fail
 obtain ⟨k,kO,kB⟩:=Zx (b:=w.heap.size+1) HYW.out (HO.out.go HB2.out) (HB.out.trans ((HB1.out.mono (by omega)).trans (HB2.out.mono (by have:=HB1.out.size;omega)))) (by omega);obtain ⟨k0,k1,k2⟩:=k.bx.c2;simp only [Qp,Qm] at k0 k1 k2;exact QL (v:=Qf Q A' c') (by simp [results,results180,go_sem,k0,k1,k2,Qf]) rfl ⟨A',c',rfl,kO,kB⟩
theorem Qi.none {w:World} {n:Nat} (h:n≤64):Qi w none 0 (Vt n):=
 ⟨⟨by show Zu (n:Int);unfold Zu;omega,Rd.zero,(by intro x hx;cases hx),ZH _,by decide⟩,Nv h⟩
theorem Qs8 (n:Nat) (w:World) (h:n≤64):Calls prog 179 #[.int .i64 n] w (Zd w (Vt n)):=by
 obtain ⟨W,hW,hY,hB,_⟩:=Zk w Jj 32;have cC:=Hd (Rv n W h);unfold Jj at hW;have HY:=Hd hY;have HB:=Hd hB;clear hY hB;go_enter func179,ntmps179
 go_upto_region 1 with fail
 rw [<-hW];clear hW;go_upto_region 2 with (go_at_call 33;(with_reducible refine cC.out.mono ?_);rintro _ w1 ⟨rfl,hb⟩;obtain ⟨_,hW2,hX2,hB2,_⟩:=Zk w1 (Qp (Vt n) none 0) 32;have HO:=Hd (Qi.none (w:=w1) (n:=n) h);have HB1:=Hd hb;have HB2:=Hd hB2;have HX2:=Hd hX2;unfold Qp Vt at hW2;simp only [List.length_nil] at hW2;clear hb hX2 hB2)
 rw [<-hW2];clear hW2;have hYW:=(HY.out.go HB1.out).go HB2.out;obtain ⟨_,_,_⟩:=HX2.out.bx.c2;have:=HX2.out.bx.lt;obtain ⟨_,_,_⟩:=hYW.bx.c2;have:=hYW.bx.fr;have:=hYW.bx.lt;have HYW:=Hd hYW;clear hYW;go_wp2_with fail
 obtain ⟨k,kO,kB⟩:=Zx (b:=w.heap.size) HYW.out (HO.out.go HB2.out) (HB.out.trans ((HB1.out.mono (by omega)).trans (HB2.out.mono (by have:=HB1.out.size;omega)))) (by omega);obtain ⟨k0,k1,k2⟩:=k.bx.c2;simp only [Qp,Qm,Vt,List.length_nil] at k0 k1 k2;exact QL (v:=Qf (Vt n) none 0) (by simp [results,results179,go_sem,k0,k1,k2,Qf,Vt]) rfl ⟨none,0,rfl,kO,kB⟩
theorem Zl5 (W:World) (n L:Nat) (hL:L≤16384):Ed W ((W.alloc (.cells #[.int .i64 n,.bool false,.slice (some ⟨W.heap.size+1,0,none⟩) L L] 32)).alloc (.cells (madeCells #[.int .i64 0] L) 2)).drew W.heap.size n (W.heap.size+1) L (List.replicate L 0):=by
 obtain ⟨W1,hW1,hX1,hB1,h1⟩:=Zk W [.int .i64 n,.bool false,.slice (some ⟨W.heap.size+1,0,none⟩) L L] 32;have e:W.alloc (.cells #[.int .i64 n,.bool false,.slice (some ⟨W.heap.size+1,0,none⟩) L L] 32)=W1:=hW1.symm;rw [e];have hr:=Ow.made W1 W.heap.size L 2 .i64 (by omega) (by unfold maxLen;omega);rw [h1] at hr;have hb:=((QK _ W1).alloc (ZH _) (.cells (madeCells #[.int .i64 0] L) 2)).drew;have hX:=hX1.go hb;exact ⟨⟨⟨hX.bx.cell 0 _ rfl,hX.bx.cell 1 _ rfl,hX.bx.cell 2 _ rfl⟩,hX.bx.fr⟩,hr,by omega,by simp,hB1.trans (hb.mono (by omega)),ZH _⟩
theorem Ze3 (W:World) (n L:Nat) (hL:L≤16384):Ed W ((W.alloc (.cells (madeCells #[.int .i64 0] L) 2)).alloc (.cells #[.int .i64 n,.bool false,.slice (some ⟨W.heap.size,0,none⟩) L L] 32)).drew (W.heap.size+1) n W.heap.size L (List.replicate L 0):=by
 obtain ⟨W1,hW1⟩:∃W1,W1=W.alloc (.cells (madeCells #[.int .i64 0] L) 2):=⟨_,rfl⟩;have h1:W1.heap.size=W.heap.size+1:=by rw [hW1];simp
 have hb1:Below W.heap.size W W1:=by rw [hW1];exact (QK _ _).alloc (ZH _) _
 have hr:=Ow.made W W.heap.size L 2 .i64 (ZH _) (by unfold maxLen;omega);rw [<-hW1] at hr |-
 obtain ⟨W2,hW2,hX2,hB2,_⟩:=Zk W1 [.int .i64 n,.bool false,.slice (some ⟨W.heap.size,0,none⟩) L L] 32;have e:W1.alloc (.cells #[.int .i64 n,.bool false,.slice (some ⟨W.heap.size,0,none⟩) L L] 32)=W2:=hW2.symm;rw [e];rw [h1] at hX2;have hb:=(QK W2.heap.size W2).drew;have hX:=hX2.go hb;exact ⟨⟨⟨hX.bx.cell 0 _ rfl,hX.bx.cell 1 _ rfl,hX.bx.cell 2 _ rfl⟩,hX.bx.fr⟩,(hr.below hB2).drew,by omega,by simp,(hb1.trans (hB2.mono (by omega))).drew,by omega⟩
end
