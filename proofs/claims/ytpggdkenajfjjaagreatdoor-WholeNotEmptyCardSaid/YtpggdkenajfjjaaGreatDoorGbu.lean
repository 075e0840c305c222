/- Lemmas for wholeNotEmpty; no conditions. -/
import Derived.RangeFuncNested
import Derived.RangeFuncBound
import Derived.RangeFuncCalls
import Derived.RangeFuncLeaves
import Derived.Shelf.Abstract
import Derived.Shelf.RegionOpen
import Derived.OwnWalkIn
import Derived.TacticsInMore
import Derived.LoopNIn
import Derived.LoopIn
import Derived.Maps.OwnIn
import Derived.Lib.SlKeysI
import Derived.Sort.MapsRangeIn
import Derived.Test.YtpggdkenajfjjaaGreatDoorGbj
set_option linter.all false
set_option maxRecDepth 100000
set_option maxHeartbeats 16000000
namespace Go.Proofs.YtpggdkenajfjjaaGreatDoor
open Go.RowKit Tryz
section
open Go.RowKit Go.Maps Go.Shelf
attribute [local go_sem] Oper.semAt_some
theorem Qy9:prog.underlying 3=some (.int .i64):=by kernel_rfl
theorem Vu2:prog.underlying 379=some (.map 3 378):=by kernel_rfl
def Gm (W:World) (b nn:Nat) (g:Int->Bool):Prop:=∃D:DataW Unit,W.ownsMap prog 3 unitElem b nn D∧∀x,has D (.int .i64 x)=g x
theorem Ji3 (F:Fence) (n:Nat) (h10:F.fn 353) (hro:F.round=none) (hn:1≤n) (l Bm b nn:Nat) (g:Int->Bool) (J Jx:List {x:Int // g x=true}->World->Prop)
 (hY:∀pre x W,J pre W->pre.length<nn->YieldAt F (n - 1) prog l #[.int .i64 x.1] W λe W'=>
  (e=.returned (.bool true)∧J (pre++[x]) W'∧KeepsWalks W W')∨(e=.returned (.bool false)∧Jx (pre++[x]) W'))
 (W:World) (hJ:AbidesFrom W.heap.size J) (hm:W.cell? ⟨Bm,0,none⟩=some (.map (some b))) (hg:Gm W b nn g) (h0:J [] W):
 CallsIn F n prog 353 #[.func (.yield l) #[] #[],.pointer (some ⟨Bm,0,none⟩)] W λe W'=>(∃v,e=.returned v)∧
  ((∃ss:List {x:Int // g x=true},(∀x,x∈ss)∧J ss W')∨(∃pre:List {x:Int // g x=true},True∧Jx pre W')):=by
 obtain ⟨D0,hown,hD⟩:=hg;have hsz:=hown.size_le;refine callsIn_of_wp func353 rfl h10 ?_ hro;simp only [ntmps353,List.size_toArray,QI,List.length_nil,Nat.reduceAdd,Nat.reduceSub,Array.replicate_succ,Array.replicate_zero,List.push_toArray,List.append_toArray,List.nil_append,List.cons_append];gi_wp2_with (first
  |(gi_at_range;refine wpListIn_range_own _ rfl _ 379 rfl 3 378 (int_keyed Qy9) Vu2 _ b nn _ rfl hown ?_;intro w0 hrg0 hg0 hs0)
  |gi_in)
 go_frame
 gi_loopw [3] (λ_ wr=>∃(left:Lit->Bool) (cnt:Nat) (ss:List {x:Int // g x=true}),wr.ranges prog 3 unitElem b W.heap.size nn D0 left cnt∧ss.length+cnt≤Maps.size D0∧CollectedI D0 left (ss.map Subtype.val)∧J ss wr)
  (λ_ wr=>wr.rangeLeft b W.heap.size)
 case atStart=>
  exact ⟨_,_,[],hrg0,by simp,CollectedI.start D0,hJ [] W w0 none h0 hg0 (λr e=>by cases e)⟩
 case round=>
  obtain ⟨left,cnt,ss,hrg,_,hC,hJs⟩:=hrel;gi_wp2_with (first
   |(gi_at_next;refine wpListIn_next_ranges _ rfl _ rfl 3 (int_keyed Qy9) unitElem encZ id (λkey kl hk=>by obtain ⟨x,hx,_⟩:=Maps.keyOf_i64 Qy9 hk;exact ⟨x,hx⟩) (λv _ _=>⟨v,rfl⟩) b W.heap.size nn _ _ _ rfl hrg ?_ ?_)
   |gi_in)
  .intro hc0 hl0;gi_wp2
   go_end0
   refine ⟨⟨_,rfl⟩,.inl ⟨ss,λx=>?_,hJs⟩⟩;have:=(hC.2 x.1).2 ⟨by rw [hD];exact x.2,hl0 _⟩
   obtain ⟨_,hy,e⟩:=List.mem_map.1 this;rw [<-Subtype.ext e];exact hy
  intro x c kl yd yp w2 cnt2 hkey hlk hv hat hrg2 hlt hg2 hs2 hen;obtain ⟨x',ex,rfl,_⟩:=Maps.keyOf_i64 Qy9 hkey;obtain rfl:x=x':=encZ_inj ex;have hC2:=hC.step hlk hat;have hx:g x=true:=by
   rw [<-hD];exact ((hC2.2 x).1 (by simp)).1
  have hJ2:J ss w2:=hJ ss wr w2 (some W.heap.size) hJs hg2 (λr e=>by cases e;exact ⟨ZH _,hrg.iter_walk⟩);obtain ⟨fn,_,_,_,hy,hR⟩:=hY ss ⟨x,hx⟩ w2 hJ2 (by omega);clear hs2;gi_wp2
  refine hR.mono ?_;rintro e _ (⟨rfl,hJ3,hk3⟩|⟨rfl,hJx3⟩)
  .gi_wp2
   have hrg3:=hrg2.of_walks hk3;go_roundw
   case rel=>exact ⟨_,cnt2,ss++[⟨x,hx⟩],hrg3,by simp;omega,by simpa using hC2,hJ3⟩
   rw [hrg3.left_eq,hrg.left_eq];exact hlt
  gi_wp2
  refine QL (results_none rfl _ _ _) rfl ?_;exact ⟨⟨_,rfl⟩,.inr ⟨ss++[⟨x,hx⟩],trivial,hJx3⟩⟩
theorem Zc7 (F:Fence) (n:Nat) (h10:F.fn 353) (hro:F.round=none) (hn:1≤n) (Bm b nn:Nat) (g:Int->Bool) (w:World) (hBm:Bm<w.heap.size)
 (hm:w.cell? ⟨Bm,0,none⟩=some (.map (some b))) (hg:Gm w b nn g):
 SeqStopsK F n prog 353 #[.pointer (some ⟨Bm,0,none⟩)] (λx:{x:Int // g x=true}=>#[.int .i64 x.1]) KeepsWalks (λss=>∀x,x∈ss) (λ_=>True) nn w:=λl J Jx W hW hJ _ hY h0=>by
 have hg':Gm W b nn g:=by
  obtain ⟨D0,hown,hD⟩:=hg;have hbl:=hown.lt;obtain ⟨es,clock,hb,Ft,hs,hDD⟩:=hown;exact ⟨D0,⟨es,clock,(hW.block b hbl).trans hb,Ft,hs,hDD⟩,hD⟩
 exact Ji3 F n h10 hro hn l Bm b nn g J Jx hY W hJ ((hW.cell (p:=⟨Bm,0,none⟩) hBm).trans hm) hg' h0
theorem Vk7 (F:Fence) (n:Nat) (h7:F.fn 332) (hro:F.round=none) (mb:Option Nat) (w:World):
 CallsIn F n prog 332 #[.map mb] w λe w'=>e=.returned (.func (.func 353) #[] #[.pointer (some ⟨w.heap.size,0,none⟩)])∧w'=w.alloc (.cells #[.map mb] 379):=by
 refine callsIn_of_wp func332 rfl h7 ?_ hro;simp only [ntmps332,List.size_toArray,QI,List.length_nil,Nat.reduceAdd,Nat.reduceSub,Array.replicate_succ,Array.replicate_zero,List.push_toArray,List.append_toArray,List.nil_append,List.cons_append];gi_wp2
 go_ret
 exact ⟨rfl,rfl⟩
end
section
open Go.ChangeMaps Go.MapKept
open Gn
theorem Vd9 {x:Int} (h:Zu x):(Lit.int .i64 x).wf=true:=by
 obtain ⟨_,_⟩:=h;simp [Lit.wf,IntKind.min,IntKind.max,IntKind.signed,IntKind.bits]
 omega
section
variable {w w':World} {b nn:Nat} {g:Int->Bool}
theorem Gm.made (w:World):Gm (w.alloc (.map #[] 0)) w.heap.size 0 (λ_=>false):=⟨.map [],World.ownsMap_made _ _ _ _,λx=>rfl⟩
theorem Gm.lt (h:Gm w b nn g):b<w.heap.size:=by obtain ⟨_,h,_⟩:=h;exact h.lt
theorem Gm.below (h:Gm w b nn g) (hb:Below w.heap.size w w'):Gm w' b nn g:=by
 have hl:=h.lt;obtain ⟨D0,⟨es,clock,hh,Ft,hs,hDD⟩,hD⟩:=h;exact ⟨D0,⟨es,clock,(hb.block b hl).trans hh,Ft,hs,hDD⟩,hD⟩
theorem Gm.mono (h:Gm w b nn g) {n':Nat} (hn:nn≤n'):Gm w b n' g:=by obtain ⟨D,h,hD⟩:=h;exact ⟨D,h.mono hn,hD⟩
theorem Gm.congr (h:Gm w b nn g) {g':Int->Bool} (hg:∀x,g x=g' x):Gm w b nn g':=by obtain ⟨D,h,hD⟩:=h;exact ⟨D,h,λx=>(hD x).trans (hg x)⟩
theorem Gm.setCell (h:Gm w b nn g) {a:Addr} (ha:b≠a.block) (u:Value):Gm (w.setCell a u) b nn g:=by obtain ⟨D,h,hD⟩:=h;exact ⟨D,h.setCell ha u,hD⟩
theorem Gm.put {D:DataW Unit} {k:Int} (hown:w.ownsMap prog 3 unitElem b nn D) (hD:∀x,Go.Maps.has D (.int .i64 x)=g x) (h':w'.ownsMap prog 3 unitElem b (nn+1) (D.put (.int .i64 k) (.agg []))):Gm w' b (nn+1) (λy=>decide (y=k)||g y):=by
 refine ⟨_,h',λx=>?_⟩;by_cases hx:x=k
 .subst hx;rw [Go.Maps.has_put_same hown.isMap (show WideAt.IsKeyLit (.int .i64 x) from by simp [WideAt.IsKeyLit])];simp
 rw [Go.Maps.has_put_other (by intro e;injection e with _ e;exact hx e),hD];simp [hx]
end
section
variable {H:Type} (w:World) {ops:Array Oper} {rest:List Oper} {o:Oper} {a:Act} {Q:Exit->Act->World->Prop}
theorem Gq (hg:o.guard=none) (m x v:Operand) (hop:o.op=Op.insert 379 m x v) (b nn:Nat) (g:Int->Bool) (hm:a.eval m=.map (some b)) (hG:Gm w b nn g) (hn:nn<maxLen) (k:Int) (hk:Zu k)
 (hx:a.eval x=.int .i64 k) (hv:a.eval v=.agg #[])
 (hK:∀w',Gm w' b (nn+1) (λy=>decide (y=k)||g y)->w.grownBy w' (some b)->wpList prog ops Q rest (a.put o.dst undef) w'):wpList prog ops Q (o::rest) a w:=by
 obtain ⟨_,hown,hD⟩:=hG;refine wpList_plain hg λK' hK'=>?_
 obtain ⟨w',hrun,r1,r2⟩:=hown.store (Go.Maps.int_keyed Qy9) Vu2 hn (Go.Maps.keyOf_int_mk Qy9 (Vd9 hk)) (unitElem_mk (H:=Unit));unfold Oper.wp;simp [execOp,hop,hm,hx,hv,hrun,Result.andThen]
 exact hK' _ _ (hK w' (Gm.put hown hD r1) r2.grown)
end
end
