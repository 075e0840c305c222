/- Lemmas for wholeNotEmpty; no conditions. -/
import Derived.Test.YtpggdkenajfjjaaGreatDoorGav
import Derived.RangeFuncNested
import Derived.RangeFuncBound
import Derived.RangeFuncCalls
import Derived.RangeFuncLeaves
import Derived.RangeFuncFrom
import Derived.RangeFuncIn
import Derived.Shelf.Abstract
import Derived.Shelf.RegionOpen
import Derived.OwnWalkIn
import Derived.TacticsInMore
import Derived.LoopNIn
import Derived.LoopIn
set_option linter.all false
set_option maxRecDepth 100000
set_option maxHeartbeats 16000000
namespace Go.Proofs.YtpggdkenajfjjaaGreatDoor
open Go.RowKit Tryz
open Go.Lib renaming hid → Hd
attribute [local go_sem] Oper.semAt_some
structure Jv (w:World) (g:Nat) (l c:Int):Prop where
 c0:w.cell? ⟨g,0,none⟩=some (.int .i64 l)
 c1:w.cell? ⟨g,1,none⟩=some (.int .i64 c)
 fr:∀i,w.frozen? ⟨g,i,none⟩=false
theorem Jv.new (w:World) (l c:Int) (t:TypeId):Jv (w.alloc (.cells #[.int .i64 l,.int .i64 c] t)) w.heap.size l c:=by
 refine ⟨?_,?_,λi=>?_⟩
 all_goals simp [go_sem]
theorem Jv.lt {w:World} {g:Nat} {l c:Int} (h:Jv w g l c):g<w.heap.size:=QO w ⟨g,0,none⟩ h.c0
theorem Jv.below {w w':World} {g:Nat} {l c:Int} (h:Jv w g l c) (hb:Below w.heap.size w w'):Jv w' g l c:=
 ⟨(hb.cell (p:=⟨g,0,none⟩) h.lt).trans h.c0,(hb.cell (p:=⟨g,1,none⟩) h.lt).trans h.c1,λi=>(hb.frozen (p:=⟨g,i,none⟩) h.lt).trans (h.fr i)⟩
theorem We {n:Nat} {P:Program} {f:FuncId} {args:Array Value} {w:World} {R R':Ending->World->Prop} (h:Calls P f args w R) (hr:∀e w',R e w'->R' e w'):CallsIn Fence.wide n P f args w R':=(callsIn_wide.2 h).mono hr
theorem Qz9 (w:World):Calls prog 260 #[] w λe w'=>e=.returned (.agg #[.int .i64 1,.int .i64 1])∧Below w.heap.size w w':=by
 go_enter func260,ntmps260
 go_wp2
 exact QL (v:=.agg #[.int .i64 1,.int .i64 1]) (by simp [results,results260,go_sem]) rfl ⟨rfl,by go_grown⟩
theorem Jj3 (r:Int) (hr:r≠10) (w:World):Calls prog 312 #[.agg #[.int .i64 1,.int .i64 1],.int .i32 r] w λe w'=>e=.returned (.agg #[.int .i64 1,.int .i64 2])∧Below w.heap.size w w':=by
 have:(r==10)=false:=by simpa using hr
 go_enter func312,ntmps312
 go_wp2
 exact QL (v:=.agg #[.int .i64 1,.int .i64 2]) (by simp [results,results312,go_sem]) rfl ⟨rfl,by go_grown⟩
theorem Qs4 (l Bs:Nat) (W:World) (hb:W.cell? ⟨Bs,0,none⟩=some (.string Jz)) (R:World->World->Prop)
 (hY:∀W1,Below W.heap.size W W1->YieldAt Fence.wide 4 prog l #[.int .i64 0,.agg #[.int .i64 1,.int .i64 2]] W1 λe W'=>e=.returned (.bool false)∧R W1 W'):
 CallsIn Fence.wide 5 prog 311 #[.func (.yield l) #[] #[],.pointer (some ⟨Bs,0,none⟩)] W λe W'=>e=.returned (.tuple #[])∧∃W1,Below W.heap.size W W1∧R W1 W':=by
 have hlt:=QO W _ hb;have c1:=Qz9 W;refine callsIn_of_wp func311 rfl trivial ?_ rfl;simp only [ntmps311,List.size_toArray,QI,List.length_nil,Nat.reduceAdd,Nat.reduceSub,Array.replicate_succ,Array.replicate_zero,List.push_toArray,List.append_toArray,List.nil_append,List.cons_append];gi_wp2_with (refine ⟨trivial,?_⟩;gi_at_call 260;refine We c1 ?_;clear c1;rintro e w1 ⟨rfl,hb1⟩;have k0:=(hb1.cell (p:=⟨Bs,0,none⟩) hlt).trans hb;have:=QO w1 _ k0)
 obtain ⟨W2,hW2⟩:∃W2,W2=w1.alloc (.cells #[.int .i64 1,.int .i64 1] 39):=⟨_,rfl⟩;have hP:Jv W2 w1.heap.size 1 1:=by rw [hW2];exact Jv.new _ _ _ _
 have hB2:Below W.heap.size W W2:=by rw [hW2];exact hb1.alloc hb1.size _
 have hsz:W2.heap.size=w1.heap.size+1:=by rw [hW2];simp
 rw [<-hW2];clear hW2 k0;have:∀ty,(Instr.next (.pointer (some ⟨w1.heap.size+1,0,none⟩)) true ty).run prog (W2.iter Jz 0)=.ok (.tuple #[.bool true,.int .i64 0,.int .i32 118]) (W2.iter Jz 1):=λty=>by
  rw [<-hsz];exact run_next_ascii (P:=prog) W2 Jz 0 ty (by decide) (by decide)
 clear hsz;have hP1:Jv (W2.iter Jz 1) w1.heap.size 1 1:=hP.below ((QK _ _).alloc (ZH _) _);have hB3:Below W.heap.size W (W2.iter Jz 1):=hB2.alloc hB2.size _;obtain ⟨q0,q1,qf⟩:=id hP1;refine wpIn_loop_once ?_;gi_wp2_with fail
 refine ⟨trivial,?_⟩;refine We (Jj3 118 (by decide) _) ?_;rintro e w3 ⟨rfl,hb3⟩;have hP3:=hP1.below hb3;have hB4:=hB3.trans (hb3.mono hB3.size);have hs3:W.heap.size≤w1.heap.size:=hb1.size;clear hP1 hB3 q0 q1 qf hP hB2 hb1 hb3;obtain ⟨q0,q1,qf⟩:=id hP3;have hB5:Below W.heap.size W ((w3.setCell ⟨w1.heap.size,0,none⟩ (.int .i64 1)).setCell ⟨w1.heap.size,1,none⟩ (.int .i64 2)):=(hB4.setCell (p:=⟨w1.heap.size,0,none⟩) hs3 _).setCell (p:=⟨w1.heap.size,1,none⟩) hs3 _;obtain ⟨_,_,_,_,_,hR⟩:=hY _ hB5;gi_wp2_with fail
 refine hR.mono ?_;rintro e W' ⟨rfl,hr⟩;gi_wp2_with fail
 go_returns
 exact ⟨rfl,_,hB5,hr⟩
theorem Mm {B:Nat} {w W:World} {l:Nat} {o:Obj} (h:Below B w W) (hl:B≤l):Below B w (W.putObj l o):=
 ⟨h.os,h.tape,h.output,by simpa [World.putObj] using h.size,λk hk=>(World.putObj_heap_other (by omega)).trans (h.block k hk)⟩
theorem Hq {n:Nat} {P:Program} {g:Operand} {ps:Array Tmp} {assign body:Code} {Q:Exit->Act->World->Prop} {a:Act} {w:World} (h1:1≤n) {gf:Nat} {lb:Array Value} (hg:a.eval g=.func (.func gf) #[] lb) (eg:∀args w,(callFunc gf args).run P w=.ok (.enter gf args) w)
 (h:∀fn,CallsIn Fence.wide (n - 1) P gf (#[.func (.yield (w.heap.size+1)) #[] #[]]++lb) ((w.alloc (.deferred (some []))).alloc (.loop {state:=.ready,pending:=none,fn:=fn,tmps:=a.tmps,params:=ps,assign:=assign,body:=body,defers:=w.heap.size})) (rangePost Fence.wide n P (w.heap.size+1) Q {a with defers:=[{target:=.collected w.heap.size,args:=#[]}]++a.defers})):
 (Code.rangeFunc g ps assign body).wpIn Fence.wide n P Q a w:=by
 refine wpIn_rangeFunc ?_;intro fn hfn;have hc:=h fn;generalize hW1:(w.alloc (.deferred (some []))).alloc (.loop {state:=.ready,pending:=none,fn:=fn,tmps:=a.tmps,params:=ps,assign:=assign,body:=body,defers:=w.heap.size})=W1 at hc;refine ⟨w.heap.size+1,[{target:=.collected w.heap.size,args:=#[]}],W1,{target:=.fn (.func gf) lb,args:=#[.func (.yield (w.heap.size+1)) #[] #[]]},W1,gf,#[.func (.yield (w.heap.size+1)) #[] #[]]++lb,W1,?_,?_,?_,?_,?_,?_⟩
 .rw [<-hW1];exact run_enterLoop_outer _ _ _ _ _
 .simp only [resolve,hg];simp [go_sem]
 .intro f' hf';trivial
 .simp [invoke,go_sem,eg]
 .intro _;exact h1
 exact hc
theorem Zt5:∀(args:Array Value) (w:World),(callFunc 311 args).run prog w=.ok (.enter 311 args) w:=enters_of func311 (by kernel_rfl) rfl
theorem Zw8 (w:World):Calls prog 261 #[.string Jz] w λe w'=>e=.returned (.func (.func 311) #[] #[.pointer (some ⟨w.heap.size,0,none⟩)])∧w'=w.alloc (.cells #[.string Jz] 9):=by
 go_enter func261,ntmps261
 go_wp2
 go_ret
 exact ⟨rfl,rfl⟩
theorem Vy1 (w:World):Calls prog 205 #[.string Jz,.int .i64 0] w λe w'=>e=.returned (.agg #[.int .i64 1,.int .i64 1])∧Below w.heap.size w w':=by
 refine (callsIn_wide (n:=6)).1 ?_;refine callsIn_of_wp_marks func205 rfl trivial ?_ rfl;simp only [ntmps205,List.size_toArray,QI,List.length_nil,Nat.reduceAdd,Nat.reduceSub,Array.replicate_succ,Array.replicate_zero,List.push_toArray,List.append_toArray,List.nil_append,List.cons_append];gi_wp2_with fail
 obtain ⟨W0,hW0⟩:∃W0,W0=(w.alloc (.cells #[.int .i64 0] 3)).alloc (.cells #[.int .i64 0,.int .i64 0] 39):=⟨_,rfl⟩;have n0:W0.cell? ⟨w.heap.size,0,none⟩=some (.int .i64 0):=by rw [hW0];simp [go_sem]
 have p0:Jv W0 (w.heap.size+1) 0 0:=by
  rw [hW0];have:=Jv.new (w.alloc (.cells #[.int .i64 0] 3)) 0 0 39
  simpa using this
 have hB0:Below w.heap.size w W0:=by rw [hW0];exact ((QK _ _).alloc (ZH _) _).alloc (by simp) _
 rw [<-hW0];clear hW0;refine ⟨trivial,?_⟩;refine We (Qz9 W0) ?_;rintro e w1 ⟨rfl,hb1⟩;have p1:=p0.below hb1;have n1:=(hb1.cell (p:=⟨w.heap.size,0,none⟩) (by have:=p0.lt;show w.heap.size<_;omega)).trans n0;have hB1:=hB0.trans (hb1.mono hB0.size);have hs1:=p1.lt;clear n0 p0 hB0 hb1;gi_wp2_with fail
 obtain ⟨W2,hW2⟩:∃W2,W2=w1.alloc (.cells #[.int .i64 1,.int .i64 1] 39):=⟨_,rfl⟩;have hbW:Below w1.heap.size w1 W2:=by rw [hW2];exact (QK _ _).alloc (ZH _) _
 have r2:Jv W2 w1.heap.size 1 1:=by rw [hW2];exact Jv.new _ _ _ _
 have p2:=p1.below hbW;have n2:=(hbW.cell (p:=⟨w.heap.size,0,none⟩) (by show w.heap.size<_;omega)).trans n1;have hB2:=hB1.trans (hbW.mono hB1.size);have hs2:=r2.lt;rw [<-hW2];clear hW2 p1 n1 hB1 hbW;refine ⟨trivial,?_⟩;refine We (Zw8 W2) ?_;rintro e w3 ⟨rfl,hw3⟩;have hb3:Below W2.heap.size W2 w3:=by rw [hw3];exact (QK _ _).alloc (ZH _) _
 have s3:w3.cell? ⟨W2.heap.size,0,none⟩=some (.string Jz):=by rw [hw3];simp [go_sem]
 have p3:=p2.below hb3;have r3:=r2.below hb3;have n3:=(hb3.cell (p:=⟨w.heap.size,0,none⟩) (by show w.heap.size<_;omega)).trans n2;have hB3:=hB2.trans (hb3.mono hB2.size);clear hw3 p2 n2 r2 hB2 hb3;gi_wp2_with fail
 refine Hq (by omega) (gf:=311) (lb:=#[.pointer (some ⟨W2.heap.size,0,none⟩)]) rfl Zt5 λfn=>?_
 generalize hrec:({state:=.ready,pending:=none,fn:=fn,tmps:=_,params:=_,assign:=_,body:=_,defers:=w3.heap.size}:Loop)=rec;have hst:rec.state=.ready:=by rw [<-hrec]
 generalize hW4:(w3.alloc (.deferred (some []))).alloc (.loop rec)=W4;have hb4:Below w3.heap.size w3 W4:=by rw [<-hW4];exact ((QK _ _).alloc (ZH _) _).alloc (by simp) _
 have hl4:W4.heap[w3.heap.size+1]? =some (.loop rec):=by
  rw [<-hW4];have:=World.alloc_heap_new (w3.alloc (.deferred (some []))) (.loop rec);rwa [World.size_alloc] at this
 have hk4:W4.heap[w3.heap.size]? =some (.deferred (some [])):=by
  rw [<-hW4];exact (Below.heap_alloc _ _ _ (by simp)).trans (World.alloc_heap_new w3 _)
 have hs4:W4.heap.size=w3.heap.size+2:=by rw [<-hW4];simp
 clear hW4;have hlt3:=QO w3 _ s3;have hs3:W2.heap.size<w3.heap.size:=hlt3;have s4:=(hb4.cell (p:=⟨W2.heap.size,0,none⟩) hlt3).trans s3;refine (Qs4 (w3.heap.size+1) W2.heap.size W4 s4 (λW1 W'=>Below w3.heap.size w3 W'∧W'.heap[w3.heap.size]? =some (.deferred (some []))∧W'.heap[w3.heap.size+1]? =some (.loop {rec with state:=.done,pending:=some (.exit 0)})) ?_).mono ?_
 .intro W5 hb5;have hl5:W5.heap[w3.heap.size+1]? =some (.loop rec):=(hb5.block _ (by omega)).trans hl4;have hk5:W5.heap[w3.heap.size]? =some (.deferred (some [])):=(hb5.block _ (by omega)).trans hk4;have hB5:Below w3.heap.size w3 W5:=hb4.trans (hb5.mono hb4.size);have n5:=(hB5.cell (p:=⟨w.heap.size,0,none⟩) (by show w.heap.size<_;omega)).trans n3;have hs5:W4.heap.size≤W5.heap.size:=hb5.size;have hy:=run_yield (P:=prog) (args:=#[.int .i64 0,.agg #[.int .i64 1,.int .i64 2]]) hl5 (by rw [<-hrec];rfl);have hlt5:w.heap.size<W5.heap.size:=QO W5 _ n5;have hsz5:w3.heap.size+2≤W5.heap.size:=by omega
  clear hb4 hl4 hk4 hs4 s4 hb5 hs5 p3 r3 hB3;rw [<-hrec] at hy;refine ⟨_,_,_,_,hy,?_⟩;refine roundIn_of_wpIn trivial ?_;clear hy;gi_wp2_with fail
  generalize hW6:W5.alloc (.cells #[.int .i64 1,.int .i64 2] 39)=W6;have hb6:Below W5.heap.size W5 W6:=by rw [<-hW6];exact (QK _ _).alloc (ZH _) _
  have hl6:W6.heap[w3.heap.size+1]? =some (.loop rec):=(hb6.block _ (by omega)).trans hl5;have hk6:W6.heap[w3.heap.size]? =some (.deferred (some [])):=(hb6.block _ (by omega)).trans hk5;have n6:=(hb6.cell (p:=⟨w.heap.size,0,none⟩) hlt5).trans n5;have hB6:Below w3.heap.size w3 W6:=hB5.trans (hb6.mono hB5.size);have hs6:W5.heap.size≤W6.heap.size:=hb6.size;clear hW6 hb6;refine ⟨_,run_beginRound hl6 hst,?_⟩;have hl7:(W6.putObj (w3.heap.size+1) (.loop {rec with state:=.busy})).heap[w3.heap.size+1]? =some (.loop {rec with state:=.busy}):=World.putObj_heap_same (by omega);have hk7:=(World.putObj_heap_other (w:=W6) (r:=w3.heap.size+1) (o:=.loop {rec with state:=.busy}) (k:=w3.heap.size) (by omega)).trans hk6;have n7:=(QR (a:=⟨w.heap.size,0,none⟩) (World.putObj_heap_other (w:=W6) (r:=w3.heap.size+1) (o:=.loop {rec with state:=.busy}) (k:=w.heap.size) (by omega))).trans n6;have hB7:Below w3.heap.size w3 (W6.putObj (w3.heap.size+1) (.loop {rec with state:=.busy})):=Mm hB6 (by omega);have hs7:w3.heap.size+1<(W6.putObj (w3.heap.size+1) (.loop {rec with state:=.busy})).heap.size:=(Array.getElem?_eq_some_iff.1 hl7).1;generalize W6.putObj (w3.heap.size+1) (.loop {rec with state:=.busy})=W7 at*;clear hrec hB6 hl6 hk6 n6
  gi_wp2_with fail
  exact ⟨_,_,run_endRound _ hl7,rfl,Mm hB7 (by omega),(World.putObj_heap_other (by omega)).trans hk7,World.putObj_heap_same hs7⟩
 rintro e W5 ⟨rfl,_,hb5,hB5,hk5,hl5⟩;have hs5:w3.heap.size+1<W5.heap.size:=(Array.getElem?_eq_some_iff.1 hl5).1;have p5:=p3.below hB5;have r5:=r3.below hB5;have hk6:=(World.putObj_heap_other (w:=W5) (r:=w3.heap.size+1) (o:=.loop {rec with state:=.exhausted,pending:=some (.exit 0)}) (k:=w3.heap.size) (by omega)).trans hk5;have hB6:Below w3.heap.size w3 (W5.putObj (w3.heap.size+1) (.loop {rec with state:=.exhausted,pending:=some (.exit 0)})):=Mm hB5 (by omega);have p6:=p3.below hB6;have r6:=r3.below hB6;have hBw:=hB3.trans (hB6.mono hB3.size);have hr1:w.heap.size≤w3.heap.size:=by omega
 refine ⟨_,_,run_endLoop hl5 (by simp),?_⟩;show Code.wpIn _ _ _ (Code.exit 0) _ _ _
 generalize W5.putObj (w3.heap.size+1) (.loop {rec with state:=.exhausted,pending:=some (.exit 0)})=W6 at*;clear hrec hB5 hl5 hk5 p5 r5 p3 r3 hb4 hl4 hk4 hs4 s4 hB6 hb5;obtain ⟨p0,p1,pf⟩:=id p6;obtain ⟨_,_,_⟩:=id r6;gi_wp2_with fail
 generalize hW7:(W6.setCell ⟨w.heap.size+1,0,none⟩ (.int .i64 1)).setCell ⟨w.heap.size+1,1,none⟩ (.int .i64 1)=W7;have hg7:W6.grownBy W7 (some (w.heap.size+1)):=by
  rw [<-hW7];exact Qv (p:=⟨w.heap.size+1,1,none⟩) (Qv (p:=⟨w.heap.size+1,0,none⟩) (QN _ _) (.inl rfl) _) (.inl rfl) _
 have p7:Jv W7 (w.heap.size+1) 1 1:=by
  rw [<-hW7];refine ⟨?_,?_,λi=>?_⟩
  all_goals simp [p0,p1,pf,go_sem]
 have hB7:Below w.heap.size w W7:=by
  rw [<-hW7];exact (hBw.setCell (p:=⟨w.heap.size+1,0,none⟩) (Nat.le_succ _) _).setCell (p:=⟨w.heap.size+1,1,none⟩) (Nat.le_succ _) _
 have hk7:W7.heap[w3.heap.size]? =some (.deferred (some [])):=(hg7.block _ (Array.getElem?_eq_some_iff.1 hk6).1 (by simp;omega)).trans hk6;refine ⟨by simp,.inl ⟨_,_,rfl,run_takeDeferred hk7,?_⟩⟩;have c0:=(QR (a:=⟨w.heap.size+1,0,none⟩) (World.putObj_heap_other (w:=W7) (r:=w3.heap.size) (o:=.deferred none) (k:=w.heap.size+1) (by omega))).trans p7.c0;have c1:=(QR (a:=⟨w.heap.size+1,1,none⟩) (World.putObj_heap_other (w:=W7) (r:=w3.heap.size) (o:=.deferred none) (k:=w.heap.size+1) (by omega))).trans p7.c1;have hB8:Below w.heap.size w (W7.putObj w3.heap.size (.deferred none)):=Mm hB7 hr1;exact ⟨.agg #[.int .i64 1,.int .i64 1],by simp [results,results205,go_sem,c0,c1],rfl,hB8⟩
def Mo (n m:Nat):Prop:=(n=0∧m=0)∨(n=3∧m=4)∨(n=5∧m=5)∨(n=6∧m=7)∨(n=8∧m=9)∨(n=10∧m=11)∨(n=12∧m=12)∨(n=13∧m=13)
theorem Oj (b n m:Nat) (hn:Mo n m) (v:Value) (w:World) (h:Vv w b Jz n v):
 Calls prog 206 #[.pointer (some ⟨b,0,none⟩)] w λe w'=>e=.returned (.tuple #[])∧Vv w' b Jz m v∧w.grownBy w' (some b):=by
 have cw:∃s,Calls prog 264 #[.pointer (some ⟨b,0,none⟩),.func (.func 262) #[] #[]] w λe w'=>e=.returned (.string s)∧Vv w' b Jz m v∧w.grownBy w' (some b):=by
  refine ⟨Jz.extract n m,Zo4 b n m v w h ?_⟩;rcases hn with ⟨rfl,rfl⟩|⟨rfl,rfl⟩|⟨rfl,rfl⟩|⟨rfl,rfl⟩|⟨rfl,rfl⟩|⟨rfl,rfl⟩|⟨rfl,rfl⟩|⟨rfl,rfl⟩<;>exact Lt (by decide) (by decide) (by decide) (by decide)
 have cr:∃l:List UInt8,(l.length≤1000∧(decide ([(35:UInt8)].length≤l.length)&&(l.take [(35:UInt8)].length==[35]))=false)∧∀W,Vv W b Jz m v->Calls prog 266 #[.pointer (some ⟨b,0,none⟩)] W λe w'=>e=.returned (.string ⟨l.toArray⟩)∧Below W.heap.size W w':=by
  refine ⟨(Jz.extract m Jz.size).data.toList,?_,λW hW=>?_⟩
  .rcases hn with ⟨rfl,rfl⟩|⟨rfl,rfl⟩|⟨rfl,rfl⟩|⟨rfl,rfl⟩|⟨rfl,rfl⟩|⟨rfl,rfl⟩|⟨rfl,rfl⟩|⟨rfl,rfl⟩<;>decide
  have:=Dr b m Jz v W hW (by rcases hn with ⟨rfl,rfl⟩|⟨rfl,rfl⟩|⟨rfl,rfl⟩|⟨rfl,rfl⟩|⟨rfl,rfl⟩|⟨rfl,rfl⟩|⟨rfl,rfl⟩|⟨rfl,rfl⟩<;>decide) (by decide)
  exact this
 obtain ⟨s,cw⟩:=cw;obtain ⟨l,⟨hl1,hl2⟩,cr⟩:=cr;have CR:=Hd cr;clear cr hn;go_enter func206,ntmps206
 go_wp2_with fail
 with_reducible refine cw.mono ?_
 clear cw;rintro e w1 ⟨rfl,hL1,hG1⟩;have cr:=CR.out w1 hL1;go_wp2_with fail
 refine wp_loop_once ?_;go_wp2_with fail
 with_reducible refine cr.mono ?_
 clear cr;rintro e w2 ⟨rfl,hb2⟩;have hL2:=hL1.below hb2;have hG2:=Qa hG1 hb2;clear hL1 hG1 hb2;have cp:=Sm l [35] hl1 (by decide) hl2 w2;go_wp2_with fail
 with_reducible refine cp.mono ?_
 clear cp;rintro e _ ⟨rfl,rfl⟩;go_wp2_with fail
 go_returns
 exact ⟨rfl,hL2,hG2⟩
theorem Jz9 (b k:Nat) (r:Int) (w:World) (h:(r=118∨r=120)∧k=268∨r=49∧k=269∨(r=59∨r=61)∧k=270):
 Calls prog 208 #[.pointer (some ⟨b,0,none⟩),.int .i32 r] w λe w'=>e=.returned (.func (.func k) #[.pointer (some ⟨b,0,none⟩)] #[])∧Below w.heap.size w w':=by
 have c:=Nq r (by unfold By;omega) w;rcases h with ⟨rfl|rfl,rfl⟩|⟨rfl,rfl⟩|⟨rfl|rfl,rfl⟩
 all_goals
  simp only [Vr9] at c;go_enter func208,ntmps208
  go_wp2_with fail
  refine c.mono ?_;rintro e _ ⟨rfl,hb⟩;go_wp2_with fail
  go_ret
  exact ⟨rfl,hb⟩
