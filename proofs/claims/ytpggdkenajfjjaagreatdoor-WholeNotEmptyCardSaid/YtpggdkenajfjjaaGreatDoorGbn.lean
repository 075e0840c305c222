/- Lemmas for wholeNotEmpty; no conditions. -/
import Derived.Test.YtpggdkenajfjjaaGreatDoorGbj
import Derived.Test.YtpggdkenajfjjaaGreatDoorGax
set_option linter.all false
set_option maxRecDepth 100000
set_option maxHeartbeats 16000000
namespace Go.Proofs.YtpggdkenajfjjaaGreatDoor
open Go.RowKit Tryz
section
open Go.RowKit Go.WideShapes Go.ChangeShapes Go.WideMaps Go.WideElems Go.Joins Go.Deep Gn
section
variable {H:Type} {enc:TypeId×Value->H} {P:Program}
def OcD (d:DataW H) (o:OC):Prop:=∃x y D,d=.agg [x,y,D]∧((D=.nil∧o.m=[])∨∃rest,D=.slice (lits .i64 o.m) rest)
theorem Jk5 {w:World} {base:Nat} {held:Bool} {t te e:TypeId} {f0 f1 f2:Field} {n:Nat} {v:Value} {y:DataW H×List MemPlace} (ht:P.underlying t=some (.slice te)) (hs:P.underlying te=some (.struct #[f0,f1,f2])) (hone:oneCellFields P #[f0,f1,f2]=true) (hC:P.cellsOf te=3)
 (h0:P.underlying f0.type=some (.int .i64)) (h1:P.underlying f1.type=some .bool) (h2:P.underlying f2.type=some (.slice e)) (he:P.underlying e=some (.int .i64)) (hc:P.cellsOf e=1)
 (h:DataW.trod enc P w base (λ_=>true) held n t [v]=some y):
 ∃A c,∃os:List OC,v=.slice A os.length c∧Ud w A os∧os.length≤c∧c≤maxLen∧
  ((y.1=.nil∧os=[])∨∃elems rest,y.1=.slice elems rest∧∀i,i<os.length->∃d∈elems,OcD d (Yt os i)):=by
 rcases open_slice ht h with ⟨hcs,rfl⟩|⟨a,len,cap,m,n',D,Pl,hcs,hb,hl,hm,hmm,rfl,hx⟩
 .simp only [List.cons.injEq,and_true] at hcs;subst hcs;exact ⟨none,0,[],rfl,λhn=>absurd hn (by simp),by simp,by simp,.inl ⟨rfl,rfl⟩⟩
 simp only [List.cons.injEq,and_true] at hcs;subst hcs;have hmc:m=cap:=by rw [hmm];simp
 have each:∀i,i<len->∃q:OC×Option Addr×Nat,w.cell? (a.add (i*3))=some (.int .i64 q.1.n)∧w.cell? (a.add (i*3+1))=some (.bool q.1.e)∧w.cell? (a.add (i*3+2))=some (.slice q.2.1 q.1.m.length q.2.2)∧
  Vd w w.heap.size q.2.1 q.2.2 q.1.n q.1.m∧OcD (D i) q.1:=by
  intro i hi;obtain ⟨cs',k1,k2⟩:=hx i (by omega);rw [hC] at k1;obtain ⟨_,hlen,hcell⟩:=World.cells?_some k1;obtain ⟨_,_,y2,_,hxy,_,t0,t1,t2⟩:=trod_struct3 hs k2;obtain ⟨o0,c0⟩:=hone_of hone 0 f0 rfl;obtain ⟨o1,c1⟩:=hone_of hone 1 f1 rfl;obtain ⟨o2,c2⟩:=hone_of hone 2 f2 rfl;match cs',hlen with
  |[v0,v1,v2],_=>
   simp only [o0,c0,o1,c1,o2,c2] at t0 t1 t2;have e0:=hcell 0 (by omega);have e1:=hcell 1 (by omega);have e2:=hcell 2 (by omega);rw [add_add] at e0 e1 e2;obtain ⟨N,g0,r0,w0⟩:=DataW.trod_int h0 (by simpa using t0);obtain ⟨E,g1,r1⟩:=DataW.trod_bool h1 (by simpa using t1);simp only [List.cons.injEq,and_true] at g0 g1;subst g0 g1;obtain ⟨A,c,M,rfl,hr,hw,hl',hm',hd⟩:=Zz3 (y:=y2) h2 he hc (by simpa using t2);simp only [Prod.mk.injEq] at hxy;exact ⟨⟨⟨N,E,M⟩,A,c⟩,by simpa using e0,by simpa using e1,by simpa using e2,⟨Gn.Vp3 w0,hr,λx hx=>Gn.Vp3 (hw x hx),hl',hm'⟩,_,_,_,hxy.1,hd⟩
 have:Inhabited (OC×Option Addr×Nat):=⟨⟨⟨0,false,[]⟩,none,0⟩⟩
 obtain ⟨q,hq⟩:=choose_lt each;have hlo:((List.range len).map λi=>(q i).1).length=len:=by simp
 have hat:∀i,i<len->Yt ((List.range len).map λi=>(q i).1) i=(q i).1:=λi hi=>by
  unfold Yt;rw [ZG,ZF (by simpa using hi)];simp
 refine ⟨some a,cap,(List.range len).map λi=>(q i).1,by rw [hlo],?_,by rw [hlo];exact hl,hm,.inr ⟨_,_,rfl,λi hi=>?_⟩⟩
 .intro hn;rw [hlo] at hn;obtain ⟨b,off,spot⟩:=a;have hspot:spot=none:=by simpa [Addr.add] using World.cell?_spot (hq 0 hn).1
  subst hspot;refine ⟨b,off,rfl,?_,λi hi=>?_⟩
  .have:=(hq 0 hn).1
   rw [Go.WideShapes.add_plain] at this;exact block_lt_of_cell this
  rw [hlo] at hi;obtain ⟨r0,r1,r2,ro,_⟩:=hq i hi;rw [hat i hi];rw [Go.WideShapes.add_plain] at r0 r1 r2;exact ⟨_,_,r0,r1,r2,ro⟩
 rw [hlo] at hi;rw [hat i hi];exact ⟨D i,List.mem_map.2 ⟨i,List.mem_range.2 hi,rfl⟩,(hq i hi).2.2.2.2⟩
end
end
