/- Lemmas for wholeNotEmpty; no conditions. -/
import Derived.ChangeSame
import Derived.OpenShut
import Derived.ProofKit
import Derived.Test.YtpggdkenajfjjaaGreatDoorGaq
import Derived.Lib.SmallJoins
import Derived.SizedLaws
set_option linter.all false
set_option maxRecDepth 100000
set_option maxHeartbeats 16000000
namespace Go.Proofs.YtpggdkenajfjjaaGreatDoor
open Go.RowKit
section
open Go.RowKit Go.WideShapes Go.ChangeShapes Go.WideMaps Go.WideElems
section
variable {H:Type} {enc:TypeId×Value->H} {P:Program}
theorem Dk (hl:laidOutB P=true) {W W':World} (hb:Below W.heap.size W W'):∀{ts:List TypeId} {vs:List Value} {ds:List (DataW H)} {ps:List MemPlace},
 (ts.all λt=>P.readableRec t&&decide (t<P.types.size))=true->DataW.TrodAll enc P W 0 (λ_=>true) true ts vs ds ps->(∀x∈ps,x.block<W.heap.size)->
 DataW.TrodAll enc P W' 0 (λb=>decide (b<W.heap.size)) true ts vs ds ps
 |[],vs,ds,ps,_,h,_=>by
  obtain ⟨rfl,rfl,rfl⟩:=trodAll_nil h;exact trodAll_mk0
 |t::ts,vs,ds,ps,hr,h,hlt=>by
  obtain ⟨_,_,_,_,_,_,rfl,rfl,rfl,h0,h1⟩:=trodAll_cons h;simp only [List.all_cons,ZX,ZU] at hr;have a:=Below.trod hl hr.1.1 hr.1.2 h0 hb (λx hx=>hlt x (List.mem_append_left _ hx));have b:=Dk hl hb (by simpa using hr.2) h1 (λx hx=>hlt x (List.mem_append_right _ hx));exact trodAll_cons_mk a b
theorem Jb2 (hl:laidOutB P=true) {f:Func} {s:ChangeSpec} {apart:Bool} {W W':World} {args:Array Value} {ds gs:List (DataW H)} {before:List MemPlace} {tb:TypeId}
 (hrd:(f.params.toList.all λt=>P.readableRec t&&decide (t<P.types.size))=true) (hrt:f.resultTypes=#[tb]) (htb:P.underlying tb=some .bool)
 (hvars:s.vars=[]) (hW:DataW.Whole enc P f.params.toList s.vars apart W args.toList ds gs before)
 (hs:s.fn H (ds++gs)={results:=[.lit (.bool true)],args:=ds}) (hb:Below W.heap.size W W'):s.post enc P f apart true false false W args (.bool true) W':=by
 have hlt:=hW.lt;have hW':=hW;obtain ⟨p,_,hA,hV,rfl,_,_⟩:=hW;rw [hvars] at hV;obtain ⟨rfl,rfl⟩:=trodVars_none hV;refine ⟨ds,[],p++[],[],p,[],hW',?_,?_,?_,?_,λh=>by cases h⟩
 .rw [hs,hrt];exact trodAll_cons_mk (shut_bool htb true) trodAll_mk0
 .rw [hs];exact Dk hl hb hrd hA (λx hx=>hlt x (by simpa using hx))
 .rw [hs,hvars];rfl
 exact World.keptBut_mono (λx hx=>⟨hx,.inr (.inl (by simpa using hx))⟩) (hb.frame (·∈p++[]))
end
end
section
open Go.RowKit Go.WideShapes Go.ChangeShapes
section
variable {H:Type} {enc:TypeId×Value->H} {P:Program}
end
namespace Gn
theorem Vp3 {x:Int} (h:(Lit.int .i64 x).wf=true):Zu x:=by
 simp [Lit.wf,IntKind.min,IntKind.max,IntKind.signed,IntKind.bits] at h
 exact ⟨by omega,by omega⟩
end Gn
end
section
open Go.RowKit Go.WideShapes Go.ChangeShapes Go.WideMaps Go.WideElems Go.Joins Go.Deep
section
variable {H:Type} {enc:TypeId×Value->H} {P:Program}
theorem Zz3 {w:World} {base:Nat} {held:Bool} {t e:TypeId} {k:IntKind} {n:Nat} {v:Value} {y:DataW H×List MemPlace} (ht:P.underlying t=some (.slice e)) (he:P.underlying e=some (.int k)) (hc:P.cellsOf e=1)
 (h:DataW.trod enc P w base (λ_=>true) held n t [v]=some y):
 ∃A c,∃xs:List Int,v=.slice A xs.length c∧Rd w w.heap.size k A xs.length (Qe xs)∧(∀x∈xs,(Lit.int k x).wf=true)∧xs.length≤c∧c≤maxLen∧
  ((y.1=.nil∧xs=[])∨∃rest,y.1=.slice (lits k xs) rest):=by
 rcases open_ints ht he hc h with ⟨hcs,hx⟩|⟨a,len,cap,zs,hcs,_,hl,hm,hz,hx,hcell,hwz⟩
 .simp only [List.cons.injEq,and_true] at hcs;subst hcs;exact ⟨none,0,[],rfl,Rd.zero,by simp,by simp,by simp,.inl ⟨by rw [hx],rfl⟩⟩
 simp only [List.cons.injEq,and_true] at hcs;subst hcs;have:zs.length=cap:=by simpa using hz
 have htl:(zs.take len).length=len:=by rw [List.length_take];omega
 refine ⟨some a,cap,zs.take len,by rw [htl],?_,λx hx'=>hwz x (List.mem_of_mem_take hx'),by rw [htl];exact hl,hm,.inr ⟨_,by rw [hx]⟩⟩;rw [htl];intro hn;obtain ⟨b,off,rfl,hcell'⟩:=ints_at hcell (by omega);refine ⟨b,off,rfl,?_,λi hi=>?_⟩
 .exact block_lt_of_cell (hcell' 0 (by omega))
 rw [hcell' i (by omega)];congr 2
 simp [Qe,hi]
end
end
