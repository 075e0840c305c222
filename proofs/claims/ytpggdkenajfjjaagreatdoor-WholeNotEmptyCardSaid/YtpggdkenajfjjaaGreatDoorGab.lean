/- Lemmas for wholeNotEmpty; no conditions. -/
import Derived.Below
import Derived.BigQuiet
import Derived.Deep.Draws
import Derived.StillTail
import Derived.Test.YtpggdkenajfjjaaGreatDoorGaa
set_option linter.all false
set_option maxRecDepth 100000
set_option maxHeartbeats 16000000
namespace Go.Proofs.YtpggdkenajfjjaaGreatDoor
open Go.RowKit
section
structure Qz (W:World) where
 w:World
 below:Below W.heap.size W w
instance (W:World):Nonempty (Qz W):=⟨⟨W,Below.refl _ _⟩⟩
theorem Qz.cell {W:World} {p:Addr} {v:Value} (h:W.cell? p=some v) (x:Qz W):x.w.cell? p=some v:=
 (x.below.cell (World.block_lt_of_cell? W p h)).trans h
theorem Qz.frozen {W:World} {p:Addr} {b:Bool} (h:W.frozen? p=b) (hp:p.block<W.heap.size) (x:Qz W):x.w.frozen? p=b:=
 (x.below.frozen hp).trans h
theorem Qk {P:Program} {id:Nat} {Q:Exit->Act->World->Prop} {a:Act} {W:World} {l:List Oper} (hm:P.follows .mixedOrders=true) (hB:Region.lexB .any l.toArray=true)
 (h:wpQuiet P l.toArray (λw'=>∃x:Qz W,w'=x.w) (λa'=>∀w',Below W.heap.size W w'->Q .normal a' w') l a):(Code.region id l.toArray true).wp P Q a W:=by
 refine wp_region_quiet (C:=λw'=>∃x:Qz W,w'=x.w) hm hB ⟨⟨W.drew,(Below.refl _ _).drew⟩,rfl⟩ ?_;have e:(λa'=>∀w',(∃x:Qz W,w'=x.w)->Q .normal a' w')=(λa'=>∀w',Below W.heap.size W w'->Q .normal a' w'):=by
  funext a'
  exact propext ⟨λh w' hb=>h w' ⟨⟨w',hb⟩,rfl⟩,λh w' ⟨x,e⟩=>e▸h _ x.below⟩
 rw [e];simpa using h
theorem Qd {P:Program} {f:FuncId} {args:Array Value} {W:World} {x:Qz W} {v:Value}
 (h:Calls P f args x.w λe w'=>e=.returned v∧Below x.w.heap.size x.w w'):Calls P f args x.w λe w''=>e=.returned v∧∃y:Qz W,w''=y.w:=
 h.mono λ_ w' ⟨he,hb⟩=>⟨he,⟨w',x.below.trans (hb.mono x.below.size)⟩,rfl⟩
theorem Qw {P:Program} {f:FuncId} {args:Array Value} {W:World} {x:Qz W} {v:Value}
 (h:Calls P f args x.w λe w'=>e=.returned v∧x.w=w'):Calls P f args x.w λe w''=>e=.returned v∧∃y:Qz W,w''=y.w:=
 h.mono λ_ _ ⟨he,hw⟩=>⟨he,x,hw.symm⟩
theorem Qq {W w:World} (hb:Below W.heap.size W w) {p:Addr} {v:Value} (h:W.cell? p=some v):w.cell? p=some v:=
 (hb.cell (World.block_lt_of_cell? W p h)).trans h
end
section
section
variable {P:Program} {ops:Array Oper} {md:Region.Mode} {Q:Exit->Act->World->Prop} {R:Act->World->Prop}
def Qx2 (Q:Exit->Act->World->Prop) (R:Act->World->Prop):Exit->Act->World->Prop
 |.normal,a,w=>R a w
 |e,a,w=>Q e a w
theorem Qu {a:Act} {w:World} (h:R a w):Qx2 Q R .normal a w:=h
theorem Vd5 {o:Oper} {a:Act} {w:World} {K:Act->World->Prop} (h:o.wp P a w K (Qx2 Q R)):o.wp P a w K Q:=by
 unfold Oper.wp at*;generalize (execOp a.eval o).run P w=r at*;cases r with
 |ok n w'=>
  cases n<;>simp only [Oper.upon] at h |-
  case enter f args=>exact Calls.mono h (λe w'' he=>by cases e<;>exact he)
  all_goals exact h
 |halt x w'=>cases x<;>simp only [Oper.upon] at h |-<;>exact h
def Ce:Nat->Nat->Array Bool->Array Bool
 |0,_,l=>l
 |f+1,k,l=>Ce f (k+1) (l.setIfInBounds k true)
def Mn (md:Region.Mode) (ops:Array Oper):Nat->Nat->Array Bool->Bool
 |0,_,_=>true
 |g+1,k,listed=>decide (Region.ready md ops listed=[k])&&Mn md ops g (k+1) (listed.setIfInBounds k true)
theorem Xd {F:Nat}:∀(l:List Oper) (k:Nat) (listed:Array Bool) (a:Act) (w:World),(∀j,j<l.length->l[j]? =ops[k+j]?)->
 Mn md ops l.length k listed=true->wpList P ops (Qx2 Q (λa w=>wpAny P md ops Q F (Ce l.length k listed) a w)) l a w->wpAny P md ops Q (l.length+F) listed a w
 |[],k,listed,a,w,_,_,h=>by
  rw [List.length_nil,Nat.zero_add];exact h
 |o::l,k,listed,a,w,hl,hB,h=>by
  have h0:ops[k]? =some o:=by simpa using (hl 0 (by simp)).symm
  simp only [QI,Mn,ZX,ZU] at hB;rw [QI,show l.length+1+F=(l.length+F)+1 by omega];refine ⟨λh1=>(by rw [hB.1] at h1;cases h1),λi hi=>?_⟩;rw [hB.1] at hi;have hik:i=k:=by simpa using hi
  subst hik;have ih:∀a' w',wpList P ops (Qx2 Q (λa w=>wpAny P md ops Q F (Ce l.length (i+1) (listed.setIfInBounds i true)) a w)) l a' w'->wpAny P md ops Q (l.length+F) (listed.setIfInBounds i true) a' w':=λa' w' h'=>
   Xd l (i+1) _ a' w' (λj hj=>by have:=hl (j+1) (by simp;omega);simpa [Nat.add_assoc,Nat.add_comm 1 j] using this) hB.2 h'
  unfold wpOp;simp only [h0];simp only [wpList] at h;split
  .rename_i hw
   rw [ZM hw] at h;rcases h with h|h
   .exact .inl (Oper.wp_mono ih (Vd5 h))
   exact .inr h
  rename_i hw
  rw [ZL hw] at h;exact ih _ _ h
def Yd (md:Region.Mode) (ops:Array Oper) (k n:Nat):Bool:=
 (List.range n).all λi=>decide (i<k)||(List.range (n+1)).any λj=>decide (i<j)&&Region.waitsFor md ops j i
def Yn (md:Region.Mode) (ops:Array Oper) (n:Nat):Bool:=
 (List.range ops.size).all λt=>decide (t≤n)||(List.range t).any λj=>decide (n≤j)&&Region.waitsFor md ops t j
def Vj9 (md:Region.Mode) (ops:Array Oper) (listed:Array Bool):Bool:=
 (List.range ops.size).all λj=>match ops[j]? with
  |some oj=>!listed.getD j false||oj.after.all λe=>!Region.binds md e||listed.getD e.on false
  |none=>true
def Vl3 (ops:Array Oper) (n:Nat) (listed:Array Bool):Bool:=(List.range ops.size).all λt=>decide (t<n)||!listed.getD t true
def Vv9 (md:Region.Mode) (ops:Array Oper) (n:Nat) (listed:Array Bool):Bool:=decide (listed.size=ops.size)&&Vj9 md ops listed&&Vl3 ops n listed
theorem Dm {n:Nat} {listed:Array Bool} (h:Vv9 md ops n listed=true):HeadInv md ops n listed:=by
 simp only [Vv9,ZX,ZU] at h;obtain ⟨⟨h1,h2⟩,h3⟩:=h;refine ⟨h1,λj oj hj hl e he hb=>?_,λt ht hts=>?_⟩
 .have hjs:j<ops.size:=(Array.getElem?_eq_some_iff.1 hj).1;have:=List.all_eq_true.1 h2 j (List.mem_range.2 hjs)
  simp only [hj,hl,Bool.not_true,Bool.false_or] at this;have h4:=Array.all_eq_true_iff_forall_mem.1 this e he;simpa [hb] using h4
 have:=List.all_eq_true.1 h3 t (List.mem_range.2 hts)
 simp only [Bool.or_eq_true,ZU] at this;rcases this with h|h
 .omega
 simpa using h
theorem Vi {k n:Nat} {listed:Array Bool} (hs:Yd md ops k n=true) (hc:Yn md ops n=true) (inv:HeadInv md ops n listed):
 ∀(d i:Nat),n - i=d->k≤i->i<n->listed.getD i true=false->∀t,n≤t->t ∉ Region.ready md ops listed:=by
 intro d;induction d using Nat.strongRecOn with
 |_ d ih=>
  intro i hd hk hi hun t ht hr;obtain ⟨_,ot,hot,hall⟩:=mem_ready.1 hr;have htlt:t<ops.size:=(Array.getElem?_eq_some_iff.1 hot).1;by_cases htn:t=n
  .subst htn;have h1:=List.all_eq_true.1 hs i (List.mem_range.2 hi);simp only [Bool.or_eq_true,ZU] at h1;rcases h1 with h1|h1
   .omega
   obtain ⟨j,hj,hj2⟩:=List.any_eq_true.1 h1;simp only [ZX,ZU] at hj2;obtain ⟨oj,hoj,e,he,hb,hon⟩:=Region.waitsFor_spec hj2.2;have hjle:j≤t:=by have:=List.mem_range.1 hj;omega
   by_cases hjt:j=t
   .subst hjt;have:oj=ot:=Option.some.inj (hoj.symm.trans hot)
    subst this;have h2:=hall e he hb;rw [hon,getD_both hun] at h2;cases h2
   cases hl:listed.getD j false with
   |true=>
    have h2:=inv.closed j oj hoj hl e he hb;rw [hon,getD_both hun] at h2;cases h2
   |false=>
    have hjs:j<listed.size:=by rw [inv.size];omega
    exact ih (t - j) (by omega) j rfl (by omega) (by omega) (getD_in hjs hl) t (ZH _) hr
  have h1:=List.all_eq_true.1 hc t (List.mem_range.2 htlt);simp only [Bool.or_eq_true,ZU] at h1;rcases h1 with h1|h1
  .omega
  obtain ⟨j,hj,hj2⟩:=List.any_eq_true.1 h1;simp only [ZX,ZU] at hj2;obtain ⟨o',ho',e,he,hb,hon⟩:=Region.waitsFor_spec hj2.2;have:o'=ot:=Option.some.inj (ho'.symm.trans hot)
  subst this;have h2:=hall e he hb;have:=List.mem_range.1 hj
  rw [hon,getD_both (inv.tail j (by omega) (by omega))] at h2;cases h2
def Ev (P:Program) (md:Region.Mode) (ops:Array Oper) (C:World->Prop) (n:Nat) (L:Array Bool->Act->Prop):Nat->Array Bool->Act->Prop
 |0,listed,a=>L listed a
 |f+1,listed,a=>
  Region.ready md ops listed≠[]∧∀i∈Region.ready md ops listed,i<n∧qOp P ops C i (Ev P md ops C n L f (listed.setIfInBounds i true)) a
theorem Bu {C:World->Prop} {n g:Nat} {L:Array Bool->Act->Prop} (hL:∀listed a w,C w->L listed a->wpAny P md ops Q g listed a w):
 ∀(f:Nat) (listed:Array Bool) (a:Act) (w:World),C w->Ev P md ops C n L f listed a->wpAny P md ops Q (f+g) listed a w
 |0,listed,a,w,hw,h=>by rw [Nat.zero_add];exact hL _ _ _ hw h
 |f+1,listed,a,w,hw,h=>by
  rw [show f+1+g=(f+g)+1 by omega];exact ⟨λh0=>absurd h0 h.1,λi hi=>wpOp_of_qOp hw (λa' w' hw' h'=>Bu hL f _ a' w' hw' h') (h.2 i hi).2⟩
theorem Qv9 {C:World->Prop} {k n i:Nat} {oi:Oper} {v:Value} {L:Array Bool->Act->Prop} (hi:ops[i]? =some oi) (hsel:∀(j:Nat) (o:Oper) cs b,ops[j]? =some o->o.op≠.select cs b)
 (hs:Yd md ops k n=true) (hc:Yn md ops n=true) (hki:k≤i) (hin:i<n)
 (hdone:∀listed a,L listed a->∀j∈Region.ready md ops listed,n≤j):
 ∀(f:Nat) (listed:Array Bool) (a:Act),HeadInv md ops n listed->
  (∀j oj,ops[j]? =some oj->j≠i->listed.getD j true=false->(∀e∈oj.after,Region.binds md e=true->e.on≠i)->oi.apart ops oj=true)->
  i∈Region.ready md ops listed->YieldsIn P ops C oi v a->
  Ev P md ops C n L f (listed.setIfInBounds i true) (a.put oi.dst v)->Ev P md ops C n L (f+1) listed a:=by
 intro f;induction f with
 |zero=>
  intro listed a inv _ hr hy H;have hun:=(mem_ready.1 hr).1;refine ⟨λh=>(by rw [h] at hr;cases hr),λj hj=>?_⟩;have hjn:j<n:=by
   rcases ZJ j n with h|h
   .exact h
   exact absurd hj (Vi hs hc inv _ i rfl hki hin hun j h)
  refine ⟨hjn,?_⟩;by_cases hji:j=i
  .subst hji;exact hy.qOp hi H
  have:=hdone _ _ H j (ready_mono hj hji)
  omega
 |succ f ih=>
  intro listed a inv hfree hr hy H;have hun:=(mem_ready.1 hr).1;refine ⟨λh=>(by rw [h] at hr;cases hr),λj hj=>?_⟩;have hjn:j<n:=by
   rcases ZJ j n with h|h
   .exact h
   exact absurd hj (Vi hs hc inv _ i rfl hki hin hun j h)
  refine ⟨hjn,?_⟩;by_cases hji:j=i
  .subst hji;exact hy.qOp hi H
  have h1:=(H.2 j (ready_mono hj hji)).2;obtain ⟨hjun,oj,hoj,hall⟩:=mem_ready.1 hj;have hnot:∀e∈oj.after,Region.binds md e=true->e.on≠i:=λe he hb heq=>by
   have h1:=hall e he hb;rw [heq,getD_both hun] at h1;cases h1
  have h2:=qOp_put hoj (hfree j oj hoj hji hjun hnot) (λcs b=>hsel i oi cs b hi) (λcs b=>hsel j oj cs b hoj) hy h1;have hfree':∀k ok,ops[k]? =some ok->k≠i->(listed.setIfInBounds j true).getD k true=false->
   (∀e∈ok.after,Region.binds md e=true->e.on≠i)->oi.apart ops ok=true:=λk ok hk hki hun hno=>by
   refine hfree k ok hk hki ?_ hno;by_cases hjk:j=k
   .subst hjk;exact hjun
   .rw [getD_set_ne true hjk] at hun;exact hun
  refine qOp_mono (λa' h3=>ih (listed.setIfInBounds j true) a' (inv.set hj hjn) hfree' (ready_mono hr (Ne.symm hji)) h3.1 ?_) h2;rw [Array.setIfInBounds_comm _ _ hji];exact h3.2
def Bw (md:Region.Mode) (ops:Array Oper):Nat->Nat->Array Bool->Bool
 |0,_,_=>true
 |f+1,k,listed=>(Region.ready md ops listed).contains k&&Region.free md ops listed k&&Bw md ops f (k+1) (listed.setIfInBounds k true)
theorem Sg {k k' n:Nat} (h:Yd md ops k n=true) (hk:k≤k'):Yd md ops k' n=true:=by
 unfold Yd at*;rw [List.all_eq_true] at*;intro i hi;have:=h i hi
 simp only [Bool.or_eq_true,ZU] at this |-
 rcases this with h|h
 .left;omega
 right;exact h
theorem Hy {C:World->Prop} {n:Nat} {Lq:Act->Prop} {done:Array Bool} (hsel:Region.noSelect ops=true) (hc:Yn md ops n=true)
 (hdone:∀j∈Region.ready md ops done,n≤j):
 ∀(l:List Oper) (k:Nat) (listed:Array Bool) (a:Act),(∀j,j<l.length->l[j]? =ops[k+j]?)->k+l.length=n->Yd md ops k n=true->HeadInv md ops n listed->
 Ce l.length k listed=done->Bw md ops l.length k listed=true->wpQuiet P ops C Lq l a->
 Ev P md ops C n (λlisted' a'=>listed'=done∧Lq a') l.length listed a
 |[],k,listed,a,_,hk,_,_,hm,hB,h=>⟨hm,h⟩
 |o::l,k,listed,a,hl,hk,hs,inv,hm,hB,h=>by
  have h0:ops[k]? =some o:=by simpa using (hl 0 (by simp)).symm
  simp only [QI,Bw,ZX] at hB;obtain ⟨⟨hr,hf⟩,hB'⟩:=hB;have hkn:k<n:=by simp only [QI] at hk;omega
  have hr':k∈Region.ready md ops listed:=by simpa using hr
  have hst:qOp P ops C k (wpQuiet P ops C Lq l) a:=by unfold qOp;simp only [h0];exact h
  obtain ⟨_,hy,hK⟩:=yieldsIn_of_qOp h0 hst;exact Qv9 (L:=λlisted' a'=>listed'=done∧Lq a') h0 (Region.noSelect_spec hsel) hs hc (ZH k) hkn (λlisted' a' hL=>by rw [hL.1];exact hdone) l.length listed a inv (Region.free_spec h0 hf) hr' hy
   (Hy hsel hc hdone l (k+1) _ _ (λj hj=>by have:=hl (j+1) (by simp;omega);simpa [Nat.add_assoc,Nat.add_comm 1 j] using this) (by simp only [QI] at hk;omega)
    (Sg hs (by omega)) (inv.set hr' hkn) hm hB' hK)
def Jl (P:Program) (ops:Array Oper) (Q:Exit->Act->World->Prop):List (Nat×Nat)->List Oper->Act->World->Prop
 |[],l,a,w=>wpQuiet P ops (λw'=>∃x:Qz w,w'=x.w) (λa'=>∀w',Below w.heap.size w w'->Q .normal a' w') l a
 |(f,g)::rest,l,a,w=>wpQuiet P ops (λw'=>∃x:Qz w,w'=x.w)
    (λa'=>∀w',Below w.heap.size w w'->wpList P ops (Qx2 Q (Jl P ops Q rest (l.drop (f+g)))) ((l.drop f).take g) a' w') (l.take f) a
def Vj7 (md:Region.Mode) (ops:Array Oper):List (Nat×Nat)->Nat->Array Bool->Bool
 |[],k,listed=>Region.lexFrom md ops (ops.size - k) k listed
 |(f,g)::rest,k,listed=>decide (0<g)&&decide (k+f+g≤ops.size)&&Vv9 md ops (k+f) listed&&Yd md ops k (k+f)&&Yn md ops (k+f)&&Bw md ops f k listed&&
    Mn md ops g (k+f) (Ce f k listed)&&Vj7 md ops rest (k+f+g) (Ce g (k+f) (Ce f k listed))
theorem Tk (hsel:Region.noSelect ops=true):∀(segs:List (Nat×Nat)) (l:List Oper) (k:Nat) (listed:Array Bool) (a:Act) (w w0:World),(∀j,l[j]? =ops[k+j]?)->k≤ops.size->
 Below w.heap.size w w0->Vj7 md ops segs k listed=true->Jl P ops Q segs l a w->wpAny P md ops Q l.length listed a w0
 |[],l,k,listed,a,w,w0,hl,hk,hb,hB,h=>by
  have hlen:l.length=ops.size - k:=by
   rcases Nat.lt_trichotomy l.length (ops.size - k) with h1|h1|h1
   .have:=hl l.length
    rw [List.getElem?_eq_none (ZH _)] at this;have h2:k+l.length<ops.size:=by omega
    rw [Array.getElem?_eq_getElem h2] at this;cases this
   .exact h1
   have:=hl (ops.size - k)
   rw [Array.getElem?_eq_none (by omega),ZF h1] at this;cases this
  have hB':Region.lexFrom md ops l.length k listed=true:=by rw [hlen];exact hB
  exact wpAny_of_quiet (C:=λw'=>∃x:Qz w,w'=x.w) (Q:=λa'=>∀w',Below w.heap.size w w'->Q .normal a' w') (λa' w' ⟨x,e⟩ hq=>hq w' (e▸x.below)) _ _ _ _ ⟨⟨w0,hb⟩,rfl⟩ (wpAnyQ_lex hsel l k listed a hl hB' h)
 |(f,g)::rest,l,k,listed,a,w,w0,hl,hk,hb,hB,h=>by
  simp only [Vj7,ZX,ZU] at hB;obtain ⟨⟨⟨⟨⟨⟨⟨_,hsz⟩,hinv⟩,hs⟩,hc⟩,hhead⟩,hforced⟩,hrest⟩:=hB;have hlen:l.length=ops.size - k:=by
   rcases Nat.lt_trichotomy l.length (ops.size - k) with h1|h1|h1
   .have:=hl l.length
    rw [List.getElem?_eq_none (ZH _)] at this;have h2:k+l.length<ops.size:=by omega
    rw [Array.getElem?_eq_getElem h2] at this;cases this
   .exact h1
   have:=hl (ops.size - k)
   rw [Array.getElem?_eq_none (by omega),ZF h1] at this;cases this
  have hf:(l.take f).length=f:=by rw [List.length_take];omega
  have hgl:((l.drop f).take g).length=g:=by rw [List.length_take,List.length_drop];omega
  have hdl:(l.drop (f+g)).length=l.length - (f+g):=by rw [List.length_drop]
  have hdone:∀j∈Region.ready md ops (Ce f k listed),k+f≤j:=by
   obtain ⟨g',rfl⟩:∃g',g=g'+1:=⟨g - 1,by omega⟩;simp only [Mn,ZX,ZU] at hforced;intro j hj;rw [hforced.1] at hj;have:j=k+f:=by simpa using hj
   omega
  have hq:=Hy (P:=P) (C:=λw'=>∃x:Qz w,w'=x.w) (n:=k+f) hsel hc hdone (l.take f) k listed a
   (λj hj=>by rw [hf] at hj;rw [List.getElem?_take_of_lt hj];exact hl j) (by rw [hf]) hs (Dm hinv) (by rw [hf]) (by rw [hf];exact hhead) h
  rw [hf] at hq;have hfin:=Bu (P:=P) (Q:=Q) (g:=g+(l.length - (f+g))) (λlisted' a' w' (hw':∃x:Qz w,w'=x.w) hL=>by
   obtain ⟨rfl,hL⟩:=hL;obtain ⟨x,rfl⟩:=hw';have hL:=hL x.w x.below;have:=Xd (P:=P) (Q:=Q) (md:=md) (ops:=ops) (F:=l.length - (f+g)) ((l.drop f).take g) (k+f) (Ce f k listed) a' x.w (λj hj=>by
    rw [hgl] at hj;rw [List.getElem?_take_of_lt hj,List.getElem?_drop,Nat.add_assoc];exact hl (f+j)) (by rw [hgl];exact hforced) ?_
   .rw [hgl] at this;exact this
   rw [hgl];refine wpList_mixmono (λa'' w'' hm=>?_) _ _ _ hL;rw [<-hdl];exact Tk hsel rest (l.drop (f+g)) (k+f+g) _ a'' w'' w'' (λj=>by rw [List.getElem?_drop];have:=hl (f+g+j);rw [this];congr 1;omega) hsz (Below.refl _ _) hrest hm) f listed a w0 ⟨⟨w0,hb⟩,rfl⟩ hq
  rw [show l.length=f+(g+(l.length - (f+g))) by omega];exact hfin
where
 wpList_mixmono {P:Program} {ops:Array Oper} {Q:Exit->Act->World->Prop} {R R':Act->World->Prop} (h:∀a w,R a w->R' a w):∀(l:List Oper) (a:Act) (w:World),wpList P ops (Qx2 Q R) l a w->wpList P ops (Qx2 Q R') l a w
  |[],a,w,hh=>h _ _ hh
  |o::l,a,w,hh=>by
   simp only [wpList] at hh |-
   split
   .rename_i hw
    rw [if_pos hw] at hh;rcases hh with hh|hh
    .left
     have h1:=Oper.wp_mono (wpList_mixmono h l) hh;unfold Oper.wp at*;generalize (execOp a.eval o).run P w=r at*;cases r with
     |ok n w'=>
      cases n<;>simp only [Oper.upon] at h1 |-
      case enter f args=>exact Calls.mono h1 (λe w'' he=>by cases e<;>exact he)
      all_goals exact h1
     |halt x w'=>cases x<;>simp only [Oper.upon] at h1 |-<;>exact h1
    .exact .inr hh
   .rename_i hw
    rw [if_neg hw] at hh;exact wpList_mixmono h l _ _ hh
theorem Qb {id:Nat} {a:Act} {W:World} {l:List Oper} (segs:List (Nat×Nat)) (hm:P.follows .mixedOrders=true)
 (hB:(Region.noSelect l.toArray&&Vj7 .any l.toArray segs 0 (Array.replicate l.toArray.size false))=true)
 (h:Jl P l.toArray Q segs l a W):(Code.region id l.toArray true).wp P Q a W:=by
 simp only [ZX] at hB;refine wp_region_any hm ?_;have:=Tk (P:=P) (Q:=Q) (md:=.any) hB.1 segs l 0 (Array.replicate l.toArray.size false) a W W.drew (λj=>by simp) (by simp) (Below.refl _ _).drew hB.2 h
 simpa using this
end
end
section
section
variable {P:Program} {ops:Array Oper} {md:Region.Mode} {Q:Exit->Act->World->Prop} {T:Bool->World->Prop} {t:Nat}
theorem Aw {α:Type} (s:Sem α) (g:α->Next) (f:FuncId) (args:Array Value) (hg:∀a,g a≠.enter f args) (w':World):
 ∀w,(s.bind λv=>Sem.pure (g v)).run P w≠.ok (.enter f args) w':=by
 induction s with
 |pure a=>intro w h;simp [Sem.bind,Sem.run] at h;exact hg _ h.1
 |halt x=>intro w h;simp [Sem.bind] at h
 |load m a k ih=>
  intro w h;simp only [Sem.bind,Sem.run] at h;split at h
  .exact ih _ _ h
  split at h
  .exact ih _ _ h
  cases h
 |store m a v k ih=>
  intro w h;simp only [Sem.bind] at h;cases v<;>simp only [Sem.run] at h<;>first|(cases h;done)|skip
  all_goals
   split at h
   .split at h
    .cases h
    exact ih _ h
   .split at h
    .exact ih _ h
    cases h
 |getObj r k ih=>
  intro w h;simp only [Sem.bind,Sem.run] at h;split at h
  .cases h
  .exact ih _ _ h
  cases h
 |setObj r o k ih=>
  intro w h;simp only [Sem.bind,Sem.run] at h;split at h
  .cases h
  .exact ih _ h
  cases h
 |choose q k ih=>
  intro w h;simp only [Sem.bind,Sem.run] at h;split at h
  .exact ih _ _ h
  exact ih _ _ h
 |_=>
  intro w h;simp only [Sem.bind,Sem.run] at h;rename_i ih
  first|exact ih _ h|exact ih _ _ h
def Qe5:Op->Bool
 |.move _|.assign _|.pick _ _ _|.load _ _|.fieldAddr _ _ _|.indexAddr _ _ _|.binOp _ _ _ _ _=>true
 |_=>false
theorem Qi2 {o:Oper} (h:Qe5 o.op=true) (ρ:Operand->Value) (w:World) (f:FuncId) (args:Array Value) (w':World):(execOp ρ o).run P w≠.ok (.enter f args) w':=by
 unfold execOp;split<;>(rename_i ho;rw [ho] at h)<;>first|(simp [Qe5] at h;done)|exact Aw _ (λv=>Next.value v) _ _ (λ_ h=>by cases h) _ _|(intro h;simp [pure,Sem.run] at h;done)|skip
 exact Aw _ (λv=>Next.value (if v=true then _ else _)) _ _ (λ_ h=>by cases h) _ _
theorem Pf {o:Oper} {x:Operand} {p:Addr} (h:o.op=.nilCheck x) {ρ:Operand->Value} (hx:ρ x=.pointer (some p)) (w:World) (f:FuncId) (args:Array Value) (w':World):
 (execOp ρ o).run P w≠.ok (.enter f args) w':=by
 unfold execOp;rw [h];simp only [hx];intro h;simp [pure,Sem.run] at h
def TAt (P:Program) (T:Bool->World->Prop) (t i:Nat) (o:Oper) (a:Act) (v:Value):Prop:=
 ∀b w,(i=t->b=false)->T b w->o.quietAt P a (T (b||decide (i=t))) w v∧(i=t->∃f args w',(execOp a.eval o).run P w=.ok (.enter f args) w')
def YT (P:Program) (ops:Array Oper) (T:Bool->World->Prop) (t i:Nat) (o:Oper) (v:Value) (a:Act):Prop:=
 (Region.wanted o (yielded ops a.tmps)=true∧TAt P T t i o a v)∨(Region.wanted o (yielded ops a.tmps)=false∧v=undef∧i≠t)
def tOp (P:Program) (ops:Array Oper) (T:Bool->World->Prop) (t i:Nat) (K:Act->Prop) (a:Act):Prop:=∃o v,ops[i]? =some o∧YT P ops T t i o v a∧K (a.put o.dst v)
theorem Jy3 {i:Nat} {a:Act} {K K':Act->Prop} (h:∀a,K a->K' a) (hh:tOp P ops T t i K a):tOp P ops T t i K' a:=
 let ⟨o,v,h1,h2,h3⟩:=hh
 ⟨o,v,h1,h2,h _ h3⟩
theorem YT.of_same {i:Nat} {o:Oper} {v:Value} {a a':Act} (hy:YT P ops T t i o v a) (he:execOp a'.eval o=execOp a.eval o)
 (hw:Region.wanted o (yielded ops a'.tmps)=Region.wanted o (yielded ops a.tmps)):YT P ops T t i o v a':=by
 unfold YT TAt Oper.quietAt at*;rw [he,hw];exact hy
theorem Jt1 {i j:Nat} {oi oj:Oper} {v:Value} (hj:ops[j]? =some oj) (hap:oi.apart ops oj=true)
 (hsi:∀cs b,oi.op≠.select cs b) (hsj:∀cs b,oj.op≠.select cs b) {K:Act->Prop} {a:Act} (hy:YT P ops T t i oi v a) (h:tOp P ops T t j K (a.put oi.dst v)):
 tOp P ops T t j (λa'=>YT P ops T t i oi v a'∧K (a'.put oi.dst v)) a:=by
 obtain ⟨h1,h2,h3⟩:=Oper.apart_spec hap;obtain ⟨o,u,ho,hu,hK⟩:=h;have:o=oj:=Option.some.inj (ho.symm.trans hj)
 subst this;refine ⟨o,u,hj,hu.of_same (execOp_put o hsj a oi.dst v h1).symm (wanted_put o a oi.dst v h1).symm,hy.of_same (execOp_put oi hsi a o.dst u h3) (wanted_put oi a o.dst u h3),?_⟩;rw [<-Act.put_comm a v u h2];exact hK
theorem Qr3 {i:Nat} {a:Act} {K:Act->Prop} {K':Act->World->Prop} {w:World} {b:Bool} (hT:T b w) (hi:i=t->b=false)
 (h:∀a w',T (b||decide (i=t)) w'->K a->K' a w') (hh:tOp P ops T t i K a):wpOp P ops Q i K' a w:=by
 obtain ⟨_,v,ho,hy,hK⟩:=hh;unfold wpOp;simp only [ho];rcases hy with ⟨hw,hy⟩|⟨hw,rfl,hne⟩
 .rw [ZM hw];left
  by_cases hit:i=t
  .obtain ⟨h1,h2⟩:=hy b w hi hT;obtain ⟨_,_,w',hr⟩:=h2 hit;unfold Oper.quietAt at h1;unfold Oper.wp;rw [hr] at h1 |-
   simp only [Oper.quietUpon] at h1;simp only [Oper.upon];obtain ⟨e1,hc⟩:=h1;rw [e1];exact hc.mono λe w'' ⟨he,hw''⟩=>by subst he;exact h _ _ hw'' hK
  have hb:(b||decide (i=t))=b:=by rw [ZA hit,Bool.or_false]
  rw [hb] at h;refine Oper.wp_of_quiet (C:=T b) hT (K:=λa'=>K a') h ⟨v,λw hw=>?_,hK⟩;have:=(hy b w (λe=>absurd e hit) hw).1
  rwa [hb] at this
 rw [ZL (by rw [hw];exact Bool.false_ne_true)];have hb:(b||decide (i=t))=b:=by rw [ZA hne,Bool.or_false]
 rw [hb] at h;exact h _ _ hT hK
def Qq3 (P:Program) (md:Region.Mode) (ops:Array Oper) (T:Bool->World->Prop) (t n:Nat) (L:Array Bool->Act->Prop):Nat->Array Bool->Act->Prop
 |0,listed,a=>L listed a
 |f+1,listed,a=>Region.ready md ops listed≠[]∧∀i∈Region.ready md ops listed,i<n∧tOp P ops T t i (Qq3 P md ops T t n L f (listed.setIfInBounds i true)) a
theorem Ah {n g:Nat} {L:Array Bool->Act->Prop} (hL:∀listed a w,T (listed.getD t false) w->L listed a->wpAny P md ops Q g listed a w):
 ∀(f:Nat) (listed:Array Bool) (a:Act) (w:World),T (listed.getD t false) w->Qq3 P md ops T t n L f listed a->wpAny P md ops Q (f+g) listed a w
 |0,listed,a,w,hw,h=>by rw [Nat.zero_add];exact hL _ _ _ hw h
 |f+1,listed,a,w,hw,h=>by
  rw [show f+1+g=(f+g)+1 by omega];refine ⟨λh0=>absurd h0 h.1,λi hi=>?_⟩;have hun:=(mem_ready.1 hi).1;have hlt:i<listed.size:=by
   rcases ZJ i listed.size with h'|h'
   .exact h'
   simp [Array.getElem?_eq_none h'] at hun
  refine Qr3 hw (λe=>by subst e;exact getD_both hun) (λa' w' hw' h'=>Ah hL f _ a' w' ?_ h') (h.2 i hi).2;have:(listed.setIfInBounds i true).getD t false=(listed.getD t false||decide (i=t)):=by
   by_cases hit:i=t
   .subst hit;rw [ZE rfl,Bool.or_true];simp [hlt]
   rw [ZA hit,Bool.or_false];exact getD_set_ne false hit
  rw [this];exact hw'
theorem Qa3 {k n i:Nat} {oi:Oper} {v:Value} {L:Array Bool->Act->Prop} (hi:ops[i]? =some oi) (hsel:∀(j:Nat) (o:Oper) cs b,ops[j]? =some o->o.op≠.select cs b)
 (hs:Yd md ops k n=true) (hc:Yn md ops n=true) (hki:k≤i) (hin:i<n)
 (hdone:∀listed a,L listed a->∀j∈Region.ready md ops listed,n≤j):
 ∀(f:Nat) (listed:Array Bool) (a:Act),HeadInv md ops n listed->
  (∀j oj,ops[j]? =some oj->j≠i->listed.getD j true=false->(∀e∈oj.after,Region.binds md e=true->e.on≠i)->oi.apart ops oj=true)->
  i∈Region.ready md ops listed->YT P ops T t i oi v a->
  Qq3 P md ops T t n L f (listed.setIfInBounds i true) (a.put oi.dst v)->Qq3 P md ops T t n L (f+1) listed a:=by
 intro f;induction f with
 |zero=>
  intro listed a inv _ hr hy H;have hun:=(mem_ready.1 hr).1;refine ⟨λh=>(by rw [h] at hr;cases hr),λj hj=>?_⟩;have hjn:j<n:=by
   rcases ZJ j n with h|h
   .exact h
   exact absurd hj (Vi hs hc inv _ i rfl hki hin hun j h)
  refine ⟨hjn,?_⟩;by_cases hji:j=i
  .subst hji;exact ⟨oi,v,hi,hy,H⟩
  have:=hdone _ _ H j (ready_mono hj hji)
  omega
 |succ f ih=>
  intro listed a inv hfree hr hy H;have hun:=(mem_ready.1 hr).1;refine ⟨λh=>(by rw [h] at hr;cases hr),λj hj=>?_⟩;have hjn:j<n:=by
   rcases ZJ j n with h|h
   .exact h
   exact absurd hj (Vi hs hc inv _ i rfl hki hin hun j h)
  refine ⟨hjn,?_⟩;by_cases hji:j=i
  .subst hji;exact ⟨oi,v,hi,hy,H⟩
  have h1:=(H.2 j (ready_mono hj hji)).2;obtain ⟨hjun,oj,hoj,hall⟩:=mem_ready.1 hj;have hnot:∀e∈oj.after,Region.binds md e=true->e.on≠i:=λe he hb heq=>by
   have h1:=hall e he hb;rw [heq,getD_both hun] at h1;cases h1
  have h2:=Jt1 hoj (hfree j oj hoj hji hjun hnot) (λcs b=>hsel i oi cs b hi) (λcs b=>hsel j oj cs b hoj) hy h1;have hfree':∀k ok,ops[k]? =some ok->k≠i->(listed.setIfInBounds j true).getD k true=false->
   (∀e∈ok.after,Region.binds md e=true->e.on≠i)->oi.apart ops ok=true:=λk ok hk hki hun hno=>by
   refine hfree k ok hk hki ?_ hno;by_cases hjk:j=k
   .subst hjk;exact hjun
   .rw [getD_set_ne true hjk] at hun;exact hun
  refine Jy3 (λa' h3=>ih (listed.setIfInBounds j true) a' (inv.set hj hjn) hfree' (ready_mono hr (Ne.symm hji)) h3.1 ?_) h2;rw [Array.setIfInBounds_comm _ _ hji];exact h3.2
def wpT (P:Program) (ops:Array Oper) (T:Bool->World->Prop) (t:Nat) (Lq:Act->Prop):Nat->List Oper->Act->Prop
 |_,[],a=>Lq a
 |i,o::rest,a=>∃v,YT P ops T t i o v a∧wpT P ops T t Lq (i+1) rest (a.put o.dst v)
theorem Pz {n:Nat} {Lq:Act->Prop} {done:Array Bool} (hsel:Region.noSelect ops=true) (hc:Yn md ops n=true)
 (hdone:∀j∈Region.ready md ops done,n≤j):
 ∀(l:List Oper) (k:Nat) (listed:Array Bool) (a:Act),(∀j,j<l.length->l[j]? =ops[k+j]?)->k+l.length=n->Yd md ops k n=true->HeadInv md ops n listed->
 Ce l.length k listed=done->Bw md ops l.length k listed=true->wpT P ops T t Lq k l a->
 Qq3 P md ops T t n (λlisted' a'=>listed'=done∧Lq a') l.length listed a
 |[],k,listed,a,_,hk,_,_,hm,hB,h=>⟨hm,h⟩
 |o::l,k,listed,a,hl,hk,hs,inv,hm,hB,h=>by
  have h0:ops[k]? =some o:=by simpa using (hl 0 (by simp)).symm
  simp only [QI,Bw,ZX] at hB;obtain ⟨⟨hr,hf⟩,hB'⟩:=hB;have hkn:k<n:=by simp only [QI] at hk;omega
  have hr':k∈Region.ready md ops listed:=by simpa using hr
  obtain ⟨_,hy,hK⟩:=h;exact Qa3 (L:=λlisted' a'=>listed'=done∧Lq a') h0 (Region.noSelect_spec hsel) hs hc (ZH k) hkn (λlisted' a' hL=>by rw [hL.1];exact hdone) l.length listed a inv (Region.free_spec h0 hf) hr' hy
   (Pz hsel hc hdone l (k+1) _ _ (λj hj=>by have:=hl (j+1) (by simp;omega);simpa [Nat.add_assoc,Nat.add_comm 1 j] using this) (by simp only [QI] at hk;omega)
    (Sg hs (by omega)) (inv.set hr' hkn) hm hB' hK)
def Zf7 (ops:Array Oper) (t n:Nat):Bool:=
 let l0:=Array.replicate ops.size false
 let l1:=Ce n 0 l0
 Region.noSelect ops&&decide (n<ops.size)&&Vv9 .any ops n l0&&Yd .any ops 0 n&&Yn .any ops n&&Bw .any ops n 0 l0&&Mn .any ops (ops.size - n) n l1&&
  l1.getD t false&&decide (Region.ready .any ops (Ce (ops.size - n) n l1)=[])
theorem Yi {id:Nat} {a:Act} {W:World} {l:List Oper} (T:Bool->World->Prop) (t n:Nat) (hm:P.follows .mixedOrders=true) (hB:Zf7 l.toArray t n=true) (h0:T false W.drew)
 (h:wpT P l.toArray T t (λa'=>∀w',T true w'->wpList P l.toArray (Qx2 Q (λa w=>Q .normal a w)) (l.drop n) a' w') 0 (l.take n) a):(Code.region id l.toArray true).wp P Q a W:=by
 simp only [Zf7,ZX,ZU] at hB;obtain ⟨⟨⟨⟨⟨⟨⟨⟨hsel,hn⟩,hinv⟩,hs⟩,hc⟩,hhead⟩,hforced⟩,ht⟩,hend⟩:=hB;refine wp_region_any hm ?_;have hn':n<l.length:=by simpa using hn
 have hf:(l.take n).length=n:=by rw [List.length_take];omega
 have hgl:(l.drop n).length=l.toArray.size - n:=by simp
 have hdone:∀j∈Region.ready .any l.toArray (Ce n 0 (Array.replicate l.toArray.size false)),n≤j:=by
  obtain ⟨g',hg'⟩:∃g',l.toArray.size - n=g'+1:=⟨l.toArray.size - n - 1,by omega⟩;rw [hg'] at hforced;simp only [Mn,ZX,ZU] at hforced;intro j hj;rw [hforced.1] at hj;have:j=n:=by simpa using hj
  omega
 have hq:=Pz (P:=P) (T:=T) (t:=t) (n:=n) hsel hc hdone (l.take n) 0 (Array.replicate l.toArray.size false) a
  (λj hj=>by rw [hf] at hj;rw [List.getElem?_take_of_lt hj];simp) (by rw [hf];omega) hs (Dm hinv) (by rw [hf]) (by rw [hf];exact hhead) h
 rw [hf] at hq;have hfin:=Ah (P:=P) (Q:=Q) (g:=l.toArray.size - n) (λlisted' a' w' hw' hL=>by
  obtain ⟨rfl,hL⟩:=hL;rw [ht] at hw';have hL:=hL w' hw';have:=Xd (P:=P) (Q:=Q) (md:=.any) (ops:=l.toArray) (F:=0) (l.drop n) n _ a' w' (λj hj=>by rw [List.getElem?_drop];simp) (by rw [hgl];exact hforced)
   (Tk.wpList_mixmono (λa'' w'' hm=>by
    rw [hgl];exact ⟨hend,hm⟩) _ _ _ hL)
  rw [hgl] at this;exact this) n _ _ _ (by
   have:(Array.replicate l.toArray.size false).getD t false=false:=by
    rw [Array.getD_eq_getD_getElem?];by_cases h:t<l.length<;>simp [Array.getElem?_replicate,h]
   rw [this];exact h0) hq
 rw [show n+(l.toArray.size - n)=l.toArray.size by omega] at hfin;exact hfin
structure TW (T:Bool->World->Prop) where
 b:Bool
 w:World
 h:T b w
theorem Qz2 {i:Nat} {o:Oper} {rest:List Oper} {a:Act} {Lq:Act->Prop} (hne:i≠t) (hw:Region.wanted o (yielded ops a.tmps)=true)
 (hp:∀w f args w',(execOp a.eval o).run P w≠.ok (.enter f args) w')
 (h:∀K:Act->Prop,(∀a,wpT P ops T t Lq (i+1) rest a->K a)->o.quiet P a (λw'=>∃x:TW T,w'=x.w) K):wpT P ops T t Lq i (o::rest) a:=by
 obtain ⟨v,h1,h2⟩:=h _ (λ_ h=>h);refine ⟨v,.inl ⟨hw,λb w _ hT=>⟨?_,λe=>absurd e hne⟩⟩,h2⟩;have h3:=h1 w ⟨⟨b,w,hT⟩,rfl⟩;unfold Oper.quietAt at h3 |-
 cases hr:(execOp a.eval o).run P w with
 |halt x w'=>rw [hr] at h3;exact h3
 |ok n w'=>
  rw [hr] at h3;cases n
  case enter f args=>exact absurd hr (hp w f args w')
  all_goals exact h3
theorem Jh {i:Nat} {o:Oper} {rest:List Oper} {a:Act} {Lq:Act->Prop} (hne:i≠t) (hw:Region.wanted o (yielded ops a.tmps)=true) (hp:Qe5 o.op=true)
 (h:∀K:Act->Prop,(∀a,wpT P ops T t Lq (i+1) rest a->K a)->o.quiet P a (λw'=>∃x:TW T,w'=x.w) K):wpT P ops T t Lq i (o::rest) a:=
 Qz2 hne hw (λw f args w'=>Qi2 hp _ w f args w') h
theorem Ji {i:Nat} {o:Oper} {rest:List Oper} {a:Act} {Lq:Act->Prop} {x:Operand} {p:Addr} (hne:i≠t) (hw:Region.wanted o (yielded ops a.tmps)=true) (hp:o.op=.nilCheck x) (hx:a.eval x=.pointer (some p))
 (h:∀K:Act->Prop,(∀a,wpT P ops T t Lq (i+1) rest a->K a)->o.quiet P a (λw'=>∃x:TW T,w'=x.w) K):wpT P ops T t Lq i (o::rest) a:=
 Qz2 hne hw (λw f args w'=>Pf hp hx w f args w') h
theorem Zd3 {a:Act} {C:World->Prop} {K:Act->Prop} {d:Option Nat} {v:Value} {ty:TypeId} {pos:String} {af:Array Edge} {gd:Option (Nat×Bool)} (hC:∃w,C w)
 (h:(Oper.mk d (.assign (.const v)) ty pos af gd).quiet P a C K):K (a.put d v):=by
 obtain ⟨w,hw⟩:=hC;obtain ⟨v',h1,h2⟩:=h;have h3:=h1 w hw;unfold Oper.quietAt at h3;rw [BigFrame.run_assign (.const v) rfl] at h3;have h4:v=v':=(BigFrame.eval_const a v).symm.trans h3.2;subst h4;exact h2
theorem Za2 {i:Nat} {d:Option Nat} {ty:TypeId} {pos:String} {af:Array Edge} {gd:Option (Nat×Bool)} {rest:List Oper} {a:Act} {Lq:Act->Prop} {v:Value} [hne:Nonempty (TW T)]
 (h:∀K:Act->Prop,(∀a,wpT P ops T t Lq (i+1) rest a->K a)->(Oper.mk d (.assign (.const v)) ty pos af gd).quiet P a (λw'=>∃x:TW T,w'=x.w) K):wpT P ops T t Lq (i+1) rest (a.put d v):=
 Zd3 (let ⟨x⟩:=hne;⟨x.w,x,rfl⟩) (h _ λ_ h=>h)
theorem Zs9 {i:Nat} {d:Option Nat} {op:Op} {ty:TypeId} {pos:String} {af:Array Edge} {gd:Option (Nat×Bool)} {rest:List Oper} {a:Act} {Lq:Act->Prop} [Nonempty (TW T)] (v:Value) (hne:i≠t) (hw:Region.wanted (Oper.mk d op ty pos af gd) (yielded ops a.tmps)=true) (hr:∀w,(execOp a.eval (Oper.mk d op ty pos af gd)).run P w=.ok (.value v) w)
 (h:∀K:Act->Prop,(∀a,wpT P ops T t Lq (i+1) rest a->K a)->(Oper.mk d (.assign (.const v)) ty pos af gd).quiet P a (λw'=>∃x:TW T,w'=x.w) K):wpT P ops T t Lq i (Oper.mk d op ty pos af gd::rest) a:=
 ⟨v,.inl ⟨hw,λb w _ hT=>⟨by unfold Oper.quietAt;rw [hr w];exact ⟨rfl,rfl⟩,λe=>absurd e hne⟩⟩,Za2 h⟩
theorem Vb {i:Nat} {d:Option Nat} {op:Op} {ty:TypeId} {pos:String} {af:Array Edge} {gd:Option (Nat×Bool)} {rest:List Oper} {a:Act} {Lq:Act->Prop} [Nonempty (TW T)] (hne:i≠t) (hw:Region.wanted (Oper.mk d op ty pos af gd) (yielded ops a.tmps)=false)
 (h:∀K:Act->Prop,(∀a,wpT P ops T t Lq (i+1) rest a->K a)->(Oper.mk d (.assign (.const undef)) ty pos af gd).quiet P a (λw'=>∃x:TW T,w'=x.w) K):wpT P ops T t Lq i (Oper.mk d op ty pos af gd::rest) a:=
 ⟨undef,.inr ⟨hw,rfl,hne⟩,Za2 h⟩
theorem Vf {i:Nat} {d:Option Nat} {op:Op} {ty:TypeId} {pos:String} {af:Array Edge} {gd:Option (Nat×Bool)} {rest:List Oper} {a:Act} {Lq:Act->Prop} [Nonempty (TW T)] (f:FuncId) (args:Array Value) (v:Value) (hw:Region.wanted (Oper.mk d op ty pos af gd) (yielded ops a.tmps)=true) (hr:∀w,(execOp a.eval (Oper.mk d op ty pos af gd)).run P w=.ok (.enter f args) w)
 (hc:∀b w,T b w->Calls P f args w λe w'=>e=.returned v∧T (b||decide (i=t)) w')
 (h:∀K:Act->Prop,(∀a,wpT P ops T t Lq (i+1) rest a->K a)->(Oper.mk d (.assign (.const v)) ty pos af gd).quiet P a (λw'=>∃x:TW T,w'=x.w) K):wpT P ops T t Lq i (Oper.mk d op ty pos af gd::rest) a:=
 ⟨v,.inl ⟨hw,λb w _ hT=>⟨by unfold Oper.quietAt;rw [hr w];exact ⟨rfl,hc b w hT⟩,λ_=>⟨f,args,w,hr w⟩⟩⟩,Za2 h⟩
theorem Bn {i:Nat} {a:Act} {Lq:Act->Prop} (h:Lq a):wpT P ops T t Lq i [] a:=h
end
end
section
section
variable {P:Program} {ops:Array Oper} {md:Region.Mode} {Q:Exit->Act->World->Prop}
theorem Hs {p q:Nat->Bool} {i:Nat} (hp:p i=true) (hq:q i=false) (hpq:∀j,j≠i->q j=p j):∀n,i<n->(List.range n).countP q+1=(List.range n).countP p
 |0,h=>absurd h (by omega)
 |n+1,h=>by
  rw [List.range_succ,List.countP_append,List.countP_append];by_cases e:i=n
  .subst e;have hs:(List.range i).countP q=(List.range i).countP p:=List.countP_congr λj hj=>by
    rw [hpq j (by have:=List.mem_range.1 hj;omega)]
   rw [hs];simp [hp,hq]
  have:=Hs hp hq hpq n (by omega)
  have hn:=hpq n (by omega);simp only [List.countP_singleton,hn];omega
structure Dj (W:World) (a0:Act) (n:Nat) (dst:Nat->Tmp) (R:Nat->Value->World->Prop) (S:Nat->Value->Nat->Value->Prop) (listed:Array Bool) (a:Act) (w:World):Prop where
 below:Below W.heap.size W w
 size:a.tmps.size=a0.tmps.size
 defers:a.defers=a0.defers
 rest:∀t,(∀i,i<n->t≠dst i)->a.tmps[t]? =a0.tmps[t]?
 vals:∀i,i<n->listed.getD i false=true->∃v,a.tmps[dst i]? =some v∧R i v w
 rel:∀i j,i<n->j<n->i≠j->listed.getD i false=true->listed.getD j false=true->∀u v,a.tmps[dst i]? =some u->a.tmps[dst j]? =some v->S i u j v
theorem Dj.set {W w w':World} {a0 a:Act} {n i:Nat} {dst:Nat->Tmp} {R:Nat->Value->World->Prop} {S:Nat->Value->Nat->Value->Prop} {listed:Array Bool} {v:Value} (h:Dj W a0 n dst R S listed a w) (hR:∀i v w w',R i v w->Below w.heap.size w w'->R i v w')
 (hi:i<n) (hd:dst i<a0.tmps.size) (hne:∀j,j<n->j≠i->dst j≠dst i) (hb:Below w.heap.size w w') (hv:R i v w') (hrel:∀j u,j<n->j≠i->R j u w->S i v j u∧S j u i v):Dj W a0 n dst R S (listed.setIfInBounds i true) (a.put (some (dst i)) v) w':=by
 have hat:∀j,j<n->j≠i->(a.tmps.setIfInBounds (dst i) v)[dst j]? =a.tmps[dst j]?:=λj hj e=>Array.getElem?_setIfInBounds_ne (λe'=>hne j hj e e'.symm)
 have hself:(a.tmps.setIfInBounds (dst i) v)[dst i]? =some v:=Array.getElem?_setIfInBounds_self_of_lt (by rw [h.size];exact hd);refine ⟨h.below.trans (hb.mono h.below.size),by simp [Act.put,h.size],h.defers,λt ht=>?_,λj hj hl=>?_,λj k hj hk hjk lj lk u x hu hx=>?_⟩
 .have h1:=h.rest t ht;show (a.tmps.setIfInBounds (dst i) v)[t]? =_
  rw [Array.getElem?_setIfInBounds_ne (λe=>ht i hi e.symm)];exact h1
 .by_cases e:j=i
  .subst e;refine ⟨v,?_,hv⟩;show (a.tmps.setIfInBounds (dst j) v)[dst j]? =_
   rw [Array.getElem?_setIfInBounds_self_of_lt (by rw [h.size];exact hd)]
  rw [getD_set_ne false (Ne.symm e)] at hl;obtain ⟨u,h1,h2⟩:=h.vals j hj hl;refine ⟨u,?_,hR _ _ _ _ h2 hb⟩;show (a.tmps.setIfInBounds (dst i) v)[dst j]? =_
  rw [Array.getElem?_setIfInBounds_ne (λe'=>hne j hj e e'.symm)];exact h1
 have hu2:(a.tmps.setIfInBounds (dst i) v)[dst j]? =some u:=hu;clear hu;have hx2:(a.tmps.setIfInBounds (dst i) v)[dst k]? =some x:=hx;clear hx;by_cases ej:j=i
 .subst ej;rw [hself] at hu2;have hku:=hat k hk (Ne.symm hjk);rw [hku] at hx2;rw [getD_set_ne false hjk] at lk;obtain ⟨_,h1,h2⟩:=h.vals k hk lk;rw [h1] at hx2;injection hu2 with hu2;injection hx2 with hx2;subst hu2 hx2;exact (hrel k _ hk (Ne.symm hjk) h2).1
 rw [hat j hj ej] at hu2;rw [getD_set_ne false (Ne.symm ej)] at lj;by_cases ek:k=i
 .subst ek;rw [hself] at hx2;obtain ⟨_,h1,h2⟩:=h.vals j hj lj;rw [h1] at hu2;injection hu2 with hu2;injection hx2 with hx2;subst hu2 hx2;exact (hrel j _ hj ej h2).2
 rw [hat k hk ek] at hx2;rw [getD_set_ne false (Ne.symm ek)] at lk;exact h.rel j k hj hk hjk lj lk u x hu2 hx2
theorem Ov {listed:Array Bool}:∀n i,i<n->listed.getD i false=false->∃k,k≤i∧listed.getD k false=false∧∀j,j<k->listed.getD j false=true:=by
 intro n i;induction i using Nat.strongRecOn with
 |_ i ih=>
  intro hi hun;by_cases h:∃j,j<i∧listed.getD j false=false
  .obtain ⟨j,hj,hu⟩:=h;obtain ⟨k,_,h2,h3⟩:=ih j hj (by omega) hu;exact ⟨k,by omega,h2,h3⟩
  exact ⟨i,ZH _,hun,λj hj=>by
   cases e:listed.getD j false
   .exact absurd ⟨j,hj,e⟩ h
   rfl⟩
theorem Hw {W:World} {a0:Act} {n g:Nat} {dst:Nat->Tmp} {R:Nat->Value->World->Prop} {S:Nat->Value->Nat->Value->Prop} (hR:∀i v w w',R i v w->Below w.heap.size w w'->R i v w')
 (hs:Yd md ops 0 n=true) (hc:Yn md ops n=true) (hn:n≤ops.size)
 (hback:∀i o,i<n->ops[i]? =some o->∀e∈o.after,Region.binds md e=true->e.on<i)
 (hdst:∀i,i<n->dst i<a0.tmps.size) (hinj:∀i j,i<n->j<n->i≠j->dst i≠dst j)
 (hop:∀i o,i<n->ops[i]? =some o->(∀y,Region.wanted o y=true)∧∀a w,Below W.heap.size W w->a.tmps.size=a0.tmps.size->a.defers=a0.defers->(∀t,(∀j,j<n->t≠dst j)->a.tmps[t]? =a0.tmps[t]?)->
  (∀e∈o.after,Region.binds md e=true->∃v,a.tmps[dst e.on]? =some v∧R e.on v w)->o.wp P a w (λa' w'=>∃v,a'=a.put (some (dst i)) v∧Below w.heap.size w w'∧R i v w'∧∀j u,j<n->j≠i->R j u w->S i v j u∧S j u i v) Q)
 (hend:∀listed a w,HeadInv md ops n listed->(∀i,i<n->listed.getD i false=true)->Dj W a0 n dst R S listed a w->wpAny P md ops Q g listed a w):
 ∀f listed a w,HeadInv md ops n listed->(List.range n).countP (λi=>!listed.getD i false)=f->Dj W a0 n dst R S listed a w->wpAny P md ops Q (f+g) listed a w
 |0,listed,a,w,inv,hcnt,hJ=>by
  rw [Nat.zero_add];refine hend listed a w inv (λi hi=>?_) hJ;have:=List.countP_eq_zero.1 hcnt i (List.mem_range.2 hi)
  simpa using this
 |f+1,listed,a,w,inv,hcnt,hJ=>by
  rw [show f+1+g=(f+g)+1 by omega];obtain ⟨i0,hi0,hu0⟩:∃i,i<n∧listed.getD i false=false:=by
   have h1:0<(List.range n).countP (λi=>!listed.getD i false):=by omega
   obtain ⟨i,hi,h2⟩:=List.countP_pos_iff.1 h1;exact ⟨i,List.mem_range.1 hi,by simpa using h2⟩
  obtain ⟨i,_,hun,hmin⟩:=Ov n i0 hi0 hu0;have hi:i<n:=by omega
  have hlt:i<ops.size:=by omega
  have hun':=getD_in (by rw [inv.size];exact hlt) hun;have hready:i∈Region.ready md ops listed:=by
   refine mem_ready.2 ⟨hun',ops[i],Array.getElem?_eq_getElem hlt,λe he hb=>hmin _ (hback i ops[i] hi (Array.getElem?_eq_getElem hlt) e he hb)⟩
  refine ⟨λh0=>(by rw [h0] at hready;cases hready),λj hj=>?_⟩;have hjn:j<n:=by
   rcases ZJ j n with h|h
   .exact h
   exact absurd hj (Vi hs hc inv _ i rfl (Nat.zero_le _) hi hun' j h)
  obtain ⟨hjun,o,ho,hall⟩:=mem_ready.1 hj;obtain ⟨hw,hwp⟩:=hop j o hjn ho;unfold wpOp;simp only [ho];rw [ZM (hw _)];left
  refine Oper.wp_mono ?_ (hwp a w hJ.below hJ.size hJ.defers hJ.rest (λe he hb=>hJ.vals e.on (by have:=hback j o hjn ho e he hb;omega) (hall e he hb)));rintro a' w' ⟨v,rfl,hb,hv,hrel⟩;refine Hw hR hs hc hn hback hdst hinj hop hend f _ _ w' (inv.set hj hjn) ?_ (hJ.set hR hjn (hdst j hjn) (λk hk hne=>hinj k j hk hjn hne) hb hv hrel);have:=Hs (p:=λi=>!listed.getD i false) (q:=λi=>!(listed.setIfInBounds j true).getD i false) (i:=j) (by simp [getD_both hjun]) (by simp [inv.size,show j<ops.size by omega]) (λk hk=>by rw [getD_set_ne false (Ne.symm hk)]) n hjn
  omega
theorem Qo7 {n:Nat} {listed D:Array Bool} (inv:HeadInv md ops n listed) (hall:∀i,i<n->listed.getD i false=true) (hD:D.size=ops.size) (hDv:∀j,j<ops.size->D.getD j false=decide (j<n)):listed=D:=by
 refine Array.ext (by rw [inv.size,hD]) λj h1 h2=>?_
 have e1:listed.getD j false=listed[j]:=by simp [h1]
 have e2:D.getD j false=D[j]:=by simp [h2]
 rw [<-e1,<-e2,hDv j (by rw [<-inv.size];exact h1)];rcases ZJ j n with h|h
 .rw [hall j h,ZE h]
 rw [getD_both (inv.tail j h (by rw [<-inv.size];exact h1)),ZA (by omega)]
def Wr (dst:Nat->Tmp) (vs:Nat->Value) (a0:Act):Nat->Act
 |0=>a0
 |n+1=>(Wr dst vs a0 n).put (some (dst n)) (vs n)
theorem Gd (dst:Nat->Tmp) (vs:Nat->Value) (a0:Act):∀n,(Wr dst vs a0 n).tmps.size=a0.tmps.size∧(Wr dst vs a0 n).defers=a0.defers
 |0=>⟨rfl,rfl⟩
 |n+1=>by
  obtain ⟨h1,h2⟩:=Gd dst vs a0 n;exact ⟨by simp [Wr,Act.put,h1],h2⟩
theorem Ql3 {dst:Nat->Tmp} {vs:Nat->Value} {a0:Act}:∀n,(∀i,i<n->dst i<a0.tmps.size)->(∀i j,i<n->j<n->i≠j->dst i≠dst j)->
 (∀i,i<n->(Wr dst vs a0 n).tmps[dst i]? =some (vs i))∧(∀t,(∀i,i<n->t≠dst i)->(Wr dst vs a0 n).tmps[t]? =a0.tmps[t]?)
 |0,_,_=>⟨λi hi=>absurd hi (by omega),λt _=>rfl⟩
 |n+1,hd,hi=>by
  obtain ⟨h1,h2⟩:=Ql3 (vs:=vs) n (λi h=>hd i (by omega)) (λi j h k=>hi i j (by omega) (by omega));refine ⟨λi h=>?_,λt ht=>?_⟩
  .show ((Wr dst vs a0 n).tmps.setIfInBounds (dst n) (vs n))[dst i]? =_
   by_cases e:i=n
   .subst e;rw [Array.getElem?_setIfInBounds_self_of_lt (by rw [(Gd _ _ _ _).1];exact hd i (by omega))]
   rw [Array.getElem?_setIfInBounds_ne (hi n i (by omega) h (λe'=>e e'.symm))];exact h1 i (by omega)
  show ((Wr dst vs a0 n).tmps.setIfInBounds (dst n) (vs n))[t]? =_
  rw [Array.getElem?_setIfInBounds_ne (λe=>ht n (by omega) e.symm)];exact h2 t (λi h=>ht i (by omega))
theorem Dj.act {W w:World} {a0 a:Act} {n:Nat} {dst:Nat->Tmp} {R:Nat->Value->World->Prop} {S:Nat->Value->Nat->Value->Prop} {listed:Array Bool} (h:Dj W a0 n dst R S listed a w) (hall:∀i,i<n->listed.getD i false=true)
 (hd:∀i,i<n->dst i<a0.tmps.size) (hi:∀i j,i<n->j<n->i≠j->dst i≠dst j):∃vs:Nat->Value,(∀i,i<n->R i (vs i) w)∧(∀i j,i<n->j<n->i≠j->S i (vs i) j (vs j))∧a=Wr dst vs a0 n:=by
 have hv:∀i,∃v,i<n->a.tmps[dst i]? =some v∧R i v w:=λi=>by
  by_cases h':i<n
  .obtain ⟨v,hv⟩:=h.vals i h' (hall i h');exact ⟨v,λ_=>hv⟩
  exact ⟨undef,λk=>absurd k h'⟩
 obtain ⟨vs,hvs⟩:∃vs:Nat->Value,∀i,i<n->a.tmps[dst i]? =some (vs i)∧R i (vs i) w:=⟨λi=>(hv i).choose,λi hi=>(hv i).choose_spec hi⟩;refine ⟨vs,λi h'=>(hvs i h').2,λi j h' k' e=>h.rel i j h' k' e (hall i h') (hall j k') _ _ (hvs i h').1 (hvs j k').1,?_⟩;obtain ⟨g1,g2⟩:=Ql3 (vs:=vs) n hd hi;obtain ⟨_,s2⟩:=Gd dst vs a0 n;have ht:a.tmps=(Wr dst vs a0 n).tmps:=by
  refine Array.ext_getElem? λt=>?_
  by_cases e:∃i,i<n∧t=dst i
  .obtain ⟨i,h1,rfl⟩:=e;rw [(hvs i h1).1,g1 i h1]
  have e':∀i,i<n->t≠dst i:=λi h1 h2=>e ⟨i,h1,h2⟩
  rw [h.rest t e',g2 t e']
 have hdf:a.defers=(Wr dst vs a0 n).defers:=by rw [h.defers,s2]
 cases a
 cases hp:Wr dst vs a0 n
 rw [hp] at ht hdf;simp only at ht hdf;rw [ht,hdf]
def Je4 (ops:Array Oper) (n:Nat) (D:Array Bool):Bool:=
 Yd .any ops 0 n&&Yn .any ops n&&decide (n≤ops.size)&&
 ((List.range n).all λi=>match ops[i]? with|some o=>o.after.all λe=>!Region.binds .any e||decide (e.on<i)|none=>false)&&
 decide (D.size=ops.size)&&((List.range ops.size).all λj=>D.getD j false==decide (j<n))&&Mn .any ops (ops.size - n) n D&&(Region.ready .any ops (Ce (ops.size - n) n D)).isEmpty
theorem Xk {id:Nat} {a:Act} {W:World} {l:List Oper} (n:Nat) (dst:Nat->Tmp) (R:Nat->Value->World->Prop) (S:Nat->Value->Nat->Value->Prop) (D:Array Bool) (hm:P.follows .mixedOrders=true)
 (hB:Je4 l.toArray n D=true) (hR:∀i v w w',R i v w->Below w.heap.size w w'->R i v w')
 (hdst:∀i,i<n->dst i<a.tmps.size) (hinj:∀i j,i<n->j<n->i≠j->dst i≠dst j)
 (hop:∀i o,i<n->l[i]? =some o->(∀y,Region.wanted o y=true)∧∀a' w,Below W.heap.size W w->a'.tmps.size=a.tmps.size->a'.defers=a.defers->(∀t,(∀j,j<n->t≠dst j)->a'.tmps[t]? =a.tmps[t]?)->
  (∀e∈o.after,Region.binds .any e=true->∃v,a'.tmps[dst e.on]? =some v∧R e.on v w)->o.wp P a' w (λa'' w'=>∃v,a''=a'.put (some (dst i)) v∧Below w.heap.size w w'∧R i v w'∧∀j u,j<n->j≠i->R j u w->S i v j u∧S j u i v) Q)
 (hend:∀vs w,Below W.heap.size W w->(∀i,i<n->R i (vs i) w)->(∀i j,i<n->j<n->i≠j->S i (vs i) j (vs j))->wpList P l.toArray (Qx2 Q (λa w=>Q .normal a w)) (l.drop n) (Wr dst vs a n) w):
 (Code.region id l.toArray true).wp P Q a W:=by
 simp only [Je4,ZX,ZU] at hB;obtain ⟨⟨⟨⟨⟨⟨⟨b1,b2⟩,b3⟩,b4⟩,b5⟩,b6⟩,b7⟩,b8⟩:=hB;have b3':n≤l.length:=by simpa using b3
 refine wp_region_any hm ?_;have key:=Hw (P:=P) (ops:=l.toArray) (md:=.any) (Q:=Q) (W:=W) (a0:=a) (n:=n) (g:=l.length - n) (dst:=dst) (R:=R) (S:=S) hR b1 b2 b3
  (λi o hi ho e he hb=>by
   have:=List.all_eq_true.1 b4 i (List.mem_range.2 hi)
   simp only [ho] at this;have h2:=Array.all_eq_true_iff_forall_mem.1 this e he;simpa [hb] using h2) hdst hinj (λi o hi ho=>hop i o hi (by simpa using ho))
  (λlisted a' w' inv hall hJ=>by
   have hD:=Qo7 (D:=D) inv hall b5 (λj hj=>by
    have:=List.all_eq_true.1 b6 j (List.mem_range.2 hj)
    simpa using this)
   subst hD;obtain ⟨vs,hvs,hss,rfl⟩:=hJ.act hall hdst hinj;have h1:=hend vs w' hJ.below hvs hss;have h2:=Xd (P:=P) (ops:=l.toArray) (md:=.any) (Q:=Q) (F:=0) (l.drop n) n listed (Wr dst vs a n) w' (λj hj=>by simp) (by simpa using b7) (by
    refine Tk.wpList_mixmono (λa2 w2 h3=>?_) _ _ _ h1;refine ⟨?_,h3⟩;have:=b8
    simpa using this)
   simpa using h2) n (Array.replicate l.toArray.size false) a W.drew
  ⟨by simp,λj oj hj hl=>(by rw [getD_replicate_false] at hl;cases hl),λt ht hts=>getD_in (by simpa using hts) (getD_replicate_false _ _)⟩
  (by rw [List.countP_eq_length.2 (λi hi=>by show (!(Array.replicate _ false).getD i false)=true;rw [getD_replicate_false];rfl)];simp)
  ⟨(Below.refl _ _).drew,rfl,rfl,λt _=>rfl,λi hi hl=>(by rw [getD_replicate_false] at hl;cases hl),λi j _ _ _ hl=>(by rw [getD_replicate_false] at hl;cases hl)⟩
 have e:n+(l.length - n)=l.toArray.size:=by simp;omega
 rw [e] at key;exact key
end
end
def dfS (as:List Nat) (i:Nat) (v:Value) (j:Nat) (u:Value):Prop:=i∈as->j∈as->∀b b':Nat,v=.pointer (some ⟨b,0,none⟩)->u=.pointer (some ⟨b',0,none⟩)->b≠b'
theorem Mv {as:List Nat} {i j:Nat} {v u:Value} (h:i ∉ as):dfS as i v j u:=λk=>absurd k h
theorem Mw {as:List Nat} {i j:Nat} {v u:Value} (h:j ∉ as):dfS as i v j u:=λ_ k=>absurd k h
theorem Fc {as:List Nat} {i j:Nat} {v u:Value} {X:World} {b':Nat} (hv:v=.pointer (some ⟨X.heap.size,0,none⟩)) (hu:u=.pointer (some ⟨b',0,none⟩)) (hb:b'<X.heap.size):dfS as i v j u∧dfS as j u i v:=by
 subst hv hu;refine ⟨λ_ _ b c h1 h2=>?_,λ_ _ b c h1 h2=>?_⟩
 all_goals
  injection h1 with h1;injection h1 with h1;injection h1 with h1;injection h2 with h2;injection h2 with h2;injection h2 with h2;omega
