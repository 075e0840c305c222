/- Lemmas for wholeNotEmpty; no conditions. -/
import Derived.Test.YtpggdkenajfjjaaGreatDoorGab
import Derived.OrdersIn
import Derived.TacticsIn
set_option linter.all false
set_option maxRecDepth 100000
set_option maxHeartbeats 16000000
namespace Go.Proofs.YtpggdkenajfjjaaGreatDoor
open Go.RowKit
section
section
variable {P:Program} {ops:Array Oper} {md:Region.Mode} {Q:Exit->Act->World->Prop} {F:Fence} {nF:Nat}
theorem Qc5 {α:Type} (s:Sem α) (g:α->Next) (x:Next) (hg:∀a,g a≠x) (w':World):
 ∀w,(s.bind λv=>Sem.pure (g v)).run P w≠.ok x w':=by
 induction s with
 |pure a=>intro w h;simp [Sem.bind,Sem.run] at h;exact hg _ h.1
 |halt x=>intro w h;simp [Sem.bind] at h
 |load m a k ih=>
  intro w h;simp only [Sem.bind,Sem.run] at h;split at h
  .exact ih _ _ h
  split at h
  .exact ih _ _ h
  cases h
 |store m a v k ih=>
  intro w h;simp only [Sem.bind] at h;cases v<;>simp only [Sem.run] at h<;>first|(cases h;done)|skip
  all_goals
   split at h
   .split at h
    .cases h
    exact ih _ h
   .split at h
    .exact ih _ h
    cases h
 |getObj r k ih=>
  intro w h;simp only [Sem.bind,Sem.run] at h;split at h
  .cases h
  .exact ih _ _ h
  cases h
 |setObj r o k ih=>
  intro w h;simp only [Sem.bind,Sem.run] at h;split at h
  .cases h
  .exact ih _ h
  cases h
 |choose q k ih=>
  intro w h;simp only [Sem.bind,Sem.run] at h;split at h
  .exact ih _ _ h
  exact ih _ _ h
 |_=>
  intro w h;simp only [Sem.bind,Sem.run] at h;rename_i ih
  first|exact ih _ h|exact ih _ _ h
def inB:Op->Bool
 |.move _|.assign _|.pick _ _ _|.load _ _|.store _ _ _|.fieldAddr _ _ _|.indexAddr _ _ _|.index _ _ _|.field _ _ _|.extract _ _|.build _ _|.binOp _ _ _ _ _|.unOp _ _ _|.convert _ _ _=>true
 |_=>false
def Vm3:Next->Prop
 |.value _=>True
 |.skip=>True
 |_=>False
theorem Js8 {o:Oper} (h:inB o.op=true) (ρ:Operand->Value) (w:World) (x:Next) (hx:¬Vm3 x) (w':World):(execOp ρ o).run P w≠.ok x w':=by
 have h1:∀v,Next.value v≠x:=λv e=>hx (by rw [<-e];trivial)
 have h2:Next.skip≠x:=λe=>hx (by rw [<-e];trivial)
 unfold execOp;split<;>(rename_i ho;rw [ho] at h)<;>first
  |(simp [inB] at h;done)
  |exact Qc5 _ (λv=>Next.value v) _ (λv=>h1 v) _ _
  |exact Qc5 _ (λ_=>Next.skip) _ (λ_=>h2) _ _
  |exact Qc5 _ (λv=>Next.value (if v=true then _ else _)) _ (λv=>h1 _) _ _
  |(intro h;simp [pure,Sem.run] at h;exact h1 _ h.1)
theorem Ql4 {o:Oper} (h:inB o.op=true) (w:World) (ρ:Operand->Value):o.about P w ρ=none:=by
 unfold Oper.about;cases ho:o.op<;>rw [ho] at h<;>first|rfl|(simp [inB] at h;done)
theorem Ve7 {o:Oper} (h:inB o.op=true) (ro:Option Nat) (ρ:Operand->Value):Oper.semAt ro ρ o=execOp ρ o:=
 Oper.semAt_eq ro ρ o λc e=>by rw [e] at h;cases h
theorem Ze1 {o:Oper} (hp:inB o.op=true) {a:Act} {w:World} {K:Act->World->Prop} (h:o.wp P a w K Q):o.wpIn F nF P a w K Q:=by
 unfold Oper.wpIn;refine ⟨λf hf=>(by rw [Ql4 hp] at hf;cases hf),?_⟩;rw [Ve7 hp];have hne:=λx hx=>Js8 (P:=P) hp a.eval w x hx
 unfold Oper.wp at h;generalize (execOp a.eval o).run P w=r at h hne |-
 cases r with
 |ok x w'=>
  cases x with
  |value v=>exact h
  |skip=>exact h
  |_=>exact (hne _ (by simp [Vm3]) _ rfl).elim
 |halt x w'=>cases x<;>exact h
theorem Qa7 (hQ:¬LetsOut Q) (hp:∀(i:Nat) (o:Oper),ops[i]? =some o->inB o.op=true):∀f listed a w,wpAny P md ops Q f listed a w->wpAnyIn F nF P md ops Q f listed a w
 |0,listed,a,w,h=>h
 |f+1,listed,a,w,h=>by
  refine ⟨h.1,λi hi=>?_⟩;have h2:=h.2 i hi;unfold wpOp at h2;unfold wpOpIn;cases ho:ops[i]? with
  |none=>rw [ho] at h2;exact Qa7 hQ hp f _ _ _ h2
  |some o=>
   rw [ho] at h2;dsimp only at h2 |-
   split
   .rename_i hw
    rw [ZM hw] at h2;rcases h2 with h2|⟨_,h2⟩
    .exact Ze1 (hp i o ho) (Oper.wp_mono (λa w k=>Qa7 hQ hp f _ a w k) h2)
    exact absurd h2 hQ
   rename_i hw
   rw [ZL hw] at h2;exact ⟨λg hg=>(by rw [Ql4 (hp i o ho)] at hg;cases hg),Qa7 hQ hp f _ _ _ h2⟩
end
section
variable {P:Program} {ops:Array Oper} {md:Region.Mode} {Q:Exit->Act->World->Prop} {T:Bool->World->Prop} {t:Nat} {F:Fence} {nF:Nat}
def SAt (P:Program) (T:Bool->World->Prop) (t i:Nat) (o:Oper) (a:Act) (v:Value):Prop:=
 ∀b w,(i=t->b=false)->T b w->(i≠t->o.quietAt P a (T b) w v)∧(i=t->v=undef∧∃w',(execOp a.eval o).run P w=.ok .skip w'∧T true w')
def YS (P:Program) (ops:Array Oper) (T:Bool->World->Prop) (t i:Nat) (o:Oper) (v:Value) (a:Act):Prop:=
 (Region.wanted o (yielded ops a.tmps)=true∧SAt P T t i o a v)∨(Region.wanted o (yielded ops a.tmps)=false∧v=undef∧i≠t)
def sOp (P:Program) (ops:Array Oper) (T:Bool->World->Prop) (t i:Nat) (K:Act->Prop) (a:Act):Prop:=∃o v,ops[i]? =some o∧YS P ops T t i o v a∧K (a.put o.dst v)
theorem Jl6 {i:Nat} {a:Act} {K K':Act->Prop} (h:∀a,K a->K' a) (hh:sOp P ops T t i K a):sOp P ops T t i K' a:=
 let ⟨o,v,h1,h2,h3⟩:=hh
 ⟨o,v,h1,h2,h _ h3⟩
theorem YS.of_same {i:Nat} {o:Oper} {v:Value} {a a':Act} (hy:YS P ops T t i o v a) (he:execOp a'.eval o=execOp a.eval o)
 (hw:Region.wanted o (yielded ops a'.tmps)=Region.wanted o (yielded ops a.tmps)):YS P ops T t i o v a':=by
 unfold YS SAt Oper.quietAt at*;rw [he,hw];exact hy
theorem Vx4 {i j:Nat} {oi oj:Oper} {v:Value} (hj:ops[j]? =some oj) (hap:oi.apart ops oj=true)
 (hsi:∀cs b,oi.op≠.select cs b) (hsj:∀cs b,oj.op≠.select cs b) {K:Act->Prop} {a:Act} (hy:YS P ops T t i oi v a) (h:sOp P ops T t j K (a.put oi.dst v)):
 sOp P ops T t j (λa'=>YS P ops T t i oi v a'∧K (a'.put oi.dst v)) a:=by
 obtain ⟨h1,h2,h3⟩:=Oper.apart_spec hap;obtain ⟨o,u,ho,hu,hK⟩:=h;have:o=oj:=Option.some.inj (ho.symm.trans hj)
 subst this;refine ⟨o,u,hj,hu.of_same (execOp_put o hsj a oi.dst v h1).symm (wanted_put o a oi.dst v h1).symm,hy.of_same (execOp_put oi hsi a o.dst u h3) (wanted_put oi a o.dst u h3),?_⟩;rw [<-Act.put_comm a v u h2];exact hK
theorem Qt5 {i:Nat} {a:Act} {K:Act->Prop} {K':Act->World->Prop} {w:World} {b:Bool} (hT:T b w) (hi:i=t->b=false)
 (h:∀a w',T (b||decide (i=t)) w'->K a->K' a w') (hh:sOp P ops T t i K a):wpOp P ops Q i K' a w:=by
 obtain ⟨_,v,ho,hy,hK⟩:=hh;unfold wpOp;simp only [ho];rcases hy with ⟨hw,hy⟩|⟨hw,rfl,hne⟩
 .rw [ZM hw];left
  by_cases hit:i=t
  .obtain ⟨h1,h2⟩:=hy b w hi hT;obtain ⟨rfl,w',hr,hT'⟩:=h2 hit;unfold Oper.wp;rw [hr];simp only [Oper.upon];exact h _ _ (by rw [ZE hit,Bool.or_true];exact hT') hK
  have hb:(b||decide (i=t))=b:=by rw [ZA hit,Bool.or_false]
  rw [hb] at h;refine Oper.wp_of_quiet (C:=T b) hT (K:=λa'=>K a') h ⟨v,λw hw=>?_,hK⟩;exact (hy b w (λe=>absurd e hit) hw).1 hit
 rw [ZL (by rw [hw];exact Bool.false_ne_true)];have hb:(b||decide (i=t))=b:=by rw [ZA hne,Bool.or_false]
 rw [hb] at h;exact h _ _ hT hK
def Qq4 (P:Program) (md:Region.Mode) (ops:Array Oper) (T:Bool->World->Prop) (t n:Nat) (L:Array Bool->Act->Prop):Nat->Array Bool->Act->Prop
 |0,listed,a=>L listed a
 |f+1,listed,a=>Region.ready md ops listed≠[]∧∀i∈Region.ready md ops listed,i<n∧sOp P ops T t i (Qq4 P md ops T t n L f (listed.setIfInBounds i true)) a
theorem Av {n g:Nat} {L:Array Bool->Act->Prop} (hL:∀listed a w,T (listed.getD t false) w->L listed a->wpAny P md ops Q g listed a w):
 ∀(f:Nat) (listed:Array Bool) (a:Act) (w:World),T (listed.getD t false) w->Qq4 P md ops T t n L f listed a->wpAny P md ops Q (f+g) listed a w
 |0,listed,a,w,hw,h=>by rw [Nat.zero_add];exact hL _ _ _ hw h
 |f+1,listed,a,w,hw,h=>by
  rw [show f+1+g=(f+g)+1 by omega];refine ⟨λh0=>absurd h0 h.1,λi hi=>?_⟩;have hun:=(mem_ready.1 hi).1;have hlt:i<listed.size:=by
   rcases ZJ i listed.size with h'|h'
   .exact h'
   simp [Array.getElem?_eq_none h'] at hun
  refine Qt5 hw (λe=>by subst e;exact getD_both hun) (λa' w' hw' h'=>Av hL f _ a' w' ?_ h') (h.2 i hi).2;have:(listed.setIfInBounds i true).getD t false=(listed.getD t false||decide (i=t)):=by
   by_cases hit:i=t
   .subst hit;rw [ZE rfl,Bool.or_true];simp [hlt]
   rw [ZA hit,Bool.or_false];exact getD_set_ne false hit
  rw [this];exact hw'
theorem Qd1 {k n i:Nat} {oi:Oper} {v:Value} {L:Array Bool->Act->Prop} (hi:ops[i]? =some oi) (hsel:∀(j:Nat) (o:Oper) cs b,ops[j]? =some o->o.op≠.select cs b)
 (hs:Yd md ops k n=true) (hc:Yn md ops n=true) (hki:k≤i) (hin:i<n)
 (hdone:∀listed a,L listed a->∀j∈Region.ready md ops listed,n≤j):
 ∀(f:Nat) (listed:Array Bool) (a:Act),HeadInv md ops n listed->
  (∀j oj,ops[j]? =some oj->j≠i->listed.getD j true=false->(∀e∈oj.after,Region.binds md e=true->e.on≠i)->oi.apart ops oj=true)->
  i∈Region.ready md ops listed->YS P ops T t i oi v a->
  Qq4 P md ops T t n L f (listed.setIfInBounds i true) (a.put oi.dst v)->Qq4 P md ops T t n L (f+1) listed a:=by
 intro f;induction f with
 |zero=>
  intro listed a inv _ hr hy H;have hun:=(mem_ready.1 hr).1;refine ⟨λh=>(by rw [h] at hr;cases hr),λj hj=>?_⟩;have hjn:j<n:=by
   rcases ZJ j n with h|h
   .exact h
   exact absurd hj (Vi hs hc inv _ i rfl hki hin hun j h)
  refine ⟨hjn,?_⟩;by_cases hji:j=i
  .subst hji;exact ⟨oi,v,hi,hy,H⟩
  have:=hdone _ _ H j (ready_mono hj hji)
  omega
 |succ f ih=>
  intro listed a inv hfree hr hy H;have hun:=(mem_ready.1 hr).1;refine ⟨λh=>(by rw [h] at hr;cases hr),λj hj=>?_⟩;have hjn:j<n:=by
   rcases ZJ j n with h|h
   .exact h
   exact absurd hj (Vi hs hc inv _ i rfl hki hin hun j h)
  refine ⟨hjn,?_⟩;by_cases hji:j=i
  .subst hji;exact ⟨oi,v,hi,hy,H⟩
  have h1:=(H.2 j (ready_mono hj hji)).2;obtain ⟨hjun,oj,hoj,hall⟩:=mem_ready.1 hj;have hnot:∀e∈oj.after,Region.binds md e=true->e.on≠i:=λe he hb heq=>by
   have h1:=hall e he hb;rw [heq,getD_both hun] at h1;cases h1
  have h2:=Vx4 hoj (hfree j oj hoj hji hjun hnot) (λcs b=>hsel i oi cs b hi) (λcs b=>hsel j oj cs b hoj) hy h1;have hfree':∀k ok,ops[k]? =some ok->k≠i->(listed.setIfInBounds j true).getD k true=false->
   (∀e∈ok.after,Region.binds md e=true->e.on≠i)->oi.apart ops ok=true:=λk ok hk hki hun hno=>by
   refine hfree k ok hk hki ?_ hno;by_cases hjk:j=k
   .subst hjk;exact hjun
   .rw [getD_set_ne true hjk] at hun;exact hun
  refine Jl6 (λa' h3=>ih (listed.setIfInBounds j true) a' (inv.set hj hjn) hfree' (ready_mono hr (Ne.symm hji)) h3.1 ?_) h2;rw [Array.setIfInBounds_comm _ _ hji];exact h3.2
def wpS (P:Program) (ops:Array Oper) (T:Bool->World->Prop) (t:Nat) (Lq:Act->Prop):Nat->List Oper->Act->Prop
 |_,[],a=>Lq a
 |i,o::rest,a=>∃v,YS P ops T t i o v a∧wpS P ops T t Lq (i+1) rest (a.put o.dst v)
theorem Lp {n:Nat} {Lq:Act->Prop} {done:Array Bool} (hsel:Region.noSelect ops=true) (hc:Yn md ops n=true)
 (hdone:∀j∈Region.ready md ops done,n≤j):
 ∀(l:List Oper) (k:Nat) (listed:Array Bool) (a:Act),(∀j,j<l.length->l[j]? =ops[k+j]?)->k+l.length=n->Yd md ops k n=true->HeadInv md ops n listed->
 Ce l.length k listed=done->Bw md ops l.length k listed=true->wpS P ops T t Lq k l a->
 Qq4 P md ops T t n (λlisted' a'=>listed'=done∧Lq a') l.length listed a
 |[],k,listed,a,_,hk,_,_,hm,hB,h=>⟨hm,h⟩
 |o::l,k,listed,a,hl,hk,hs,inv,hm,hB,h=>by
  have h0:ops[k]? =some o:=by simpa using (hl 0 (by simp)).symm
  simp only [QI,Bw,ZX] at hB;obtain ⟨⟨hr,hf⟩,hB'⟩:=hB;have hkn:k<n:=by simp only [QI] at hk;omega
  have hr':k∈Region.ready md ops listed:=by simpa using hr
  obtain ⟨_,hy,hK⟩:=h;exact Qd1 (L:=λlisted' a'=>listed'=done∧Lq a') h0 (Region.noSelect_spec hsel) hs hc (ZH k) hkn (λlisted' a' hL=>by rw [hL.1];exact hdone) l.length listed a inv (Region.free_spec h0 hf) hr' hy
   (Lp hsel hc hdone l (k+1) _ _ (λj hj=>by have:=hl (j+1) (by simp;omega);simpa [Nat.add_assoc,Nat.add_comm 1 j] using this) (by simp only [QI] at hk;omega)
    (Sg hs (by omega)) (inv.set hr' hkn) hm hB' hK)
theorem Es {id:Nat} {a:Act} {W:World} {l:List Oper} (T:Bool->World->Prop) (t n:Nat) (hm:P.follows .mixedOrders=true) (hQ:¬LetsOut Q) (hB:Zf7 l.toArray t n=true) (hp:(l.all λo=>inB o.op)=true) (h0:T false W.drew)
 (h:wpS P l.toArray T t (λa'=>∀w',T true w'->wpList P l.toArray (Qx2 Q (λa w=>Q .normal a w)) (l.drop n) a' w') 0 (l.take n) a):(Code.region id l.toArray true).wpIn F nF P Q a W:=by
 simp only [Zf7,ZX,ZU] at hB;obtain ⟨⟨⟨⟨⟨⟨⟨⟨hsel,hn⟩,hinv⟩,hs⟩,hc⟩,hhead⟩,hforced⟩,ht⟩,hend⟩:=hB;refine wpIn_region_any hm ?_;refine Qa7 hQ (λi o ho=>List.all_eq_true.1 hp o (List.mem_of_getElem? (by simpa using ho))) _ _ _ _ ?_;have hn':n<l.length:=by simpa using hn
 have hf:(l.take n).length=n:=by rw [List.length_take];omega
 have hgl:(l.drop n).length=l.toArray.size - n:=by simp
 have hdone:∀j∈Region.ready .any l.toArray (Ce n 0 (Array.replicate l.toArray.size false)),n≤j:=by
  obtain ⟨g',hg'⟩:∃g',l.toArray.size - n=g'+1:=⟨l.toArray.size - n - 1,by omega⟩;rw [hg'] at hforced;simp only [Mn,ZX,ZU] at hforced;intro j hj;rw [hforced.1] at hj;have:j=n:=by simpa using hj
  omega
 have hq:=Lp (P:=P) (T:=T) (t:=t) (n:=n) hsel hc hdone (l.take n) 0 (Array.replicate l.toArray.size false) a
  (λj hj=>by rw [hf] at hj;rw [List.getElem?_take_of_lt hj];simp) (by rw [hf];omega) hs (Dm hinv) (by rw [hf]) (by rw [hf];exact hhead) h
 rw [hf] at hq;have hfin:=Av (P:=P) (Q:=Q) (g:=l.toArray.size - n) (λlisted' a' w' hw' hL=>by
  obtain ⟨rfl,hL⟩:=hL;rw [ht] at hw';have hL:=hL w' hw';have:=Xd (P:=P) (Q:=Q) (md:=.any) (ops:=l.toArray) (F:=0) (l.drop n) n _ a' w' (λj hj=>by rw [List.getElem?_drop];simp) (by rw [hgl];exact hforced)
   (Tk.wpList_mixmono (λa'' w'' hm=>by
    rw [hgl];exact ⟨hend,hm⟩) _ _ _ hL)
  rw [hgl] at this;exact this) n _ _ _ (by
   have:(Array.replicate l.toArray.size false).getD t false=false:=by
    rw [Array.getD_eq_getD_getElem?];by_cases h:t<l.length<;>simp [Array.getElem?_replicate,h]
   rw [this];exact h0) hq
 rw [show n+(l.toArray.size - n)=l.toArray.size by omega] at hfin;exact hfin
theorem Za6 {i:Nat} {o:Oper} {rest:List Oper} {a:Act} {Lq:Act->Prop} (hne:i≠t) (hw:Region.wanted o (yielded ops a.tmps)=true)
 (hp:∀w f args w',(execOp a.eval o).run P w≠.ok (.enter f args) w')
 (h:∀K:Act->Prop,(∀a,wpS P ops T t Lq (i+1) rest a->K a)->o.quiet P a (λw'=>∃x:TW T,w'=x.w) K):wpS P ops T t Lq i (o::rest) a:=by
 obtain ⟨v,h1,h2⟩:=h _ (λ_ h=>h);refine ⟨v,.inl ⟨hw,λb w _ hT=>⟨λ_=>?_,λe=>absurd e hne⟩⟩,h2⟩;have h3:=h1 w ⟨⟨b,w,hT⟩,rfl⟩;unfold Oper.quietAt at h3 |-
 cases hr:(execOp a.eval o).run P w with
 |halt x w'=>rw [hr] at h3;exact h3
 |ok n w'=>
  rw [hr] at h3;cases n
  case enter f args=>exact absurd hr (hp w f args w')
  all_goals exact h3
theorem Jj1 {i:Nat} {o:Oper} {rest:List Oper} {a:Act} {Lq:Act->Prop} (hne:i≠t) (hw:Region.wanted o (yielded ops a.tmps)=true) (hp:Qe5 o.op=true)
 (h:∀K:Act->Prop,(∀a,wpS P ops T t Lq (i+1) rest a->K a)->o.quiet P a (λw'=>∃x:TW T,w'=x.w) K):wpS P ops T t Lq i (o::rest) a:=
 Za6 hne hw (λw f args w'=>Qi2 hp _ w f args w') h
theorem Jv3 {i:Nat} {o:Oper} {rest:List Oper} {a:Act} {Lq:Act->Prop} (hi:i=t) (hw:Region.wanted o (yielded ops a.tmps)=true) (hr:∀w,T false w->∃w',(execOp a.eval o).run P w=.ok .skip w'∧T true w')
 (h:wpS P ops T t Lq (i+1) rest (a.put o.dst undef)):wpS P ops T t Lq i (o::rest) a:=
 ⟨undef,.inl ⟨hw,λb w hb hT=>⟨λe=>absurd hi e,λ_=>⟨rfl,by rw [hb hi] at hT;exact hr w hT⟩⟩⟩,h⟩
theorem Jt4 {i:Nat} {a:Act} {Lq:Act->Prop} (h:Lq a):wpS P ops T t Lq i [] a:=h
end
end
