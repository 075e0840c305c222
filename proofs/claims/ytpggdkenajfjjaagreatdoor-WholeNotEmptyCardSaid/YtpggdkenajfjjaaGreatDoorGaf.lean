/- Lemmas for wholeNotEmpty; no conditions. -/
import Derived.Test.YtpggdkenajfjjaaGreatDoorGad
import Derived.Deep.OwnRows
set_option linter.all false
set_option maxRecDepth 100000
set_option maxHeartbeats 16000000
namespace Go.Proofs.YtpggdkenajfjjaaGreatDoor
open Go.RowKit
section
structure TbV (w:World) (base hi T n:Nat) (e:TypeId) (size:Nat) (rows:Nat->List Value) (V:Nat->Value):Prop where
 cell:∀p,p<n->w.cell? ⟨T,p,none⟩=some (V p)
 row:∀p,p<n->∃l,w.ownsRow base e size (V p) l (rows p)
 off:∀p,p<n->(V p).ownBlock≠some T
 apart:∀p q,p<n->q<n->p≠q->∀g,(V p).ownBlock=some g->(V q).ownBlock≠some g
 bd:∀p,p<n->∀g,(V p).ownBlock=some g->g<hi
structure Tb (w:World) (base hi T n:Nat) (e:TypeId) (size:Nat) (rows:Nat->List Value):Prop where
 lt:T<w.heap.size
 tb:T<base
 hib:hi≤w.heap.size
 fr:∀i,w.frozen? ⟨T,i,none⟩=false
 ex:∃V,TbV w base hi T n e size rows V
section
variable {w w':World} {base hi T n size:Nat} {e:TypeId} {rows:Nat->List Value}
theorem Tb.made (w:World) (n:Nat) (e t:TypeId) (size:Nat):Tb (w.alloc (.cells (madeCells #[.slice none 0 0] n) t)) (w.heap.size+1) (w.heap.size+1) w.heap.size n e size (λ_=>[]):=by
 have h:=World.rowIs_made w (.slice none 0 0) n t;refine ⟨by simp,by omega,by simp,λi=>h.frozen i,λ_=>.slice none 0 0,λp hp=>h.cell hp,λp hp=>⟨0,QV _ _ _ _⟩,λp hp=>by simp [Value.ownBlock],λp q _ _ _ g hg=>by simp [Value.ownBlock] at hg,λp hp g hg=>by simp [Value.ownBlock] at hg⟩
theorem Tb.below (h:Tb w base hi T n e size rows) (hb:Below w.heap.size w w'):Tb w' base hi T n e size rows:=by
 obtain ⟨V,hV⟩:=h.ex;refine ⟨ZI h.lt hb.size,h.tb,ZO h.hib hb.size,λi=>(hb.frozen (p:=⟨T,i,none⟩) h.lt).trans (h.fr i),V,λp hp=>(hb.cell (p:=⟨T,p,none⟩) h.lt).trans (hV.cell p hp),λp hp=>?_,hV.off,hV.apart,hV.bd⟩;obtain ⟨l,hl⟩:=hV.row p hp;exact ⟨l,hl.kept (Qr hb none) (by cases (V p).ownBlock<;>simp)⟩
theorem Tb.get (h:Tb w base hi T n e size rows) {p:Nat} (hp:p<n):∃v l,w.cell? ⟨T,p,none⟩=some v∧w.ownsRow base e size v l (rows p)∧v.ownBlock≠some T∧∀g,v.ownBlock=some g->g<hi:=by
 obtain ⟨V,hV⟩:=h.ex;obtain ⟨l,hl⟩:=hV.row p hp;exact ⟨V p,l,hV.cell p hp,hl,hV.off p hp,hV.bd p hp⟩
def upd (rows:Nat->List Value) (p:Nat) (u:List Value):Nat->List Value:=λq=>if q=p then u else rows q
theorem Tb.put (h:Tb w base hi T n e size rows) {p l:Nat} (hp:p<n) {v v':Value} {news:List Value} (hc:w.cell? ⟨T,p,none⟩=some v)
 (hown:w'.ownsRow base e size v' l (rows p++news)) (hg:w.grownBy w' v.ownBlock) (hat:v'.ownBlock=v.ownBlock∨v'.ownBlock=some w.heap.size):
 Tb (w'.setCell ⟨T,p,none⟩ v') base w'.heap.size T n e size (upd rows p (rows p++news)):=by
 obtain ⟨V,hV⟩:=h.ex;have hv:V p=v:=by have:=(hV.cell p hp).symm.trans hc;simpa using this
 subst hv;have hT:=hV.off p hp;have hcT:∀q,q<n->w'.cell? ⟨T,q,none⟩=some (V q):=λq hq=>hg.cell (a:=⟨T,q,none⟩) (hV.cell q hq) (λk=>hT k.symm)
 have hfT:∀i,w'.frozen? ⟨T,i,none⟩=false:=λi=>by
  rw [QU (w:=w) (a:=⟨T,i,none⟩) (hg.block T h.lt (λk=>hT k.symm))];exact h.fr i
 have hlt':T<w'.heap.size:=ZI h.lt hg.size;have hnewT:v'.ownBlock≠some T:=by
  rcases hat with k|k
  .rw [k];exact hT
  rw [k];intro k2;injection k2 with k2;have:=h.lt;omega
 have hgrow:w'.grownBy (w'.setCell ⟨T,p,none⟩ v') (some T):=Qv (QN _ _) (.inl rfl) _;refine ⟨by rw [World.size_setCell];exact hlt',h.tb,by rw [World.size_setCell];exact ZH _,λi=>by rw [World.frozen?_setCell];exact hfT i,λq=>if q=p then v' else V q,λq hq=>?_,λq hq=>?_,λq hq=>?_,λq r hq hr hne g=>?_,λq hq g=>?_⟩
 .by_cases hqp:q=p
  .subst hqp;rw [ZM rfl];exact World.cell?_setCell_same' _ _ _ (by rw [hcT q hq];rfl)
  rw [ZL hqp,QP _ _ _ _ (λk=>hqp (by injection k with _ k;exact k.symm))];exact hcT q hq
 .unfold upd;by_cases hqp:q=p
  .subst hqp;rw [ZM rfl,ZM rfl];exact ⟨l,hown.kept hgrow (.inr hnewT)⟩
  rw [ZL hqp,ZL hqp];obtain ⟨lq,hlq⟩:=hV.row q hq;refine ⟨lq,(hlq.kept hg ?_).kept hgrow (.inr (hV.off q hq))⟩;cases hb:(V q).ownBlock with
  |none=>exact .inl rfl
  |some g=>exact .inr (λk=>hV.apart q p hq hp hqp g hb k.symm)
 .show (if q=p then v' else V q).ownBlock≠some T
  by_cases hqp:q=p
  .rw [ZM hqp];exact hnewT
  rw [ZL hqp];exact hV.off q hq
 .show (if q=p then v' else V q).ownBlock=some g->(if r=p then v' else V r).ownBlock≠some g
  have hold:∀q,q<n->∀g,(V q).ownBlock=some g->g<w.heap.size:=λq hq g hb=>by
   obtain ⟨lq,hlq⟩:=hV.row q hq;exact (hlq.lt g hb).2
  by_cases hqp:q=p
  .subst hqp;rw [ZM rfl,ZL (λk=>hne k.symm)];intro hgq hgr;rcases hat with k|k
   .exact hV.apart q r hq hr hne g (k▸hgq) hgr
   rw [k] at hgq;injection hgq with hgq;have:=hold r hr g hgr;omega
  rw [ZL hqp];intro hgq;by_cases hrp:r=p
  .subst hrp;rw [ZM rfl];intro hgr;rcases hat with k|k
   .exact hV.apart q r hq hr hne g hgq (k▸hgr)
   rw [k] at hgr;injection hgr with hgr;have:=hold q hq g hgq;omega
  rw [ZL hrp];exact hV.apart q r hq hr hne g hgq
 show (if q=p then v' else V q).ownBlock=some g->g<w'.heap.size
 by_cases hqp:q=p
 .rw [ZM hqp];exact λhg'=>(hown.lt g hg').2
 rw [ZL hqp];exact λhg'=>ZI (hV.bd q hq g hg') (ZO h.hib hg.size)
theorem Tb.congr (h:Tb w base hi T n e size rows) {rows':Nat->List Value} (hr:∀p,p<n->rows p=rows' p):Tb w base hi T n e size rows':=by
 obtain ⟨V,hV⟩:=h.ex;exact ⟨h.lt,h.tb,h.hib,h.fr,V,hV.cell,λp hp=>hr p hp▸hV.row p hp,hV.off,hV.apart,hV.bd⟩
structure Tn (base hi:Nat) (w w':World):Prop where
 os:w'.os=w.os
 tape:w'.tape=w.tape
 output:w'.output=w.output
 size:w.heap.size≤w'.heap.size
 block:∀k,k<w.heap.size->(k<base∨hi≤k)->w'.heap[k]? =w.heap[k]?
theorem Tn.cell (h:Tn base hi w w') {p:Addr} {v:Value} (hc:w.cell? p=some v) (hp:p.block<base∨hi≤p.block):w'.cell? p=some v:=
 (QR (h.block _ (QO w p hc) hp)).trans hc
theorem Tn.frozen (h:Tn base hi w w') {p:Addr} (hl:p.block<w.heap.size) (hp:p.block<base∨hi≤p.block):w'.frozen? p=w.frozen? p:=QU (h.block _ hl hp)
theorem Tn.bx (h:Tn base hi w w') {g:Nat} {vs:List Value} (hX:Bx w g vs) (hp:g<base∨hi≤g):Bx w' g vs:=
 ⟨λi u hu=>h.cell (p:=⟨g,i,none⟩) (hX.cell i u hu) hp,λi=>(QU (w:=w) (a:=⟨g,i,none⟩) (h.block g hX.lt hp)).trans (hX.fr i),ZI hX.lt h.size⟩
theorem Tn.below (h:Tn base hi w w') (hb:base≤w.heap.size):Below base w w':=
 ⟨h.os,h.tape,h.output,h.size,λk hk=>h.block k (ZI hk hb) (.inl hk)⟩
end
section
variable {P:Program} {t e:TypeId} {z:Value} {size bytes:Nat}
theorem Vl6 {o:Oper} {a:Act} {K:Act->World->Prop} {Q:Exit->Act->World->Prop} (ht:P.underlying t=some (.slice e)) (hinfo:(P.info? e).map (λi=>(i.zero,i.size,i.bytes))=some (some z,size,bytes)) (hzs:z.cells.size=size) (hs0:0<size) (hb0:0<bytes) (W:World) (s x:Operand)
 (ho:o.op=.call {callee:=.builtin .append,args:=#[s,x],argTypes:=#[t,t]})
 (base hi T n:Nat) (rows:Nat->List Value) (hT:Tb W base hi T n e size rows) (p:Nat) (hp:p<n) (v:Value) (hc:W.cell? ⟨T,p,none⟩=some v) (hs:a.eval s=v)
 (news:List Value) (g:Nat) (hx:a.eval x=.slice (some ⟨g,0,none⟩) 1 1) (hl:news.length=size) (hnews:∀j u,news[j]? =some u->W.cell? ((⟨g,0,none⟩:Addr).add j)=some u) (h1:∀u∈news,u.oneCell'=true)
 (hn:∀l,(rows p).length=l*size->(l+1)*bytes≤140737488355328) (hbase:base≤W.heap.size)
 (h:∀A' n' c' w',(∀w2,Below w'.heap.size w' w2->Tb (w2.setCell ⟨T,p,none⟩ (.slice A' n' c')) base w'.heap.size T n e size (upd rows p (rows p++news)))->Tn base hi W w'->K (a.put o.dst (.slice A' n' c')) w'):
 o.wp P a W K Q:=by
 obtain ⟨v0,l,hc0,hown,hoff,hbd⟩:=hT.get hp;have hv:v0=v:=by have:=hc0.symm.trans hc;simpa using this
 subst hv;obtain ⟨i,hi',hz,hsz,hby⟩:∃i,P.info? e=some i∧i.zero=some z∧i.size=size∧i.bytes=bytes:=by
  cases hq:P.info? e with
  |none=>rw [hq] at hinfo;simp at hinfo
  |some i=>rw [hq] at hinfo;simp at hinfo;exact ⟨i,rfl,hinfo.1,hinfo.2.1,hinfo.2.2⟩
 have hle:=hn l hown.1;have hle2:l+1≤(l+1)*bytes:=Nat.le_mul_of_pos_right _ hb0;obtain ⟨v',w',hr,h2,h3,h4,h5⟩:=run_append_own_at (P:=P) W base t o.type e i z size bytes ht hi' hz hsz hby hzs hs0 v0 l (rows p) hown ⟨g,0,none⟩ 1 1 news (by rw [hl,Nat.one_mul]) hnews h1 (by unfold maxLen;omega) hle hbase;unfold Oper.wp execOp;simp only [ho,resolve,invoke,builtin,Sem.run_bind,Sem.run_pure,Result.andThen_ok,List.map_toArray,List.map_cons,List.map_nil,hs,hx,hr];obtain ⟨A',n',c',rfl⟩:∃A' n' c',v'=.slice A' n' c':=by
  rcases h2.2 with ⟨hv,_⟩|⟨g',c',cur,hv,_⟩
  .exact ⟨_,_,_,hv⟩
  exact ⟨_,_,_,hv⟩
 generalize hv':(Value.slice A' n' c')=v' at h2 h4 h5 |-
 have h:=h A' n' c' w';rw [hv'] at h;refine h (λw2 hb=>?_) ⟨h3.os,h3.tape,h3.output,h3.size,λk hk hkp=>h3.block k hk (λe=>?_)⟩
 .have h2':=h2.kept (Qr hb none) (by cases v'.ownBlock<;>simp);have h3':W.grownBy w2 v0.ownBlock:=Qa h3 hb;have:=hT.put hp hc h2' h3' h5
  refine ⟨this.lt,this.tb,ZO hb.size (by rw [World.size_setCell];exact ZH _),this.fr,?_⟩;obtain ⟨V,hV⟩:=this.ex;refine ⟨V,hV.cell,hV.row,hV.off,hV.apart,λq hq g' hg'=>?_⟩;by_cases hqp:q=p
  .subst hqp;have hVp:V q=v':=by
    have k1:=hV.cell q hq;rw [World.cell?_setCell_same' _ _ _ (by rw [h3'.cell (a:=⟨T,q,none⟩) hc (λk=>hoff k.symm)];rfl)] at k1;simpa using k1.symm
   rw [hVp] at hg';exact (h2.lt g' hg').2
  have k1:=hV.cell q hq;rw [QP _ _ _ _ (λk=>hqp (by injection k with _ k;exact k.symm))] at k1;obtain ⟨_,_,hcq,_,_,hbq⟩:=hT.get hq;have:=(h3'.cell (a:=⟨T,q,none⟩) hcq (λk=>hoff k.symm)).symm.trans k1
  injection this with this;subst this;exact ZI (hbq g' hg') (ZO hT.hib h3.size)
 have:=hbd k e.symm
 have hge:=(hown.lt k e.symm).1;omega
theorem Zl2 {ops:Array Oper} {o:Oper} {a:Act} {K:Act->World->Prop} {Q:Exit->Act->World->Prop} {N:Prop} (ht:P.underlying t=some (.slice e)) (hinfo:(P.info? e).map (λi=>(i.zero,i.size,i.bytes))=some (some z,size,bytes)) (hzs:z.cells.size=size) (hs0:0<size) (hb0:0<bytes) (W:World) (hgd:o.guard=none) (s x:Operand)
 (ho:o.op=.call {callee:=.builtin .append,args:=#[s,x],argTypes:=#[t,t]})
 (base hi T n:Nat) (rows:Nat->List Value) (hT:Tb W base hi T n e size rows) (p:Nat) (hp:p<n) (v:Value) (hc:W.cell? ⟨T,p,none⟩=some v) (hs:a.eval s=v)
 (news:List Value) (g:Nat) (hx:a.eval x=.slice (some ⟨g,0,none⟩) 1 1) (hl:news.length=size) (hnews:∀j u,news[j]? =some u->W.cell? ((⟨g,0,none⟩:Addr).add j)=some u) (h1:∀u∈news,u.oneCell'=true)
 (hn:∀l,(rows p).length=l*size->(l+1)*bytes≤140737488355328) (hbase:base≤W.heap.size)
 (h:∀A' n' c' w',(∀w2,Below w'.heap.size w' w2->Tb (w2.setCell ⟨T,p,none⟩ (.slice A' n' c')) base w'.heap.size T n e size (upd rows p (rows p++news)))->Tn base hi W w'->K (a.put o.dst (.slice A' n' c')) w'):
 if Region.wanted o (yielded ops a.tmps)=true then Oper.wp P o a W K Q else N:=by
 have hw:Region.wanted o (yielded ops a.tmps)=true:=by simp [Region.wanted,hgd]
 rw [ZM hw];exact Vl6 ht hinfo hzs hs0 hb0 W s x ho base hi T n rows hT p hp v hc hs news g hx hl hnews h1 hn hbase h
end
end
