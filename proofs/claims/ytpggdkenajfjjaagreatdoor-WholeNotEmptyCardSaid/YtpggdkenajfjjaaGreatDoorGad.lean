/- Lemmas for wholeNotEmpty; no conditions. -/
import Derived.WalkKit
import Derived.Laws.OwnMore
import Derived.Maps.AppendAt
import Derived.Deep.AppendLies
import Derived.Deep.Draws
import Derived.Laws.BytesArg
import Derived.Test.YtpggdkenajfjjaaGreatDoorGaa
import Derived.Laws.BitsAllLaws
import Derived.Laws.IdiomCopy
set_option linter.all false
set_option maxRecDepth 100000
set_option maxHeartbeats 16000000
namespace Go.Proofs.YtpggdkenajfjjaaGreatDoor
open Go.RowKit
def QK:=@Below.refl
def QL:=@bodyPost_ret
def QM:=@World.cell?_alloc_new
def QN:=@World.grownBy.refl
def QO:=@World.block_lt_of_cell?
def QP:=@World.cell?_setCell_other
def QQ:=@IntWalk.i64_in
def QR:=@World.cell?_of_block
def QU:=@World.frozen?_of_block
def QV:=@World.ownsRow_nil
def QX:=@rounds_succ
section
def Qe (xs:List Int) (i:Nat):Int:=xs.getD i 0
theorem Qf5 {xs:List Int} {i:Nat} {k:IntKind} (h:i<xs.length):(xs.map (Value.int k))[i]? =some (.int k (Qe xs i)):=by
 simp [Qe,h]
theorem Jf4 {xs:List Int} {i j:Nat}:Qe (xs.drop i) j=Qe xs (i+j):=by simp [Qe]
theorem Qm4 {xs:List Int} {i j:Nat} (h:j<i):Qe (xs.take i) j=Qe xs j:=by simp [Qe,h]
theorem Nm {xs ys:List Int} (hl:xs.length=ys.length) (h:∀i,i<xs.length->Qe xs i=Qe ys i):xs=ys:=by
 apply List.ext_getElem hl
 intro i h1 h2;have:=h i h1
 simp [Qe,h1,h2] at this
 exact this
theorem Jt2 {xs:List Int} {x:Int} (h:x∈xs):∃i,i<xs.length∧Qe xs i=x:=by
 obtain ⟨i,hi,he⟩:=List.getElem_of_mem h;exact ⟨i,hi,by simp [Qe,hi,he]⟩
theorem Ub {xs:List Int} {i:Nat} (h:i<xs.length):Qe xs i∈xs:=by
 simp [Qe,h]
theorem Jm8 {xs:List Int} {i:Nat} (h:i<xs.length):xs.drop i=Qe xs i::xs.drop (i+1):=by
 rw [List.drop_eq_getElem_cons h];simp [Qe,h]
theorem Qp2 {xs:List Int} {i:Nat} (h:i<xs.length):xs.take (i+1)=xs.take i++[Qe xs i]:=by
 rw [List.take_succ_eq_append_getElem h];simp [Qe,h]
def Rd (w:World) (B:Nat) (k:IntKind) (A:Option Addr) (n:Nat) (f:Nat->Int):Prop:=
 0<n->∃b off,A=some ⟨b,off,none⟩∧b<B∧∀i,i<n->w.cell? ⟨b,off+i,none⟩=some (.int k (f i))
def Ow (w:World) (base:Nat) (e:TypeId) (k:IntKind) (A:Option Addr) (c:Nat) (xs:List Int):Prop:=
 w.ownsRow base e 1 (.slice A xs.length c) xs.length (xs.map (Value.int k))
section
variable {w w':World} {B B' n c:Nat} {k:IntKind} {A:Option Addr} {f:Nat->Int} {base:Nat} {e:TypeId} {xs:List Int}
theorem Rd.zero:Rd w B k A 0 f:=λh=>absurd h (by omega)
theorem Rd.keep (h:Rd w B k A n f) (hk:∀p:Addr,p.block<B->w'.cell? p=w.cell? p):Rd w' B k A n f:=λhn=>by
 obtain ⟨b,off,e,hb,hc⟩:=h hn;exact ⟨b,off,e,hb,λi hi=>(hk _ hb).trans (hc i hi)⟩
theorem Rd.more (h:Rd w B k A n f) (hB:B≤B'):Rd w B' k A n f:=λhn=>by
 obtain ⟨b,off,e,_,hc⟩:=h hn;exact ⟨b,off,e,by omega,hc⟩
theorem Rd.below (h:Rd w B k A n f) (hb:Below B w w'):Rd w' B k A n f:=h.keep λ_ hp=>hb.cell hp
theorem Rd.drew (h:Rd w B k A n f):Rd w.drew B k A n f:=h
theorem Rd.alloc (h:Rd w B k A n f) (hB:B≤w.heap.size) (o:Obj):Rd (w.alloc o) B k A n f:=h.keep λp hp=>World.cell?_alloc_lt w o p (by omega)
theorem Rd.setCell (h:Rd w B k A n f) {p:Addr} (hB:B≤p.block) (u:Value):Rd (w.setCell p u) B k A n f:=
 h.keep λq hq=>QP w p q u (λe=>by subst e;omega)
theorem Rd.fewer (h:Rd w B k A n f) {m:Nat} (hm:m≤n):Rd w B k A m f:=λhn=>by
 obtain ⟨b,off,e,hb,hc⟩:=h (by omega);exact ⟨b,off,e,hb,λi hi=>hc i (by omega)⟩
theorem Rd.congr (h:Rd w B k A n f) {g:Nat->Int} (hg:∀i,i<n->f i=g i):Rd w B k A n g:=λhn=>by
 obtain ⟨b,off,e,hb,hc⟩:=h hn;exact ⟨b,off,e,hb,λi hi=>by rw [hc i hi,hg i hi]⟩
theorem Ow.nil (w:World) (base:Nat) (e:TypeId) (k:IntKind):Ow w base e k none 0 []:=QV _ _ _ _
theorem Ow.form (h:Ow w base e k A c xs):(A=none∧c=0∧xs=[])∨∃g,A=some ⟨g,0,none⟩∧base≤g∧g<w.heap.size∧xs.length≤c∧c≤maxLen∧∀i,i<xs.length->w.cell? ⟨g,i,none⟩=some (.int k (Qe xs i)):=by
 rcases h.2 with ⟨hv,h0⟩|⟨g,cap,cur,hv,hb,hh,hnc,hcm,hcs,hx⟩
 .injection hv with h1 h2 h3;exact .inl ⟨h1,h3,QE h0⟩
 injection hv with h1 h2 h3;subst h1 h3;refine .inr ⟨g,rfl,hb,?_,hnc,hcm,λi hi=>?_⟩
 .rcases ZJ g w.heap.size with hlt|hge
  .exact hlt
  rw [Array.getElem?_eq_none hge] at hh;cases hh
 have:=h.cells (g:=g) rfl i _ (Qf5 hi)
 rwa [show (⟨g,0,none⟩:Addr).add i=⟨g,i,none⟩ by unfold Addr.add;split<;>simp_all] at this
theorem Ow.rd (h:Ow w base e k A c xs):Rd w w.heap.size k A xs.length (Qe xs):=λhn=>by
 rcases h.form with ⟨_,_,rfl⟩|⟨g,rfl,_,hg,_,_,hc⟩
 .simp at hn
 .exact ⟨g,0,rfl,hg,λi hi=>by rw [Nat.zero_add];exact hc i hi⟩
theorem Ow.cap (h:Ow w base e k A c xs):xs.length≤c:=by
 rcases h.form with ⟨_,_,rfl⟩|⟨g,rfl,_,hg,h,_,hc⟩
 .simp
 exact h
theorem Ow.capMax (h:Ow w base e k A c xs):c≤maxLen:=by
 rcases h.form with ⟨_,rfl,rfl⟩|⟨g,rfl,_,hg,_,h,hc⟩
 .simp
 exact h
theorem Ow.alloc (h:Ow w base e k A c xs) (o:Obj):Ow (w.alloc o) base e k A c xs:=World.ownsRow.alloc h o
theorem Ow.drew (h:Ow w base e k A c xs):Ow w.drew base e k A c xs:=h
theorem Ow.lower (h:Ow w base e k A c xs) {b':Nat} (hb:b'≤base):Ow w b' e k A c xs:=by
 refine ⟨h.1,?_⟩;rcases h.2 with h0|⟨g,cap,cur,hv,hb0,hr⟩
 .exact .inl h0
 exact .inr ⟨g,cap,cur,hv,by omega,hr⟩
theorem Ow.below (h:Ow w base e k A c xs) (hb:Below w.heap.size w w'):Ow w' base e k A c xs:=
 World.ownsRow.kept (row:=none) h ⟨hb.os,hb.tape,hb.output,hb.size,λi hi _=>hb.block i hi⟩ (by
  cases A<;>simp [Value.ownBlock])
end
structure Ga (P:Program) (t e:TypeId) (z:Value) (bytes:Nat):Prop where
 ht:P.underlying t=some (.slice e)
 info:(P.info? e).map (λi=>(i.zero,i.size,i.bytes))=some (some z,1,bytes)
 hz:z.cells.size=1
 hb:0<bytes
section
variable {P:Program} {t e:TypeId} {z:Value} {bytes:Nat}
theorem Ty {w:World} {base n:Nat} {v:Value} {k:IntKind} {xs:List Int} (h:w.ownsRow base e 1 v n (xs.map (Value.int k))) (hn:n=xs.length):∃A c,v=.slice A n c∧Ow w base e k A c xs:=by
 subst hn;rcases h.2 with ⟨hv,h0⟩|⟨g,cap,cur,hv,hr⟩
 .refine ⟨none,0,by rw [hv,h0],?_⟩;unfold Ow;rw [h0];rw [<-hv];rw [h0] at h;exact h
 exact ⟨some ⟨g,0,none⟩,cap,hv,by unfold Ow;rw [<-hv];exact h⟩
theorem Vq6 (E:Ga P t e z bytes) {o:Oper} {a:Act} {K:Act->World->Prop} {Q:Exit->Act->World->Prop} (w:World) (s x:Operand)
 (ho:o.op=.call {callee:=.builtin .append,args:=#[s,x],argTypes:=#[t,t]})
 (base:Nat) (k:IntKind) (A:Option Addr) (c:Nat) (xs:List Int) (hs:a.eval s=.slice A xs.length c) (hown:Ow w base e k A c xs)
 (u:Int) (hx:a.eval x=.slice (some ⟨w.heap.size,0,none⟩) 1 1)
 (hn:(xs.length+1)*bytes≤140737488355328) (hbase:base≤w.heap.size)
 (h:∀A' c' w',Ow w' base e k A' c' (xs++[u])->Below base w w'->K (a.put o.dst (.slice A' (xs.length+1) c')) w'):
 o.wp P a (w.alloc (.cells #[.int k u] e)) K Q:=by
 obtain ⟨i0,hi,hz0,hz1,hz2⟩:=info_parts E.info;have hb:=E.hb;have:xs.length+1≤(xs.length+1)*bytes:=Nat.le_mul_of_pos_right _ hb;refine wp_append_own _ s x t ho base e i0 z 1 bytes E.ht hi hz0 hz1 hz2 E.hz (by decide) _ _ _ hs (hown.alloc _) ⟨w.heap.size,0,none⟩ 1 1 [.int k u] hx rfl (cell_one_new _ _ _) (by simp [Value.oneCell']) (by unfold maxLen;omega) hn (by simp;omega) ?_;intro v' w1 hown' hgrow _;have hB:Below base w w1:=((QK _ _).alloc hbase _).grown hgrow (by simp;omega) (λj hj=>by
  rcases hown.form with ⟨rfl,rfl,rfl⟩|⟨g,rfl,hg,_⟩
  .simp [Value.ownBlock] at hj
  simp [Value.ownBlock] at hj;omega)
 rw [show xs.map (Value.int k)++[Value.int k u]=(xs++[u]).map (Value.int k) by simp] at hown';obtain ⟨A',c',rfl,ho'⟩:=Ty hown' (by simp);exact h _ _ _ ho' hB
theorem Zi4 (E:Ga P t e z bytes) {o:Oper} {a:Act} {K:Act->World->Prop} {Q:Exit->Act->World->Prop} (w:World) (s x:Operand)
 (ho:o.op=.call {callee:=.builtin .append,args:=#[s,x],argTypes:=#[t,t]})
 (base:Nat) (k:IntKind) (A:Option Addr) (c:Nat) (xs:List Int) (hs:a.eval s=.slice A xs.length c) (hown:Ow w base e k A c xs)
 (B:Nat) (A2:Option Addr) (c2:Nat) (ys:List Int) (hx:a.eval x=.slice A2 ys.length c2) (hr:Rd w B k A2 ys.length (Qe ys))
 (hn:(xs.length+ys.length)*bytes≤140737488355328) (hbase:base≤w.heap.size)
 (h:∀A' c' w',Ow w' base e k A' c' (xs++ys)->Below base w w'->K (a.put o.dst (.slice A' (xs.length+ys.length) c')) w'):
 o.wp P a w K Q:=by
 obtain ⟨i0,hi,hz0,hz1,hz2⟩:=info_parts E.info;have hb:=E.hb;have hle:xs.length+ys.length≤(xs.length+ys.length)*bytes:=Nat.le_mul_of_pos_right _ hb;rcases A2 with _|ad
 .have hy:ys=[]:=by
   rcases Nat.eq_zero_or_pos ys.length with h0|h0
   .exact QE h0
   obtain ⟨b,off,h,_⟩:=hr h0;cases h
  subst hy;have hrun:∀ty,(Builtin.append_ #[t,t] ty #[.slice A xs.length c,.slice none 0 c2]).run P w=.ok (.slice A xs.length c) w:=by
   intro ty;rcases hown.2 with ⟨hv,h0⟩|⟨g,cap,cur,hv,_,_,hnc,_⟩
   .rw [hv];simp [Builtin.append_,run_underlying E.ht,sizeOf,typeInfo,hi,Builtin.lenOf,Builtin.firstCells]
   rw [hv];simp [Builtin.append_,run_underlying E.ht,sizeOf,typeInfo,hi,Builtin.lenOf,Builtin.firstCells,hnc,storeCells]
  unfold Oper.wp execOp;simp only [List.length_nil] at hx;simp only [ho,resolve,invoke,builtin,Sem.run_bind,Sem.run_pure,Result.andThen_ok,List.map_toArray,List.map_cons,List.map_nil,hs,hx,hrun];have:=h A c w (by rw [List.append_nil];exact hown) (QK _ _)
  rw [List.length_nil,Nat.add_zero] at this;exact this
 have hcells:∀j u,(ys.map (Value.int k))[j]? =some u->w.cell? (ad.add j)=some u:=by
  intro j u hu;have hj:j<ys.length:=by
   rcases ZJ j ys.length with h|h
   .exact h
   rw [List.getElem?_eq_none (by simpa using h)] at hu;cases hu
  obtain ⟨b,off,he,_,hc⟩:=hr (by omega);injection he with he;subst he;rw [Qf5 hj] at hu;rw [show (⟨b,off,none⟩:Addr).add j=⟨b,off+j,none⟩ by unfold Addr.add;split<;>simp_all,hc j hj];exact hu
 refine wp_append_own _ s x t ho base e i0 z 1 bytes E.ht hi hz0 hz1 hz2 E.hz (by decide) _ _ _ hs hown ad ys.length c2 (ys.map (Value.int k)) hx (by simp) hcells (by intro u hu;simp at hu;obtain ⟨_,_,rfl⟩:=hu;rfl) (by unfold maxLen;omega) hn hbase ?_;intro v' w1 hown' hgrow _;have hB:Below base w w1:=(QK _ _).grown hgrow hbase (λj hj=>by
  rcases hown.form with ⟨rfl,rfl,rfl⟩|⟨g,rfl,hg,_⟩
  .simp [Value.ownBlock] at hj
  simp [Value.ownBlock] at hj;omega)
 rw [<-List.map_append] at hown';obtain ⟨A',c',rfl,ho'⟩:=Ty hown' (by simp);exact h _ _ _ ho' hB
theorem Nh (E:Ga P t e z bytes) {ops:Array Oper} {rest:List Oper} {o:Oper} {a:Act} {Q:Exit->Act->World->Prop} (w:World) (hgd:o.guard=none) (s x:Operand)
 (ho:o.op=.call {callee:=.builtin .append,args:=#[s,x],argTypes:=#[t,t]})
 (base:Nat) (k:IntKind) (A:Option Addr) (c:Nat) (xs:List Int) (hs:a.eval s=.slice A xs.length c) (hown:Ow w base e k A c xs)
 (u:Int) (hx:a.eval x=.slice (some ⟨w.heap.size,0,none⟩) 1 1)
 (hn:(xs.length+1)*bytes≤140737488355328) (hbase:base≤w.heap.size)
 (h:∀A' c' w',Ow w' base e k A' c' (xs++[u])->Below base w w'->wpList P ops Q rest (a.put o.dst (.slice A' (xs.length+1) c')) w'):
 wpList P ops Q (o::rest) a (w.alloc (.cells #[.int k u] e)):=
 wpList_plain hgd λ_ hK=>Vq6 E w s x ho base k A c xs hs hown u hx hn hbase λA' c' w' h1 h2=>hK _ _ (h A' c' w' h1 h2)
theorem Yu (E:Ga P t e z bytes) {ops:Array Oper} {rest:List Oper} {o:Oper} {a:Act} {Q:Exit->Act->World->Prop} (w:World) (hgd:o.guard=none) (s x:Operand)
 (ho:o.op=.call {callee:=.builtin .append,args:=#[s,x],argTypes:=#[t,t]})
 (base:Nat) (k:IntKind) (A:Option Addr) (c:Nat) (xs:List Int) (hs:a.eval s=.slice A xs.length c) (hown:Ow w base e k A c xs)
 (B:Nat) (A2:Option Addr) (c2:Nat) (ys:List Int) (hx:a.eval x=.slice A2 ys.length c2) (hr:Rd w B k A2 ys.length (Qe ys))
 (hn:(xs.length+ys.length)*bytes≤140737488355328) (hbase:base≤w.heap.size)
 (h:∀A' c' w',Ow w' base e k A' c' (xs++ys)->Below base w w'->wpList P ops Q rest (a.put o.dst (.slice A' (xs.length+ys.length) c')) w'):
 wpList P ops Q (o::rest) a w:=
 wpList_plain hgd λ_ hK=>Zi4 E w s x ho base k A c xs hs hown B A2 c2 ys hx hr hn hbase λA' c' w' h1 h2=>hK _ _ (h A' c' w' h1 h2)
theorem Jq4 (E:Ga P t e z bytes) {ops:Array Oper} {o:Oper} {a:Act} {K:Act->World->Prop} {Q:Exit->Act->World->Prop} {N:Prop} (w:World) (hgd:o.guard=none) (s x:Operand)
 (ho:o.op=.call {callee:=.builtin .append,args:=#[s,x],argTypes:=#[t,t]})
 (base:Nat) (k:IntKind) (A:Option Addr) (c:Nat) (xs:List Int) (hs:a.eval s=.slice A xs.length c) (hown:Ow w base e k A c xs)
 (B:Nat) (A2:Option Addr) (c2:Nat) (ys:List Int) (hx:a.eval x=.slice A2 ys.length c2) (hr:Rd w B k A2 ys.length (Qe ys))
 (hn:(xs.length+ys.length)*bytes≤140737488355328) (hbase:base≤w.heap.size)
 (h:∀A' c' w',Ow w' base e k A' c' (xs++ys)->Below base w w'->K (a.put o.dst (.slice A' (xs.length+ys.length) c')) w'):
 if Region.wanted o (yielded ops a.tmps)=true then Oper.wp P o a w K Q else N:=by
 have hw:Region.wanted o (yielded ops a.tmps)=true:=by simp [Region.wanted,hgd]
 rw [ZM hw];exact Zi4 E w s x ho base k A c xs hs hown B A2 c2 ys hx hr hn hbase h
end
end
section
section
variable {w w':World} {c g:Nat} {k:IntKind} {base:Nat} {e:TypeId} {xs:List Int}
theorem Ow.cellAt (h:Ow w base e k (some ⟨g,0,none⟩) c xs) {i:Nat} (hi:i<xs.length):w.cell? ⟨g,i,none⟩=some (.int k (Qe xs i)):=by
 rcases h.form with ⟨h,_⟩|⟨g',hg,_,_,_,_,hc⟩
 .cases h
 injection hg with hg;injection hg with hg;subst hg;exact hc i hi
theorem Ow.frozenAt (h:Ow w base e k (some ⟨g,0,none⟩) c xs) (i:Nat):w.frozen? ⟨g,i,none⟩=false:=World.ownsRow.frozenAt h i
theorem Ow.blockGe (h:Ow w base e k (some ⟨g,0,none⟩) c xs):base≤g∧g<w.heap.size:=by
 rcases h.form with ⟨h,_⟩|⟨g',hg,h1,h2,_,_,hc⟩
 .cases h
 injection hg with hg;injection hg with hg;subst hg;exact ⟨h1,h2⟩
theorem Ow.set (h:Ow w base e k (some ⟨g,0,none⟩) c xs) (i:Nat) (u:Int):Ow (w.setCell ⟨g,i,none⟩ (.int k u)) base e k (some ⟨g,0,none⟩) c (xs.set i u):=by
 have:=(World.ownsRow.stored h i (.int k u)).1
 unfold Ow;rw [QJ,List.map_set];exact this
end
section
variable {P:Program} {t e:TypeId} {z:Value} {bytes:Nat}
end
theorem Rd.cut {w:World} {B n m c g off:Nat} {k:IntKind} {f:Nat->Int} (h:Rd w B k (some ⟨g,off,none⟩) n f) (hm:m≤n) (hc:n≤c):
 Rd w B k (if c=m then some ⟨g,off,none⟩ else some ⟨g,off+m,none⟩) (n - m) (λi=>f (m+i)):=λhn=>by
 obtain ⟨_,_,e,hb,hcell⟩:=h (by omega);injection e with e;injection e with e1 e2;subst e1 e2;rw [ZL (by omega)];exact ⟨g,off+m,rfl,hb,λi hi=>by rw [Nat.add_assoc];exact hcell (m+i) (by omega)⟩
theorem Rd.cutList {w:World} {B m c g off:Nat} {k:IntKind} {xs:List Int} (h:Rd w B k (some ⟨g,off,none⟩) xs.length (Qe xs)) (hm:m≤xs.length) (hc:xs.length≤c):
 Rd w B k (if c=m then some ⟨g,off,none⟩ else some ⟨g,off+m,none⟩) (xs.drop m).length (Qe (xs.drop m)):=by
 rw [List.length_drop];exact (h.cut hm hc).congr λi _=>Jf4.symm
theorem Vl {xs:List Int} {i:Nat} {u:Int} (h:i<xs.length):Qe (xs.set i u) i=u:=by simp [Qe,h]
theorem Rw {xs:List Int} {i j:Nat} {u:Int} (h:i≠j):Qe (xs.set i u) j=Qe xs j:=by simp [Qe,h]
end
section
section
variable {a w w' w'':World} {g:Nat} {row:Option Nat}
theorem Yk (h:a.grownBy w row):a.grownBy w.drew row:=⟨h.os,h.tape,h.output,h.size,h.block⟩
theorem Qv (h:a.grownBy w (some g)) {p:Addr} (hp:p.block=g∨a.heap.size≤p.block) (u:Value):a.grownBy (w.setCell p u) (some g):=
 ⟨h.os,h.tape,h.output,by simpa [World.setCell] using h.size,λi hi hne=>(Below.heap_setCell w p u i (by
  rintro rfl;rcases hp with hp|hp
  .exact hne (by rw [hp])
  omega)).trans (h.block i hi hne)⟩
theorem Qa (h:a.grownBy w row) (hb:Below w.heap.size w w'):a.grownBy w' row:=
 ⟨hb.os.trans h.os,hb.tape.trans h.tape,hb.output.trans h.output,ZO h.size hb.size,λi hi hne=>(hb.block i (ZI hi h.size)).trans (h.block i hi hne)⟩
theorem Qr (h:Below a.heap.size a w) (row:Option Nat):a.grownBy w row:=⟨h.os,h.tape,h.output,h.size,λi hi _=>h.block i hi⟩
theorem Qy (h:a.grownBy w (some g)) {p:Addr} {v:Value} (hc:a.cell? p=some v) (hne:p.block≠g):w.cell? p=some v:=
 h.cell hc (λe=>hne (by injection e))
theorem Jc (h:a.grownBy w (some g)) {p:Addr} {b:Bool} (hc:a.frozen? p=b) (hl:p.block<a.heap.size) (hne:p.block≠g):w.frozen? p=b:=
 (QU (w:=a) (h.block _ hl (λe=>hne (by injection e)))).trans hc
theorem Cv {B:Nat} (h:a.grownBy w (some g)) (hB:B≤a.heap.size) (hg:B≤g):Below B a w:=
 ⟨h.os,h.tape,h.output,h.size,λk hk=>h.block k (by omega) (λe=>by injection e;omega)⟩
end
section
variable {w w':World} {B n c g:Nat} {k:IntKind} {base:Nat} {e:TypeId} {xs:List Int} {A:Option Addr} {f:Nat->Int}
theorem Ow.made (w:World) (base n:Nat) (e:TypeId) (k:IntKind) (hb:base≤w.heap.size) (hn:n≤maxLen):
 Ow (w.alloc (.cells (madeCells #[.int k 0] n) e)) base e k (some ⟨w.heap.size,0,none⟩) n (List.replicate n 0):=by
 have:=World.ownsRow_lit (base:=base) (e:=e) (size:=1) w (madeCells #[.int k 0] n) n hb hn (by simp [size_madeCells])
 rw [toList_madeCells_one] at this;unfold Ow;rw [List.length_replicate,List.map_replicate];exact this
theorem Ow.lit (w:World) (base:Nat) (e:TypeId) (k:IntKind) (xs:List Int) (hb:base≤w.heap.size) (hn:xs.length≤maxLen):
 Ow (w.alloc (.cells (xs.map (Value.int k)).toArray e)) base e k (some ⟨w.heap.size,0,none⟩) xs.length xs:=by
 have:=World.ownsRow_lit (base:=base) (e:=e) (size:=1) w (xs.map (Value.int k)).toArray xs.length hb hn (by simp)
 rw [List.toList_toArray] at this;exact this
theorem Ow.other (h:Ow w base e k (some ⟨g,0,none⟩) c xs) {row:Option Nat} (hg:w.grownBy w' row) (hne:row≠some g):Ow w' base e k (some ⟨g,0,none⟩) c xs:=
 World.ownsRow.kept (row:=row) h hg (by
  right;simp only [Value.ownBlock];exact λe=>hne e.symm)
theorem Ow.other' {g':Nat} (h:Ow w base e k (some ⟨g,0,none⟩) c xs) (hg:w.grownBy w' (some g')) (hne:g'≠g):Ow w' base e k (some ⟨g,0,none⟩) c xs:=
 h.other hg (λe=>hne (by injection e))
theorem Ow.cellAt' {n' i:Nat} (h:Ow w base e k (some ⟨g,0,none⟩) c xs) (hn:xs.length=n') (hi:i<n'):w.cell? ⟨g,i,none⟩=some (.int k (Qe xs i)):=h.cellAt (by omega)
theorem Ow.frozenAt' (h:Ow w base e k (some ⟨g,0,none⟩) c xs) (i:Nat):w.frozen? ⟨g,i,none⟩=false:=h.frozenAt i
theorem Ow.set' (h:Ow w base e k (some ⟨g,0,none⟩) c xs) (i:Nat) (u:Int):Ow (w.setCell ⟨g,i,none⟩ (.int k u)) base e k (some ⟨g,0,none⟩) c (xs.set i u):=h.set i u
end
theorem Vo2 {A:Option Addr} {m n c:Nat} (h:m=n):Ending.returned (.slice A m c)=.returned (.slice A n c):=by rw [h]
structure Jy (w:World) (b:Nat) (N:Int) (E:Bool) (v:Value):Prop where
 c0:w.cell? ⟨b,0,none⟩=some (.int .i64 N)
 c1:w.cell? ⟨b,1,none⟩=some (.bool E)
 c2:w.cell? ⟨b,2,none⟩=some v
section
variable {w w':World} {b:Nat} {N:Int} {E:Bool} {v:Value}
theorem Jy.lt (h:Jy w b N E v):b<w.heap.size:=QO w ⟨b,0,none⟩ h.c0
theorem Jy.below (h:Jy w b N E v) (hb:Below w.heap.size w w'):Jy w' b N E v:=⟨(hb.cell (p:=⟨b,0,none⟩) h.lt).trans h.c0,(hb.cell (p:=⟨b,1,none⟩) h.lt).trans h.c1,(hb.cell (p:=⟨b,2,none⟩) h.lt).trans h.c2⟩
theorem Jy.only {g:Nat} (h:Jy w b N E v) (hg:w.grownBy w' (some g)) (hne:b≠g):Jy w' b N E v:=⟨Qy hg h.c0 hne,Qy hg h.c1 hne,Qy hg h.c2 hne⟩
theorem Jy.box (w:World) (t:TypeId) (N:Int) (E:Bool) (v:Value):Jy (w.alloc (.cells #[.int .i64 N,.bool E,v] t)) w.heap.size N E v:=
 ⟨by simp [QM],by simp [QM],by simp [QM]⟩
theorem Jy.alloc (h:Jy w b N E v) (o:Obj):Jy (w.alloc o) b N E v:=h.below ((QK _ _).alloc (ZH _) _)
end
theorem Ht {w w' w'':World} (h:Hid (Below w.heap.size w w')) (k:Below w'.heap.size w' w''):Hid (Below w.heap.size w w''):=h.out.trans (k.mono h.out.size)
end
namespace Gn
def ac (i:Nat):Nat:=if i % 2=0 then i+1 else i - 1
theorem Ve (i:Nat):ac (ac i)=i:=by unfold ac;split<;>split<;>omega
theorem Qg {i n:Nat} (h:i<2*n):ac i<2*n:=by unfold ac;split<;>omega
theorem Zi5 (i:Nat):ac i≠i:=by unfold ac;split<;>omega
theorem Bz (n:Nat):2*n*(2*n)=4*n*n:=by rw [Nat.mul_mul_mul_comm,<-Nat.mul_assoc]
theorem Zy {m i j:Nat} (hi:i<m) (hj:j<m):i*m+j<m*m:=by
 have:(i+1)*m≤m*m:=Nat.mul_le_mul_right m hi
 rw [Nat.add_mul] at this;omega
theorem Vx2 {m i j i' j':Nat} (hj:j<m) (hj':j'<m) (h:i*m+j=i'*m+j'):i=i'∧j=j':=by
 have h1:(i*m+j) / m=i:=by rw [Nat.mul_comm,Nat.mul_add_div (by omega),Nat.div_eq_of_lt hj];omega
 have h2:(i'*m+j') / m=i':=by rw [Nat.mul_comm,Nat.mul_add_div (by omega),Nat.div_eq_of_lt hj'];omega
 have:i=i':=by rw [<-h1,h,h2]
 subst this;exact ⟨rfl,by omega⟩
def cl (m:Nat) (M:List Int) (i j:Nat):Int:=Qe M (i*m+j)
def mat (m:Nat) (f:Nat->Nat->Int):List Int:=(List.range (m*m)).map λk=>f (k / m) (k % m)
theorem Ur (m:Nat) (f:Nat->Nat->Int):(mat m f).length=m*m:=by simp [mat]
theorem Ra {m:Nat} {f:Nat->Nat->Int} {i j:Nat} (hi:i<m) (hj:j<m):cl m (mat m f) i j=f i j:=by
 have h:=Zy hi hj;have h1:(i*m+j) / m=i:=by rw [Nat.mul_comm,Nat.mul_add_div (by omega),Nat.div_eq_of_lt hj];omega
 have h2:(i*m+j) % m=j:=by rw [Nat.mul_comm,Nat.mul_add_mod,Nat.mod_eq_of_lt hj]
 simp [cl,Qe,mat,h,h1,h2]
theorem Wq {m k:Nat} (h:k<m*m):k / m<m∧k % m<m∧k / m*m+k % m=k:=by
 have hm:0<m:=by
  rcases Nat.eq_zero_or_pos m with h0|h0
  .subst h0;omega
  exact h0
 exact ⟨Nat.div_lt_of_lt_mul h,Nat.mod_lt _ hm,by rw [Nat.mul_comm];exact Nat.div_add_mod k m⟩
theorem Cu {m:Nat} {X Y:List Int} (hx:X.length=m*m) (hy:Y.length=m*m) (h:∀i,i<m->∀j,j<m->cl m X i j=cl m Y i j):X=Y:=by
 refine Nm (by rw [hx,hy]) λk hk=>?_
 obtain ⟨h1,h2,h3⟩:=Wq (m:=m) (k:=k) (by omega);have:=h _ h1 _ h2
 unfold cl at this;rwa [h3] at this
theorem Vd8 {m:Nat} {X:List Int} {f:Nat->Nat->Int} (hx:X.length=m*m) (h:∀i,i<m->∀j,j<m->cl m X i j=f i j):X=mat m f:=
 Cu hx (Ur m f) λi hi j hj=>by rw [h i hi j hj,Ra hi hj]
theorem Rf {m:Nat} {X:List Int} {i j i' j':Nat} {v:Int} (hx:X.length=m*m) (hi:i<m) (hj:j<m) (hj':j'<m):
 cl m (X.set (i*m+j) v) i' j'=if i'=i∧j'=j then v else cl m X i' j':=by
 unfold cl;by_cases h:i'=i∧j'=j
 .rw [ZM h,h.1,h.2];have:=Zy hi hj
  simp [Qe,hx,this]
 rw [ZL h];have hne:i*m+j≠i'*m+j':=λe=>h (by have:=Vx2 hj hj' e;exact ⟨this.1.symm,this.2.symm⟩)
 simp [Qe,hne]
def Gj (m:Nat):List Int:=mat m λi j=>if i=j then 0 else 9223372036854775807
theorem Qo2 (m:Nat):(Gj m).length=m*m:=Ur _ _
def Lx (m:Nat) (M:List Int) (i j:Nat):Prop:=Hl (cl m M i j)∧(i=j->cl m M i j=0)∧cl m M i j=cl m M (ac j) (ac i)
def Yo (m:Nat) (M:List Int):Prop:=∀i,i<m->∀j,j<m->Lx m M i j
instance (m:Nat) (M:List Int) (i j:Nat):Decidable (Lx m M i j):=by unfold Lx;infer_instance
instance (m:Nat) (M:List Int):Decidable (Yo m M):=by unfold Yo;infer_instance
def Je (N:Int) (E:Bool) (M:List Int):Int:=
 if N<0∨64<N∨(E=true∧0<M.length)∨(E=false∧(M.length:Int)≠4*N*N) then 120
 else if E=true then 0 else if Yo (2*N.toNat) M then 0 else 121
end Gn
namespace Gn
def Aq (n:Nat):List Int:=if n<128 then [(n:Int)] else ((128+n % 128:Nat):Int)::Aq (n / 128)
termination_by n
decreasing_by omega
theorem Ca {n:Nat} (h:n<128):Aq n=[(n:Int)]:=by rw [Aq,ZM h]
theorem Ld {n:Nat} (h:¬n<128):Aq n=((128+n % 128:Nat):Int)::Aq (n / 128):=by rw [Aq,ZL h]
def Bts (b:List Int):Prop:=∀x∈b,0≤x∧x≤255
theorem Vw7 (n:Nat):0<(Aq n).length:=by
 by_cases h:n<128
 .rw [Ca h];simp
 rw [Ld h];simp
theorem Vx7 (k:Nat):∀n:Nat,n<128 ^ k->0<k->(Aq n).length≤k:=by
 induction k with
 |zero=>intro n _ h;omega
 |succ k ih=>
  intro n hn _;by_cases h:n<128
  .rw [Ca h];simp
  rw [Ld h];rw [Nat.pow_succ] at hn;have hk:0<k:=by
   rcases Nat.eq_zero_or_pos k with rfl|hk
   .simp at hn;omega
   exact hk
  have:=ih (n / 128) (by omega) hk
  simp;omega
theorem Sr {n:Nat} (h:(n:Int)≤18446744073709551615):(Aq n).length≤10:=Vx7 10 n (by omega) (by omega)
def tk (i acc:Nat):List Int->Nat×Nat×Int
 |[]=>(0,0,180)
 |x::r=>
  if (i=9∧1<x)∨(0<i∧x=0) then (0,0,181)
  else if x<128 then (acc+x.toNat % 128*128 ^ i,i+1,0)
  else tk (i+1) (acc+x.toNat % 128*128 ^ i) r
def Uo (b:List Int):Nat×Nat×Int:=tk 0 0 b
theorem Vq1 {b:List Int} (hb:Bts b):∀{i acc v k:Nat},i≤9->tk i acc b=(v,k,0)->
 ∃m,v=acc+m*128 ^ i∧i<k∧k - i≤b.length∧b.take (k - i)=Aq m∧(0<i->0<m)∧m*128 ^ i<128 ^ 9*2:=by
 induction b with
 |nil=>intro i acc v k _ h;simp [tk] at h
 |cons x r ih=>
  intro i acc v k hi h;have hx:=hb x (by simp);simp only [tk] at h;split at h
  .simp at h
  rename_i h1
  split at h
  .rename_i h2
   simp only [Prod.mk.injEq] at h;obtain ⟨rfl,rfl,_⟩:=h;refine ⟨x.toNat,?_,by omega,by simp,?_,by omega,?_⟩
   .rw [Nat.mod_eq_of_lt (by omega)]
   .rw [show i+1 - i=1 by omega,Ca (by omega)];simp;omega
   rcases ZJ i 9 with h9|h9
   .have a:128 ^ i≤128 ^ 8:=Nat.pow_le_pow_right (by omega) (by omega);have:=QA (show x.toNat≤127 by omega) a
    have e:(127:Nat)*128 ^ 8<128 ^ 9*2:=by decide
    omega
   obtain rfl:i=9:=by omega
   have:=Nat.mul_le_mul_right (128 ^ 9) (show x.toNat≤1 by omega)
   omega
  rename_i h2
  have h9:i<9:=by omega
  obtain ⟨m,hv,hk,hl,ht,hp,hs⟩:=ih (λy hy=>hb y (by simp [hy])) (by omega) h;have hm:=hp (by omega);refine ⟨x.toNat % 128+128*m,?_,by omega,by simp;omega,?_,by omega,?_⟩
  .rw [hv,Nat.add_mul,Nat.pow_succ];rw [Nat.mul_comm 128 m,Nat.mul_assoc,Nat.mul_comm 128 (128 ^ i)];omega
  .rw [show k - i=(k - (i+1))+1 by omega,ZP,ht];rw [Ld (n:=x.toNat % 128+128*m) (by omega)];congr 1
   .omega
   congr 1;omega
  have e:m*128 ^ (i+1)=128*m*128 ^ i:=by rw [Nat.pow_succ,Nat.mul_comm 128 m,Nat.mul_assoc,Nat.mul_comm 128 (128 ^ i)]
  have a:128 ^ i≤128 ^ 8:=Nat.pow_le_pow_right (by omega) (by omega);have hdvd:(128:Nat) ^ 9*2=128 ^ (8 - i)*2*128 ^ (i+1):=by
   rw [Nat.mul_right_comm,<-Nat.pow_add];congr 2;omega
  have hlt:m<128 ^ (8 - i)*2:=by
   rw [hdvd] at hs;exact Nat.lt_of_mul_lt_mul_right hs
  have hle:(m+1)*128 ^ (i+1)≤128 ^ 9*2:=by
   rw [hdvd];exact Nat.mul_le_mul_right _ hlt
  have hr:(x.toNat % 128+128*m)*128 ^ i<(128*(m+1))*128 ^ i:=Nat.mul_lt_mul_of_pos_right (by omega) (Nat.pow_pos (by omega));have e2:(128*(m+1))*128 ^ i=(m+1)*128 ^ (i+1):=by rw [Nat.pow_succ,Nat.mul_comm 128 (m+1),Nat.mul_assoc,Nat.mul_comm 128 (128 ^ i)]
  omega
theorem Zr7 {b:List Int} (hb:Bts b) {v k:Nat} (h:Uo b=(v,k,0)):0<k∧k≤b.length∧b.take k=Aq v∧(v:Int)≤18446744073709551615:=by
 obtain ⟨_,hv,hk,hl,ht,_,hs⟩:=Vq1 hb (by omega) h;simp at hv hl ht hs
 subst hv;exact ⟨hk,hl,ht,by omega⟩
theorem Vh1 {b:List Int}:∀{i acc:Nat},(tk i acc b).2.2≠0->tk i acc b=(0,0,(tk i acc b).2.2)∧((tk i acc b).2.2=180∨(tk i acc b).2.2=181):=by
 induction b with
 |nil=>intro i acc _;simp [tk]
 |cons x r ih=>
  intro i acc h;simp only [tk] at h |-
  split
  .simp
  rename_i h1
  rw [ZL h1] at h;split
  .rename_i h2;rw [ZM h2] at h;simp at h
  rename_i h2
  rw [ZL h2] at h;exact ih h
def Jp:List Nat->List Int
 |[]=>[]
 |n::l=>Aq n++Jp l
theorem Qx9 (l m:List Nat):Jp (l++m)=Jp l++Jp m:=by
 induction l with
 |nil=>rfl
 |cons n l ih=>simp [Jp,ih]
def Te (n:Int):Int:=if n<0 then -2*n - 1 else 2*n
def Xx (n:Int):Int:=if n % 2=1 then -(n / 2) - 1 else n / 2
end Gn
section
open Gn
theorem Vh3 (m:Nat):bits .or .u8 ((m:Int) % 256) 128=((128+m % 128:Nat):Int):=by
 have h:∀x,x<256->bits .or .u8 ((x:Nat):Int) 128=((128+x % 128:Nat):Int):=by decide+kernel
 have:=h (m % 256) (by omega)
 rw [show ((m:Int) % 256)=((m % 256:Nat):Int) by omega,this];omega
theorem Jk8 {x:Int} (h0:0≤x) (h1:x≤255):bits .andNot .u8 x 128=((x.toNat % 128:Nat):Int):=by
 have h:∀y,y<256->bits .andNot .u8 ((y:Nat):Int) 128=((y % 128:Nat):Int):=by decide+kernel
 have:=h x.toNat (by omega)
 rw [show x=(x.toNat:Int) by omega,this];omega
theorem Vr3 {n:Nat} (h:n<18446744073709551616):IntKind.u64.wrap (n:Int)=n:=IntWalk.u64_in _ (by omega)
theorem Jb5 (i:Nat):(128:Nat) ^ i=2 ^ (7*i):=by rw [Nat.pow_mul]
theorem Qh7 {y i:Nat} (hy:y<128) (hi:i≤9) (h9:i=9->y≤1):y*128 ^ i<18446744073709551616:=by
 rcases ZJ i 9 with h|h
 .have a:128 ^ i≤128 ^ 8:=Nat.pow_le_pow_right (by omega) (by omega);have:=QA (show y≤127 by omega) a
  have:(127:Nat)*128 ^ 8<18446744073709551616:=by decide
  omega
 obtain rfl:i=9:=by omega
 exact Nat.lt_of_le_of_lt (Nat.mul_le_mul_right (128 ^ 9) (h9 rfl)) (by decide)
theorem Jx7 {y i acc:Nat} (hy:y<128) (hi:i≤9) (h9:i=9->y≤1) (ha:acc<128 ^ i):acc+y*128 ^ i<18446744073709551616:=by
 rcases ZJ i 9 with h|h
 .have a:128 ^ i≤128 ^ 8:=Nat.pow_le_pow_right (by omega) (by omega);have:=QA (show y≤127 by omega) a
  have:(127:Nat)*128 ^ 8+128 ^ 8<18446744073709551616:=by decide
  omega
 obtain rfl:i=9:=by omega
 exact ZI (Nat.add_lt_add_of_lt_of_le ha (Nat.mul_le_mul_right (128 ^ 9) (h9 rfl))) (by decide)
theorem Qf3 (y i:Nat):((y:Nat):Int)*2 ^ (7*i)=((y*128 ^ i:Nat):Int):=by
 rw [Jb5];push_cast;rfl
theorem Zo8 {y i:Nat} (hy:y<128) (hi:i≤9) (h9:i=9->y≤1):IntKind.u64.wrap (((y:Nat):Int)*2 ^ (7*i))=((y*128 ^ i:Nat):Int):=by
 rw [Qf3];exact Vr3 (Qh7 hy hi h9)
theorem Jd8 {y i acc:Nat} (hy:y<128) (hi:i≤9) (h9:i=9->y≤1) (ha:acc<128 ^ i):
 bits .or .u64 (acc:Int) ((y*128 ^ i:Nat):Int)=((acc+y*128 ^ i:Nat):Int):=by
 have h1:=Qh7 hy hi h9;have:=Jx7 hy hi h9 ha;rw [u64_or_nat _ _ (by omega) h1];rw [Jb5] at ha |-
 rw [Nat.or_comm,Nat.mul_comm y,<-Nat.two_pow_add_eq_or_of_lt ha];congr 1;omega
theorem Zc1 {x:Int} {i acc:Nat} (h0:0≤x) (h1:x≤255) (hi:i≤9) (h9:i=9->x≤1) (ha:acc<128 ^ i):
 bits .or .u64 (acc:Int) (IntKind.u64.wrap (IntKind.u64.wrap (bits .andNot .u8 x 128)*2 ^ (7*i)))=((acc+x.toNat % 128*128 ^ i:Nat):Int):=by
 have h9':i=9->x.toNat % 128≤1:=λh=>by have:=h9 h;omega
 rw [Jk8 h0 h1,Vr3 (by omega),Zo8 (by omega) hi h9',Jd8 (by omega) hi h9' ha]
theorem Jh9 {y i acc:Nat} (hy:y<128) (ha:acc<128 ^ i):acc+y*128 ^ i<128 ^ (i+1):=by
 have:=Nat.mul_le_mul_right (128 ^ i) (show y≤127 by omega)
 rw [Nat.pow_succ];omega
end
namespace Gn
theorem Qi7 {b:List Int} (hb:Bts b) (h:(Uo b).2.2=0):0<(Uo b).2.1∧(Uo b).2.1≤b.length∧b.take (Uo b).2.1=Aq (Uo b).1∧((Uo b).1:Int)≤18446744073709551615:=
 Zr7 hb (v:=(Uo b).1) (k:=(Uo b).2.1) (by rw [<-h])
theorem Hr (b:List Int):(Uo b).2.2=0∨(Uo b=(0,0,180))∨(Uo b=(0,0,181)):=by
 by_cases h:(Uo b).2.2=0
 .exact .inl h
 obtain ⟨h1,h2⟩:=Vh1 (b:=b) (i:=0) (acc:=0) h;rcases h2 with h2|h2
 .right;left;rw [h2] at h1;exact h1
 right;right;rw [h2] at h1;exact h1
end Gn
section
namespace Gn
def lp {α:Type} (f:Nat->α->α):Nat->α->α
 |0,S=>S
 |n+1,S=>f n (lp f n S)
theorem Ax {α:Type} (f:Nat->α->α) (I:Nat->α->Prop) (n:Nat) (S:α) (h0:I 0 S) (hs:∀i,i<n->∀S,I i S->I (i+1) (f i S)):I n (lp f n S):=by
 induction n with
 |zero=>exact h0
 |succ n ih=>exact hs n (by omega) _ (ih λi hi=>hs i (by omega))
theorem Vn {α:Type} (f:Nat->α->α) (I:α->Prop) (n:Nat) (S:α) (h0:I S) (hs:∀i S,I S->I (f i S)):I (lp f n S):=Ax f (λ_=>I) n S h0 λi _ S h=>hs i S h
abbrev MS:=List Int×Bool
def Kg (m k i j:Nat) (S:MS):MS:=
 (S.1.set (i*m+j) (Jr (Qe S.1 (i*m+j)) (Zh (Qe S.1 (i*m+k)) (Qe S.1 (k*m+j)))),S.2||Yj (Qe S.1 (i*m+k)) (Qe S.1 (k*m+j)))
def pJ (m k i:Nat):Nat->MS->MS:=lp (Kg m k i)
def pI (m k:Nat):Nat->MS->MS:=lp λi=>pJ m k i m
def pK (m:Nat):Nat->MS->MS:=lp λk=>pI m k m
def Jo (m:Nat) (S:MS):MS:=pK m m S
def Bv (m i j:Nat) (X:List Int):List Int:=
 (X.set (i*m+j) (Jr (Qe X (i*m+j)) (Qe X (ac j*m+ac i)))).set (ac j*m+ac i) (Qe (X.set (i*m+j) (Jr (Qe X (i*m+j)) (Qe X (ac j*m+ac i)))) (i*m+j))
def mJ (m i:Nat):Nat->List Int->List Int:=lp (Bv m i)
def mI (m:Nat):Nat->List Int->List Int:=lp λi=>mJ m i m
def Jq (m:Nat) (X:List Int):List Int:=mI m m X
def Qu4 (m:Nat) (X:List Int):Nat->Bool->Bool:=lp λi e=>e||decide (Qe X (i*m+i)<0)
def Ki (m:Nat) (X:List Int):Bool:=Qu4 m X m false
def Qn2 (m i:Nat) (X:List Int):List Int:=X.set (i*m+ac i) (Rl (Qe X (i*m+ac i)))
def eI (m:Nat):Nat->List Int->List Int:=lp (Qn2 m)
def Uz (m:Nat) (X:List Int):List Int:=eI m m X
def Qw1 (m:Nat) (X:List Int) (i:Nat) (S:Bool×Bool):Bool×Bool:=(decide (Zh (Qe X (i*m+ac i)) (Qe X (ac i*m+i))<0)||S.1,S.2||Yj (Qe X (i*m+ac i)) (Qe X (ac i*m+i)))
def sI (m:Nat) (X:List Int):Nat->Bool×Bool->Bool×Bool:=lp (Qw1 m X)
def Xq (m:Nat) (X:List Int) (s:Bool):Bool×Bool:=sI m X m (false,s)
def Mk (m i j:Nat) (S:MS):MS:=
 if i=j then S else (S.1.set (i*m+j) (Jr (Qe S.1 (i*m+j)) (Ju (Zh (Qe S.1 (i*m+ac i)) (Qe S.1 (ac j*m+j))))),S.2||Yj (Qe S.1 (i*m+ac i)) (Qe S.1 (ac j*m+j)))
def tJ (m i:Nat):Nat->MS->MS:=lp (Mk m i)
def tI (m:Nat):Nat->MS->MS:=lp λi=>tJ m i m
def Nt (m:Nat) (S:MS):MS:=tI m m S
theorem Cy (m k i j:Nat) (S:MS):(Kg m k i j S).1.length=S.1.length:=by unfold Kg;simp
theorem Zj3 (m k i j:Nat) (S:MS):(pJ m k i j S).1.length=S.1.length:=Vn _ (λS':MS=>S'.1.length=S.1.length) _ _ rfl λi S' h=>by rw [Cy,h]
theorem Zw5 (m k i:Nat) (S:MS):(pI m k i S).1.length=S.1.length:=Vn _ (λS':MS=>S'.1.length=S.1.length) _ _ rfl λi S' h=>by rw [Zj3,h]
theorem Gw (m k:Nat) (S:MS):(pK m k S).1.length=S.1.length:=Vn _ (λS':MS=>S'.1.length=S.1.length) _ _ rfl λi S' h=>by rw [Zw5,h]
theorem Qu2 (m i j:Nat) (X:List Int):(Bv m i j X).length=X.length:=by simp [Bv]
theorem Zb9 (m i j:Nat) (X:List Int):(mJ m i j X).length=X.length:=Vn _ (λS':List Int=>S'.length=X.length) _ _ rfl λi S' h=>by rw [Qu2,h]
theorem Bj (m i:Nat) (X:List Int):(mI m i X).length=X.length:=Vn _ (λS':List Int=>S'.length=X.length) _ _ rfl λi S' h=>by rw [Zb9,h]
theorem Ab (m i:Nat) (X:List Int):(eI m i X).length=X.length:=Vn _ (λS':List Int=>S'.length=X.length) _ _ rfl λi S' h=>by simp [Qn2,h]
theorem Zt7 (m i j:Nat) (S:MS):(Mk m i j S).1.length=S.1.length:=by unfold Mk;split<;>simp
theorem Za4 (m i j:Nat) (S:MS):(tJ m i j S).1.length=S.1.length:=Vn _ (λS':MS=>S'.1.length=S.1.length) _ _ rfl λi S' h=>by rw [Zt7,h]
theorem Qq6 (m i:Nat) (S:MS):(tI m i S).1.length=S.1.length:=Vn _ (λS':MS=>S'.1.length=S.1.length) _ _ rfl λi S' h=>by rw [Za4,h]
end Gn
end
section
open Gn
namespace Gn
def Zb (m:Nat) (M:List Int):Option (List Int)×Bool:=
 let P:=Jo m (M,false)
 let X:=Jq m P.1
 if Ki m X then (none,P.2) else
 let Y:=Uz m X
 let D:=Xq m Y P.2
 if D.1 then (none,D.2) else
 let S:=Nt m (Y,D.2)
 (some S.1,S.2)
def Zp (N:Int) (E:Bool) (M:List Int):((Int×Bool×List Int)×Bool)×Int:=
 if Je N E M≠0 then (((0,false,[]),false),Je N E M)
 else if E=true then (((N,true,[]),false),0)
 else match Zb (2*N.toNat) M with
  |(none,s)=>(((N,true,[]),s),0)
  |(some X,s)=>(((N,false,X),s),0)
end Gn
namespace Gn
def Mz (m:Nat) (M:List Int):Nat->MS
 |0=>(M,false)
 |1=>Jo m (M,false)
 |2=>(Jq m (Jo m (M,false)).1,(Jo m (M,false)).2)
 |3=>(Jq m (Jo m (M,false)).1,(Jo m (M,false)).2)
 |4=>(Uz m (Jq m (Jo m (M,false)).1),(Jo m (M,false)).2)
 |5=>(Uz m (Jq m (Jo m (M,false)).1),(Xq m (Uz m (Jq m (Jo m (M,false)).1)) (Jo m (M,false)).2).2)
 |_=>Nt m (Uz m (Jq m (Jo m (M,false)).1),(Xq m (Uz m (Jq m (Jo m (M,false)).1)) (Jo m (M,false)).2).2)
def Vb8 (m:Nat) (M:List Int) (k:Nat):Prop:=
 (3≤k->Ki m (Mz m M 2).1=false)∧(5≤k->(Xq m (Mz m M 4).1 (Mz m M 4).2).1=false)
theorem Jp9 (m:Nat) (M:List Int) (k:Nat):(Mz m M k).1.length=M.length:=by
 have h1:(Jo m (M,false)).1.length=M.length:=Gw _ _ _;have h2:(Jq m (Jo m (M,false)).1).length=M.length:=(Bj _ _ _).trans h1;have h3:(Uz m (Jq m (Jo m (M,false)).1)).length=M.length:=(Ab _ _ _).trans h2;match k with
 |0=>rfl
 |1=>exact h1
 |2=>exact h2
 |3=>exact h2
 |4=>exact h3
 |5=>exact h3
 |k+6=>exact (Qq6 _ _ _).trans h3
theorem Fy {m:Nat} {M:List Int} (h:Ki m (Mz m M 2).1=true):Zb m M=(none,(Mz m M 2).2):=by
 unfold Zb;simp only [Mz] at h |-
 rw [ZM h]
theorem Ee {m:Nat} {M:List Int} (h0:Vb8 m M 4) (h:(Xq m (Mz m M 4).1 (Mz m M 4).2).1=true):Zb m M=(none,(Mz m M 5).2):=by
 have h1:=h0.1 (by omega);unfold Zb;simp only [Mz] at h h1 |-
 rw [ZL (by rw [h1];exact Bool.false_ne_true),ZM h]
theorem Qa1 {m:Nat} {M:List Int} (h:Vb8 m M 6):Zb m M=(some (Mz m M 6).1,(Mz m M 6).2):=by
 have h1:=h.1 (by omega);have h2:=h.2 (by omega);unfold Zb;simp only [Mz] at h1 h2 |-
 rw [ZL (by rw [h1];exact Bool.false_ne_true),ZL (by rw [h2];exact Bool.false_ne_true)]
end Gn
end
section
namespace Gn
theorem Qz7 {a b:Int} (ha:Bd a) (hb:Bd b):(if b<a then b else a)=Jr a b:=by
 unfold Jr;rw [Zi ha,Zi hb];split<;>omega
def Zg (X:List Int):Prop:=∀p,Bd (Qe X p)
theorem Am {X:List Int} (h:Zg X) (p:Nat) {v:Int} (hv:Bd v):Zg (X.set p v):=by
 intro q;by_cases hq:p=q
 .subst hq;by_cases hl:p<X.length
  .rw [Vl hl];exact hv
  rw [List.set_eq_of_length_le (by omega)];exact h p
 rw [Rw hq];exact h q
theorem Qe6 {m k i j:Nat} {S:MS} (h:Zg S.1):Zg (Kg m k i j S).1:=Am h _ (Lg _ _)
theorem Zi7 {m k i j:Nat} {S:MS} (h:Zg S.1):Zg (pJ m k i j S).1:=Vn _ (λS':MS=>Zg S'.1) _ _ h λi S' h=>Qe6 h
theorem Zg9 {m k i:Nat} {S:MS} (h:Zg S.1):Zg (pI m k i S).1:=Vn _ (λS':MS=>Zg S'.1) _ _ h λi S' h=>Zi7 h
theorem Cb {m k:Nat} {S:MS} (h:Zg S.1):Zg (pK m k S).1:=Vn _ (λS':MS=>Zg S'.1) _ _ h λi S' h=>Zg9 h
theorem Vg8 {m i j:Nat} {X:List Int} (h:Zg X):Zg (Bv m i j X):=by
 have h1:=Am h (i*m+j) (Lg (Qe X (i*m+j)) (Qe X (ac j*m+ac i)));exact Am h1 _ (h1 _)
theorem Zg2 {m i j:Nat} {X:List Int} (h:Zg X):Zg (mJ m i j X):=Vn _ Zg _ _ h λi S' h=>Vg8 h
theorem En {m i:Nat} {X:List Int} (h:Zg X):Zg (mI m i X):=Vn _ Zg _ _ h λi S' h=>Zg2 h
theorem Lz {m i:Nat} {X:List Int} (h:Zg X):Zg (eI m i X):=Vn _ Zg _ _ h λi S' h=>Am h _ (Vv8 _)
theorem Vc6 {m i j:Nat} {S:MS} (h:Zg S.1):Zg (Mk m i j S).1:=by
 unfold Mk;split
 .exact h
 exact Am h _ (Lg _ _)
theorem Zh4 {m i j:Nat} {S:MS} (h:Zg S.1):Zg (tJ m i j S).1:=Vn _ (λS':MS=>Zg S'.1) _ _ h λi S' h=>Vc6 h
theorem Zh5 {m i:Nat} {S:MS} (h:Zg S.1):Zg (tI m i S).1:=Vn _ (λS':MS=>Zg S'.1) _ _ h λi S' h=>Zh4 h
theorem Zs {n:Nat} {M:List Int} (hl:M.length=(2*n)*(2*n)) (hok:Yo (2*n) M):Zg M:=by
 intro p;rcases ZJ p M.length with h|h
 .obtain ⟨h1,h2,h3⟩:=Wq (m:=2*n) (k:=p) (by omega);have:=(hok _ h1 _ h2).1
  unfold cl at this;rw [h3] at this;exact (Uu _).1 this
 unfold Qe;rw [ZG,List.getElem?_eq_none h];exact .inr ⟨by decide,by decide⟩
end Gn
end
section
structure Bx (w:World) (g:Nat) (vs:List Value):Prop where
 cell:∀i u,vs[i]? =some u->w.cell? ⟨g,i,none⟩=some u
 fr:∀i,w.frozen? ⟨g,i,none⟩=false
 lt:g<w.heap.size
section
variable {w w':World} {g b:Nat} {vs vs':List Value}
theorem Bx.below (h:Bx w g vs) (hb:Below w.heap.size w w'):Bx w' g vs:=
 ⟨λi u hu=>(hb.cell (p:=⟨g,i,none⟩) h.lt).trans (h.cell i u hu),λi=>(hb.frozen (p:=⟨g,i,none⟩) h.lt).trans (h.fr i),ZI h.lt hb.size⟩
theorem Bx.under {B:Nat} (h:Bx w g vs) (hb:Below B w w') (hg:g<B):Bx w' g vs:=
 ⟨λi u hu=>(hb.cell (p:=⟨g,i,none⟩) hg).trans (h.cell i u hu),λi=>(hb.frozen (p:=⟨g,i,none⟩) hg).trans (h.fr i),ZI h.lt hb.size⟩
theorem Bx.only (h:Bx w g vs) (hg:w.grownBy w' (some b)) (hne:g≠b):Bx w' g vs:=
 ⟨λi u hu=>Qy hg (h.cell i u hu) hne,λi=>Jc hg (h.fr i) h.lt hne,ZI h.lt hg.size⟩
theorem Bx.new (w:World) (vs:List Value) (t:TypeId):Bx (w.alloc (.cells vs.toArray t)) w.heap.size vs:=by
 refine ⟨λi u hu=>?_,λi=>?_,?_⟩
 .rw [QM];simpa using hu
 .simp
 simp
theorem Qh (w:World) (vs:List Value) (t:TypeId):∃W,W=w.alloc (.cells vs.toArray t)∧Bx W w.heap.size vs∧Below w.heap.size w W:=⟨_,rfl,Bx.new _ _ _,(QK _ _).alloc (ZH _) _⟩
theorem Bx.drew (h:Bx w g vs):Bx w.drew g vs:=h.below (QK _ w).drew
theorem Bx.set (h:Bx w g vs) {i:Nat} (hi:i<vs.length) (u:Value):Bx (w.setCell ⟨g,i,none⟩ u) g (vs.set i u):=by
 refine ⟨λj v hv=>?_,λj=>by rw [World.frozen?_setCell];exact h.fr j,by rw [World.size_setCell];exact h.lt⟩;by_cases hij:i=j
 .subst hij;rw [List.getElem?_set_self hi] at hv;rw [<-hv];exact World.cell?_setCell_same' _ _ _ (by rw [h.cell i _ (ZF hi)];rfl)
 rw [List.getElem?_set_ne hij] at hv;have hne:(⟨g,i,none⟩:Addr)≠⟨g,j,none⟩:=λe=>hij (by injection e)
 rw [QP w _ _ u hne];exact h.cell j v hv
def Qm (w:World) (g:Nat):Nat->List Value->World
 |_,[]=>w
 |k,v::vs=>Qm (w.setCell ⟨g,k,none⟩ v) g (k+1) vs
theorem Xz {a:World} {x:Nat} (hx:x=b∨a.heap.size≤x):∀(vs:List Value) (k:Nat) (w:World),a.grownBy w (some b)->a.grownBy (Qm w x k vs) (some b)
 |[],_,_,h=>h
 |v::vs,k,w,h=>Xz hx vs (k+1) _ (Qv (p:=⟨x,k,none⟩) h hx v)
theorem Za (w:World) (g:Nat) (vs:List Value) (k:Nat):w.grownBy (Qm w g k vs) (some g):=Xz (.inl rfl) vs k w (QN _ _)
theorem Qn {B:Nat} {a:World} (hg:B≤g):∀(vs:List Value) (k:Nat) (w:World),Below B a w->Below B a (Qm w g k vs)
 |[],_,_,h=>h
 |v::vs,k,w,h=>Qn hg vs (k+1) _ (h.setCell (p:=⟨g,k,none⟩) hg v)
theorem Zh8:∀(vs':List Value) (k:Nat) (w:World) (vs:List Value),Bx w g vs->k+vs'.length=vs.length->Bx (Qm w g k vs') g (vs.take k++vs')
 |[],k,w,vs,h,hl=>by
  rw [List.append_nil,List.take_of_length_le (by simp at hl;omega)];exact h
 |v::r,k,w,vs,h,hl=>by
  simp only [QI] at hl;have h1:=h.set (i:=k) (by omega) v;have h2:=Zh8 r (k+1) _ _ h1 (by rw [QJ];omega);have e:(vs.set k v).take (k+1)++r=vs.take k++v::r:=by
   rw [List.take_succ_eq_append_getElem (by rw [QJ];omega),List.take_set_of_le (ZH _)];simp
  rw [e] at h2;exact h2
theorem Bx.put (h:Bx w g vs) (hl:vs'.length=vs.length):Bx (Qm w g 0 vs') g vs':=by
 have:=Zh8 vs' 0 w vs h (by omega)
 simpa using this
end
theorem Bx.c1 {w:World} {g:Nat} {u0 u1:Value} {t:List Value} (h:Bx w g (u0::u1::t)):w.cell? ⟨g,0,none⟩=some u0∧w.cell? ⟨g,1,none⟩=some u1:=⟨h.cell 0 _ rfl,h.cell 1 _ rfl⟩
theorem Bx.c2 {w:World} {g:Nat} {u0 u1 u2:Value} {t:List Value} (h:Bx w g (u0::u1::u2::t)):w.cell? ⟨g,0,none⟩=some u0∧w.cell? ⟨g,1,none⟩=some u1∧w.cell? ⟨g,2,none⟩=some u2:=⟨h.cell 0 _ rfl,h.cell 1 _ rfl,h.cell 2 _ rfl⟩
theorem Bx.c3 {w:World} {g:Nat} {u0 u1 u2 u3:Value} {t:List Value} (h:Bx w g (u0::u1::u2::u3::t)):w.cell? ⟨g,0,none⟩=some u0∧w.cell? ⟨g,1,none⟩=some u1∧w.cell? ⟨g,2,none⟩=some u2∧w.cell? ⟨g,3,none⟩=some u3:=⟨h.cell 0 _ rfl,h.cell 1 _ rfl,h.cell 2 _ rfl,h.cell 3 _ rfl⟩
theorem Bx.c5 {w:World} {g:Nat} {u0 u1 u2 u3 u4 u5:Value} {t:List Value} (h:Bx w g (u0::u1::u2::u3::u4::u5::t)):w.cell? ⟨g,0,none⟩=some u0∧w.cell? ⟨g,1,none⟩=some u1∧w.cell? ⟨g,2,none⟩=some u2∧w.cell? ⟨g,3,none⟩=some u3∧w.cell? ⟨g,4,none⟩=some u4∧w.cell? ⟨g,5,none⟩=some u5:=⟨h.cell 0 _ rfl,h.cell 1 _ rfl,h.cell 2 _ rfl,h.cell 3 _ rfl,h.cell 4 _ rfl,h.cell 5 _ rfl⟩
theorem Bx.c9 {w:World} {g:Nat} {u0 u1 u2 u3 u4 u5 u6 u7 u8 u9:Value} {t:List Value} (h:Bx w g (u0::u1::u2::u3::u4::u5::u6::u7::u8::u9::t)):w.cell? ⟨g,0,none⟩=some u0∧w.cell? ⟨g,1,none⟩=some u1∧w.cell? ⟨g,2,none⟩=some u2∧w.cell? ⟨g,3,none⟩=some u3∧w.cell? ⟨g,4,none⟩=some u4∧w.cell? ⟨g,5,none⟩=some u5∧w.cell? ⟨g,6,none⟩=some u6∧w.cell? ⟨g,7,none⟩=some u7∧w.cell? ⟨g,8,none⟩=some u8∧w.cell? ⟨g,9,none⟩=some u9:=⟨h.cell 0 _ rfl,h.cell 1 _ rfl,h.cell 2 _ rfl,h.cell 3 _ rfl,h.cell 4 _ rfl,h.cell 5 _ rfl,h.cell 6 _ rfl,h.cell 7 _ rfl,h.cell 8 _ rfl,h.cell 9 _ rfl⟩
end
section
section
variable {P:Program} {t e:TypeId} {z:Value} {bytes:Nat}
theorem Ql5 (E:Ga P t e z bytes) {o:Oper} {a:Act} {K:Act->World->Prop} {Q:Exit->Act->World->Prop} (w:World) (s x:Operand)
 (ho:o.op=.call {callee:=.builtin .append,args:=#[s,x],argTypes:=#[t,t]})
 (base:Nat) (k:IntKind) (A:Option Addr) (c:Nat) (xs:List Int) (hs:a.eval s=.slice A xs.length c) (hown:Ow w base e k A c xs)
 (B:Nat) (A2:Option Addr) (c2:Nat) (ys:List Int) (hx:a.eval x=.slice A2 ys.length c2) (hr:Rd w B k A2 ys.length (Qe ys))
 (hn:(xs.length+ys.length)*bytes≤140737488355328) (hbase:base≤w.heap.size)
 (h:∀A' c' w',Ow w' base e k A' c' (xs++ys)->Below base w w'->w.grownBy w' (Value.slice A xs.length c).ownBlock->K (a.put o.dst (.slice A' (xs.length+ys.length) c')) w'):
 o.wp P a w K Q:=by
 obtain ⟨i0,hi,hz0,hz1,hz2⟩:=info_parts E.info;have hb:=E.hb;have hle:xs.length+ys.length≤(xs.length+ys.length)*bytes:=Nat.le_mul_of_pos_right _ hb;rcases A2 with _|ad
 .have hy:ys=[]:=by
   rcases Nat.eq_zero_or_pos ys.length with h0|h0
   .exact QE h0
   obtain ⟨b,off,h,_⟩:=hr h0;cases h
  subst hy;have hrun:∀ty,(Builtin.append_ #[t,t] ty #[.slice A xs.length c,.slice none 0 c2]).run P w=.ok (.slice A xs.length c) w:=by
   intro ty;rcases hown.2 with ⟨hv,h0⟩|⟨g,cap,cur,hv,_,_,hnc,_⟩
   .rw [hv];simp [Builtin.append_,run_underlying E.ht,sizeOf,typeInfo,hi,Builtin.lenOf,Builtin.firstCells]
   rw [hv];simp [Builtin.append_,run_underlying E.ht,sizeOf,typeInfo,hi,Builtin.lenOf,Builtin.firstCells,hnc,storeCells]
  unfold Oper.wp execOp;simp only [List.length_nil] at hx;simp only [ho,resolve,invoke,builtin,Sem.run_bind,Sem.run_pure,Result.andThen_ok,List.map_toArray,List.map_cons,List.map_nil,hs,hx,hrun];have:=h A c w (by rw [List.append_nil];exact hown) (QK _ _) (QN _ _)
  rw [List.length_nil,Nat.add_zero] at this;exact this
 have hcells:∀j u,(ys.map (Value.int k))[j]? =some u->w.cell? (ad.add j)=some u:=by
  intro j u hu;have hj:j<ys.length:=by
   rcases ZJ j ys.length with h|h
   .exact h
   rw [List.getElem?_eq_none (by simpa using h)] at hu;cases hu
  obtain ⟨b,off,he,_,hc⟩:=hr (by omega);injection he with he;subst he;rw [Qf5 hj] at hu;rw [show (⟨b,off,none⟩:Addr).add j=⟨b,off+j,none⟩ by unfold Addr.add;split<;>simp_all,hc j hj];exact hu
 refine wp_append_own _ s x t ho base e i0 z 1 bytes E.ht hi hz0 hz1 hz2 E.hz (by decide) _ _ _ hs hown ad ys.length c2 (ys.map (Value.int k)) hx (by simp) hcells (by intro u hu;simp at hu;obtain ⟨_,_,rfl⟩:=hu;rfl) (by unfold maxLen;omega) hn hbase ?_;intro v' w1 hown' hgrow _;have hB:Below base w w1:=(QK _ _).grown hgrow hbase (λj hj=>by
  rcases hown.form with ⟨rfl,rfl,rfl⟩|⟨g,rfl,hg,_⟩
  .simp [Value.ownBlock] at hj
  simp [Value.ownBlock] at hj;omega)
 rw [<-List.map_append] at hown';obtain ⟨A',c',rfl,ho'⟩:=Ty hown' (by simp);exact h _ _ _ ho' hB hgrow
theorem Kz (E:Ga P t e z bytes) {ops:Array Oper} {rest:List Oper} {o:Oper} {a:Act} {Q:Exit->Act->World->Prop} (w:World) (hgd:o.guard=none) (s x:Operand)
 (ho:o.op=.call {callee:=.builtin .append,args:=#[s,x],argTypes:=#[t,t]})
 (base:Nat) (k:IntKind) (A:Option Addr) (c:Nat) (xs:List Int) (hs:a.eval s=.slice A xs.length c) (hown:Ow w base e k A c xs)
 (B:Nat) (A2:Option Addr) (c2:Nat) (ys:List Int) (hx:a.eval x=.slice A2 ys.length c2) (hr:Rd w B k A2 ys.length (Qe ys))
 (hn:(xs.length+ys.length)*bytes≤140737488355328) (hbase:base≤w.heap.size)
 (h:∀A' c' w',Ow w' base e k A' c' (xs++ys)->Below base w w'->w.grownBy w' (Value.slice A xs.length c).ownBlock->wpList P ops Q rest (a.put o.dst (.slice A' (xs.length+ys.length) c')) w'):
 wpList P ops Q (o::rest) a w:=
 wpList_plain hgd λ_ hK=>Ql5 E w s x ho base k A c xs hs hown B A2 c2 ys hx hr hn hbase λA' c' w' h1 h2 h3=>hK _ _ (h A' c' w' h1 h2 h3)
end
theorem Zo7 {w:World} {base base' size size' n n':Nat} {e e':TypeId} {v v':Value} {vs vs':List Value} (h:w.ownsRow base e size v n vs) (h':w.ownsRow base' e' size' v' n' vs') (hne:e≠e'):
 v.ownBlock=none∨v.ownBlock≠v'.ownBlock:=by
 rcases h.2 with ⟨rfl,_⟩|⟨g,cap,cur,rfl,hb,hh,_⟩
 .exact .inl rfl
 rcases h'.2 with ⟨rfl,_⟩|⟨g',cap',cur',rfl,hb',hh',_⟩
 .exact .inr (by simp [Value.ownBlock])
 refine .inr λe0=>?_
 simp only [Value.ownBlock,Option.some.injEq] at e0;subst e0;rw [hh] at hh';simp only [Option.some.injEq,Obj.cells.injEq] at hh';exact hne hh'.2.1
theorem Dh {w w':World} {base base' size size' n n':Nat} {e e':TypeId} {v v':Value} {vs vs':List Value} (h:w.ownsRow base e size v n vs) (h':w.ownsRow base' e' size' v' n' vs') (hne:e≠e') (hg:w.grownBy w' v'.ownBlock):
 w'.ownsRow base e size v n vs:=h.kept hg (Zo7 h h' hne)
end
