/- Lemmas for wholeNotEmpty; no conditions. -/
import Derived.Test.YtpggdkenajfjjaaGreatDoorGbq
import Derived.Lib.AppendStr
set_option linter.all false
set_option maxRecDepth 100000
set_option maxHeartbeats 16000000
namespace Go.Proofs.YtpggdkenajfjjaaGreatDoor
open Go.RowKit Tryz
open Go.Lib renaming hid → Hd
section
open Gn
def Qi3 (w:World) (k:Nat):Prop:=∀cs fl,w.heap[k]?≠some (.cells cs 5 fl)
def XB (w:World) (g:Nat) (vs:List Value) (t:TypeId):Prop:=w.heap[g]? =some (.cells vs.toArray t (0,0))
structure Aj (base bo:Nat) (w w':World):Prop where
 os:w'.os=w.os
 tape:w'.tape=w.tape
 output:w'.output=w.output
 size:w.heap.size≤w'.heap.size
 block:∀k,k<w.heap.size->k≠bo->(k<base∨Qi3 w k)->w'.heap[k]? =w.heap[k]?
section
variable {base bo:Nat} {w w' w'':World}
theorem Aj.refl (base bo:Nat) (w:World):Aj base bo w w:=⟨rfl,rfl,rfl,ZH _,λ_ _ _ _=>rfl⟩
theorem Qi3.dfr (h:Aj base bo w w') {k:Nat} (hk:k<w.heap.size) (h1:k≠bo) (h2:k<base∨Qi3 w k):k<base∨Qi3 w' k:=by
 rcases h2 with h2|h2
 .exact .inl h2
 exact .inr (λcs fl e=>h2 cs fl (by rw [<-h.block k hk h1 (.inr h2)];exact e))
theorem Aj.trans (h:Aj base bo w w') (hb:Aj base bo w' w''):Aj base bo w w'':=
 ⟨hb.os.trans h.os,hb.tape.trans h.tape,hb.output.trans h.output,ZO h.size hb.size,λk hk h1 h2=>(hb.block k (ZI hk h.size) h1 (Qi3.dfr h hk h1 h2)).trans (h.block k hk h1 h2)⟩
theorem Aj.of_below (hb:Below w.heap.size w w'):Aj base bo w w':=⟨hb.os,hb.tape,hb.output,hb.size,λk hk _ _=>hb.block k hk⟩
theorem Aj.below (h:Aj base bo w w') (hb:Below w'.heap.size w' w''):Aj base bo w w'':=h.trans (.of_below hb)
theorem Aj.cell (h:Aj base bo w w') {p:Addr} (hk:p.block<w.heap.size) (h1:p.block≠bo) (h2:p.block<base∨Qi3 w p.block):w'.cell? p=w.cell? p:=QR (h.block _ hk h1 h2)
theorem Aj.box (h:Aj base bo w w') {g:Nat} {vs:List Value} {t:TypeId} (hx:XB w g vs t) (ht:t≠5) (hg:g≠bo):XB w' g vs t:=by
 have hk:g<w.heap.size:=by
  rcases ZJ g w.heap.size with h|h
  .exact h
  unfold XB at hx;rw [Array.getElem?_eq_none h] at hx;cases hx
 exact (h.block g hk hg (.inr (λcs fl e=>by unfold XB at hx;rw [hx] at e;injection e with e;injection e with _ e _;exact ht e))).trans hx
theorem XB.bx {g:Nat} {vs:List Value} {t:TypeId} (hx:XB w g vs t):Bx w g vs:=by
 unfold XB at hx;refine ⟨λi u hu=>?_,λi=>?_,?_⟩
 .simp [World.cell?,hx,hu]
 .simp [World.frozen?,hx]
 rcases ZJ g w.heap.size with h|h
 .exact h
 rw [Array.getElem?_eq_none h] at hx;cases hx
theorem XB.below {g:Nat} {vs:List Value} {t:TypeId} (hx:XB w g vs t) (hb:Below w.heap.size w w'):XB w' g vs t:=(hb.block g hx.bx.lt).trans hx
theorem Sf (w:World) (vs:List Value) (t:TypeId):∃W,W=w.alloc (.cells vs.toArray t)∧XB W w.heap.size vs t∧Below w.heap.size w W:=⟨_,rfl,heap_alloc_new _ _,(QK _ _).alloc (ZH _) _⟩
end
structure Dg (w:World) (base bo:Nat) (xs:List Int):Prop where
 ex:∃A c,w.cell? ⟨bo,0,none⟩=some (.slice A xs.length c)∧Ow w base 5 .u8 A c xs
 fr:w.frozen? ⟨bo,0,none⟩=false
 lo:bo<base
 hb:base≤w.heap.size
theorem Dg.go {w w':World} {base bo:Nat} {xs:List Int} (h:Dg w base bo xs) (hb:Below w.heap.size w w'):Dg w' base bo xs:=by
 obtain ⟨A,c,h1,h2⟩:=h.ex;exact ⟨⟨A,c,Qq hb h1,h2.below hb⟩,(hb.frozen (p:=⟨bo,0,none⟩) (ZI h.lo h.hb)).trans h.fr,h.lo,ZO h.hb hb.size⟩
theorem Dg.put {w w':World} {base bo c:Nat} {xs ys:List Int} {A A0:Option Addr} {c0:Nat} (h:Dg w base bo xs) (hc0:w.cell? ⟨bo,0,none⟩=some (.slice A0 xs.length c0)) (h0:Ow w base 5 .u8 A0 c0 xs) (ho:Ow w' base 5 .u8 A c ys) (hg:w.grownBy w' (Value.slice A0 xs.length c0).ownBlock) {n:Nat} (hn:n=ys.length):
 (w'.cell? ⟨bo,0,none⟩=some (.slice A0 xs.length c0)∧w'.frozen? ⟨bo,0,none⟩=false∧bo<w'.heap.size)∧
 Dg (w'.setCell ⟨bo,0,none⟩ (.slice A n c)) base bo ys∧Aj base bo w (w'.setCell ⟨bo,0,none⟩ (.slice A n c)):=by
 subst hn;have:=h.lo;have hown:∀k,(Value.slice A0 xs.length c0).ownBlock=some k->base≤k∧¬Qi3 w k:=by
  intro k hk;rcases World.ownsRow.lt h0 k hk with h1;refine ⟨h1.1,?_⟩;rcases h0.2 with ⟨hv,_⟩|⟨g,cap,cur,hv,_,hh,_⟩
  .rw [hv] at hk;simp [Value.ownBlock] at hk
  rw [hv] at hk;simp [Value.ownBlock] at hk
  subst hk;exact λhN=>hN _ _ hh
 have hlt:bo<w.heap.size:=ZI h.lo h.hb;have hbk:w'.heap[bo]? =w.heap[bo]?:=hg.block bo hlt (λe=>by have:=(hown bo e.symm).1;omega);have hc:w'.cell? ⟨bo,0,none⟩=some (.slice A0 xs.length c0):=(QR hbk).trans hc0;have hf:w'.frozen? ⟨bo,0,none⟩=false:=(QU hbk).trans h.fr;have hs:=hg.size;have h3:=Qv (p:=⟨bo,0,none⟩) (QN w' (some bo)) (.inl rfl) (Value.slice A ys.length c);refine ⟨⟨hc,hf,ZI hlt hs⟩,⟨⟨A,c,World.cell?_setCell_same' _ _ _ (by rw [hc];rfl),?_⟩,?_,h.lo,?_⟩,?_⟩
 .exact World.ownsRow.kept ho h3 (by
   cases hv:(Value.slice A ys.length c).ownBlock with
   |none=>exact .inl rfl
   |some g=>exact .inr (λe=>by injection e with e;have:=(World.ownsRow.lt ho g hv).1;omega))
 .rw [World.frozen?_setCell];exact hf
 .rw [World.size_setCell];exact ZO h.hb hs
 refine ⟨h3.os.trans hg.os,h3.tape.trans hg.tape,h3.output.trans hg.output,ZO hs h3.size,λk hk h1 h2=>?_⟩;rw [h3.block k (ZI hk hs) (by intro e;injection e with e;exact h1 e)];refine hg.block k hk (λe=>?_);obtain ⟨_,h5⟩:=hown k e.symm;rcases h2 with h2|h2
 .omega
 exact h5 h2
theorem Zl3 {w w':World} {base bo c0:Nat} {xs:List Int} {A0:Option Addr} (lo:bo<base) (hb:base≤w.heap.size) (h0:Ow w base 5 .u8 A0 c0 xs) {n:Nat} (hn:n=xs.length) (hg:w.grownBy w' (Value.slice A0 n c0).ownBlock):Aj base bo w w'∧w'.heap[bo]? =w.heap[bo]?:=by
 subst hn;have hown:∀k,(Value.slice A0 xs.length c0).ownBlock=some k->base≤k∧¬Qi3 w k:=by
  intro k hk;rcases World.ownsRow.lt h0 k hk with h1;refine ⟨h1.1,?_⟩;rcases h0.2 with ⟨hv,_⟩|⟨g,cap,cur,hv,_,hh,_⟩
  .rw [hv] at hk;simp [Value.ownBlock] at hk
  rw [hv] at hk;simp [Value.ownBlock] at hk
  subst hk;exact λhN=>hN _ _ hh
 have hlt:bo<w.heap.size:=ZI lo hb;refine ⟨⟨hg.os,hg.tape,hg.output,hg.size,λk hk h1 h2=>?_⟩,hg.block bo hlt (λe=>by have:=(hown bo e.symm).1;omega)⟩;refine hg.block k hk (λe=>?_);obtain ⟨_,h5⟩:=hown k e.symm;rcases h2 with h2|h2
 .omega
 exact h5 h2
theorem Dg.set {w':World} {base bo c:Nat} {ys:List Int} {A:Option Addr} {u:Value} (lo:bo<base) (hb:base≤w'.heap.size) (hc:w'.cell? ⟨bo,0,none⟩=some u) (hf:w'.frozen? ⟨bo,0,none⟩=false) (ho:Ow w' base 5 .u8 A c ys) {n:Nat} (hn:n=ys.length):
 Dg (w'.setCell ⟨bo,0,none⟩ (.slice A n c)) base bo ys∧Aj base bo w' (w'.setCell ⟨bo,0,none⟩ (.slice A n c)):=by
 subst hn;have h3:=Qv (p:=⟨bo,0,none⟩) (QN w' (some bo)) (.inl rfl) (Value.slice A ys.length c);refine ⟨⟨⟨A,c,World.cell?_setCell_same' _ _ _ (by rw [hc];rfl),?_⟩,by rw [World.frozen?_setCell];exact hf,lo,by rw [World.size_setCell];exact hb⟩,⟨h3.os,h3.tape,h3.output,h3.size,λk hk h1 _=>h3.block k hk (by intro e;injection e with e;exact h1 e)⟩⟩;exact World.ownsRow.kept ho h3 (by
  cases hv:(Value.slice A ys.length c).ownBlock with
  |none=>exact .inl rfl
  |some g=>exact .inr (λe=>by injection e with e;have:=(World.ownsRow.lt ho g hv).1;omega))
section
variable {P:Program} {t e:TypeId} {z:Value} {bytes:Nat}
theorem Zz7 (E:Ga P t e z bytes) {ops:Array Oper} {o:Oper} {a:Act} {K:Act->World->Prop} {Q:Exit->Act->World->Prop} {N:Prop} (W:World) (hgd:o.guard=none) (s x:Operand)
 (ho:o.op=.call {callee:=.builtin .append,args:=#[s,x],argTypes:=#[t,t]})
 (base:Nat) (k:IntKind) (A:Option Addr) (c:Nat) (xs:List Int) (hs:a.eval s=.slice A xs.length c) (hown:Ow W base e k A c xs)
 (u:Int) (g:Nat) (hx:a.eval x=.slice (some ⟨g,0,none⟩) 1 1) (hcell:W.cell? ⟨g,0,none⟩=some (.int k u))
 (hn:(xs.length+1)*bytes≤140737488355328) (hbase:base≤W.heap.size)
 (h:∀A' c' w',Ow w' base e k A' c' (xs++[u])->W.grownBy w' (Value.slice A xs.length c).ownBlock->K (a.put o.dst (.slice A' (xs.length+1) c')) w'):
 if Region.wanted o (yielded ops a.tmps)=true then Oper.wp P o a W K Q else N:=by
 have hw:Region.wanted o (yielded ops a.tmps)=true:=by simp [Region.wanted,hgd]
 rw [ZM hw];have hr:Rd W (g+1) k (some ⟨g,0,none⟩) [u].length (Qe [u]):=λ_=>⟨g,0,rfl,by omega,λi hi=>by
  obtain rfl:i=0:=by simp at hi;omega
  exact hcell⟩
 refine Ql5 E W s x ho base k A c xs hs hown (g+1) (some ⟨g,0,none⟩) 1 [u] hx hr (by simpa using hn) hbase ?_;intro A' c' w' h1 _ h3;exact h A' c' w' h1 h3
end
def be8 (n:Int):List Int:=[0,0,0,0,0,0,0,n]
def Fl (l k n:Int) (s:List Int) (cs:List Int):List Int:=[l,k]++be8 n++s++[0]++cs
def Ng (s:ByteArray):List Int:=s.data.toList.map λb=>(b.toNat:Int)
theorem Qh8 (s:ByteArray):(Ng s).length=s.size:=by rw [Ng,List.length_map,Array.length_toList];rfl
theorem Vb1 {w:World} {base n:Nat} {v:Value} {zs:List Int} {s:ByteArray} (h:w.ownsRow base 5 1 v n (zs.map (Value.int .u8)++Lib.strCells s)) (hn:n=zs.length+s.size):∃A c,v=.slice A (zs.length+s.size) c∧Ow w base 5 .u8 A c (zs++Ng s):=by
 have e:zs.map (Value.int .u8)++Lib.strCells s=(zs++Ng s).map (Value.int .u8):=by
  rw [List.map_append];simp [Lib.strCells,Ng]
 rw [e] at h;obtain ⟨A,c,h1,h2⟩:=Ty h (by rw [ZC,Qh8,hn]);exact ⟨A,c,by rw [h1,hn],h2⟩
theorem Jo9 (w:World) (u:Int):∃W,W=w.alloc (.cells #[.int .u8 u] 5)∧Rd W (w.heap.size+1) .u8 (some ⟨w.heap.size,0,none⟩) 1 (Qe [u])∧Below w.heap.size w W:=by
 refine ⟨_,rfl,λ_=>⟨w.heap.size,0,rfl,by omega,λi hi=>?_⟩,(QK _ _).alloc (ZH _) _⟩;obtain rfl:i=0:=by omega
 simp [QM,Qe]
theorem Qc3 (base bo:Nat) (l k n c0 c1 c2 c3:Int) (s:ByteArray) (xs:List Int) (w:World) (h:Dg w base bo xs) (hk:k=0∨k=1) (hn:n=0∨n=1) (h0:c0=0) (h1:c1=0∨c1=1) (h2:c2=0) (h3:c3=0) (hs:s.size≤1) (hx:xs.length≤1000):
 Calls prog 154 #[.int .u8 l,.int .i64 k,.int .i64 n,.string s,.agg #[.int .i64 c0,.int .i64 c1,.int .i64 c2,.int .i64 c3],.pointer (some ⟨bo,0,none⟩)] w λe w'=>e=.returned (.tuple #[])∧Dg w' base bo (xs++Fl l k n (Ng s) [c0,c1,c2,c3])∧Aj base bo w w':=by
 subst h0 h2 h3;have hE:=elU8;obtain ⟨W,hW,hX,hB⟩:=Sf w [.int .i64 0,.int .i64 c1,.int .i64 0,.int .i64 0] 243;have hD:=h.go hB;have wk:IntKind.u8.wrap k=k:=by rcases hk with rfl|rfl<;>decide
 have wc:IntKind.u8.wrap c1=c1:=by rcases h1 with rfl|rfl<;>decide
 obtain ⟨A,c,y0,hO⟩:=hD.ex;have y1:=hD.fr;have y2:bo<W.heap.size:=ZI hD.lo hD.hb;obtain ⟨W1,hW1,hR1,hB1⟩:∃W1,W1=W.alloc (.cells #[.int .u8 l,.int .u8 k] 5)∧Rd W1 (W.heap.size+1) .u8 (some ⟨W.heap.size,0,none⟩) 2 (Qe [l,k])∧Below W.heap.size W W1:=by
  refine ⟨_,rfl,λ_=>⟨W.heap.size,0,rfl,by omega,λi hi=>?_⟩,(QK _ _).alloc (ZH _) _⟩;rcases (show i=0∨i=1 by omega) with rfl|rfl<;>simp [QM,Qe]
 have hO1:=Hd (hO.below hB1);have HD:=Hd (hD.go hB1);have z0:=Qq hB1 y0;have HX:=Hd hX;have HF:=Hd (Aj.of_below (base:=base) (bo:=bo) hB);have HB1:=Hd hB1;have HR1:=Hd hR1;have hb1:base≤W1.heap.size:=ZO hD.hb hB1.size;have hne:w.heap.size≠bo:=by have:=h.lo;have:=h.hb;omega
 clear h hX hB hD hO hB1 hR1;go_enter func154,ntmps154
 go_upto_region 1 with fail
 rw [<-hW];clear hW;go_wp2_with (first|(rw [<-hW1];clear hW1)|(at_builtin;refine Kz hE W1 rfl (.tmp 14) (.tmp 18) rfl base .u8 A c xs rfl hO1.out (W.heap.size+1) (some ⟨W.heap.size,0,none⟩) 2 [l,k] rfl HR1.out (by simp;omega) hb1 ?_;intro A' c' w9 ho9 hw9 hg9;clear hw9;obtain ⟨⟨y0,y1,y2⟩,hD9,hF9⟩:=HD.out.put z0 hO1.out ho9 hg9 (n:=xs.length+2) (by simp);have HD9:=Hd hD9;have HF9:=Hd ((Aj.of_below HB1.out).trans hF9);clear ho9 hg9 hD9 hF9))
 have HX9:=Hd (HF9.out.box HX.out (by decide) hne);generalize w9.setCell ⟨bo,0,none⟩ (.slice A' (xs.length+2) c')=V at*;clear z0 y0 y1 y2 hO1 hb1 HR1;go_loopw [20] (λs wr=>∃i:Nat,s=.int .i64 i∧i≤8∧∃zs:List Int,Hid (zs=xs++[l,k]++(be8 n).take i)∧Dg wr base bo zs∧Aj base bo W wr) (λs _=>8 - (intOf s).toNat)
 case atStart=>exact ⟨0,rfl,by omega,xs++[l,k],Hd (by simp),HD9.out,HF9.out⟩
 case round=>
  clear HD9 HF9 HX9;obtain ⟨i,rfl,hi,zs,HZ,hDr,hFr⟩:=hrel;rename_i wr _
  rcases ZJ i 8 with hlt|hge
  .have q0:decide ((i:Int)<8)=true:=ZE (by omega);obtain ⟨u,hu⟩:∃u,u=(be8 n).getD i 0:=⟨_,rfl⟩;have hzl:Hid (zs.length≤1010):=Hd (by rw [HZ.out];simp;omega);have hsz:(zs.length+1)*1≤140737488355328:=by have:=hzl.out;omega
   obtain ⟨Az,cz,x0,hOz⟩:=hDr.ex;have x1:=hDr.fr;have x2:bo<wr.heap.size:=ZI hDr.lo hDr.hb;have hbase:base≤((wr.alloc (.cells #[.int .u8 u] 5)).drew).heap.size:=by have:=hDr.hb;simp;omega
   have hnew:((wr.alloc (.cells #[.int .u8 u] 5)).drew).cell? ⟨wr.heap.size,0,none⟩=some (.int .u8 u):=by simp [QM]
   have hBa:Below wr.heap.size wr ((wr.alloc (.cells #[.int .u8 u] 5)).drew):=((QK _ wr).alloc (ZH _) _).drew;have x3:=Qq hBa x0;have HDr:=Hd (hDr.go hBa);have HFr:=Hd (hFr.below hBa);clear hBa hDr hFr;go_upto_region 5 with fail
   have ez:zs++[u]=xs++[l,k]++(be8 n).take (i+1):=by
    rw [HZ.out,hu,List.append_assoc];congr 1
    rcases (show i=0∨i=1∨i=2∨i=3∨i=4∨i=5∨i=6∨i=7 by omega) with rfl|rfl|rfl|rfl|rfl|rfl|rfl|rfl<;>rfl
   have HZ1:=Hd ez;clear ez HZ;have wu0:IntKind.u64.wrap 0=0:=by decide
   have wu1:IntKind.u64.wrap 1=1:=by decide
   have wb0:IntKind.u8.wrap 0=0:=by decide
   have wb1:IntKind.u8.wrap 1=1:=by decide
   have wi0:IntKind.i64.wrap 0=0:=by decide
   have ws0_0:∀W,(Op.shift .shr .u64 0 .i64 0).run prog W=.ok (.int .u64 0) W:=by intro W;rfl
   have ws0_1:∀W,(Op.shift .shr .u64 1 .i64 0).run prog W=.ok (.int .u64 1) W:=by intro W;rfl
   have wi8:IntKind.i64.wrap 8=8:=by decide
   have ws8_0:∀W,(Op.shift .shr .u64 0 .i64 8).run prog W=.ok (.int .u64 0) W:=by intro W;rfl
   have ws8_1:∀W,(Op.shift .shr .u64 1 .i64 8).run prog W=.ok (.int .u64 0) W:=by intro W;rfl
   have wi16:IntKind.i64.wrap 16=16:=by decide
   have ws16_0:∀W,(Op.shift .shr .u64 0 .i64 16).run prog W=.ok (.int .u64 0) W:=by intro W;rfl
   have ws16_1:∀W,(Op.shift .shr .u64 1 .i64 16).run prog W=.ok (.int .u64 0) W:=by intro W;rfl
   have wi24:IntKind.i64.wrap 24=24:=by decide
   have ws24_0:∀W,(Op.shift .shr .u64 0 .i64 24).run prog W=.ok (.int .u64 0) W:=by intro W;rfl
   have ws24_1:∀W,(Op.shift .shr .u64 1 .i64 24).run prog W=.ok (.int .u64 0) W:=by intro W;rfl
   have wi32:IntKind.i64.wrap 32=32:=by decide
   have ws32_0:∀W,(Op.shift .shr .u64 0 .i64 32).run prog W=.ok (.int .u64 0) W:=by intro W;rfl
   have ws32_1:∀W,(Op.shift .shr .u64 1 .i64 32).run prog W=.ok (.int .u64 0) W:=by intro W;rfl
   have wi40:IntKind.i64.wrap 40=40:=by decide
   have ws40_0:∀W,(Op.shift .shr .u64 0 .i64 40).run prog W=.ok (.int .u64 0) W:=by intro W;rfl
   have ws40_1:∀W,(Op.shift .shr .u64 1 .i64 40).run prog W=.ok (.int .u64 0) W:=by intro W;rfl
   have wi48:IntKind.i64.wrap 48=48:=by decide
   have ws48_0:∀W,(Op.shift .shr .u64 0 .i64 48).run prog W=.ok (.int .u64 0) W:=by intro W;rfl
   have ws48_1:∀W,(Op.shift .shr .u64 1 .i64 48).run prog W=.ok (.int .u64 0) W:=by intro W;rfl
   have wi56:IntKind.i64.wrap 56=56:=by decide
   have ws56_0:∀W,(Op.shift .shr .u64 0 .i64 56).run prog W=.ok (.int .u64 0) W:=by intro W;rfl
   have ws56_1:∀W,(Op.shift .shr .u64 1 .i64 56).run prog W=.ok (.int .u64 0) W:=by intro W;rfl
   rcases hn with rfl|rfl<;>rcases (show i=0∨i=1∨i=2∨i=3∨i=4∨i=5∨i=6∨i=7 by omega) with rfl|rfl|rfl|rfl|rfl|rfl|rfl|rfl
   all_goals
    first|obtain rfl:u=0:=hu|obtain rfl:u=1:=hu
    try clear hu
    go_region_law (refine Zz7 hE ((wr.alloc (.cells #[.int .u8 _] 5)).drew) rfl (.tmp 23) (.tmp 31) rfl base .u8 Az cz zs rfl (hOz.alloc _).drew _ wr.heap.size rfl hnew hsz hbase ?_;intro A2 c2 w9 ho9 hg9;obtain ⟨⟨y0,y1,y2⟩,hD9,hF9⟩:=HDr.out.put x3 (hOz.alloc _).drew ho9 hg9 (n:=zs.length+1) (by simp);have HD9:=Hd hD9;have HF9:=Hd (HFr.out.trans hF9);clear ho9 hg9 hD9 hF9)
    all_goals
     go_wp2_with fail
     go_roundw
     case rel=>exact ⟨_,by go_num,by omega,_,Hd HZ1.out,HD9.out,HF9.out⟩
     case measure=>simp [intOf]<;>omega
  obtain rfl:i=8:=by omega
  have q0:decide ((8:Int)<8)=false:=by simp
  have eZ:zs=xs++[l,k]++be8 n:=HZ.out;have hzl:Hid (zs.length≤1010):=Hd (by rw [eZ];simp [be8];omega);have HZ1:=Hd eZ;clear eZ HZ;obtain ⟨Az,cz,x0,hOz⟩:=hDr.ex;have x1:=hDr.fr;have x2:bo<wr.heap.size:=ZI hDr.lo hDr.hb;have hbs:=hDr.hb;have HDr:=Hd hDr;have HFr:=Hd hFr;clear hDr hFr;go_upto_region 7 with fail
  have lo:=HDr.out.lo;obtain ⟨i0,hi0,hz0,hz1,hz2⟩:=info_parts hE.info;have hUS:prog.underlying 9=some .string:=by kernel_rfl
  have hsl:Hid ((Ng s).length=s.size):=Hd (Qh8 s);have hs63:zs.length+s.size≤maxLen:=by have:=hzl.out;unfold maxLen;omega
  have hs47:zs.length+s.size≤140737488355328:=by have:=hzl.out;omega
  have hs48:((zs++Ng s).length+[(0:Int)].length)*1≤140737488355328:=by have:=hzl.out;have:=hsl.out;simp;omega
  have hl3:(zs++Ng s).length=zs.length+s.size:=by rw [ZC,hsl.out]
  have hst:∀v2 w2,w2.ownsRow base 5 1 v2 (zs.length+s.size) (zs.map (Value.int .u8)++Lib.strCells s)->wr.grownBy w2 (Value.slice Az zs.length cz).ownBlock->
   ∃A2 c2 W3,v2=.slice A2 (zs.length+s.size) c2∧W3=w2.alloc (.cells #[.int .u8 0] 5)∧Ow W3 base 5 .u8 A2 c2 (zs++Ng s)∧Rd W3 (w2.heap.size+1) .u8 (some ⟨w2.heap.size,0,none⟩) 1 (Qe [0])∧base≤W3.heap.size∧
    ∀A' c' w9,Ow w9 base 5 .u8 A' c' (zs++Ng s++[0])->W3.grownBy w9 (Value.slice A2 (zs++Ng s).length c2).ownBlock->
     w9.cell? ⟨bo,0,none⟩=some (.slice Az zs.length cz)∧w9.frozen? ⟨bo,0,none⟩=false∧bo<w9.heap.size∧
     Hid (Dg (w9.setCell ⟨bo,0,none⟩ (.slice A' (zs.length+s.size+1) c')) base bo (zs++Ng s++[0]))∧Hid (Aj base bo W (w9.setCell ⟨bo,0,none⟩ (.slice A' (zs.length+s.size+1) c'))):=by
   intro v2 w2 ho2 hg2;obtain ⟨A2,c2,rfl,hO2⟩:=Vb1 ho2 rfl;obtain ⟨hF2,hk2⟩:=Zl3 (bo:=bo) lo hbs hOz rfl hg2;have y0:=(QR (a:=⟨bo,0,none⟩) hk2).trans x0;have y1:=(QU (a:=⟨bo,0,none⟩) hk2).trans x1;have y2:=ZI x2 hF2.size;have hb2:=ZO hbs hF2.size;obtain ⟨W3,hW3,hR3,hB3⟩:=Jo9 w2 0;have hb3:=ZO hb2 hB3.size;refine ⟨A2,c2,W3,rfl,hW3,hO2.below hB3,hR3,hb3,λA' c' w9 ho9 hg9=>?_⟩;obtain ⟨hF9,hk9⟩:=Zl3 (bo:=bo) lo hb3 (hO2.below hB3) rfl hg9;have z0:=(QR (a:=⟨bo,0,none⟩) hk9).trans (Qq hB3 y0);have z1:=(QU (a:=⟨bo,0,none⟩) hk9).trans ((hB3.frozen (p:=⟨bo,0,none⟩) y2).trans y1);obtain ⟨hD,hF⟩:=Dg.set (c:=c') (n:=zs.length+s.size+1) lo (ZO hb3 hF9.size) z0 z1 ho9 (by rw [ZC,hl3];rfl);exact ⟨z0,z1,ZI lo (ZO hb3 hF9.size),Hd hD,Hd (((((HFr.out.trans hF2).below hB3)).trans hF9).trans hF)⟩
  have Hst:=Hd hst;have HL3:=Hd hl3;clear hst hl3;go_upto_region 7 with fail
  go_upto_region 8 with (first
   |(rw [<-hW3];clear hW3)
   |(at_builtin;refine Lib.wpList_append_own_string wr rfl (.tmp 34) (.tmp 35) 47 9 rfl base 5 i0 hE.ht hUS hi0 (by first|exact hz0|exact hz1|exact hz2) (by first|exact hz0|exact hz1|exact hz2) (by first|exact hz0|exact hz1|exact hz2) _ zs.length (zs.map (Value.int .u8)) rfl hOz s rfl hs63 hs47 hbs ?_;intro v2 w2 ho2 hg2 hv2;clear hv2;obtain ⟨A2,c2,W3,rfl,hW3,hO3,hR3,hb3,h9⟩:=Hst.out v2 w2 ho2 hg2;clear ho2 hg2)
   |(at_builtin;refine Kz hE W3 rfl (.tmp 36) (.tmp 37) rfl base .u8 A2 c2 (zs++Ng s) (by rw [HL3.out];rfl) hO3 (w2.heap.size+1) (some ⟨w2.heap.size,0,none⟩) 1 [0] rfl hR3 hs48 hb3 ?_;rw [HL3.out];intro A' c' w9 ho9 hw9 hg9;clear hw9;rw [<-HL3.out] at hg9;obtain ⟨y0,y1,y2,HD9,HF9⟩:=h9 A' c' w9 ho9 hg9;clear ho9 hg9 h9 hO3 hR3 hb3))
  have HX9:=Hd (HF9.out.box HX.out (by decide) hne);obtain ⟨m0,m1,m2,m3⟩:=HX9.out.bx.c3;have ml:=HX9.out.bx.lt;have HY:=Hd (show zs++Ng s++[0]=xs++[l,k]++be8 n++Ng s++[0] by rw [HZ1.out]);have hyl:Hid ((zs++Ng s++[0]).length≤1020):=Hd (by have:=hzl.out;have:=HL3.out;simp only [ZC,QI,List.length_nil] at*;omega);generalize w9.setCell ⟨bo,0,none⟩ (.slice A' (zs.length+s.size+1) c')=V at*;generalize zs++Ng s++[0]=ys at*;clear Hst x0 x1 x2 y0 y1 y2 HX9 hOz HDr HFr hs48;go_wp2_with fail
  go_loopw [40] (λs wr=>∃j:Nat,s=.int .i64 j∧j≤4∧∃zs:List Int,Hid (zs=ys++([0,c1,0,0]:List Int).take j)∧Dg wr base bo zs∧Aj base bo W wr) (λs _=>4 - (intOf s).toNat)
  case atStart=>exact ⟨0,rfl,by omega,ys,Hd (by simp),HD9.out,HF9.out⟩
  clear HD9 HF9;obtain ⟨j,rfl,hj,us,HU,hDr,hFr⟩:=hrel;rcases ZJ j 4 with hlt|hge
  .have q0:decide ((j:Int)<4)=true:=ZE (by omega);obtain ⟨u,hu⟩:∃u,u=([0,c1,0,0]:List Int).getD j 0:=⟨_,rfl⟩;have hul:Hid (us.length≤1030):=Hd (by have:=hyl.out;rw [HU.out];simp;omega);have hsz:(us.length+[u].length)*1≤140737488355328:=by have:=hul.out;simp;omega
   obtain ⟨Az,cz,x0,hOz⟩:=hDr.ex;have x1:=hDr.fr;have x2:bo<wr.heap.size:=ZI hDr.lo hDr.hb;obtain ⟨W5,hW5,hR5,hB5⟩:=Jo9 wr u;have hO5:=hOz.below hB5;have HDr:=Hd (hDr.go hB5);have HFr:=Hd (hFr.below hB5);have x3:=Qq hB5 x0;have hb5:=HDr.out.hb;have ez:us++[u]=ys++([0,c1,0,0]:List Int).take (j+1):=by
    rw [HU.out,hu,List.append_assoc];congr 1
    rcases (show j=0∨j=1∨j=2∨j=3 by omega) with rfl|rfl|rfl|rfl<;>rfl
   have HZ1:=Hd ez;have wz:IntKind.u8.wrap u=u:=by
    rw [hu];rcases (show j=0∨j=1∨j=2∨j=3 by omega) with rfl|rfl|rfl|rfl
    .exact (by decide:IntKind.u8.wrap 0=0)
    .exact wc
    .exact (by decide:IntKind.u8.wrap 0=0)
    exact (by decide:IntKind.u8.wrap 0=0)
   have hix:∀W,(Instr.index 243 (.agg #[.int .i64 0,.int .i64 c1,.int .i64 0,.int .i64 0]) (.int .i64 (j:Int))).run prog W=.ok (.int .i64 u) W:=by
    intro W;rw [hu];rcases (show j=0∨j=1∨j=2∨j=3 by omega) with rfl|rfl|rfl|rfl<;>kernel_rfl
   clear ez HU hu hDr hFr hB5;go_wp2_with (first
    |(rw [<-hW5];clear hW5)
    |(at_builtin;refine Kz hE W5 rfl (.tmp 43) (.tmp 46) rfl base .u8 Az cz us rfl hO5 (wr.heap.size+1) (some ⟨wr.heap.size,0,none⟩) 1 [u] rfl hR5 hsz hb5 ?_;intro A7 c7 w9 ho9 hw9 hg9;clear hw9;obtain ⟨⟨y0,y1,y2⟩,hD9,hF9⟩:=HDr.out.put x3 hO5 ho9 hg9 (n:=us.length+1) (by simp);have HD9:=Hd hD9;have HF9:=Hd (HFr.out.trans hF9);clear ho9 hg9 hD9 hF9))
   go_roundw
   case rel=>exact ⟨_,by go_num,by omega,_,Hd HZ1.out,HD9.out,HF9.out⟩
   simp [intOf]<;>omega
  obtain rfl:j=4:=by omega
  have q0:decide ((4:Int)<4)=false:=by simp
  have HDr:=Hd hDr;have HFr:=Hd hFr;clear hDr hFr;go_wp2_with fail
  go_end0
  refine ⟨rfl,?_,HF.out.trans HFr.out⟩;have e:xs++Fl l k n (Ng s) [0,c1,0,0]=us:=by
   rw [HU.out,HY.out];simp [Fl,be8]
  rw [e];exact HDr.out
end
section
open Gn
def Zu5 (bo:Nat):Value:=.func (.func 154) #[] #[.pointer (some ⟨bo,0,none⟩)]
def Qn4 (bp be:Nat):Value:=.func (.func 155) #[] #[.pointer (some ⟨bp,0,none⟩),.pointer (some ⟨be,0,none⟩)]
def Ls (bp bc be bs:Nat):Value:=.func (.func 157) #[] #[.pointer (some ⟨bp,0,none⟩),.pointer (some ⟨bc,0,none⟩),.pointer (some ⟨be,0,none⟩),.pointer (some ⟨bs,0,none⟩)]
structure Dge (w:World) (base bo bp be bc bs:Nat) (xs:List Int):Prop where
 dg:Dg w base bo xs
 p:XB w bp [Zu5 bo] 244
 e:XB w be [Qn4 bp be] 235
 s:XB w bs [Ls bp bc be bs] 150
 n1:bp≠bo
 n2:be≠bo
 n3:bs≠bo
theorem Dge.go {w w':World} {base bo bp be bc bs:Nat} {xs:List Int} (h:Dge w base bo bp be bc bs xs) (hb:Below w.heap.size w w'):Dge w' base bo bp be bc bs xs:=⟨h.dg.go hb,h.p.below hb,h.e.below hb,h.s.below hb,h.n1,h.n2,h.n3⟩
theorem Dge.step {w w':World} {base bo bp be bc bs:Nat} {xs ys:List Int} (h:Dge w base bo bp be bc bs xs) (hD:Dg w' base bo ys) (hF:Aj base bo w w'):Dge w' base bo bp be bc bs ys:=⟨hD,hF.box h.p (by decide) h.n1,hF.box h.e (by decide) h.n2,hF.box h.s (by decide) h.n3,h.n1,h.n2,h.n3⟩
theorem Jr2 (base bo bp be bc bs:Nat) (xs:List Int) (w:World) (h:Dge w base bo bp be bc bs xs) (hx:xs.length≤900):
 Calls prog 155 #[.agg #[.int .i64 1,.int .i64 1,.string ⟨#[]⟩,.slice none 0 0],.pointer (some ⟨bp,0,none⟩),.pointer (some ⟨be,0,none⟩)] w λe w'=>e=.returned (.tuple #[])∧Dge w' base bo bp be bc bs (xs++Fl 69 1 1 [] [0,0,0,0])∧Aj base bo w w':=by
 obtain ⟨W,hW,hX,hB⟩:=Sf w Zw 234;have h1:=h.go hB;have hne:w.heap.size≠bo:=by have:=h.dg.lo;have:=h.dg.hb;omega
 have cP:=Hd (Qc3 base bo 69 1 1 0 0 0 0 ⟨#[]⟩ xs W h1.dg (.inr rfl) (.inr rfl) rfl (.inl rfl) rfl rfl (by decide) (by omega));obtain ⟨_,_,_,_⟩:=hX.bx.c3;have:=hX.bx.lt;have p0:=h1.p.bx.cell 0 _ rfl;have:=h1.p.bx.lt;unfold Zu5 at p0;unfold Zw at*;have H1:=Hd h1;have HX:=Hd hX;have HB:=Hd hB;clear h h1 hX hB;go_enter func155,ntmps155
 go_upto_region 1 with fail
 rw [<-hW];clear hW;go_wp2_with (go_at_call 154;(with_reducible refine cP.out.mono ?_);rintro e _ ⟨rfl,hD1,hF1⟩;have HX1:=Hd (hF1.box HX.out (by decide) hne);have HD1:=Hd (H1.out.step hD1 hF1);have HF1:=Hd ((Aj.of_below (base:=base) (bo:=bo) HB.out).trans hF1);clear hD1 hF1;have:=HX1.out.bx.cell 3 _ rfl;have:=HX1.out.bx.lt)
 go_rounds 1
 go_wp2_with fail
 go_end0
 exact ⟨rfl,HD1.out,HF1.out⟩
theorem Cl.dfr {w w':World} {base bo g:Nat} {vs:List Value} (h:Cl w g vs) (hF:Aj base bo w w') (h1:g<bo) (h2:bo<base):Cl w' g vs:=⟨ZI h.1 hF.size,λj u hu=>(hF.cell (p:=⟨g,j,none⟩) h.1 (by show g≠bo;omega) (.inl (by show g<base;omega))).trans (h.2 j u hu)⟩
theorem Cm (a b c d:Value) (w:World):Calls prog 157 #[.slice none 0 0,a,b,c,d] w λe w'=>e=.returned (.tuple #[])∧Below w.heap.size w w':=by
 go_enter func157,ntmps157
 go_wp2
 go_rounds 1
 go_wp2
 go_end0
 exact ⟨rfl,by go_grown⟩
def stP:List Int:=Fl 83 1 0 (Ng sX) [0,1,0,0]++Fl 69 1 1 [] [0,0,0,0]
theorem Jz8 (base bo bp be bc bs gb cb ge ce:Nat) (xs:List Int) (w:World) (h:Dge w base bo bp be bc bs xs) (hS:Cl w gb (Ja ge ce)) (hE:Cl w ge Zw) (l1:gb<bo) (l2:ge<bo) (hx:xs.length≤800):
 Calls prog 157 #[.slice (some ⟨gb,0,none⟩) 1 cb,.pointer (some ⟨bp,0,none⟩),.pointer (some ⟨bc,0,none⟩),.pointer (some ⟨be,0,none⟩),.pointer (some ⟨bs,0,none⟩)] w λe w'=>e=.returned (.tuple #[])∧Dge w' base bo bp be bc bs (xs++stP)∧Aj base bo w w':=by
 obtain ⟨W,hW,hX,hB⟩:=Sf w (Ja ge ce) 222;have h1:=h.go hB;have lo:=h.dg.lo;have hne:w.heap.size≠bo:=by have:=h.dg.hb;omega
 have cP:=Hd (Qc3 base bo 83 1 0 0 1 0 0 sX xs W h1.dg (.inr rfl) (.inl rfl) rfl (.inr rfl) rfl rfl (by decide) (by omega));have y0:=hS.2 0 _ rfl;have y1:=hS.2 1 _ rfl;have y2:=hS.2 2 _ rfl;have y3:=hS.2 3 _ rfl;have y4:=hS.2 4 _ rfl;have y5:=hS.2 5 _ rfl;have hl:=hS.1;unfold Ja at hW hX;have H1:=Hd h1;have HX:=Hd hX;have HF:=Hd (Aj.of_below (base:=base) (bo:=bo) hB);have HE:=Hd (hE.go hB);have hbl:Hid (xs.length≤800):=Hd hx;clear h h1 hX hB hS hE hx;go_enter func157,ntmps157
 go_wp2_with fail
 refine wp_loop_rounds 2 ?_;rw [QX];go_upto_region 3 with fail
 rw [<-hW];clear hW y0 y1 y2 y3 y4 y5 hl;obtain ⟨y0,y1,y2,y3,y4,y5⟩:=HX.out.bx.c5;have yl:=HX.out.bx.lt;have p0:=H1.out.p.bx.cell 0 _ rfl;have pl:=H1.out.p.bx.lt;unfold Zu5 at p0;go_upto_region 4 with (go_at_call 154;(with_reducible refine cP.out.mono ?_);rintro e w1 ⟨rfl,hD1,hF1⟩;have HX1:=Hd (hF1.box HX.out (by decide) hne);have HD1:=Hd (H1.out.step hD1 hF1);have HE1:=Hd (HE.out.dfr hF1 l2 lo);have HF1:=Hd (HF.out.trans hF1);clear hD1 hF1)
 clear y0 y1 y2 y3 y4 y5 yl p0 pl;have y2:=HX1.out.bx.cell 2 _ rfl;have y3:=HX1.out.bx.cell 3 _ rfl;have yl:=HX1.out.bx.lt;have e0:=HE1.out.2 0 _ rfl;have e1:=HE1.out.2 1 _ rfl;have e2:=HE1.out.2 2 _ rfl;have e3:=HE1.out.2 3 _ rfl;have el:=HE1.out.1;obtain ⟨W4,hW4,hX4,hB4⟩:=Sf w1 Zw 234;unfold Zw at hW4;have cE:=Hd (Jr2 base bo bp be bc bs (xs++Fl 83 1 0 (Ng sX) [0,1,0,0]) W4 (HD1.out.go hB4) (by have:=hbl.out;simp [Fl,be8,Ng,sX];omega));have HX4:=Hd hX4;have HX14:=Hd (HX1.out.below hB4);have HD4:=Hd (HD1.out.go hB4);have HF4:=Hd (HF1.out.trans (Aj.of_below (base:=base) (bo:=bo) hB4));clear hX4 hB4;go_wp2_with fail
 go_rounds 1
 go_wp2_with fail
 refine wp_loop_rounds 2 ?_;rw [QX];go_upto_region 12 with fail
 rw [<-hW4];clear hW4 y2 y3 yl e0 e1 e2 e3 el;obtain ⟨x0,x1,x2,x3⟩:=HX4.out.bx.c3;have xl:=HX4.out.bx.lt;have p0:=HD4.out.e.bx.cell 0 _ rfl;have pl:=HD4.out.e.bx.lt;unfold Qn4 at p0;go_upto_region 13 with (go_at_call 155;(with_reducible refine cE.out.mono ?_);rintro e _ ⟨rfl,hD5,hF5⟩;have HX5:=Hd (hF5.box HX14.out (by decide) hne);have HD5:=Hd hD5;have HF5:=Hd (HF4.out.trans hF5);clear hD5 hF5)
 clear x0 x1 x2 x3 xl p0 pl;have y4:=HX5.out.bx.cell 4 _ rfl;have y5:=HX5.out.bx.cell 5 _ rfl;have yl:=HX5.out.bx.lt;have p0:=HD5.out.s.bx.cell 0 _ rfl;have pl:=HD5.out.s.bx.lt;unfold Ls at p0;go_wp2_with fail
 rw [QX];go_upto_region 15 with (go_at_call 157;(with_reducible refine (Cm _ _ _ _ _).mono ?_);rintro e _ ⟨rfl,hb6⟩;have HX6:=Hd (HX5.out.below hb6);have HD6:=Hd (HD5.out.go hb6);have HF6:=Hd (HF5.out.trans (Aj.of_below (base:=base) (bo:=bo) hb6));clear hb6)
 clear y4 y5 yl p0 pl;have y5:=HX6.out.bx.cell 5 _ rfl;have yl:=HX6.out.bx.lt;have p0:=HD6.out.s.bx.cell 0 _ rfl;have pl:=HD6.out.s.bx.lt;unfold Ls at p0;go_wp2_with (go_at_call 157;(with_reducible refine (Cm _ _ _ _ _).mono ?_);rintro e _ ⟨rfl,hb7⟩;have HD7:=Hd (HD6.out.go hb7);have HF7:=Hd (HF6.out.trans (Aj.of_below (base:=base) (bo:=bo) hb7));clear hb7)
 rw [QX];go_wp2_with fail
 go_end0
 have e:xs++stP=xs++Fl 83 1 0 (Ng sX) [0,1,0,0]++Fl 69 1 1 [] [0,0,0,0]:=by rw [stP,List.append_assoc]
 rw [e];exact ⟨rfl,HD7.out,HF7.out⟩
def Jr7 (bp be bc:Nat):Value:=.func (.func 156) #[] #[.pointer (some ⟨bp,0,none⟩),.pointer (some ⟨be,0,none⟩),.pointer (some ⟨bc,0,none⟩)]
theorem Va.dfr {w w':World} {base bo gd gb ge ce:Nat} (h:Va w gd gb ge ce) (hF:Aj base bo w w') (h1:gd<bo) (h2:gb<bo) (h3:ge<bo) (h4:bo<base):Va w' gd gb ge ce:=⟨h.decls.dfr hF h1 h4,h.body.dfr hF h2 h4,h.expr.dfr hF h3 h4⟩
def pgP:List Int:=Fl 68 0 0 (Ng sX) [0,0,0,0]++stP
theorem Bx.dfr {w w':World} {base bo g:Nat} {vs:List Value} (h:Bx w g vs) (hF:Aj base bo w w') (h1:g<bo) (h2:bo<base):Bx w' g vs:=by
 have hk:=hF.block g h.lt (by omega) (.inl (by omega));exact ⟨λi u hu=>(QR (a:=⟨g,i,none⟩) hk).trans (h.cell i u hu),λi=>(QU (a:=⟨g,i,none⟩) hk).trans (h.fr i),ZI h.lt hF.size⟩
theorem Jq8 (w:World):∃W,W=((((w.alloc (.cells #[.slice none 0 0] 47)).alloc (.cells #[Zu5 w.heap.size] 244)).alloc (.cells #[Qn4 (w.heap.size+1) (w.heap.size+1+1)] 235)).alloc (.cells #[Jr7 (w.heap.size+1) (w.heap.size+1+1) (w.heap.size+1+1+1)] 232)).alloc (.cells #[Ls (w.heap.size+1) (w.heap.size+1+1+1) (w.heap.size+1+1) (w.heap.size+1+1+1+1)] 150)∧
 Dge W (w.heap.size+1) w.heap.size (w.heap.size+1) (w.heap.size+1+1) (w.heap.size+1+1+1) (w.heap.size+1+1+1+1) []∧Below w.heap.size w W:=by
 obtain ⟨W1,hW1,hX1,hB1⟩:=Sf w [.slice none 0 0] 47;have h1:W1.heap.size=w.heap.size+1:=by rw [hW1];simp
 obtain ⟨W2,hW2,hX2,hB2⟩:=Sf W1 [Zu5 w.heap.size] 244;have h2:W2.heap.size=w.heap.size+1+1:=by rw [hW2];simp [h1]
 obtain ⟨W3,hW3,hX3,hB3⟩:=Sf W2 [Qn4 (w.heap.size+1) (w.heap.size+1+1)] 235;have h3:W3.heap.size=w.heap.size+1+1+1:=by rw [hW3];simp [h2]
 obtain ⟨W4,hW4,_,hB4⟩:=Sf W3 [Jr7 (w.heap.size+1) (w.heap.size+1+1) (w.heap.size+1+1+1)] 232;have h4:W4.heap.size=w.heap.size+1+1+1+1:=by rw [hW4];simp [h3]
 obtain ⟨W5,hW5,hX5,hB5⟩:=Sf W4 [Ls (w.heap.size+1) (w.heap.size+1+1+1) (w.heap.size+1+1) (w.heap.size+1+1+1+1)] 150;have:W5.heap.size=w.heap.size+1+1+1+1+1:=by rw [hW5];simp [h4]
 rw [h1] at hX2;rw [h2] at hX3;rw [h4] at hX5;refine ⟨W5,by rw [hW5,hW4,hW3,hW2,hW1],⟨⟨⟨none,0,((((hX1.below hB2).below hB3).below hB4).below hB5).bx.cell 0 _ rfl,Ow.nil _ _ _ _⟩,((((hX1.below hB2).below hB3).below hB4).below hB5).bx.fr 0,by omega,by omega⟩,((hX2.below hB3).below hB4).below hB5,(hX3.below hB4).below hB5,hX5,by omega,by omega,by omega⟩,?_⟩;exact (((hB1.trans (hB2.mono (by omega))).trans (hB3.mono (by omega))).trans (hB4.mono (by omega))).trans (hB5.mono (by omega))
theorem Jv4 (gd cd gb cb ge ce:Nat) (w:World) (h:Va w gd gb ge ce):
 Calls prog 91 #[Wl gd cd gb cb] w λe w'=>∃A c,e=.returned (.tuple #[.slice A pgP.length c,.int .i64 0])∧Ow w' w.heap.size 5 .u8 A c pgP∧Below w.heap.size w w':=by
 obtain ⟨W0,hW0,hX0,hB0⟩:=Qh w (Qs gd cd gb cb) 86;have hP0:Va W0 gd gb ge ce:=h.go hB0;have cT:=Hd (Is gd cd gb cb ge ce W0 hP0);obtain ⟨y0,y1⟩:=hX0.c1;have yl:=hX0.lt;have HX0:=Hd hX0;have HP0:=Hd hP0;have HB0:=Hd hB0;unfold Wl at cT |-
 unfold Qs at hW0;clear h hX0 hP0 hB0;go_enter func91,ntmps91
 go_upto_region 1 with fail
 rw [<-hW0];clear hW0;go_upto_region 4 with (go_at_call 82;(with_reducible refine cT.out.mono ?_);rintro e w1 ⟨rfl,hb1⟩;have HX1:=Hd (HX0.out.below hb1);have HP1:=Hd (HP0.out.go hb1);have HB1:=Ht HB0 hb1;clear hb1)
 clear y0 y1 yl;have l1:=HP1.out.decls.1;have l2:=HP1.out.body.1;have l3:=HP1.out.expr.1;have l0:=HX1.out.lt;obtain ⟨W,hW,hD,hB⟩:=Jq8 w1;have hlo:=hD.dg.lo;have hF0:Aj (w1.heap.size+1) w1.heap.size w1 W:=Aj.of_below hB;have HX:=Hd (HX1.out.below hB);have HP:=Hd (HP1.out.go hB);have:=Hd hD;have:=Hd hF0;obtain ⟨W2,hW2,hX2,hB2⟩:=Sf W Zm 51;have HD2:=Hd (hD.go hB2);have HX2:=Hd hX2;have HF2:=Hd (hF0.below hB2);have:W.heap.size≠w1.heap.size:=by have:=hD.dg.hb;omega
 have cP:=Hd (Qc3 (w1.heap.size+1) w1.heap.size 68 0 0 0 0 0 0 sX [] W2 HD2.out.dg (.inl rfl) (.inl rfl) rfl (.inl rfl) rfl rfl (by decide) (by simp));have HXW:=Hd ((HX1.out.below hB).below hB2);have HPW:=Hd ((HP1.out.go hB).go hB2);clear hD hB hF0 hX2 hB2;unfold Zu5 Qn4 Jr7 Ls at hW;unfold Zm at hW2;go_upto_region 12 with fail
 rw [<-hW];clear hW;obtain ⟨y0,y1⟩:=HX.out.c1;have yl:=HX.out.lt;have d0:=HP.out.decls.2 0 _ rfl;have d1:=HP.out.decls.2 1 _ rfl;have dl:=HP.out.decls.1;unfold Qs at HX HXW;go_wp2_with fail
 refine wp_loop_rounds 2 ?_;rw [QX];go_upto_region 15 with fail
 rw [<-hW2];clear hW2 y0 y1 yl d0 d1 dl;obtain ⟨d0,d1⟩:=HX2.out.bx.c1;have dl:=HX2.out.bx.lt;have p0:=HD2.out.p.bx.cell 0 _ rfl;have pl:=HD2.out.p.bx.lt;unfold Zu5 at p0;have:∀W,(zeroValue 243).run prog W=.ok (.agg #[.int .i64 0,.int .i64 0,.int .i64 0,.int .i64 0]) W:=λW=>by kernel_rfl
 go_upto_region 16 with (go_at_call 154;(with_reducible refine cP.out.mono ?_);rintro e w5 ⟨rfl,hD5,hF5⟩;have HD5:=Hd (HD2.out.step hD5 hF5);have HF5:=Hd (HF2.out.trans hF5);have hX5:=HXW.out.dfr hF5 l0 hlo;have HP5:=Hd (HPW.out.dfr hF5 l1 l2 l3 hlo);have y1:=hX5.cell 1 _ rfl;have yl:=hX5.lt;clear hD5 hF5)
 clear d0 d1 dl p0 pl;have p0:=HD5.out.s.bx.cell 0 _ rfl;have pl:=HD5.out.s.bx.lt;unfold Ls at p0;have cS:=Hd (Jz8 (w1.heap.size+1) w1.heap.size _ _ _ _ gb cb ge ce _ w5 HD5.out HP5.out.body HP5.out.expr l2 l3 (by simp [Fl,be8,Ng,sX]));go_wp2_with fail
 rw [QX];go_upto_region 18 with (go_at_call 157;(with_reducible refine cS.out.mono ?_);rintro e w6 ⟨rfl,hD6,hF6⟩;have HD6:=Hd hD6;have HF6:=Hd (HF5.out.trans hF6);clear hD6 hF6)
 obtain ⟨A,c,z0,hO⟩:=HD6.out.dg.ex;have:=QO w6 _ z0;have e:[]++Fl 68 0 0 (Ng sX) [0,0,0,0]++stP=pgP:=by simp [pgP]
 rw [e] at z0 hO;go_wp2_with fail
 exact QL (v:=.tuple #[.slice A pgP.length c,.int .i64 0]) (by simp [results,results91,go_sem]) rfl ⟨A,c,rfl,hO.lower (by have:=HB1.out.size;omega),HB1.out.trans ⟨HF6.out.os,HF6.out.tape,HF6.out.output,HF6.out.size,λk hk=>HF6.out.block k (ZI hk HB1.out.size) (by have:=HB1.out.size;omega) (.inl (by have:=HB1.out.size;omega))⟩⟩
def Vu4 (n c:Int):Int:=IntKind.u64.wrap (bits BinOp.xor IntKind.u64 n (IntKind.u64.wrap c)*1099511628211)
def Qw7 (xs:List Int):Nat->Int
 |0=>14695981039346656037
 |k+1=>Vu4 (Qw7 xs k) (Qe xs k)
theorem Ve5 (base:Nat) (A:Option Addr) (c:Nat) (xs:List Int) (w:World) (hO:Ow w base 5 .u8 A c xs) (hx:xs.length≤1000):
 Calls prog 92 #[.slice A xs.length c] w λe w'=>e=.returned (.int .u64 (Qw7 xs xs.length))∧Below w.heap.size w w':=by
 obtain ⟨L,_⟩:∃L,Hid (L=xs.length):=⟨_,Hd rfl⟩;go_enter func92,ntmps92
 go_wp2_with fail
 go_loopw [3,8] (λs3 s8 wr=>∃k:Nat,s8=.int .i64 k∧k≤xs.length∧s3=.int .u64 (Qw7 xs k)∧wr=w) (λ_ s _=>xs.length - (intOf s).toNat)
 case atStart=>exact ⟨0,rfl,by omega,rfl,rfl⟩
 case round=>
  obtain ⟨k,rfl,_,rfl,rfl⟩:=hrel;rcases ZJ k xs.length with hlt|hge
  .have q0:decide ((k:Int)<(xs.length:Int))=true:=ZE (by omega);rcases hO.form with ⟨rfl,rfl,rfl⟩|⟨g,rfl,hg,hgl,hcl,hcm,hcell⟩
   .simp at hlt
   have:=hcell k hlt;have:=hO.capMax;go_wp2_with fail
   refine ⟨⟨k+1,by simp,by omega,rfl,trivial⟩,by simp [intOf];omega⟩
  obtain rfl:k=xs.length:=by omega
  have q0:decide ((xs.length:Int)<(xs.length:Int))=false:=by simp
  go_wp2_with fail
  go_ret
  exact ⟨rfl,QK _ _⟩
def Ue:Int:=Qw7 pgP pgP.length
theorem Zc3:0≤Ue∧Ue≤18446744073709551615:=by
 have:pgP.length=46+1:=by decide
 unfold Ue;rw [this];unfold Qw7 Vu4;generalize bits BinOp.xor IntKind.u64 _ _*1099511628211=z;have:IntKind.u64.wrap z=z % 18446744073709551616:=by rw [IntKind.wrap];rfl
 omega
theorem Zg8 (gd cd gb cb ge ce:Nat) (w:World) (h:Va w gd gb ge ce):
 Calls prog 46 #[Wl gd cd gb cb] w λe w'=>e=.returned (.tuple #[.int .u64 Ue,.int .i64 0])∧Below w.heap.size w w':=by
 obtain ⟨W0,hW0,hX0,hB0⟩:=Qh w (Qs gd cd gb cb) 86;have cB:=Hd (Jv4 gd cd gb cb ge ce W0 (h.go hB0));obtain ⟨_,_⟩:=hX0.c1;have:=hX0.lt;have HB0:=Hd hB0;unfold Wl at cB |-
 unfold Qs at hW0;have hl:Hid (pgP.length≤1000):=Hd (by decide);have:Hid (Qw7 pgP pgP.length=Ue):=Hd rfl;clear h hX0 hB0;go_enter func46,ntmps46
 go_upto_region 1 with fail
 rw [<-hW0];clear hW0;go_wp2_with (first
  |(go_at_call 91;(with_reducible refine cB.out.mono ?_);rintro e w1 ⟨A,c,rfl,hO,hb1⟩;have HB1:=Ht HB0 hb1;have HO:=Hd hO;clear hb1 hO)
  |(go_at_call 92;(with_reducible refine (Ve5 _ A c pgP w1 HO.out hl.out).mono ?_);rintro e _ ⟨rfl,hb2⟩;have HB2:=Ht HB1 hb2;clear hb2))
 exact QL (v:=.tuple #[.int .u64 Ue,.int .i64 0]) (by simp [results,results46,go_sem,Ue]) rfl ⟨rfl,HB2.out⟩
end
