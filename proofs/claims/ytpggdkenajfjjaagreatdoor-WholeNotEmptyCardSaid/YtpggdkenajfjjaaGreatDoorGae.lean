/- Lemmas for wholeNotEmpty; no conditions. -/
import Derived.Test.YtpggdkenajfjjaaGreatDoorGad
import Derived.Lib.Hide
set_option linter.all false
set_option maxRecDepth 100000
set_option maxHeartbeats 16000000
namespace Go.Proofs.YtpggdkenajfjjaaGreatDoor
open Go.RowKit
section
def Vj (w:World) (b:Nat) (es:List MapEntry) (c:Nat):Prop:=w.heap[b]? =some (.map es.toArray c)
def Ky (w:World) (b:Nat) (es:List MapEntry) (c:Nat):World:={w with heap:=w.heap.setIfInBounds b (.map es.toArray c)}
theorem Vj.lt {w:World} {b c:Nat} {es:List MapEntry} (h:Vj w b es c):b<w.heap.size:=(Array.getElem?_eq_some_iff.1 h).1
theorem Vj.go {w w':World} {b c:Nat} {es:List MapEntry} (h:Vj w b es c) (hb:Below w.heap.size w w'):Vj w' b es c:=(hb.block b h.lt).trans h
theorem Vj.only {w w':World} {b c x:Nat} {es:List MapEntry} (h:Vj w b es c) (hg:w.grownBy w' (some x)) (hne:b≠x):Vj w' b es c:=(hg.block b h.lt (by intro e;injection e with e;exact hne e)).trans h
theorem Vj.put {w:World} {b c c':Nat} {es es':List MapEntry} (h:Vj w b es c):Vj (Ky w b es' c') b es' c':=by
 unfold Vj Ky;simp [Array.getElem?_setIfInBounds,h.lt]
theorem Ug {w:World} {b:Nat} (es:List MapEntry) (c:Nat):w.grownBy (Ky w b es c) (some b):=by
 refine ⟨rfl,rfl,rfl,by simp [Ky],λk hk hne=>?_⟩;unfold Ky;simp only [Array.getElem?_setIfInBounds];rw [ZL (λe=>hne (by rw [e]))]
theorem Ms {w a:World} {B b:Nat} (es:List MapEntry) (c:Nat) (h:Below B a w) (hb:B≤b):Below B a (Ky w b es c):=by
 have hg:=Ug (w:=w) (b:=b) es c;exact ⟨hg.os.trans h.os,hg.tape.trans h.tape,hg.output.trans h.output,ZO h.size hg.size,λk hk=>by
  rcases ZJ k w.heap.size with h2|h2
  .exact (hg.block k h2 (by intro e;injection e with e;omega)).trans (h.block k hk)
  rw [Array.getElem?_eq_none (by simp [Ky];exact h2)];rw [<-h.block k hk,Array.getElem?_eq_none h2]⟩
theorem Vj.new (w:World):Vj (w.alloc (.map #[] 0)) w.heap.size [] 0:=heap_alloc_new w _
section
variable {P:Program} {w:World} {t kt et r c:Nat} {es:List MapEntry} {key v:Value}
theorem Tr (h:Vj w r es c):(getObj r).run P w=.ok (.map es.toArray c) w:=by
 unfold Vj at h;simp [getObj,Sem.run,h]
theorem Dp (ht:P.underlying t=some (.map kt et)) (d:TypeDesc) (hd:P.underlying kt=some d) (hs:d=.string∨d=.int .i64) (h:Vj w r es c) (i:Nat) (hf:Instr.findNow d key es 0=some (some (i,v))):
 (Instr.lookup t (.map (some r)) key false).run P w=.ok v w:=by
 unfold Instr.lookup;simp only [Sem.run_bind,run_underlying ht,Result.andThen_ok,Tr h,Sem.run_pure];have hc:∀b,(Instr.checkKey b 10000 kt key).run P w=.ok () w:=λb=>by
  rw [show (10000:Nat)=9999+1 from rfl];unfold Instr.checkKey;rcases hs with rfl|rfl<;>simp [Sem.run_bind,run_underlying hd]
 unfold Instr.findKey;simp [hc,Sem.run_bind,run_underlying hd,hf]
theorem Qx4 (ht:P.underlying t=some (.map kt et)) (d:TypeDesc) (hd:P.underlying kt=some d) (hs:d=.string∨d=.int .i64) (h:Vj w r es c) (hf:Instr.findNow d key es 0=some none) (hz:∀w,(zeroValue et).run P w=.ok v w):
 (Instr.lookup t (.map (some r)) key false).run P w=.ok v w:=by
 unfold Instr.lookup;simp only [Sem.run_bind,run_underlying ht,Result.andThen_ok,Tr h,Sem.run_pure];have hc:∀b,(Instr.checkKey b 10000 kt key).run P w=.ok () w:=λb=>by
  rw [show (10000:Nat)=9999+1 from rfl];unfold Instr.checkKey;rcases hs with rfl|rfl<;>simp [Sem.run_bind,run_underlying hd]
 unfold Instr.findKey;simp [hc,Sem.run_bind,run_underlying hd,hf,hz]
theorem Rr (ht:P.underlying t=some (.map kt et)) (d:TypeDesc) (hd:P.underlying kt=some d) (hs:d=.string∨d=.int .i64) (h:Vj w r es c) (hf:Instr.findNow d key es 0=some none) (u:Value):
 (Instr.mapUpdate t (.map (some r)) key u).run P w=.ok () (Ky w r (es++[⟨key,u,c⟩]) (c+1)):=by
 unfold Instr.mapUpdate;simp only [Sem.run_bind,run_underlying ht,Result.andThen_ok,Tr h,Sem.run_pure];have hc:∀b,(Instr.checkKey b 10000 kt key).run P w=.ok () w:=λb=>by
  rw [show (10000:Nat)=9999+1 from rfl];unfold Instr.checkKey;rcases hs with rfl|rfl<;>simp [Sem.run_bind,run_underlying hd]
 unfold Instr.findKey;have h':=h;unfold Vj at h';simp [hc,Sem.run_bind,run_underlying hd,hf,setObj,Sem.run,h',Ky]
theorem Qt7 (ht:P.underlying t=some (.map kt et)) (d:TypeDesc) (hd:P.underlying kt=some d) (hs:d=.string∨d=.int .i64) (h:Vj w r es c) (i:Nat) (hf:Instr.findNow d key es 0=some (some (i,v))) (u:Value)
 (es':List MapEntry) (old:Value) (ho:(es[i]?).map (·.key)=some old) (hb:Instr.sameBits 10000 old key=true) (he:(es.toArray.modify i λe=>{e with key,val:=u})=es'.toArray):
 (Instr.mapUpdate t (.map (some r)) key u).run P w=.ok () (Ky w r es' c):=by
 unfold Instr.mapUpdate;simp only [Sem.run_bind,run_underlying ht,Result.andThen_ok,Tr h,Sem.run_pure];have hc:∀b,(Instr.checkKey b 10000 kt key).run P w=.ok () w:=λb=>by
  rw [show (10000:Nat)=9999+1 from rfl];unfold Instr.checkKey;rcases hs with rfl|rfl<;>simp [Sem.run_bind,run_underlying hd]
 unfold Instr.findKey Instr.keyThatStays;have h':=h;unfold Vj at h';have ho':((es.toArray[i]?).map (·.key)).getD key=old:=by simpa using congrArg (λo=>o.getD key) ho
 simp only [hc,Sem.run_bind,run_underlying hd,hf,Result.andThen_ok,Sem.run_pure,ho',hb,if_true,he,List.toList_toArray];simp [setObj,Sem.run,h',Ky]
end
end
