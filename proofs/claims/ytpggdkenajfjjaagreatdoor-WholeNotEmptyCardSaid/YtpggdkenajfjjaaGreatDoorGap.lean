/- Lemmas for wholeNotEmpty; no conditions. -/
import Derived.Test.YtpggdkenajfjjaaGreatDoorGan
import Derived.Deep.RegionLaw
import Derived.Maps.RangeWalk
import Derived.Lib.Hide
set_option linter.all false
set_option maxRecDepth 100000
set_option maxHeartbeats 16000000
namespace Go.Proofs.YtpggdkenajfjjaaGreatDoor
open Go.RowKit Tryz
section
open Gn
theorem elU64:Ga prog 245 94 (.int .u64 0) 8:=⟨underlying245,by kernel_rfl,rfl,by decide⟩
def Qv8 (l:List Nat):List Int:=l.map (λn:Nat=>(n:Int))
theorem Qj4 (l:List Nat):(Qv8 l).length=l.length:=by simp [Qv8]
theorem Hj (l:List Nat) (i:Nat) (h:i<l.length):Jp (l.take (i+1))=Jp (l.take i)++Aq (l.getD i 0):=by
 rw [List.take_add_one,Qx9];simp [h,Jp]
theorem Ji5 {l:List Nat} {i:Nat}:Qe (Qv8 l) i=((l.getD i 0:Nat):Int):=by
 unfold Qe Qv8;by_cases h:i<l.length
 .simp [h]
 simp [h]
theorem Jg5 {l:List Nat} {i:Nat} (h:i<l.length):l.getD i 0∈l:=by
 rw [ZG,ZF h];simp
theorem Md (l:List Nat) (hl:∀n∈l,(n:Int)≤18446744073709551615):(Jp l).length≤10*l.length:=by
 induction l with
 |nil=>simp [Jp]
 |cons n l ih=>
  have:=ih (λm hm=>hl m (List.mem_cons_of_mem _ hm))
  have:=Sr (hl n List.mem_cons_self);simp only [Jp,ZC,QI];omega
theorem Hk (A:Option Addr) (c:Nat) (l:List Nat) (w:World) (hl:∀n∈l,(n:Int)≤18446744073709551615) (hr:Rd w w.heap.size .u64 A l.length (Qe (Qv8 l))) (hlen:(l.length:Int)≤1099511627776):
 Calls prog 95 #[.slice A l.length c] w λe w'=>∃A' c',e=.returned (.slice A' (Jp l).length c')∧Ow w' w.heap.size 5 .u8 A' c' (Jp l)∧Below w.heap.size w w':=by
 have hE:=elU8;go_enter func95,ntmps95
 go_wp2
 go_loopw [3,8] (λout s wr=>∃i A' c',s=.int .i64 (i:Nat)∧i≤l.length∧out=.slice A' (Jp (l.take i)).length c'∧Ow wr w.heap.size 5 .u8 A' c' (Jp (l.take i))∧Below w.heap.size w wr)
  (λ_ s _=>l.length - (intOf s).toNat)
 case atStart=>exact ⟨0,none,0,rfl,by omega,rfl,Ow.nil _ _ _ _,QK _ _⟩
 case round=>
  obtain ⟨i,A',c',rfl,_,rfl,hown,hB⟩:=hrel;have hBs:=hB.size;rcases ZJ i l.length with hlt|hge
  .obtain ⟨g,off,rfl,hg,hcell⟩:=hr (by omega);have hc1:=(hB.cell (p:=⟨g,off+i,none⟩) hg).trans (hcell i hlt);rw [Ji5] at hc1;have hn:=hl _ (Jg5 hlt);have hlp:=Md (l.take i) (λn hn=>hl n (List.mem_of_mem_take hn));rw [List.length_take] at hlp;have:=Sr hn;have hs:=Hj l i hlt;generalize l.getD i 0=n at*;have cP:=Qn3 n wr hn;clear hcell hr;go_wp2_with fail
   refine cP.mono ?_;rintro e w1 ⟨A1,c1,rfl,ho1,hb1⟩;have hown1:=hown.below hb1;have:=hb1.size;have hr1:=ho1.rd;have hsz:((Jp (l.take i)).length+(Aq n).length)*1≤140737488355328:=by omega
   have hbs:w.heap.size≤w1.heap.size:=by omega
   go_wp2_with (at_builtin;refine Yu hE w1 rfl _ _ rfl w.heap.size .u8 A' c' _ rfl hown1 _ A1 c1 (Aq n) rfl hr1 hsz hbs ?_;intro A2 c2 w2 hown2 hb2)
   rw [<-hs] at hown2;have hB2:Below w.heap.size w w2:=(hB.trans (hb1.mono hBs)).trans hb2;go_roundw
   case rel=>exact ⟨i+1,A2,c2,by go_num,by omega,Cx (by rw [hs];simp),hown2,hB2⟩
   simp [intOf];omega
  obtain rfl:i=l.length:=by omega
  go_wp2_with fail
  rw [List.take_length] at hown;go_ret
  rw [List.take_length];exact ⟨A',c',rfl,hown,hB⟩
end
