/- Lemmas for wholeNotEmpty; no conditions. -/
import Derived.Test.YtpggdkenajfjjaaGreatDoorGad
import Derived.Test.YtpggdkenajfjjaaGreatDoorChecked
import Derived.Lib.Hide
import Derived.Laws.RangeString
import Derived.Laws.Runes
import Derived.Laws.Strings
import Derived.LoopTactic
set_option linter.all false
set_option maxRecDepth 100000
set_option maxHeartbeats 16000000
namespace Go.Proofs.YtpggdkenajfjjaaGreatDoor
open Go.RowKit Tryz
open Go.Lib renaming hid → Hd
def Vr9 (r:Int):Int:=if r=32 then 1 else if r=59 then 5 else if r=61 then 5 else if r=49 then 4 else 3
def By (r:Int):Prop:=r=118∨r=97∨r=114∨r=120∨r=32∨r=59∨r=61∨r=49
theorem Nq (r:Int) (h:By r) (w:World):Calls prog 263 #[.int .i32 r] w λe w'=>e=.returned (.int .i64 (Vr9 r))∧Below w.heap.size w w':=by
 rcases h with rfl|rfl|rfl|rfl|rfl|rfl|rfl|rfl
 all_goals
  go_enter func263,ntmps263
  go_wp2
  go_ret
  exact ⟨rfl,(QK _ _).alloc (ZH _) _⟩
structure Vv (w:World) (b:Nat) (s:ByteArray) (n:Nat) (v:Value):Prop where
 c0:w.cell? ⟨b,0,none⟩=some (.string s)
 c1:w.cell? ⟨b,1,none⟩=some (.int .i64 n)
 c2:w.cell? ⟨b,2,none⟩=some (.int .i64 1)
 c3:w.cell? ⟨b,3,none⟩=some (.int .i64 ((n+1:Nat):Int))
 c4:w.cell? ⟨b,4,none⟩=some v
 fr:∀i,w.frozen? ⟨b,i,none⟩=false
theorem Vv.lt {w:World} {b n:Nat} {s:ByteArray} {v:Value} (h:Vv w b s n v):b<w.heap.size:=QO w ⟨b,0,none⟩ h.c0
theorem Vv.below {w w':World} {b n:Nat} {s:ByteArray} {v:Value} (h:Vv w b s n v) (hb:Below w.heap.size w w'):Vv w' b s n v:=
 ⟨(hb.cell (p:=⟨b,0,none⟩) h.lt).trans h.c0,(hb.cell (p:=⟨b,1,none⟩) h.lt).trans h.c1,(hb.cell (p:=⟨b,2,none⟩) h.lt).trans h.c2,(hb.cell (p:=⟨b,3,none⟩) h.lt).trans h.c3,(hb.cell (p:=⟨b,4,none⟩) h.lt).trans h.c4,λi=>(hb.frozen (p:=⟨b,i,none⟩) h.lt).trans (h.fr i)⟩
structure Asc (s:ByteArray):Prop where
 lt:∀i (h:i<s.size),(s[i]'h).toNat<128
 size:s.size≤1000
def Vh (s:ByteArray) (i:Nat):Int:=if h:i<s.size then ((s[i]'h).toNat:Int) else 0
theorem Dr (b n:Nat) (s:ByteArray) (v:Value) (w:World) (h:Vv w b s n v) (hn:n≤s.size) (hs:s.size≤1000):
 Calls prog 266 #[.pointer (some ⟨b,0,none⟩)] w λe w'=>e=.returned (.string (s.extract n s.size))∧Below w.heap.size w w':=by
 obtain ⟨_,_,_,_,_,_⟩:=id h;have:(n:Int)≤s.size:=by omega
 go_enter func266,ntmps266
 go_wp2
 go_region
 go_wp2
 go_ret
 exact ⟨rfl,(QK _ _).drew⟩
theorem Lo (b n:Nat) (s:ByteArray) (v:Value) (w:World) (h:Vv w b s n v) (hA:Asc s) (hn:n≤s.size):
 Calls prog 207 #[.pointer (some ⟨b,0,none⟩)] w λe w'=>e=.returned (.tuple #[.int .i32 (Vh s n),.bool (decide (n<s.size))])∧Below w.heap.size w w':=by
 have c:=Dr b n s v w h hn hA.size;obtain ⟨r,hr⟩:∃r,r=Vh s n:=⟨_,rfl⟩;obtain ⟨t,ht⟩:∃t,t=decide (n<s.size):=⟨_,rfl⟩;rw [<-hr,<-ht];have HR:=Hd hr;have HT:=Hd ht;clear hr ht;go_enter func207,ntmps207
 go_wp2_with fail
 refine c.mono ?_;clear c;rintro e w1 ⟨rfl,hb⟩;have hi:∀k,Below w.heap.size w (w1.iter (s.extract n s.size) k):=λk=>hb.alloc hb.size _
 have HI:=Hd hi;have hsz:(s.extract n s.size).size=s.size - n:=by simp
 rcases ZJ n s.size with hlt|hge
 .have h0:0<(s.extract n s.size).size:=by omega
  have hr:((s.extract n s.size)[0]'h0)=s[n]:=by
   rw [ByteArray.getElem_extract];simp
  have ha:((s.extract n s.size)[0]'h0).toNat<128:=by rw [hr];exact hA.lt n hlt
  have rn:=λty=>run_next_ascii (P:=prog) w1 (s.extract n s.size) 0 ty h0 ha
  have e1:Vh s n=(((s.extract n s.size)[0]'h0).toNat:Int):=by unfold Vh;rw [dif_pos hlt,hr]
  rw [<-HR.out] at e1;have E1:=Hd e1;clear hi hsz e1 hr;go_wp2_with fail
  refine wp_loop_once ?_;go_wp2_with fail
  go_ret2
  exact ⟨by rw [E1.out,HT.out,ZE hlt];rfl,HI.out 1⟩
 .have h0:¬0<(s.extract n s.size).size:=by omega
  have rn:=λty=>run_next_end (P:=prog) w1 (s.extract n s.size) 0 ty h0
  have e1:Vh s n=0:=by unfold Vh;rw [dif_neg (by omega)]
  rw [<-HR.out] at e1;have E1:=Hd e1;clear hi hsz e1;go_wp2_with fail
  refine wp_loop_once ?_;go_wp2_with fail
  go_ret2
  exact ⟨by rw [E1.out,HT.out,ZA (show ¬n<s.size by omega)];rfl,HI.out 0⟩
