/- The walk of TakeAll, of the package code. -/
import Derived.Test.YtkgddgckilledaaCodX
import Derived.Test.YtkgddgckilledaaCodA
import Derived.Deep.RegionLaw
import Derived.Maps.RangeWalk
import Derived.Lib.Hide
import Derived.Test.YtkgddgckilledaaMem
namespace Go.Proofs.Ytkgddgckilledaa
open Go.RowKit
open Gn
def nats (l : List Nat) : List Int := l.map (fun n : Nat => (n : Int))
theorem nats_len (l : List Nat) : (nats l).length = l.length := by simp [nats]
theorem nats_snoc (l : List Nat) (n : Nat) : nats l ++ [(n : Int)] = nats (l ++ [n]) := by simp [nats]
theorem ow_nats {w : World} {base : Nat} {e : TypeId} {k : IntKind} {A : Option Addr} {c : Nat} {l : List Nat} (h : Ow w base e k A c (nats l)) : w.ownsRow base e 1 (.slice A l.length c) l.length ((nats l).map (Value.int k)) := by
  have := h; unfold Ow at this; rw [nats_len] at this; exact this
def sLen (v : Value) : Nat := match v with | .slice _ n _ => n | _ => 0
end Go.Proofs.Ytkgddgckilledaa
