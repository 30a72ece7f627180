/-
  What one cell is, told by the way in which it is read: a string, a slice, a number.
-/
import Derived.ProofKit
import Derived.ChangeArms
import Derived.WideShapes
import Derived.Lib.SmallJoins
namespace Go.Proofs.YtfhmklinieaolaaGreatDoor
open Go
section
variable {H : Type} {enc : TypeId × Value → H} {P : Program} {w : World} {base : Nat} {spare : Nat → Bool} {held : Bool}

theorem string_at {t : TypeId} {fuel : Nat} {c : Value} {x : DataW H × List MemPlace} (ht : P.underlying t = some .string) (h : DataW.trod enc P w base spare held fuel t [c] = some x) :
    ∃ s : ByteArray, c = .string s := by
  obtain ⟨s, hc, _⟩ := DataW.trod_string ht h
  exact ⟨s, (List.cons.inj hc).1⟩

theorem int_at {t : TypeId} {k : IntKind} {fuel : Nat} {c : Value} {x : DataW H × List MemPlace} (ht : P.underlying t = some (.int k)) (h : DataW.trod enc P w base spare held fuel t [c] = some x) :
    ∃ n : Int, c = .int k n := by
  obtain ⟨n, hc, _⟩ := DataW.trod_int ht h
  exact ⟨n, (List.cons.inj hc).1⟩

theorem slice_at {t e : TypeId} {fuel : Nat} {c : Value} {x : DataW H × List MemPlace} (ht : P.underlying t = some (.slice e)) (h : DataW.trod enc P w base spare held fuel t [c] = some x) :
    ∃ (a : Option Addr) (n k : Nat), c = .slice a n k := by
  rcases DataW.trod_slice ht h with ⟨hc, _⟩ | ⟨a, n, k, _, _, _, _, hc, _⟩
  · exact ⟨none, 0, 0, (List.cons.inj hc).1⟩
  · exact ⟨some a, n, k, (List.cons.inj hc).1⟩
end
end Go.Proofs.YtfhmklinieaolaaGreatDoor
