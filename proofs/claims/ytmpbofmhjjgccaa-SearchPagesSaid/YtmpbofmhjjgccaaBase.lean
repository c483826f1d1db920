/-
  What is known of the world in which a call begins: variables of the library's, of the error's type.
-/
import Derived.Test.YtmpbofmhjjgccaaOpers2
namespace Go.Proofs.Ytmpbofmhjjgccaa
/-- A variable that holds some number. -/
def SomeNum (w : World) (g : Nat) : Prop := ∃ m, w.cell? ⟨g, 0, none⟩ = some (.int .i64 m)
/-- What is known. -/
structure BaseOk (w : World) : Prop where
  maxLen : SomeNum w 0
  some : True
end Go.Proofs.Ytmpbofmhjjgccaa
