/-
  Plain functions on bytes: what the package 'ident' of the given program computes, and what is asked of a function value on bytes.
-/
import Derived.Test.YtmohbbmokcnbhaaDoorRows
import Derived.WalkKit
import Derived.Lib.Bytealg
import Derived.WalkSpells
import Derived.Shelf.Abstract
import Derived.WalkLawsBesides
namespace Go.Proofs.YtmohbbmokcnbhaaDoor
open Go.RowKit
set_option linter.unusedVariables false

def digitB (c : UInt8) : Bool := decide (48 ≤ c.toNat) && decide (c.toNat ≤ 57)
def lowB (c : UInt8) : Bool := decide (97 ≤ c.toNat) && decide (c.toNat ≤ 122)
def uppB (c : UInt8) : Bool := decide (65 ≤ c.toNat) && decide (c.toNat ≤ 90)
def plainB (c : UInt8) : Bool := lowB c || digitB c
def opaqueB (c : UInt8) : Bool := plainB c || uppB c || c.toNat == 95 || c.toNat == 45 || c.toNat == 46
def hexB (c : UInt8) : Bool := digitB c || (decide (97 ≤ c.toNat) && decide (c.toNat ≤ 102))
def allB (l : List UInt8) (most : Int) (p : UInt8 → Bool) : Bool := l.all p && !l.isEmpty && decide ((l.length : Int) ≤ most)
def withB (more : List UInt8) (p : UInt8 → Bool) (c : UInt8) : Bool := p c || decide (0 ≤ Lib.indexByte more c)

/-- A function value on bytes: in every world in which all that lay in w lies unturned it answers p, and turns nothing. -/
def FitAt (P : Program) (g : Nat) (lb : Array Value) (p : UInt8 → Bool) (w : World) : Prop :=
  ∀ (W : World) (c : UInt8), Below w.heap.size w W → Calls P g (#[.int .u8 (c.toNat : Int)] ++ lb) W fun e w' => e = .returned (.bool (p c)) ∧ W = w'

theorem FitAt.later {P : Program} {g : Nat} {lb : Array Value} {p : UInt8 → Bool} {w W : World} (h : FitAt P g lb p w) (hb : Below w.heap.size w W) : FitAt P g lb p W :=
  fun W' x hb' => h W' x (hb.trans (hb'.mono hb.size))

end Go.Proofs.YtmohbbmokcnbhaaDoor
