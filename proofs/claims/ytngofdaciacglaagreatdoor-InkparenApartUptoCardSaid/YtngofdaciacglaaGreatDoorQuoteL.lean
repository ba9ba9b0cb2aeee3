/- Plain words: a text between quotes. -/
import Derived.Test.YtngofdaciacglaaGreatDoorBld
namespace Go.Proofs.YtngofdaciacglaaGreatDoor
open Go.RowKit Go.Lib

/-- A hexadecimal digit. -/
def hexB (n : Nat) : UInt8 := if n < 10 then (48 + n).toUInt8 else (87 + n).toUInt8
/-- What a byte becomes. -/
def qB (c : UInt8) : List UInt8 :=
  if c = 34 ∨ c = 92 then [92, c] else if c = 10 then [92, 110] else if c = 9 then [92, 116] else if c = 13 then [92, 114]
  else if c < 32 then [92, 117, 48, 48, hexB (c.toNat / 16), hexB (c.toNat % 16)] else [c]
/-- A text between quotes. -/
def quoteL (l : List UInt8) : List UInt8 := 34 :: l.flatMap qB ++ [34]
theorem qB_len (c : UInt8) : (qB c).length ≤ 6 := by
  unfold qB
  split; · simp
  split; · simp
  split; · simp
  split; · simp
  split <;> simp
theorem flat_len : ∀ l : List UInt8, (l.flatMap qB).length ≤ 6 * l.length
  | [] => by simp
  | c :: l => by have h1 := qB_len c; have h2 := flat_len l; simp only [List.flatMap_cons, List.length_append, List.length_cons]; omega
end Go.Proofs.YtngofdaciacglaaGreatDoor
