/- Plain functions: what the texts of points, marks and lines are, and how they are read. No program in sight. -/
import Derived.Test.YtgmafjaphnponaaGreatDoorHex
import Derived.Lib.Case
import Derived.Lib.ItoaNum
import Derived.Lib.AtoiAll
namespace Dov
open Go

/-- Noughts ahead, up to four digits. -/
def padl (l : List UInt8) : List UInt8 := List.replicate (4 - l.length) 48 ++ l
theorem padl_ge {l : List UInt8} (h : 4 ≤ l.length) : padl l = l := by simp [padl, show 4 - l.length = 0 by omega]
theorem padl_cons {l : List UInt8} (h : l.length < 4) : padl (48 :: l) = padl l := by
  unfold padl
  obtain ⟨k, hk⟩ : ∃ k, 4 - l.length = k + 1 := ⟨4 - l.length - 1, by omega⟩
  rw [hk, List.length_cons, show 4 - (l.length + 1) = k by omega, List.replicate_succ', List.append_assoc]
  rfl
/-- A number's hexadecimal digits, great letters, four at least. -/
def digitsL (n : Int) : List UInt8 := padl (Lib.toUpperA (fmt16 n))

def isPt (n : Int) : Bool := decide (0 ≤ n ∧ n ≤ 1114111 ∧ (n < 55296 ∨ 57343 < n))
def isSyl (n : Int) : Bool := decide (44032 ≤ n ∧ n < 55204)

/-- A point by its digits. -/
def readL (l : List UInt8) : Option Int := match int16 l with
  | some n => if digitsL n = l ∧ isPt n = true ∧ isSyl n = false then some n else none
  | none => none

theorem hexd_ascii (n : Nat) (h : n < 16) : (hexd n).toNat < 128 := by rw [hexd_nat n h]; split <;> omega
theorem hexA_ascii (f : Nat) : ∀ u acc, (∀ c ∈ acc, c.toNat < 128) → ∀ c ∈ hexA f u acc, c.toNat < 128 := by
  induction f with
  | zero => intro u acc h c hc; exact h c hc
  | succ f ih =>
    intro u acc h c hc
    simp only [hexA] at hc
    split at hc
    · rename_i hu
      rcases List.mem_cons.1 hc with rfl | hc
      · exact hexd_ascii u hu
      · exact h c hc
    · refine ih _ _ ?_ c hc
      intro d hd
      rcases List.mem_cons.1 hd with rfl | hd
      · exact hexd_ascii _ (by omega)
      · exact h d hd
theorem fmt16_ascii (n : Int) : ∀ c ∈ fmt16 n, c.toNat < 128 := by
  intro c hc
  unfold fmt16 at hc
  split at hc
  · rcases List.mem_cons.1 hc with rfl | hc
    · decide
    · exact hexA_ascii _ _ _ (by simp) c hc
  · exact hexA_ascii _ _ _ (by simp) c hc
theorem fmt16_len (n : Int) : (fmt16 n).length ≤ 17 := by
  unfold fmt16
  split
  · have := hexA_len 16 (-n).toNat []
    simp [hexl] at *
    omega
  · have := hexA_len 16 n.toNat []
    simp [hexl] at *
    omega

/-- A class by its digits. -/
def classL (l : List UInt8) : Option Int := match Lib.atoiAll l with
  | .ok v => if 0 ≤ v ∧ v ≤ 254 ∧ Lib.itoa v = l then some v else none
  | _ => none
def partsL : List (List UInt8) → Option (List Int)
  | [] => some []
  | x :: r => match readL x with
    | none => none
    | some v => (partsL r).map (v :: ·)

end Dov
