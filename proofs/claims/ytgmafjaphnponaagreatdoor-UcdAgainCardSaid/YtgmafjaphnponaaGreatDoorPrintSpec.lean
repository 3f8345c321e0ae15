/- ucd.Print as a plain function of the marks. -/
import Derived.Test.YtgmafjaphnponaaGreatDoorLoadSpec
import Derived.Lib.Join
import Derived.Lib.ItoaNum
namespace Dov
open Go
/-- May a point stand in a text? -/
def fits (n : Int) : Bool := isPt n && !isSyl n
/-- The parts' texts: no more than fill the bound. -/
def ptL : List Int → Nat → List (List UInt8) → Option (List (List UInt8) × Nat)
  | [], n, acc => some (acc, n)
  | p :: r, n, acc => if fits p then (if n ≤ 65536 then ptL r (n + 5) (acc ++ [digitsL p]) else ptL r n acc) else none
def lineL (m : MarkD) (ts : List (List UInt8)) : List UInt8 := digitsL m.1 ++ [59] ++ Lib.itoa m.2.1 ++ [59] ++ Lib.join ts [32]
/-- Does a point stand behind another one, or at the head? -/
def late (prev : Option Int) (p : Int) : Bool := match prev with
  | none => true
  | some q => decide (q < p)
def prL : Option Int → List MarkD → Nat → List (List UInt8) → Option (List (List UInt8))
  | _, [], _, acc => some acc
  | prev, m :: r, n, acc =>
    if fits m.1 = false then none else if m.2.1 < 0 then none else if 254 < m.2.1 then none else if late prev m.1 = false then none
    else match ptL m.2.2 n [] with
      | none => none
      | some (ts, n') => prL (some m.1) r n' (acc ++ [lineL m ts])
def printL (ms : List MarkD) : Except Int (List UInt8) :=
  if 4096 < ms.length then .error 2 else match prL none ms 0 [] with
    | none => .error 1
    | some ls => if 65536 < (Lib.join ls [10]).length then .error 2 else .ok (Lib.join ls [10])

theorem padl_len (l : List UInt8) : (padl l).length ≤ max 4 l.length := by
  unfold padl
  rw [List.length_append, List.length_replicate]
  omega
theorem digits_len (n : Int) : (digitsL n).length ≤ 17 := by
  have h := padl_len (Lib.toUpperA (fmt16 n))
  have h2 := fmt16_len n
  have e : (Lib.toUpperA (fmt16 n)).length = (fmt16 n).length := by unfold Lib.toUpperA; simp
  unfold digitsL
  omega
theorem join_len (L : Nat) (sep : List UInt8) : ∀ ls : List (List UInt8), (∀ l ∈ ls, l.length ≤ L) → (Lib.join ls sep).length ≤ ls.length * (L + sep.length) := by
  intro ls
  cases ls with
  | nil => intro _; simp [Lib.join_nil]
  | cons x r =>
    intro h
    rw [Lib.join_cons, List.length_append]
    have h1 := h x (by simp)
    have h2 : (Lib.joinTail sep r).length ≤ r.length * (L + sep.length) := by
      have h3 : ∀ l ∈ r, l.length ≤ L := fun l hl => h l (List.mem_cons_of_mem _ hl)
      clear h h1
      induction r with
      | nil => simp [Lib.joinTail]
      | cons y r ih =>
        have h4 := ih (fun l hl => h3 l (List.mem_cons_of_mem _ hl))
        have h5 := h3 y (by simp)
        have e : Lib.joinTail sep (y :: r) = (sep ++ y) ++ Lib.joinTail sep r := by simp [Lib.joinTail]
        rw [e, List.length_append, List.length_append, List.length_cons, Nat.add_mul]
        omega
    rw [List.length_cons, Nat.add_mul]
    omega
end Dov
