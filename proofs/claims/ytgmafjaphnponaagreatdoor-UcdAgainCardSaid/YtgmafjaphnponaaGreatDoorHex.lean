/- Plain laws on hexadecimal digits: how they are written and read. No program in sight. -/
namespace Dov

def hexd (n : Nat) : UInt8 := if n < 10 then UInt8.ofNat (48 + n) else UInt8.ofNat (87 + n)
/-- The digits of u in front of acc, as the loop lays them. -/
def hexA : Nat → Nat → List UInt8 → List UInt8
  | 0, _, acc => acc
  | f + 1, u, acc => if u < 16 then hexd u :: acc else hexA f (u / 16) (hexd (u % 16) :: acc)
def hexl (n : Nat) : List UInt8 := hexA 16 n []
def fmt16 (n : Int) : List UInt8 := if n < 0 then 45 :: hexl (-n).toNat else hexl n.toNat

theorem hexd_lo (n : Nat) (h : n < 10) : hexd n = UInt8.ofNat (48 + n) := by simp [hexd, h]
theorem hexd_hi (n : Nat) (h : ¬ n < 10) : hexd n = UInt8.ofNat (87 + n) := by simp [hexd, h]
theorem hexd_nat (n : Nat) (h : n < 16) : (hexd n).toNat = if n < 10 then 48 + n else 87 + n := by
  unfold hexd
  split <;> simp [UInt8.toNat_ofNat'] <;> omega

theorem hexA_app (f u : Nat) (acc : List UInt8) : hexA f u acc = hexA f u [] ++ acc := by
  induction f generalizing u acc with
  | zero => simp [hexA]
  | succ f ih =>
    simp only [hexA]
    split
    · simp
    · rw [ih, ih (acc := [hexd (u % 16)])]; simp

theorem hexA_len (f u : Nat) (acc : List UInt8) : (hexA f u acc).length ≤ f + acc.length := by
  induction f generalizing u acc with
  | zero => simp [hexA]
  | succ f ih =>
    simp only [hexA]
    split
    · simp; omega
    · have := ih (u / 16) (hexd (u % 16) :: acc); simp at this; omega

/-- What a byte says as a hexadecimal digit, a letter great or small. -/
def hexVal (c : Nat) : Option Nat :=
  if 48 ≤ c ∧ c ≤ 57 then some (c - 48) else if 97 ≤ c ||| 32 ∧ c ||| 32 ≤ 102 then some ((c ||| 32) - 87) else none

inductive Num16 where
  | ok (n : Nat)
  | syn
  | rng

def hexRun (max : Nat) : Nat → List UInt8 → Num16
  | acc, [] => .ok acc
  | acc, c :: r => match hexVal c.toNat with
    | none => .syn
    | some d => if max < acc * 16 + d then .rng else hexRun max (acc * 16 + d) r

/-- ParseUint(s, 16, ..), the greatest number max. -/
def uint16 (max : Nat) (l : List UInt8) : Num16 := if l = [] then .syn else hexRun max 0 l

def pos16 (r : List UInt8) : Option Int := match uint16 4294967295 r with | .ok u => if u < 2147483648 then some (u : Int) else none | _ => none
def neg16 (r : List UInt8) : Option Int := match uint16 4294967295 r with | .ok u => if u ≤ 2147483648 then some (-(u : Int)) else none | _ => none
/-- ParseInt(s, 16, 32): the number, or none. -/
def int16 : List UInt8 → Option Int
  | [] => none
  | c :: r => if c = 43 then pos16 r else if c = 45 then neg16 r else pos16 (c :: r)

theorem hexRun_le (max : Nat) (l : List UInt8) : ∀ acc u, acc ≤ max → hexRun max acc l = .ok u → u ≤ max := by
  induction l with
  | nil => intro acc u h e; simp [hexRun] at e; omega
  | cons c r ih =>
    intro acc u h e
    simp only [hexRun] at e
    split at e
    · cases e
    · split at e
      · cases e
      · exact ih _ _ (by omega) e
theorem uint16_le {max : Nat} {l : List UInt8} {u : Nat} (h : uint16 max l = .ok u) : u ≤ max := by
  unfold uint16 at h
  split at h
  · cases h
  · exact hexRun_le max l 0 u (Nat.zero_le _) h

theorem int16_bd {l : List UInt8} {n : Int} (h : int16 l = some n) : -2147483648 ≤ n ∧ n < 2147483648 := by
  have hp : ∀ r, pos16 r = some n → -2147483648 ≤ n ∧ n < 2147483648 := by
    intro r hr
    unfold pos16 at hr
    split at hr
    · split at hr
      · cases hr; omega
      · cases hr
    · cases hr
  have hn : ∀ r, neg16 r = some n → -2147483648 ≤ n ∧ n < 2147483648 := by
    intro r hr
    unfold neg16 at hr
    split at hr
    · split at hr
      · cases hr; omega
      · cases hr
    · cases hr
  cases l with
  | nil => cases h
  | cons c r =>
    simp only [int16] at h
    split at h
    · exact hp _ h
    · split at h
      · exact hn _ h
      · exact hp _ h

end Dov
