/- Plain laws: a point's digits are read as the point; a class' digits as the class. No program in sight. -/
import Derived.Test.YtgmafjaphnponaaGreatDoorPrintSpec
import Derived.KernelRfl
namespace Dov
open Go

theorem hexVal_upper : ∀ d, d < 16 → hexVal (Lib.upperB (hexd d)).toNat = some d := by decide
theorem hexRun_hexA (max f : Nat) : ∀ (u : Nat) (rest : List UInt8), u < 16 ^ f → 0 < f → u ≤ max → hexRun max 0 (Lib.toUpperA (hexA f u []) ++ rest) = hexRun max u rest := by
  induction f with
  | zero => intro u rest h h0; omega
  | succ f ih =>
    intro u rest h _ hm
    simp only [hexA]
    split
    · rename_i hu
      simp only [Lib.toUpperA, List.map_cons, List.map_nil, List.cons_append, List.nil_append, hexRun, hexVal_upper u hu]
      rw [if_neg (by omega)]
      simp
    · rename_i hu
      have hf : 0 < f := by
        rcases Nat.eq_zero_or_pos f with h0 | h0
        · subst h0; simp at h; omega
        · exact h0
      rw [hexA_app]
      have e : Lib.toUpperA (hexA f (u / 16) [] ++ [hexd (u % 16)]) ++ rest = Lib.toUpperA (hexA f (u / 16) []) ++ (Lib.upperB (hexd (u % 16)) :: rest) := by simp [Lib.toUpperA]
      rw [e, ih (u / 16) _ (by rw [Nat.pow_succ] at h; omega) hf (by omega)]
      simp only [hexRun, hexVal_upper (u % 16) (by omega)]
      have e2 : u / 16 * 16 + u % 16 = u := by omega
      rw [e2, if_neg (by omega)]
theorem hexRun_zeros (max : Nat) : ∀ (k : Nat) (l : List UInt8), hexRun max 0 (List.replicate k 48 ++ l) = hexRun max 0 l := by
  intro k
  induction k with
  | zero => intro l; rfl
  | succ k ih =>
    intro l
    rw [List.replicate_succ, List.cons_append]
    have e : hexRun max 0 (48 :: (List.replicate k 48 ++ l)) = hexRun max 0 (List.replicate k 48 ++ l) := by
      rw [hexRun]
      have h48 : hexVal (48 : UInt8).toNat = some 0 := by decide
      rw [h48]
      simp
    rw [e, ih l]
theorem hexRun_ok_chars (max : Nat) : ∀ (l : List UInt8) (a u : Nat), hexRun max a l = .ok u → ∀ c ∈ l, (hexVal c.toNat).isSome := by
  intro l
  induction l with
  | nil => intro a u _ c hc; cases hc
  | cons x r ih =>
    intro a u h c hc
    rw [hexRun] at h
    cases hx : hexVal x.toNat with
    | none => rw [hx] at h; cases h
    | some d =>
      rw [hx] at h
      dsimp only at h
      split at h
      · cases h
      · rcases List.mem_cons.1 hc with rfl | hc
        · rw [hx]; rfl
        · exact ih _ _ h c hc
theorem digits_read (p : Int) (h : fits p = true) : readL (digitsL p) = some p := by
  unfold fits at h
  have hb : isPt p = true ∧ isSyl p = false := by
    cases h1 : isPt p <;> cases h2 : isSyl p <;> simp [h1, h2] at h ⊢
  have hp : 0 ≤ p ∧ p ≤ 1114111 := by
    have := of_decide_eq_true hb.1
    omega
  have hrun : hexRun 4294967295 0 (digitsL p) = .ok p.toNat := by
    unfold digitsL padl fmt16
    rw [if_neg (by omega), hexRun_zeros]
    have := hexRun_hexA 4294967295 16 p.toNat [] (by omega) (by omega) (by omega)
    rw [List.append_nil] at this
    unfold hexl
    rw [this]
    rfl
  have hne : digitsL p ≠ [] := by
    intro e
    have := congrArg List.length e
    unfold digitsL padl at this
    rw [List.length_append, List.length_replicate, List.length_nil] at this
    omega
  have h16 : int16 (digitsL p) = some p := by
    cases hd : digitsL p with
    | nil => exact absurd hd hne
    | cons c r =>
      rw [hd] at hrun
      have hc := hexRun_ok_chars _ _ _ _ hrun c (by simp)
      have h43 : c ≠ 43 := by rintro rfl; revert hc; decide
      have h45 : c ≠ 45 := by rintro rfl; revert hc; decide
      simp only [int16, if_neg h43, if_neg h45, pos16, uint16]
      rw [if_neg (by simp), hrun]
      simp only
      rw [if_pos (by omega)]
      congr 1
      omega
  unfold readL
  rw [h16]
  simp only
  rw [if_pos ⟨trivial, hb.1, hb.2⟩]
theorem class_all : ((List.range 255).all fun n => classL (Lib.itoa (n : Int)) == some (n : Int)) = true := by kernel_rfl
theorem class_read (c : Int) (h0 : 0 ≤ c) (h1 : c ≤ 254) : classL (Lib.itoa c) = some c := by
  have h := List.all_eq_true.1 class_all c.toNat (List.mem_range.2 (by omega))
  have e : ((c.toNat : Nat) : Int) = c := Int.toNat_of_nonneg h0
  rw [e] at h
  simpa using h
end Dov
