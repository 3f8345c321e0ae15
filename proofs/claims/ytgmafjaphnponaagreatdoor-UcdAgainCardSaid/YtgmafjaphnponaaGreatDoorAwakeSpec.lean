/- The chapter's first example, reckoned by the plain functions. -/
import Derived.Test.YtgmafjaphnponaaGreatDoorPrintSpec
import Derived.Test.YtgmafjaphnponaaGreatDoorParts
import Derived.KernelRfl
namespace Dov
open Go
def wakeMarks : List MarkD := [(0x301, 230, []), (0xe1, 0, [0x61, 0x301]), (0x1eaf, 0, [0x103, 0x301]), (0x103, 0, [0x61, 0x306])]
theorem wake_load : loadL [48, 51, 48, 49, 59, 50, 51, 48, 59, 10, 48, 48, 69, 49, 59, 48, 59, 48, 48, 54, 49, 32, 48, 51, 48, 49, 10, 49, 69, 65, 70, 59, 48, 59, 48, 49, 48, 51, 32, 48, 51, 48, 49, 10, 48, 49, 48, 51, 59, 48, 59, 48, 48, 54, 49, 32, 48, 51, 48, 54] = .ok wakeMarks := by kernel_rfl
theorem wake_twice : loadL [48, 51, 48, 49, 59, 49, 59, 10, 48, 51, 48, 49, 59, 49, 59] = .error (41, 2) := by kernel_rfl
theorem wake_parts1 : partsO wakeMarks 10 0x1eaf = some [0x61, 0x306, 0x301] := by kernel_rfl
theorem wake_parts2 : partsO wakeMarks 10 0xac01 = some [0x1100, 0x1161, 0x11a8] := by kernel_rfl
def wakeSorted : List MarkD := [(0xe1, 0, [0x61, 0x301]), (0x103, 0, [0x61, 0x306]), (0x301, 230, []), (0x1eaf, 0, [0x103, 0x301])]
theorem wake_perm : wakeSorted.Perm wakeMarks := by decide
theorem wake_rising : wakeSorted.Pairwise (fun x y => x.1 < y.1) := by decide
def wakeOut : List UInt8 := match printL wakeSorted with
  | .ok s => s
  | .error _ => []
theorem wake_print : printL wakeSorted = .ok wakeOut := by kernel_rfl
theorem wake_len : wakeOut.length = 60 := by kernel_rfl

/-- Rising marks: there is one such list. -/
theorem perm_sorted_eq : ∀ {l1 l2 : List MarkD}, l1.Perm l2 → l1.Pairwise (fun x y => x.1 ≤ y.1) → l2.Pairwise (fun x y => x.1 < y.1) → l1 = l2 := by
  intro l1
  induction l1 with
  | nil => intro l2 hp _ _; exact hp.symm.eq_nil.symm
  | cons x r1 ih =>
    intro l2 hp h1 h2
    cases l2 with
    | nil => exact absurd hp.length_eq (by simp)
    | cons y r2 =>
      rw [List.pairwise_cons] at h1 h2
      have hxy : x = y := by
        rcases List.mem_cons.1 (hp.subset (List.mem_cons_self ..)) with e | hx
        · exact e
        · rcases List.mem_cons.1 (hp.symm.subset (List.mem_cons_self ..)) with e | hy
          · exact e.symm
          · have a := h1.1 y hy
            have b := h2.1 x hx
            omega
      subst hxy
      rw [ih (List.Perm.cons_inv hp) h1.2 h2.2]
end Dov
