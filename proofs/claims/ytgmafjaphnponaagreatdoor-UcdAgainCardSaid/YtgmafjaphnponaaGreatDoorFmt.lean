/- strconv.FormatInt at base 16: the digits of every number. -/
import Derived.Test.YtgmafjaphnponaaGreatDoorProg
import Derived.Test.YtgmafjaphnponaaGreatDoorHex
import Derived.Lib.Strings
import Derived.Lib.Walk
import Derived.Lib.ConvBytes
import Derived.Lib.Hide
import Derived.Laws.Strings3
import Derived.Laws.Closers25
import Derived.Laws.Closers25b
import Derived.WalkKit
import Derived.BigCall
import Derived.BigGuard
import Derived.KernelRfl
import Derived.Outline
import Derived.Laws.BytesArg
import Derived.Laws.Bits64b
namespace Go.Proofs.YtgmafjaphnponaaGreatDoor
open Go.RowKit Dov

theorem index_dig (d : Nat) (hd : d < 16) (W : World) : (Instr.index 9 (.string { data := #[48, 49, 50, 51, 52, 53, 54, 55, 56, 57, 97, 98, 99, 100, 101, 102, 103, 104, 105, 106, 107, 108, 109, 110, 111, 112, 113, 114, 115, 116, 117, 118, 119, 120, 121, 122] }) (.int .u64 (d : Int))).run Tryz.prog W = .ok (.int .u8 ((hexd d).toNat : Int)) W := by
  rw [run_index_string (P := Tryz.prog) (w := W) 9 _ .u64 _ Tryz.underlying9]
  have hc : d = 0 ∨ d = 1 ∨ d = 2 ∨ d = 3 ∨ d = 4 ∨ d = 5 ∨ d = 6 ∨ d = 7 ∨ d = 8 ∨ d = 9 ∨ d = 10 ∨ d = 11 ∨ d = 12 ∨ d = 13 ∨ d = 14 ∨ d = 15 := by omega
  rcases hc with rfl | rfl | rfl | rfl | rfl | rfl | rfl | rfl | rfl | rfl | rfl | rfl | rfl | rfl | rfl | rfl <;> rfl

theorem and15 (x : Nat) (h : x < 18446744073709551616) : bits .and .u64 (x : Int) 15 = ((x % 16 : Nat) : Int) := by
  have h1 : bits .and .u64 (x : Int) 15 = ((x &&& 15 : Nat) : Int) := bits_and_u64_nat x 15 h (by decide)
  rw [h1, show (15 : Nat) = 2 ^ 4 - 1 from rfl, Nat.and_two_pow_sub_one_eq_mod]

theorem slice_arr (W : World) (b : Nat) (I : Int) (h0 : 1 ≤ I) (h1 : I ≤ 65) :
    (Instr.sliceAt 191 (.pointer (some ⟨b, 0, none⟩)) (some (.int .i64 (I - 1))) none none).run Tryz.prog W = .ok (.slice (some ⟨b, I.toNat - 1, none⟩) (66 - I.toNat) (66 - I.toNat)) W := by
  have hal : Tryz.prog.arrayLen 191 = 65 := by kernel_rfl
  have hs : ∀ W, (sizeOf (Tryz.prog.elem 191)).run Tryz.prog W = .ok 1 W := fun _ => by kernel_rfl
  rw [run_sliceAt_array_l W 191 _ (by kernel_rfl) .i64 (I - 1) (by omega) (by rw [hal]; omega), hs, hal]
  have e1 : (I - 1).toNat = I.toNat - 1 := by omega
  have e2 : 65 - (I - 1).toNat = 66 - I.toNat := by omega
  simp only [Result.andThen, slicedAt, e2]
  rw [if_neg (by omega), e1]
  have e3 : (⟨b, 0, none⟩ : Addr).add ((I.toNat - 1) * 1) = ⟨b, I.toNat - 1, none⟩ := by
    unfold Addr.add
    split
    · rename_i h; have : I.toNat - 1 = 0 := by omega
      rw [this]
    · rw [Nat.mul_one, Nat.zero_add]
  rw [e3]

theorem strOf_bytes (l : List UInt8) : strOfNums (l.map fun c => (c.toNat : Int)) = ⟨l.toArray⟩ := by
  unfold strOfNums
  congr 2
  rw [List.map_map]
  conv => rhs; rw [← List.map_id l]
  apply List.map_congr_left
  intro c _
  simp

/-- The row of digits, sliced off, as a text. -/
theorem conv_digits (W : World) (b off n : Nat) (l : List UInt8) (hn : l.length = n) (hc : ∀ j c, l[j]? = some c → W.cell? ⟨b, off + j, none⟩ = some (.int .u8 (c.toNat : Int))) :
    (convert 107 9 (.slice (some ⟨b, off, none⟩) n n)).run Tryz.prog W = .ok (.string ⟨l.toArray⟩) W := by
  rw [← strOf_bytes]
  refine run_convert_bytes_arg W 107 5 Tryz.underlying107 Tryz.underlying5 b off n n _ (by simp [hn]) (fun i hi => ?_) 9 Tryz.underlying9
  rw [hc i (l[i]'(by omega)) (List.getElem?_eq_getElem (by omega))]
  simp [List.getD, List.getElem?_eq_getElem (show i < l.length by omega)]

set_option maxHeartbeats 32000000 in
set_option maxRecDepth 100000 in
theorem formatBits_pos (u : Nat) (hu : u < 18446744073709551616) (w : World) (hdb : w.cell? ⟨8, 15, none⟩ = some (.int .u8 4)) :
    Calls Tryz.prog 121 #[.slice none 0 0, .int .u64 (u : Int), .int .i64 16, .bool false, .bool false] w fun e w' => e = .returned (.tuple #[.slice none 0 0, .string ⟨(hexl u).toArray⟩]) ∧ Below w.heap.size w w' := by
  have hlt8 : 8 < w.heap.size := World.block_lt_of_cell? w _ hdb
  have hb1 : bits BinOp.and IntKind.u64 16 (IntKind.u64.wrap (-16)) = 16 := by decide +kernel
  have hb2 : IntKind.u64.wrap (16 * 285870213051353865) / 288230376151711744 = 15 := by decide +kernel
  have hb3 : IntKind.i64.wrap 15 = 15 := by decide +kernel
  have hb4 : bits BinOp.and IntKind.i64 16 (wrap64 (16 - 1)) = 0 := by decide +kernel
  go_enter Tryz.func121, Tryz.ntmps121
  go_wp2
  go_loopw [1, 13] (fun vu vi wr => ∃ (f x : Nat) (I : Int) (C : Array Value) (acc : List UInt8), vu = .int .u64 (x : Int) ∧ vi = .int .i64 I ∧ wr = w.alloc (.cells C 191) ∧ Hid (I = (50 + f : Nat) ∧ acc.length + f = 15 ∧ C.size = 65 ∧ x < 16 ^ (f + 1) ∧ hexA (f + 1) x acc = hexl u ∧ (∀ j c, acc[j]? = some c → C[50 + f + j]? = some (.int .u8 (c.toNat : Int)))))
    (fun vu _ _ => (intOf vu).toNat)
  case atStart => exact ⟨15, u, 65, _, [], rfl, rfl, rfl, by omega, rfl, rfl, by omega, rfl, by simp⟩
  case round =>
    obtain ⟨f, x, I, C, acc, rfl, rfl, rfl, hh⟩ := hrel
    obtain ⟨hI, hacc, hC, hx, hrun, hcell⟩ := hh.out
    clear hh
    have hx64 : x < 18446744073709551616 := Nat.lt_of_lt_of_le hx (Nat.pow_le_pow_right (by omega) (show f + 1 ≤ 16 by omega))
    have hI0 : 50 ≤ I := by omega
    have hI1 : I ≤ 65 := by omega
    obtain ⟨v0, hv0⟩ : ∃ v0, C[I.toNat - 1]? = some v0 := ⟨_, Array.getElem?_eq_getElem (by omega)⟩
    by_cases hlt : x < 16
    · have hgot : hexd x :: acc = hexl u := by
        rw [← hrun]
        simp only [hexA, if_pos hlt]
      have hix := index_dig x hlt
      have hcl : ∀ j c, (hexd x :: acc)[j]? = some c → (C.setIfInBounds (I.toNat - 1) (.int .u8 ((hexd x).toNat : Int)))[I.toNat - 1 + j]? = some (.int .u8 (c.toNat : Int)) := by
        intro j c hj
        cases j with
        | zero =>
          simp at hj
          subst hj
          rw [Nat.add_zero, Array.getElem?_setIfInBounds_self_of_lt (by omega)]
        | succ j =>
          simp only [List.getElem?_cons_succ] at hj
          rw [Array.getElem?_setIfInBounds_ne (by omega), show I.toNat - 1 + (j + 1) = 50 + f + j by omega]
          exact hcell j c hj
      rw [hgot] at hcl
      have hlen : (hexl u).length = 66 - I.toNat := by
        rw [← hgot, List.length_cons]
        omega
      clear hI hacc hrun hcell hx64 hx hgot
      have hsl := fun W => slice_arr W w.heap.size I (by omega) hI1
      have hcv : (convert 107 9 (.slice (some ⟨w.heap.size, I.toNat - 1, none⟩) (66 - I.toNat) (66 - I.toNat))).run Tryz.prog (w.alloc (.cells (C.setIfInBounds (I.toNat - 1) (.int .u8 ((hexd x).toNat : Int))) 191)) = .ok (.string ⟨(hexl u).toArray⟩) (w.alloc (.cells (C.setIfInBounds (I.toNat - 1) (.int .u8 ((hexd x).toNat : Int))) 191)) :=
        conv_digits _ _ _ _ _ hlen (fun j c hj => by rw [World.cell?_alloc_at _ _ _ _ rfl]; exact hcl j c hj)
      clear hcl hlen
      go_wp2
      go_ret2
      exact ⟨rfl, (Below.refl _ _).alloc (Nat.le_refl _) _⟩
    · obtain ⟨d, hd⟩ : ∃ d : Nat, x % 16 = d := ⟨_, rfl⟩
      have hand : bits BinOp.and IntKind.u64 (x : Int) 15 = (d : Int) := by rw [and15 x hx64, hd]
      have hd16 : d < 16 := by omega
      have hix := index_dig d hd16
      have hrel' : Hid (I - 1 = ((50 + (f - 1) : Nat) : Int) ∧ (hexd d :: acc).length + (f - 1) = 15 ∧ (C.setIfInBounds (I.toNat - 1) (.int .u8 ((hexd d).toNat : Int))).size = 65 ∧ x / 16 < 16 ^ (f - 1 + 1) ∧ hexA (f - 1 + 1) (x / 16) (hexd d :: acc) = hexl u ∧ (∀ j c, (hexd d :: acc)[j]? = some c → (C.setIfInBounds (I.toNat - 1) (.int .u8 ((hexd d).toNat : Int)))[50 + (f - 1) + j]? = some (.int .u8 (c.toNat : Int)))) := by
        have hf : 1 ≤ f := by
          rcases Nat.eq_zero_or_pos f with h | h
          · subst h
            simp at hx
            omega
          · exact h
        obtain ⟨g, rfl⟩ : ∃ g, f = g + 1 := ⟨f - 1, by omega⟩
        refine ⟨by omega, by simp only [List.length_cons]; omega, by simp [hC], ?_, ?_, ?_⟩
        · rw [Nat.add_sub_cancel]
          have := Nat.pow_succ 16 (g + 1)
          omega
        · rw [← hrun, Nat.add_sub_cancel]
          conv => rhs; rw [hexA]
          rw [if_neg hlt, hd]
        · intro j c hj
          cases j with
          | zero =>
            simp at hj
            subst hj
            rw [show 50 + (g + 1 - 1) + 0 = I.toNat - 1 by omega, Array.getElem?_setIfInBounds_self_of_lt (by omega)]
          | succ j =>
            simp only [List.getElem?_cons_succ] at hj
            rw [Array.getElem?_setIfInBounds_ne (by omega), show 50 + (g + 1 - 1) + (j + 1) = 50 + (g + 1) + j by omega]
            exact hcell j c hj
      clear hI hacc hC hx hrun hcell hd
      go_wp2
      go_roundw
      case measure => simp [intOf]; omega
      case rel => exact ⟨f - 1, x / 16, I - 1, _, _, by go_num, rfl, rfl, hrel'⟩

set_option maxHeartbeats 32000000 in
set_option maxRecDepth 100000 in
theorem formatBits_neg (u : Nat) (hp : 0 < u) (hu : u < 18446744073709551616) (w : World) (hdb : w.cell? ⟨8, 15, none⟩ = some (.int .u8 4)) :
    Calls Tryz.prog 121 #[.slice none 0 0, .int .u64 (18446744073709551616 - (u : Int)), .int .i64 16, .bool true, .bool false] w fun e w' => e = .returned (.tuple #[.slice none 0 0, .string ⟨(45 :: hexl u).toArray⟩]) ∧ Below w.heap.size w w' := by
  have hlt8 : 8 < w.heap.size := World.block_lt_of_cell? w _ hdb
  have hb1 : bits BinOp.and IntKind.u64 16 (IntKind.u64.wrap (-16)) = 16 := by decide +kernel
  have hb2 : IntKind.u64.wrap (16 * 285870213051353865) / 288230376151711744 = 15 := by decide +kernel
  have hb3 : IntKind.i64.wrap 15 = 15 := by decide +kernel
  have hb4 : bits BinOp.and IntKind.i64 16 (wrap64 (16 - 1)) = 0 := by decide +kernel
  have hng : IntKind.u64.wrap (-(18446744073709551616 - (u : Int))) = (u : Int) := by
    rw [IntKind.wrap_u64]
    omega
  go_enter Tryz.func121, Tryz.ntmps121
  go_wp2
  go_loopw [1, 13] (fun vu vi wr => ∃ (f x : Nat) (I : Int) (C : Array Value) (acc : List UInt8), vu = .int .u64 (x : Int) ∧ vi = .int .i64 I ∧ wr = w.alloc (.cells C 191) ∧ Hid (I = (50 + f : Nat) ∧ acc.length + f = 15 ∧ C.size = 65 ∧ x < 16 ^ (f + 1) ∧ hexA (f + 1) x acc = hexl u ∧ (∀ j c, acc[j]? = some c → C[50 + f + j]? = some (.int .u8 (c.toNat : Int)))))
    (fun vu _ _ => (intOf vu).toNat)
  case atStart => exact ⟨15, u, 65, _, [], rfl, rfl, rfl, by omega, rfl, rfl, by omega, rfl, by simp⟩
  case round =>
    obtain ⟨f, x, I, C, acc, rfl, rfl, rfl, hh⟩ := hrel
    obtain ⟨hI, hacc, hC, hx, hrun, hcell⟩ := hh.out
    clear hh
    have hx64 : x < 18446744073709551616 := Nat.lt_of_lt_of_le hx (Nat.pow_le_pow_right (by omega) (show f + 1 ≤ 16 by omega))
    have hI0 : 50 ≤ I := by omega
    have hI1 : I ≤ 65 := by omega
    obtain ⟨v0, hv0⟩ : ∃ v0, C[I.toNat - 1]? = some v0 := ⟨_, Array.getElem?_eq_getElem (by omega)⟩
    by_cases hlt : x < 16
    · have hgot : hexd x :: acc = hexl u := by
        rw [← hrun]
        simp only [hexA, if_pos hlt]
      have hix := index_dig x hlt
      have hcl : ∀ j c, (hexd x :: acc)[j]? = some c → (C.setIfInBounds (I.toNat - 1) (.int .u8 ((hexd x).toNat : Int)))[I.toNat - 1 + j]? = some (.int .u8 (c.toNat : Int)) := by
        intro j c hj
        cases j with
        | zero =>
          simp at hj
          subst hj
          rw [Nat.add_zero, Array.getElem?_setIfInBounds_self_of_lt (by omega)]
        | succ j =>
          simp only [List.getElem?_cons_succ] at hj
          rw [Array.getElem?_setIfInBounds_ne (by omega), show I.toNat - 1 + (j + 1) = 50 + f + j by omega]
          exact hcell j c hj
      rw [hgot] at hcl
      have hlen : (hexl u).length = 66 - I.toNat := by
        rw [← hgot, List.length_cons]
        omega
      obtain ⟨v1, hv1⟩ : ∃ v1, (C.setIfInBounds (I.toNat - 1) (.int .u8 ((hexd x).toNat : Int)))[I.toNat - 1 - 1]? = some v1 := ⟨_, Array.getElem?_eq_getElem (by simp; omega)⟩
      have hcl2 : ∀ j c, (45 :: hexl u)[j]? = some c → ((C.setIfInBounds (I.toNat - 1) (.int .u8 ((hexd x).toNat : Int))).setIfInBounds (I.toNat - 1 - 1) (.int .u8 45))[I.toNat - 1 - 1 + j]? = some (.int .u8 (c.toNat : Int)) := by
        intro j c hj
        cases j with
        | zero =>
          simp at hj
          subst hj
          rw [Nat.add_zero, Array.getElem?_setIfInBounds_self_of_lt (by simp; omega)]
          rfl
        | succ j =>
          simp only [List.getElem?_cons_succ] at hj
          rw [Array.getElem?_setIfInBounds_ne (by omega), show I.toNat - 1 - 1 + (j + 1) = I.toNat - 1 + j by omega]
          exact hcl j c hj
      clear hI hacc hrun hcell hx64 hx hgot hcl
      have hsl := fun W => slice_arr W w.heap.size (I - 1) (by omega) (by omega)
      have e1 : (I - 1).toNat - 1 = I.toNat - 1 - 1 := by omega
      have e2 : 66 - (I - 1).toNat = 67 - I.toNat := by omega
      rw [e1, e2] at hsl
      clear e1 e2
      have hcv : (convert 107 9 (.slice (some ⟨w.heap.size, I.toNat - 1 - 1, none⟩) (67 - I.toNat) (67 - I.toNat))).run Tryz.prog (w.alloc (.cells ((C.setIfInBounds (I.toNat - 1) (.int .u8 ((hexd x).toNat : Int))).setIfInBounds (I.toNat - 1 - 1) (.int .u8 45)) 191)) = .ok (.string ⟨(45 :: hexl u).toArray⟩) (w.alloc (.cells ((C.setIfInBounds (I.toNat - 1) (.int .u8 ((hexd x).toNat : Int))).setIfInBounds (I.toNat - 1 - 1) (.int .u8 45)) 191)) :=
        conv_digits _ _ _ _ _ (by rw [List.length_cons, hlen]; omega) (fun j c hj => by rw [World.cell?_alloc_at _ _ _ _ rfl]; exact hcl2 j c hj)
      clear hcl2 hlen
      go_wp2
      go_ret2
      exact ⟨rfl, (Below.refl _ _).alloc (Nat.le_refl _) _⟩
    · obtain ⟨d, hd⟩ : ∃ d : Nat, x % 16 = d := ⟨_, rfl⟩
      have hand : bits BinOp.and IntKind.u64 (x : Int) 15 = (d : Int) := by rw [and15 x hx64, hd]
      have hd16 : d < 16 := by omega
      have hix := index_dig d hd16
      have hrel' : Hid (I - 1 = ((50 + (f - 1) : Nat) : Int) ∧ (hexd d :: acc).length + (f - 1) = 15 ∧ (C.setIfInBounds (I.toNat - 1) (.int .u8 ((hexd d).toNat : Int))).size = 65 ∧ x / 16 < 16 ^ (f - 1 + 1) ∧ hexA (f - 1 + 1) (x / 16) (hexd d :: acc) = hexl u ∧ (∀ j c, (hexd d :: acc)[j]? = some c → (C.setIfInBounds (I.toNat - 1) (.int .u8 ((hexd d).toNat : Int)))[50 + (f - 1) + j]? = some (.int .u8 (c.toNat : Int)))) := by
        have hf : 1 ≤ f := by
          rcases Nat.eq_zero_or_pos f with h | h
          · subst h
            simp at hx
            omega
          · exact h
        obtain ⟨g, rfl⟩ : ∃ g, f = g + 1 := ⟨f - 1, by omega⟩
        refine ⟨by omega, by simp only [List.length_cons]; omega, by simp [hC], ?_, ?_, ?_⟩
        · rw [Nat.add_sub_cancel]
          have := Nat.pow_succ 16 (g + 1)
          omega
        · rw [← hrun, Nat.add_sub_cancel]
          conv => rhs; rw [hexA]
          rw [if_neg hlt, hd]
        · intro j c hj
          cases j with
          | zero =>
            simp at hj
            subst hj
            rw [show 50 + (g + 1 - 1) + 0 = I.toNat - 1 by omega, Array.getElem?_setIfInBounds_self_of_lt (by omega)]
          | succ j =>
            simp only [List.getElem?_cons_succ] at hj
            rw [Array.getElem?_setIfInBounds_ne (by omega), show 50 + (g + 1 - 1) + (j + 1) = 50 + (g + 1) + j by omega]
            exact hcell j c hj
      clear hI hacc hC hx hrun hcell hd
      go_wp2
      go_roundw
      case measure => simp [intOf]; omega
      case rel => exact ⟨f - 1, x / 16, I - 1, _, _, by go_num, rfl, rfl, hrel'⟩

theorem formatIntIn (n : Int) (h0 : -9223372036854775808 ≤ n) (h1 : n ≤ 9223372036854775807) (w : World) (hdb : w.cell? ⟨8, 15, none⟩ = some (.int .u8 4)) :
    Calls Tryz.prog 81 #[.int .i64 n, .int .i64 16] w fun e w' => e = .returned (.string ⟨(fmt16 n).toArray⟩) ∧ Below w.heap.size w w' := by
  by_cases hn : n < 0
  · have hf : fmt16 n = 45 :: hexl (-n).toNat := by simp [fmt16, hn]
    rw [hf]
    have H := formatBits_neg (-n).toNat (by omega) (by omega) w hdb
    have ew : IntKind.u64.wrap n = 18446744073709551616 - ((-n).toNat : Int) := by rw [IntKind.wrap_u64]; omega
    rw [← ew] at H
    have H' := Lib.hid H
    clear H ew hf hdb
    go_enter Tryz.func81, Tryz.ntmps81
    go_wp2_with (go_at_call 121; refine (H'.out).mono ?_; rintro e w' ⟨rfl, hb⟩)
    go_ret
    exact ⟨rfl, hb⟩
  · have hf : fmt16 n = hexl n.toNat := by simp [fmt16, hn]
    rw [hf]
    have H := formatBits_pos n.toNat (by omega) w hdb
    have ew : (n.toNat : Int) = n := by omega
    rw [ew] at H
    have H' := Lib.hid H
    clear H ew hf hdb
    have hn' : 0 ≤ n := by omega
    go_enter Tryz.func81, Tryz.ntmps81
    go_wp2_with (go_at_call 121; refine (H'.out).mono ?_; rintro e w' ⟨rfl, hb⟩)
    go_ret
    exact ⟨rfl, hb⟩

theorem formatInt (n : Int) (h0 : -9223372036854775808 ≤ n) (h1 : n ≤ 9223372036854775807) (w : World) (hdb : w.cell? ⟨8, 15, none⟩ = some (.int .u8 4)) :
    Calls Tryz.prog 60 #[.int .i64 n, .int .i64 16] w fun e w' => e = .returned (.string ⟨(fmt16 n).toArray⟩) ∧ Below w.heap.size w w' := by
  have H' := Lib.hid (formatIntIn n h0 h1 w hdb)
  clear hdb
  go_enter Tryz.func60, Tryz.ntmps60
  go_wp2_with (go_at_call 81; refine (H'.out).mono ?_; rintro e w' ⟨rfl, hb⟩)
  go_ret
  exact ⟨rfl, hb⟩

end Go.Proofs.YtgmafjaphnponaaGreatDoor
