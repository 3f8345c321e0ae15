/- strconv.ParseUint and ParseInt at base 16: what they answer, for every text. -/
import Derived.Test.YtgmafjaphnponaaGreatDoorProg
import Derived.Test.YtgmafjaphnponaaGreatDoorHex
import Derived.Lib.Strings
import Derived.Lib.Walk
import Derived.Lib.ConvBytes
import Derived.Lib.IfaceNeq
import Derived.Lib.Hide
import Derived.Laws.Strings3
import Derived.Laws.Closers25
import Derived.Laws.Closers25b
import Derived.WalkKit
import Derived.BigCall
import Derived.BigGuard
import Derived.KernelRfl
import Derived.Outline
namespace Go.Proofs.YtgmafjaphnponaaGreatDoor
open Go.RowKit Dov

theorem lower_any (c : Int) (w : World) : Calls Tryz.prog 156 #[.int .u8 c] w fun e w' => e = .returned (.int .u8 (bits .or .u8 c 32)) ∧ w = w' := by
  go_enter Tryz.func156, Tryz.ntmps156
  go_wp2
  go_ret
  exact ⟨rfl, rfl⟩

/-- What ParseUint hands back. -/
def uTup (max : Int) : Num16 → Value
  | .ok n => .tuple #[.int .u64 (n : Int), .nilIface]
  | .syn => .tuple #[.int .u64 0, .iface 171 (.int .i64 2)]
  | .rng => .tuple #[.int .u64 max, .iface 171 (.int .i64 1)]

theorem or32 (n : Nat) (h : n < 256) : bits .or .u8 (n : Int) 32 = ((n ||| 32 : Nat) : Int) := by
  have : ∀ m : Fin 256, bits .or .u8 (m.val : Int) 32 = ((m.val ||| 32 : Nat) : Int) := by decide +kernel
  exact this ⟨n, h⟩

theorem below_bytesWorld (w : World) (T : TypeId) (s : ByteArray) : Below w.heap.size w (Lib.bytesWorld w T s) := by
  unfold Lib.bytesWorld
  have h1 : Below w.heap.size w (w.drew.alloc (.cells (Lib.bytesCells w T s) T)) := ((Below.refl _ _).drew).alloc (Nat.le_refl _) _
  refine h1.trans ⟨?_, ?_, ?_, ?_, ?_⟩
  · unfold World.freeze; split <;> rfl
  · unfold World.freeze; split <;> rfl
  · unfold World.freeze; split <;> rfl
  · unfold World.freeze; split <;> simp
  · intro k hk
    unfold World.freeze
    split
    · rfl
    · rw [Array.getElem?_modify]
      rw [if_neg (by show ¬ w.heap.size = k; omega)]


set_option maxHeartbeats 32000000 in
set_option maxRecDepth 100000 in
theorem parseUint16_32 (t : ByteArray) (hmax : t.size ≤ 9223372036854775806) (w : World) :
    Calls Tryz.prog 136 #[.string t, .int .i64 16, .int .i64 32] w fun e w' => e = .returned (uTup 4294967295 (uint16 4294967295 t.data.toList)) ∧ Below w.heap.size w w' := by
  by_cases h0 : t.size = 0
  · have ht : t = ⟨#[]⟩ := by
      apply ByteArray.ext
      exact Array.eq_empty_of_size_eq_zero h0
    subst ht
    go_enter Tryz.func136, Tryz.ntmps136
    go_wp2
    go_ret2
    exact ⟨rfl, Below.refl _ _⟩
  · have hne : t.data.toList ≠ [] := fun h => h0 (by rw [Lib.size_eq, h]; rfl)
    have hemp : t.toList.isEmpty = false := by
      rw [← decide_eq_emptyBytes]
      exact decide_eq_false (fun h => h0 (by rw [h]; rfl))
    have hcv := Lib.run_convert_string_bytes (P := Tryz.prog) w 9 107 5 t (u := .string) Tryz.underlying9 Tryz.underlying107 Tryz.underlying5
    have hB : ∀ j, j < t.size → (Lib.bytesWorld w 5 t).cell? ⟨w.heap.size, j, none⟩ = some (.int .u8 (t.data.toList.getD j 0).toNat) := fun j hj => Lib.bytesWorld_cell w 5 t j hj
    have hBW := below_bytesWorld w 5 t
    obtain ⟨W1, hW1⟩ : ∃ W1, W1 = Lib.bytesWorld w 5 t := ⟨_, rfl⟩
    rw [← hW1] at hcv hB hBW
    clear hW1
    have HBW := Lib.hid hBW
    clear hBW
    obtain ⟨bs, hL⟩ : ∃ bs, bs = t.data.toList := ⟨_, rfl⟩
    have hLn : bs.length = t.size := by rw [hL, Lib.size_eq]
    rw [← hL] at hB hne ⊢
    have hU : uint16 4294967295 bs = hexRun 4294967295 0 bs := by simp [uint16, hne]
    rw [hU]
    clear hL hne hU
    have hmv : IntKind.u64.wrap (IntKind.u64.wrap 4294967296 - 1) = 4294967295 := by
      rw [IntKind.wrap_u64, IntKind.wrap_u64]
      decide
    go_enter Tryz.func136, Tryz.ntmps136
    go_wp2
    go_loop [12, 13, 101] (fun vu vn vi => ∃ (k acc : Nat) (a : Int), vu = .bool false ∧ vn = .int .u64 a ∧ vi = .int .i64 k ∧ k ≤ t.size ∧ Hid (a = (acc : Int) ∧ acc ≤ 4294967295 ∧ hexRun 4294967295 0 bs = hexRun 4294967295 acc (bs.drop k)))
      (fun _ _ vi => t.size - (intOf vi).toNat)
    case atStart => exact ⟨0, 0, 0, rfl, rfl, rfl, by omega, rfl, by omega, rfl⟩
    case round =>
      obtain ⟨k, acc, a, rfl, rfl, rfl, hk, hh⟩ := hrel
      obtain ⟨ha, hacc, hdec⟩ := hh.out
      clear hh
      have a0 : 0 ≤ a := by omega
      have a1 : a ≤ 4294967295 := by omega
      by_cases hkn : k < t.size
      · have hc := hB k hkn
        have hdrop : bs.drop k = bs[k]'(by omega) :: bs.drop (k + 1) := List.drop_eq_getElem_cons (by omega)
        have hget : bs.getD k 0 = bs[k]'(by omega) := by simp [List.getD, List.getElem?_eq_getElem (show k < bs.length by omega)]
        rw [hdrop] at hdec
        rw [hget] at hc
        generalize bs[k]'(by omega) = c at hc hdec
        have hc256 : c.toNat < 256 := c.toNat_lt
        clear hB hdrop hget
        -- one digit d: in range or not
        have hstep : ∀ d : Nat, hexVal c.toNat = some d → hexRun 4294967295 0 bs = if 4294967295 < acc * 16 + d then .rng else hexRun 4294967295 (acc * 16 + d) (bs.drop (k + 1)) := by
          intro d hd
          rw [hdec]
          simp only [hexRun, hd]
        have hsyn : hexVal c.toNat = none → hexRun 4294967295 0 bs = .syn := by
          intro hd
          rw [hdec]
          simp only [hexRun, hd]
        by_cases hdig : 48 ≤ c.toNat ∧ c.toNat ≤ 57
        · obtain ⟨hd0, hd1⟩ := hdig
          have hs := hstep (c.toNat - 48) (by simp [hexVal, hd0, hd1])
          clear hstep hsyn hdec
          by_cases hov : 4294967295 < acc * 16 + (c.toNat - 48)
          · rw [if_pos hov] at hs
            have HS := Lib.hid hs
            have iov : 4294967295 < a * 16 + ((c.toNat : Int) - 48) := by omega
            clear hov hs ha hacc
            go_wp2
            go_ret2
            exact ⟨by rw [HS.out]; rfl, HBW.out⟩
          · rw [if_neg hov] at hs
            have HN : Hid (a * 16 + ((c.toNat : Int) - 48) = ((acc * 16 + (c.toNat - 48) : Nat) : Int) ∧ acc * 16 + (c.toNat - 48) ≤ 4294967295 ∧ hexRun 4294967295 0 bs = hexRun 4294967295 (acc * 16 + (c.toNat - 48)) (bs.drop (k + 1))) := Lib.hid ⟨by omega, by omega, hs⟩
            have iov : a * 16 + ((c.toNat : Int) - 48) ≤ 4294967295 := by omega
            clear hov hs ha hacc
            go_wp2
            refine ⟨⟨k + 1, acc * 16 + (c.toNat - 48), a * 16 + ((c.toNat : Int) - 48), rfl, (by first | rfl | (congr 1; omega)), (by first | rfl | (congr 1; omega)), by omega, HN⟩, by simp [intOf]; omega⟩
        · obtain ⟨L, hL⟩ : ∃ L : Nat, c.toNat ||| 32 = L := ⟨_, rfl⟩
          have hL256 : L < 256 := by
            have : ∀ m : Fin 256, m.val ||| 32 < 256 := by decide +kernel
            rw [← hL]
            exact this ⟨_, hc256⟩
          have hlow := Lib.hid (or32 c.toNat hc256)
          rw [hL] at hlow
          have hlw : ∀ W, Calls Tryz.prog 156 #[.int .u8 (c.toNat : Int)] W fun e w' => e = .returned (.int .u8 (L : Int)) ∧ W = w' := fun W => (lower_any _ W).mono fun e w' ⟨h1, h2⟩ => ⟨by rw [h1, hlow.out], h2⟩
          have HLW := Lib.hid hlw
          have hlw95 : ∀ W, Calls Tryz.prog 156 #[.int .u8 95] W fun e w' => e = .returned (.int .u8 127) ∧ W = w' := fun W => (lower_any _ W).mono fun e w' ⟨h1, h2⟩ => ⟨by rw [h1]; rfl, h2⟩
          have HLW95 := Lib.hid hlw95
          clear hlow hlw hlw95
          by_cases hlet : 97 ≤ L ∧ L ≤ 102
          · obtain ⟨hd0, hd1⟩ := hlet
            have hs := hstep (L - 87) (by simp [hexVal, hdig, hL, hd0, hd1])
            clear hstep hsyn hdec
            have hn95 : (c.toNat : Int) ≠ 95 := by
              intro h95
              have : c.toNat = 95 := by omega
              rw [this] at hL
              simp at hL
              omega
            have hn95b : ((c.toNat : Int) == 95) = false := by simpa using hn95
            clear hL hn95
            by_cases hov : 4294967295 < acc * 16 + (L - 87)
            · rw [if_pos hov] at hs
              have HS := Lib.hid hs
              have iov : 4294967295 < a * 16 + ((L : Int) - 87) := by omega
              clear hov hs ha hacc
              go_wp2_with (go_at_call 156; refine (HLW.out _).mono ?_; rintro e w' ⟨rfl, rfl⟩)
              all_goals (go_ret2; exact ⟨by rw [HS.out]; rfl, HBW.out⟩)
            · rw [if_neg hov] at hs
              have HN : Hid (a * 16 + ((L : Int) - 87) = ((acc * 16 + (L - 87) : Nat) : Int) ∧ acc * 16 + (L - 87) ≤ 4294967295 ∧ hexRun 4294967295 0 bs = hexRun 4294967295 (acc * 16 + (L - 87)) (bs.drop (k + 1))) := Lib.hid ⟨by omega, by omega, hs⟩
              have iov : a * 16 + ((L : Int) - 87) ≤ 4294967295 := by omega
              clear hov hs ha hacc
              go_wp2_with (go_at_call 156; refine (HLW.out _).mono ?_; rintro e w' ⟨rfl, rfl⟩)
              all_goals refine ⟨⟨k + 1, acc * 16 + (L - 87), a * 16 + ((L : Int) - 87), rfl, (by first | rfl | (congr 1; omega)), (by first | rfl | (congr 1; omega)), by omega, HN⟩, by simp [intOf]; omega⟩
          · have hs := hsyn (by simp only [hexVal, if_neg hdig, hL, if_neg hlet])
            clear hstep hsyn hdec ha hacc
            have HS := Lib.hid hs
            clear hs hL
            have hlet1 : 97 ≤ L → 102 < L := by omega
            by_cases h95 : (c.toNat : Int) = 95
            · rw [h95] at hc
              go_wp2_with (go_at_call 156; refine (HLW95.out _).mono ?_; rintro e w' ⟨rfl, rfl⟩)
              all_goals (go_ret2; exact ⟨by rw [HS.out]; rfl, HBW.out⟩)
            · have hn95b : ((c.toNat : Int) == 95) = false := by simpa using h95
              go_wp2_with (go_at_call 156; refine (HLW.out _).mono ?_; rintro e w' ⟨rfl, rfl⟩)
              all_goals (go_ret2; exact ⟨by rw [HS.out]; rfl, HBW.out⟩)
      · have hkk : k = t.size := by omega
        subst hkk
        have hF : hexRun 4294967295 acc (bs.drop t.size) = .ok acc := by rw [List.drop_eq_nil_of_le (by omega)]; rfl
        rw [hF] at hdec
        subst ha
        have HS := Lib.hid hdec
        clear hacc hF a0 a1 hdec
        go_wp2
        go_ret2
        exact ⟨by rw [HS.out]; rfl, HBW.out⟩


/-- What ParseInt tells: the number and nil; or an error of two kinds. -/
def IntRes (o : Option Int) (e : Ending) : Prop := match o with
  | some v => e = .returned (.tuple #[.int .i64 v, .nilIface])
  | none => ∃ x c, e = .returned (.tuple #[.int .i64 x, .iface 171 (.int .i64 c)]) ∧ (c = 1 ∨ c = 2)

set_option maxHeartbeats 32000000 in
set_option maxRecDepth 100000 in
theorem parseIntIn (s : ByteArray) (hmax : s.size ≤ 9223372036854775806) (w : World) :
    Calls Tryz.prog 101 #[.string s, .int .i64 16, .int .i64 32] w fun e w' => IntRes (int16 s.data.toList) e ∧ Below w.heap.size w w' := by
  have hq2 : ∀ W, (binOp .neq 112 (.iface 171 (.int .i64 2)) (.iface 171 (.int .i64 1))).run Tryz.prog W = .ok (.bool true) W := fun W => Lib.run_neq_iface_int W 2 1 Tryz.underlying112 (by kernel_rfl) Tryz.underlying171
  have hq1 : ∀ W, (binOp .neq 112 (.iface 171 (.int .i64 1)) (.iface 171 (.int .i64 1))).run Tryz.prog W = .ok (.bool false) W := fun W => Lib.run_neq_iface_int W 1 1 Tryz.underlying112 (by kernel_rfl) Tryz.underlying171
  have hmin : wrap64 (-wrap64 2147483648) = -2147483648 := by
    unfold wrap64
    omega
  by_cases hne : s.size = 0
  · have ht : s = ⟨#[]⟩ := by
      apply ByteArray.ext
      exact Array.eq_empty_of_size_eq_zero hne
    subst ht
    go_enter Tryz.func101, Tryz.ntmps101
    go_wp2
    go_ret2
    exact ⟨⟨_, 2, rfl, .inr rfl⟩, Below.refl _ _⟩
  have hemp : s.toList.isEmpty = false := by
    rw [← decide_eq_emptyBytes]
    exact decide_eq_false (fun h => hne (by rw [h]; rfl))
  have hpos : 0 < s.size := by omega
  obtain ⟨c0, r, hL⟩ : ∃ c0 r, s.data.toList = c0 :: r := by
    cases h : s.data.toList with
    | nil => exact absurd (by rw [Lib.size_eq, h]; rfl) hne
    | cons c0 r => exact ⟨c0, r, rfl⟩
  have hsz : s.size = r.length + 1 := by rw [Lib.size_eq, hL]; rfl
  have hs0 : s[0]'hpos = c0 := by
    have e : s[0]'hpos = s.data.toList[0]'(by rw [hL]; simp) := rfl
    rw [e]
    simp only [hL, List.getElem_cons_zero]
  rw [hL]
  by_cases h43 : c0 = 43
  · subst h43
    have hsl : ∀ W, (Instr.slice 9 (.string s) (some (.int .i64 1)) none none).run Tryz.prog W = .ok (.string (s.extract 1 s.size)) W := fun W => by
      rw [run_slice_string_from_if W 9 s .i64 _ Tryz.underlying9, if_pos ⟨by omega, by omega⟩]
      rfl
    have htl : (s.extract 1 s.size).data.toList = r := by
      rw [Lib.extract_data, hL, List.drop_succ_cons, List.drop_zero, List.take_of_length_le (by omega)]
    have hts : (s.extract 1 s.size).size = s.size - 1 := by rw [Lib.size_eq, htl]; omega
    generalize s.extract 1 s.size = t at hsl htl hts
    have hU := parseUint16_32 t (by omega) w
    rw [htl] at hU
    clear hL
    cases hE : uint16 4294967295 (r) with
    | syn =>
      have hres : int16 (43 :: r) = none := by simp [int16, pos16, hE]
      rw [hres]
      rw [hE] at hU
      have hU : Calls Tryz.prog 136 #[.string t, .int .i64 16, .int .i64 32] w fun e w' => e = .returned (.tuple #[.int .u64 0, .iface 171 (.int .i64 2)]) ∧ Below w.heap.size w w' := hU
      go_enter Tryz.func101, Tryz.ntmps101
      go_wp2_with (go_at_call 136; refine hU.mono ?_; rintro e w1 ⟨rfl, hw1⟩)
      go_wp2
      go_ret2
      exact ⟨⟨_, 2, rfl, .inr rfl⟩, hw1⟩
    | rng =>
      have hres : int16 (43 :: r) = none := by simp [int16, pos16, hE]
      rw [hres]
      rw [hE] at hU
      have hU : Calls Tryz.prog 136 #[.string t, .int .i64 16, .int .i64 32] w fun e w' => e = .returned (.tuple #[.int .u64 4294967295, .iface 171 (.int .i64 1)]) ∧ Below w.heap.size w w' := hU
      go_enter Tryz.func101, Tryz.ntmps101
      go_wp2_with (go_at_call 136; refine hU.mono ?_; rintro e w1 ⟨rfl, hw1⟩)
      go_wp2
      go_ret2
      exact ⟨⟨_, 1, rfl, .inl rfl⟩, hw1⟩
    | ok u =>
      have hu64 : u ≤ 4294967295 := uint16_le hE
      rw [hE] at hU
      obtain ⟨a, ha⟩ : ∃ a : Int, a = (u : Int) := ⟨_, rfl⟩
      have hU : Calls Tryz.prog 136 #[.string t, .int .i64 16, .int .i64 32] w fun e w' => e = .returned (.tuple #[.int .u64 a, .nilIface]) ∧ Below w.heap.size w w' := by rw [ha]; exact hU
      have a0 : 0 ≤ a := by omega
      have a1 : a ≤ 4294967295 := by omega
      by_cases hout : 2147483648 ≤ u
      · have hres : int16 (43 :: r) = none := by simp only [int16, pos16, hE]; simp; try omega
        rw [hres]
        have iout : 2147483648 ≤ a := by omega
        clear hres hout hu64 ha hE
        go_enter Tryz.func101, Tryz.ntmps101
        go_wp2_with (go_at_call 136; refine hU.mono ?_; rintro e w1 ⟨rfl, hw1⟩)
        go_wp2
        go_ret2
        exact ⟨⟨_, 1, rfl, .inl rfl⟩, hw1⟩
      · have hres : int16 (43 :: r) = some (a) := by simp only [int16, pos16, hE]; rw [ha]; simp; try omega
        rw [hres]
        have iin : a < 2147483648 := by omega
        clear hres hout hu64 ha hE
        go_enter Tryz.func101, Tryz.ntmps101
        go_wp2_with (go_at_call 136; refine hU.mono ?_; rintro e w1 ⟨rfl, hw1⟩)
        go_wp2
        go_ret2
        refine ⟨?_, hw1⟩
        first | rfl | (simp only [hwn]; rfl) | (show _ = _; congr 1; omega)
  by_cases h45 : c0 = 45
  · subst h45
    have hsl : ∀ W, (Instr.slice 9 (.string s) (some (.int .i64 1)) none none).run Tryz.prog W = .ok (.string (s.extract 1 s.size)) W := fun W => by
      rw [run_slice_string_from_if W 9 s .i64 _ Tryz.underlying9, if_pos ⟨by omega, by omega⟩]
      rfl
    have htl : (s.extract 1 s.size).data.toList = r := by
      rw [Lib.extract_data, hL, List.drop_succ_cons, List.drop_zero, List.take_of_length_le (by omega)]
    have hts : (s.extract 1 s.size).size = s.size - 1 := by rw [Lib.size_eq, htl]; omega
    generalize s.extract 1 s.size = t at hsl htl hts
    have hU := parseUint16_32 t (by omega) w
    rw [htl] at hU
    clear hL
    cases hE : uint16 4294967295 (r) with
    | syn =>
      have hres : int16 (45 :: r) = none := by simp [int16, neg16, hE]
      rw [hres]
      rw [hE] at hU
      have hU : Calls Tryz.prog 136 #[.string t, .int .i64 16, .int .i64 32] w fun e w' => e = .returned (.tuple #[.int .u64 0, .iface 171 (.int .i64 2)]) ∧ Below w.heap.size w w' := hU
      go_enter Tryz.func101, Tryz.ntmps101
      go_wp2_with (go_at_call 136; refine hU.mono ?_; rintro e w1 ⟨rfl, hw1⟩)
      go_wp2
      go_ret2
      exact ⟨⟨_, 2, rfl, .inr rfl⟩, hw1⟩
    | rng =>
      have hres : int16 (45 :: r) = none := by simp [int16, neg16, hE]
      rw [hres]
      rw [hE] at hU
      have hU : Calls Tryz.prog 136 #[.string t, .int .i64 16, .int .i64 32] w fun e w' => e = .returned (.tuple #[.int .u64 4294967295, .iface 171 (.int .i64 1)]) ∧ Below w.heap.size w w' := hU
      go_enter Tryz.func101, Tryz.ntmps101
      go_wp2_with (go_at_call 136; refine hU.mono ?_; rintro e w1 ⟨rfl, hw1⟩)
      go_wp2
      go_ret2
      exact ⟨⟨_, 1, rfl, .inl rfl⟩, hw1⟩
    | ok u =>
      have hu64 : u ≤ 4294967295 := uint16_le hE
      rw [hE] at hU
      obtain ⟨a, ha⟩ : ∃ a : Int, a = (u : Int) := ⟨_, rfl⟩
      have hU : Calls Tryz.prog 136 #[.string t, .int .i64 16, .int .i64 32] w fun e w' => e = .returned (.tuple #[.int .u64 a, .nilIface]) ∧ Below w.heap.size w w' := by rw [ha]; exact hU
      have a0 : 0 ≤ a := by omega
      have a1 : a ≤ 4294967295 := by omega
      by_cases hout : 2147483648 < u
      · have hres : int16 (45 :: r) = none := by simp only [int16, neg16, hE]; simp; try omega
        rw [hres]
        have iout : 2147483648 < a := by omega
        clear hres hout hu64 ha hE
        go_enter Tryz.func101, Tryz.ntmps101
        go_wp2_with (go_at_call 136; refine hU.mono ?_; rintro e w1 ⟨rfl, hw1⟩)
        go_wp2
        go_ret2
        exact ⟨⟨_, 1, rfl, .inl rfl⟩, hw1⟩
      · have hres : int16 (45 :: r) = some (-a) := by simp only [int16, neg16, hE]; rw [ha]; simp; try omega
        rw [hres]
        have iin : a ≤ 2147483648 := by omega
        have hwn : wrap64 (-wrap64 a) = -a := by
          unfold wrap64
          omega
        clear hres hout hu64 ha hE
        go_enter Tryz.func101, Tryz.ntmps101
        go_wp2_with (go_at_call 136; refine hU.mono ?_; rintro e w1 ⟨rfl, hw1⟩)
        go_wp2
        go_ret2
        refine ⟨?_, hw1⟩
        first | rfl | (simp only [hwn]; rfl) | (show _ = _; congr 1; omega)
  · have n43 : c0.toNat ≠ 43 := fun h => h43 (UInt8.toNat_inj.1 h)
    have n45 : c0.toNat ≠ 45 := fun h => h45 (UInt8.toNat_inj.1 h)
    have i43 : ¬ (c0.toNat : Int) = 43 := by omega
    have i45 : ¬ (c0.toNat : Int) = 45 := by omega
    obtain ⟨t, ht⟩ : ∃ t, t = s := ⟨_, rfl⟩
    have hU := parseUint16_32 s hmax w
    rw [hL, ← ht] at hU
    subst ht
    clear hL
    cases hE : uint16 4294967295 (c0 :: r) with
    | syn =>
      have hres : int16 (c0 :: r) = none := by simp [int16, pos16, hE, h43, h45]
      rw [hres]
      rw [hE] at hU
      have hU : Calls Tryz.prog 136 #[.string t, .int .i64 16, .int .i64 32] w fun e w' => e = .returned (.tuple #[.int .u64 0, .iface 171 (.int .i64 2)]) ∧ Below w.heap.size w w' := hU
      go_enter Tryz.func101, Tryz.ntmps101
      go_wp2_with (go_at_call 136; refine hU.mono ?_; rintro e w1 ⟨rfl, hw1⟩)
      go_wp2
      go_ret2
      exact ⟨⟨_, 2, rfl, .inr rfl⟩, hw1⟩
    | rng =>
      have hres : int16 (c0 :: r) = none := by simp [int16, pos16, hE, h43, h45]
      rw [hres]
      rw [hE] at hU
      have hU : Calls Tryz.prog 136 #[.string t, .int .i64 16, .int .i64 32] w fun e w' => e = .returned (.tuple #[.int .u64 4294967295, .iface 171 (.int .i64 1)]) ∧ Below w.heap.size w w' := hU
      go_enter Tryz.func101, Tryz.ntmps101
      go_wp2_with (go_at_call 136; refine hU.mono ?_; rintro e w1 ⟨rfl, hw1⟩)
      go_wp2
      go_ret2
      exact ⟨⟨_, 1, rfl, .inl rfl⟩, hw1⟩
    | ok u =>
      have hu64 : u ≤ 4294967295 := uint16_le hE
      rw [hE] at hU
      obtain ⟨a, ha⟩ : ∃ a : Int, a = (u : Int) := ⟨_, rfl⟩
      have hU : Calls Tryz.prog 136 #[.string t, .int .i64 16, .int .i64 32] w fun e w' => e = .returned (.tuple #[.int .u64 a, .nilIface]) ∧ Below w.heap.size w w' := by rw [ha]; exact hU
      have a0 : 0 ≤ a := by omega
      have a1 : a ≤ 4294967295 := by omega
      by_cases hout : 2147483648 ≤ u
      · have hres : int16 (c0 :: r) = none := by simp only [int16, pos16, hE, h43, h45]; simp; try omega
        rw [hres]
        have iout : 2147483648 ≤ a := by omega
        clear hres hout hu64 ha hE
        go_enter Tryz.func101, Tryz.ntmps101
        go_wp2_with (go_at_call 136; refine hU.mono ?_; rintro e w1 ⟨rfl, hw1⟩)
        go_wp2
        go_ret2
        exact ⟨⟨_, 1, rfl, .inl rfl⟩, hw1⟩
      · have hres : int16 (c0 :: r) = some (a) := by simp only [int16, pos16, hE, h43, h45]; rw [ha]; simp; try omega
        rw [hres]
        have iin : a < 2147483648 := by omega
        clear hres hout hu64 ha hE
        go_enter Tryz.func101, Tryz.ntmps101
        go_wp2_with (go_at_call 136; refine hU.mono ?_; rintro e w1 ⟨rfl, hw1⟩)
        go_wp2
        go_ret2
        refine ⟨?_, hw1⟩
        first | rfl | (simp only [hwn]; rfl) | (show _ = _; congr 1; omega)

end Go.Proofs.YtgmafjaphnponaaGreatDoor
