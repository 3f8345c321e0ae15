/- Marks and numbers in memory, wherever they lie; the law's heavy, the document's SameInts and SameMarks (at rows that are the same). -/
import Derived.Test.YtgmafjaphnponaaGreatDoorLoadI
import Derived.Deep.QuietTactic
import Derived.BigQuiet
namespace Go.Proofs.YtgmafjaphnponaaGreatDoor
open Go.RowKit Dov

/-- These numbers lie from here on. -/
def IntsIn (w : World) (a : Option Addr) (xs : List Int) : Prop := ∀ j x, xs[j]? = some x → ∃ g, a = some g ∧ w.cell? (g.add j) = some (.int .i64 x)
/-- These marks lie from here on. -/
def MarksIn (w : World) (a : Option Addr) (ms : List MarkD) : Prop := ∀ i m, ms[i]? = some m → ∃ g pa pc, a = some g ∧ w.cell? (g.add (i * 3)) = some (.int .i64 m.1) ∧
  w.cell? ⟨(g.add (i * 3)).block, (g.add (i * 3)).off + 1, none⟩ = some (.int .i64 m.2.1) ∧ w.cell? ⟨(g.add (i * 3)).block, (g.add (i * 3)).off + 2, none⟩ = some (.slice pa m.2.2.length pc) ∧ m.2.2.length ≤ pc ∧ IntsIn w pa m.2.2

theorem cell_lt {w : World} {p : Addr} {v : Value} (h : w.cell? p = some v) : p.block < w.heap.size := by
  unfold World.cell? at h
  cases hb : w.heap[p.block]? with
  | none => rw [hb] at h; cases h
  | some o => exact blk_lt hb
theorem cell_below {w w1 : World} {p : Addr} {v : Value} (h : w.cell? p = some v) (hb : Below w.heap.size w w1) : w1.cell? p = some v := (hb.cell (cell_lt h)).trans h
theorem IntsIn.below {w w1 : World} {a : Option Addr} {xs : List Int} (h : IntsIn w a xs) (hb : Below w.heap.size w w1) : IntsIn w1 a xs := fun j x hx => by
  obtain ⟨g, h1, h2⟩ := h j x hx
  exact ⟨g, h1, cell_below h2 hb⟩
theorem MarksIn.below {w w1 : World} {a : Option Addr} {ms : List MarkD} (h : MarksIn w a ms) (hb : Below w.heap.size w w1) : MarksIn w1 a ms := fun i m hm => by
  obtain ⟨g, pa, pc, h1, h2, h3, h4, h5, h6⟩ := h i m hm
  exact ⟨g, pa, pc, h1, cell_below h2 hb, cell_below h3 hb, cell_below h4 hb, h5, h6.below hb⟩
theorem IntsIn.own {w : World} {base n : Nat} {a : Option Addr} {c m : Nat} {xs : List Int} (h : w.ownsRow base 3 1 (.slice a m c) n (xs.map (Value.int .i64))) : IntsIn w a xs := fun j x hx => by
  rcases h.2 with ⟨h1, h2⟩ | ⟨g, cap, cur, h1, _⟩
  · have hl := h.1
    rw [h2] at hl
    have : xs = [] := by simpa using hl
    rw [this] at hx
    cases hx
  · cases h1
    exact ⟨_, rfl, h.cells rfl j _ (by simp [hx])⟩

def heavyL : Nat → List MarkD → Bool
  | _, [] => false
  | n, m :: r => if 1048576 < n + 1 + m.2.2.length then true else heavyL (n + 1 + m.2.2.length) r

set_option maxRecDepth 100000 in
set_option maxHeartbeats 4000000 in
theorem heavy_any (a : Option Addr) (c : Nat) (ms : List MarkD) (w : World) (h : MarksIn w a ms) (hn : ms.length ≤ 140737488355328) (hl : ∀ m ∈ ms, m.2.2.length ≤ 140737488355328) :
    Calls Tryz.prog 7 #[.slice a ms.length c] w fun e w' => e = .returned (.bool (heavyL 0 ms)) ∧ w' = w := by
  have H := Lib.hid h
  have HL := Lib.hid hl
  clear h hl
  go_enter Tryz.func7, Tryz.ntmps7
  go_wp2
  go_loopw [3, 4] (fun v3 v4 wr => ∃ (n k : Nat), v3 = .int .i64 (n : Nat) ∧ v4 = .int .i64 (k : Nat) ∧ k ≤ ms.length ∧ n ≤ 1048576 ∧ wr = w ∧ Hid (heavyL 0 ms = heavyL n (ms.drop k)))
    (fun _ v4 _ => ms.length - (intOf v4).toNat)
  case atStart => exact ⟨0, 0, rfl, rfl, Nat.zero_le _, by omega, rfl, rfl⟩
  case round =>
    obtain ⟨n, k, rfl, rfl, hk, hn2, rfl, hh⟩ := hrel
    by_cases hkn : k < ms.length
    · obtain ⟨g, pa, pc, rfl, _, _, hc, _, _⟩ := H.out k _ (List.getElem?_eq_getElem hkn)
      have hll := HL.out _ (List.getElem_mem hkn)
      have hd := hh.out
      rw [List.drop_eq_getElem_cons hkn, heavyL] at hd
      generalize ms[k]'hkn = m at hc hll hd
      have HKN := Lib.hid hkn
      clear hh
      by_cases hb : 1048576 < n + 1 + m.2.2.length
      · rw [if_pos hb] at hd
        have hgt : decide ((1048576 : Int) < (n : Int) + 1 + (m.2.2.length : Int)) = true := decide_eq_true (by omega)
        have HD := Lib.hid hd
        clear hd
        go_wp2
        go_ret
        exact ⟨by rw [HD.out]; rfl, rfl⟩
      · rw [if_neg hb] at hd
        have hgt : decide ((1048576 : Int) < (n : Int) + 1 + (m.2.2.length : Int)) = false := decide_eq_false (by omega)
        have HD := Lib.hid hd
        clear hd
        go_wp2
        go_roundw
        case measure => have := HKN.out; simp [intOf]; omega
        case rel => exact ⟨n + 1 + m.2.2.length, k + 1, by go_num, by go_num, by have := HKN.out; omega, by omega, trivial, HD.out⟩
    · obtain rfl : k = ms.length := by omega
      have hd := hh.out
      rw [List.drop_length, heavyL] at hd
      have HD := Lib.hid hd
      clear hd hh
      go_wp2
      go_ret
      exact ⟨by rw [HD.out]; rfl, rfl⟩

set_option maxRecDepth 100000 in
set_option maxHeartbeats 4000000 in
theorem sameInts_same (a b : Option Addr) (c d : Nat) (xs : List Int) (w : World) (ha : IntsIn w a xs) (hb : IntsIn w b xs) (hn : xs.length ≤ 140737488355328) :
    Calls Tryz.prog 26 #[.slice a xs.length c, .slice b xs.length d] w fun e w' => e = .returned (.bool true) ∧ Below w.heap.size w w' := by
  have HA := Lib.hid ha
  have HB := Lib.hid hb
  have HR := Lib.hid (Below.refl w.heap.size w)
  clear ha hb
  go_enter Tryz.func26, Tryz.ntmps26
  go_wp2
  go_loopw [5] (fun v5 wr => ∃ (k : Nat), v5 = .int .i64 (k : Nat) ∧ k ≤ xs.length ∧ Hid (Below w.heap.size w wr))
    (fun v5 _ => xs.length - (intOf v5).toNat)
  case atStart => exact ⟨0, rfl, Nat.zero_le _, HR.out⟩
  case round =>
    obtain ⟨k, rfl, hk, hh⟩ := hrel
    by_cases hkn : k < xs.length
    · obtain ⟨g, rfl, hc⟩ := HA.out.below hh.out k _ (List.getElem?_eq_getElem hkn)
      obtain ⟨g2, rfl, hc2⟩ := HB.out.below hh.out k _ (List.getElem?_eq_getElem hkn)
      have HKN := Lib.hid hkn
      generalize xs[k]'hkn = x at hc hc2
      go_wp2
      go_quiet (fail)
      go_wp2
      go_roundw
      case measure => have := HKN.out; simp [intOf]; omega
      case rel => exact ⟨k + 1, by go_num, by have := HKN.out; omega, pw_below_drewN hh.out _⟩
    · obtain rfl : k = xs.length := by omega
      go_wp2
      go_ret
      exact ⟨rfl, hh.out⟩

set_option maxRecDepth 100000 in
set_option maxHeartbeats 4000000 in
theorem sameMarks_same (a b : Option Addr) (c d : Nat) (ms : List MarkD) (w : World) (ha : MarksIn w a ms) (hb : MarksIn w b ms) (hn : ms.length ≤ 140737488355328) (hl : ∀ m ∈ ms, m.2.2.length ≤ 140737488355328) :
    Calls Tryz.prog 11 #[.slice a ms.length c, .slice b ms.length d] w fun e w' => e = .returned (.bool true) ∧ Below w.heap.size w w' := by
  have HA := Lib.hid ha
  have HB := Lib.hid hb
  have HL := Lib.hid hl
  have HR := Lib.hid (Below.refl w.heap.size w)
  clear ha hb hl
  go_enter Tryz.func11, Tryz.ntmps11
  go_wp2
  go_loopw [5] (fun v5 wr => ∃ (k : Nat), v5 = .int .i64 (k : Nat) ∧ k ≤ ms.length ∧ Hid (Below w.heap.size w wr))
    (fun v5 _ => ms.length - (intOf v5).toNat)
  case atStart => exact ⟨0, rfl, Nat.zero_le _, HR.out⟩
  case round =>
    obtain ⟨k, rfl, hk, hh⟩ := hrel
    by_cases hkn : k < ms.length
    · obtain ⟨g, pa, pc, rfl, h0, h1, h2, _, hx⟩ := HA.out.below hh.out k _ (List.getElem?_eq_getElem hkn)
      obtain ⟨g2, pa2, pc2, rfl, j0, j1, j2, _, jx⟩ := HB.out.below hh.out k _ (List.getElem?_eq_getElem hkn)
      have hll := HL.out _ (List.getElem_mem hkn)
      have HKN := Lib.hid hkn
      generalize ms[k]'hkn = m at h0 h1 h2 hx j0 j1 j2 jx hll
      have HX := Lib.hid hx
      have JX := Lib.hid jx
      have H2 := Lib.hid (And.intro h2 j2)
      clear hx jx
      go_wp2
      go_quiet (fail)
      clear h0 h1 h2 j0 j1 j2
      go_wp2
      go_loopw [6] (fun v6 wr2 => ∃ (l : Nat), v6 = .int .i64 (l : Nat) ∧ l ≤ m.2.2.length ∧ Hid (Below wr.heap.size wr wr2))
        (fun v6 _ => m.2.2.length - (intOf v6).toNat)
      case atStart => exact ⟨0, rfl, Nat.zero_le _, pw_below_drewN (Below.refl _ _) _⟩
      case round =>
        obtain ⟨l, rfl, hl2, hh2⟩ := hrel
        have hc1 := cell_below H2.out.1 hh2.out
        have hc2 := cell_below H2.out.2 hh2.out
        by_cases hln : l < m.2.2.length
        · obtain ⟨q, rfl, hq⟩ := HX.out.below hh2.out l _ (List.getElem?_eq_getElem hln)
          obtain ⟨q2, rfl, hq2⟩ := JX.out.below hh2.out l _ (List.getElem?_eq_getElem hln)
          have HLN := Lib.hid hln
          generalize m.2.2[l]'hln = x at hq hq2
          go_wp2
          go_quiet (fail)
          go_wp2
          go_roundw
          case measure => have := HLN.out; simp [intOf]; omega
          case rel => exact ⟨l + 1, by go_num, by have := HLN.out; omega, pw_below_drewN hh2.out _⟩
        · obtain rfl : l = m.2.2.length := by omega
          go_wp2
          go_roundw
          case measure => have := HKN.out; simp [intOf]; omega
          case rel => exact ⟨k + 1, by go_num, by have := HKN.out; omega, hh.out.trans (hh2.out.mono hh.out.size)⟩
    · obtain rfl : k = ms.length := by omega
      go_wp2
      go_ret
      exact ⟨rfl, hh.out⟩
end Go.Proofs.YtgmafjaphnponaaGreatDoor
