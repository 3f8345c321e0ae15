/- The law's awake: true. -/
import Derived.Test.YtgmafjaphnponaaGreatDoorAwakeSpec
import Derived.Test.YtgmafjaphnponaaGreatDoorLoad
import Derived.Test.YtgmafjaphnponaaGreatDoorMarks
import Derived.Test.YtgmafjaphnponaaGreatDoorPrint
namespace Go.Proofs.YtgmafjaphnponaaGreatDoor
open Go.RowKit Dov

theorem ints_block {w : World} {b : Nat} {xs : List Int} (h : w.heap[b]? = some (.cells (xs.map (Value.int .i64)).toArray 3 (0, 0))) : IntsIn w (some ⟨b, 0, none⟩) xs := fun j x hx =>
  ⟨_, rfl, World.news_of_block h j _ (by simp [hx])⟩

set_option maxRecDepth 100000 in
set_option maxHeartbeats 4000000 in
theorem awake_any (w : World) (he : Env w) : Calls Tryz.prog 9 #[] w fun e w' => e = .returned (.bool true) ∧ Below w.heap.size w w' := by
  have HE := Lib.hid he
  have HL := Lib.hid (load_any ⟨#[48, 51, 48, 49, 59, 50, 51, 48, 59, 10, 48, 48, 69, 49, 59, 48, 59, 48, 48, 54, 49, 32, 48, 51, 48, 49, 10, 49, 69, 65, 70, 59, 48, 59, 48, 49, 48, 51, 32, 48, 51, 48, 49, 10, 48, 49, 48, 51, 59, 48, 59, 48, 48, 54, 49, 32, 48, 51, 48, 54]⟩ (by decide) w he)
  clear he
  go_enter Tryz.func9, Tryz.ntmps9
  go_wp2_with fail
  refine HL.out.mono ?_
  rintro e w1 ⟨h1, hb1⟩
  have hw : loadL [48, 51, 48, 49, 59, 50, 51, 48, 59, 10, 48, 48, 69, 49, 59, 48, 59, 48, 48, 54, 49, 32, 48, 51, 48, 49, 10, 49, 69, 65, 70, 59, 48, 59, 48, 49, 48, 51, 32, 48, 51, 48, 49, 10, 48, 49, 48, 51, 59, 48, 59, 48, 48, 54, 49, 32, 48, 51, 48, 54] = _ := wake_load
  change LoadEnd w (loadL [48, 51, 48, 49, 59, 50, 51, 48, 59, 10, 48, 48, 69, 49, 59, 48, 59, 48, 48, 54, 49, 32, 48, 51, 48, 49, 10, 49, 69, 65, 70, 59, 48, 59, 48, 49, 48, 51, 32, 48, 51, 48, 49, 10, 48, 49, 48, 51, 59, 48, 59, 48, 48, 54, 49, 32, 48, 51, 48, 54]) e w1 at h1
  rw [hw] at h1
  obtain ⟨d, rfl, hd⟩ := h1
  have hd0 := hd
  obtain ⟨db, r, rfl, hdb, hms⟩ := hd0
  have HD := Lib.hid (And.intro hd (And.intro hdb (And.intro hms hb1)))
  clear hd hdb hms hb1 hw HL
  have HL2 := Lib.hid (load_any ⟨#[48, 51, 48, 49, 59, 49, 59, 10, 48, 51, 48, 49, 59, 49, 59]⟩ (by decide) w1 (HE.out.below HD.out.2.2.2))
  go_wp2_with fail
  refine HL2.out.mono ?_
  rintro e w2 ⟨h2, hb2⟩
  change LoadEnd w1 (loadL [48, 51, 48, 49, 59, 49, 59, 10, 48, 51, 48, 49, 59, 49, 59]) e w2 at h2
  rw [wake_twice] at h2
  obtain rfl : e = .returned (.tuple #[.pointer none, .int .i64 41, .int .i64 2]) := h2
  have HD2 := Lib.hid (And.intro (HD.out.1.below hb2) (And.intro (blk_later hb2 HD.out.2.1) (And.intro (HD.out.2.2.1.below hb2) (HD.out.2.2.2.trans (hb2.mono HD.out.2.2.2.size)))))
  clear hb2 HL2 HD
  have HM := Lib.hid (marks_any _ wakeMarks _ w2 HD2.out.1 (by decide) (by decide) (by decide))
  go_wp2_with fail
  refine HM.out.mono ?_
  rintro e w3 ⟨a, c, ms', rfl, hp, hs, hin, hb3⟩
  obtain rfl : ms' = wakeSorted := perm_sorted_eq (hp.trans wake_perm.symm) hs wake_rising
  have HD3 := Lib.hid (And.intro (HD2.out.1.below hb3) (And.intro (blk_later hb3 HD2.out.2.1) (And.intro (HD2.out.2.2.1.below hb3) (HD2.out.2.2.2.trans (hb3.mono HD2.out.2.2.2.size)))))
  have HP := Lib.hid (print_any a c wakeSorted w3 (HE.out.below HD3.out.2.2.2) (by decide) hin (by decide))
  clear hp hs hin hb3 HM HD2
  go_wp2_with fail
  refine HP.out.mono ?_
  rintro e w4 ⟨h4, hb4⟩
  rw [wake_print] at h4
  obtain rfl : e = .returned (.tuple #[.string ⟨wakeOut.toArray⟩, .int .i64 0]) := h4
  have hlen := wake_len
  generalize wakeOut = out at hlen
  have HD4 := Lib.hid (And.intro (HD3.out.1.below hb4) (And.intro (blk_later hb4 HD3.out.2.1) (And.intro (HD3.out.2.2.1.below hb4) (HD3.out.2.2.2.trans (hb4.mono HD3.out.2.2.2.size)))))
  clear hb4 HP HD3
  have HC := Lib.hid (class_any _ wakeMarks _ 769 w4 HD4.out.1)
  go_wp2_with fail
  refine HC.out.mono ?_
  rintro e w5 ⟨rfl, rfl⟩
  have hcl : (lookMark wakeMarks 769).2.1 = 230 := by kernel_rfl
  rw [hcl]
  clear hcl HC
  have hpl : ∀ p, (partsOf wakeMarks p).length ≤ 1099511627776 := fun p => Nat.le_trans (partsOf_len 2 wakeMarks p (by decide)) (by omega)
  have HP1 := Lib.hid (parts_any wakeMarks db r _ hpl 10 0x1eaf _ w5 wake_parts1 HD4.out.2.1 HD4.out.2.2.1)
  go_wp2_with fail
  refine HP1.out.mono ?_
  rintro e w6 ⟨v6, rfl, hv6, hb6⟩
  obtain ⟨a6, c6, rfl⟩ := slice_form hv6
  have HD6 := Lib.hid (And.intro (blk_later hb6 HD4.out.2.1) (And.intro (HD4.out.2.2.1.below hb6) (HD4.out.2.2.2.trans (hb6.mono HD4.out.2.2.2.size))))
  have hi6 := IntsIn.own hv6
  have hbX := (Below.refl w6.heap.size w6).alloc (Nat.le_refl _) (.cells #[.int .i64 97, .int .i64 774, .int .i64 769] 3)
  have hX := blk_new (w := w6) (.cells #[.int .i64 97, .int .i64 774, .int .i64 769] 3)
  have HS1 := Lib.hid (sameInts_same a6 (some ⟨w6.heap.size, 0, none⟩) c6 3 [0x61, 0x306, 0x301] _ (hi6.below hbX) (ints_block hX) (by decide))
  have HD7 := Lib.hid (And.intro (blk_later hbX HD6.out.1) (And.intro (HD6.out.2.1.below hbX) (HD6.out.2.2.trans (hbX.mono HD6.out.2.2.size))))
  clear hv6 hb6 hi6 hbX hX HD4 HP1 HD6
  go_wp2_with fail
  refine HS1.out.mono ?_
  rintro e w7 ⟨rfl, hb7⟩
  have HD8 := Lib.hid (And.intro (blk_later hb7 HD7.out.1) (And.intro (HD7.out.2.1.below hb7) (HD7.out.2.2.trans (hb7.mono HD7.out.2.2.size))))
  have HP2 := Lib.hid (parts_any wakeMarks db r _ hpl 10 0xac01 _ w7 wake_parts2 HD8.out.1 HD8.out.2.1)
  clear hb7 HS1 HD7
  go_wp2_with fail
  refine HP2.out.mono ?_
  rintro e w8 ⟨v8, rfl, hv8, hb8⟩
  obtain ⟨a8, c8, rfl⟩ := slice_form hv8
  have hB8 := HD8.out.2.2.trans (hb8.mono HD8.out.2.2.size)
  have hi8 := IntsIn.own hv8
  have hbX := (Below.refl w8.heap.size w8).alloc (Nat.le_refl _) (.cells #[.int .i64 4352, .int .i64 4449, .int .i64 4520] 3)
  have hX := blk_new (w := w8) (.cells #[.int .i64 4352, .int .i64 4449, .int .i64 4520] 3)
  have HS2 := Lib.hid (sameInts_same a8 (some ⟨w8.heap.size, 0, none⟩) c8 3 [0x1100, 0x1161, 0x11a8] _ (hi8.below hbX) (ints_block hX) (by decide))
  have HB := Lib.hid (hB8.trans (hbX.mono hB8.size))
  clear hv8 hb8 hi8 hbX hX hB8 HP2 HD8
  go_wp2_with fail
  refine HS2.out.mono ?_
  rintro e w9 ⟨rfl, hb9⟩
  have HB9 := Lib.hid (HB.out.trans (hb9.mono HB.out.size))
  clear hb9 HS2 HB
  go_wp2
  go_ret
  exact ⟨rfl, HB9.out⟩
end Go.Proofs.YtgmafjaphnponaaGreatDoor
