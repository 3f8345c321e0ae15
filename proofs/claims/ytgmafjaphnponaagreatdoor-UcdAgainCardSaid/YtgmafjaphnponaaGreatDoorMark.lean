/- ucd.mark: a line that says something is read, for every line. -/
import Derived.Test.YtgmafjaphnponaaGreatDoorDig
import Derived.Test.YtgmafjaphnponaaGreatDoorCut
import Derived.Test.YtgmafjaphnponaaGreatDoorLoadSpec
import Derived.Deep.RegionWith
import Derived.Deep.RegionHeld3
import Derived.Deep.AppendLies
import Derived.Deep.RegionLaw
import Derived.Maps.AppendAt
import Derived.Outline
import Derived.Deep.DeepCutAuto
import Derived.Deep.CutBlock
namespace Go.Proofs.YtgmafjaphnponaaGreatDoor
open Go.RowKit Dov

section
variable {w w' : World} {b i : Nat} {cs : Array Value} {T : TypeId}
theorem blk_cell (h : w.heap[b]? = some (.cells cs T (0, 0))) (i : Nat) : w.cell? ⟨b, i, none⟩ = cs[i]? := by simp [World.cell?, h]
theorem blk_frozen (h : w.heap[b]? = some (.cells cs T (0, 0))) (i : Nat) : w.frozen? ⟨b, i, none⟩ = false := by
  simp only [World.frozen?, h]
  simp
theorem blk_lt {o : Obj} (h : w.heap[b]? = some o) : b < w.heap.size := (Array.getElem?_eq_some_iff.1 h).1
theorem blk_later {o : Obj} (hb : Below w.heap.size w w') (h : w.heap[b]? = some o) : w'.heap[b]? = some o := (hb.block b (blk_lt h)).trans h
theorem blk_set (h : w.heap[b]? = some (.cells cs T (0, 0))) (i : Nat) (v : Value) : (w.setCell ⟨b, i, none⟩ v).heap[b]? = some (.cells (cs.setIfInBounds i v) T (0, 0)) := by
  simp [World.setCell, Array.getElem?_modify, h]
theorem blk_alloc {o o' : Obj} (h : w.heap[b]? = some o) : (w.alloc o').heap[b]? = some o := by rw [Below.heap_alloc _ _ _ (blk_lt h)]; exact h
theorem blk_new (o : Obj) : (w.alloc o).heap[w.heap.size]? = some o := by show (w.heap.push o)[w.heap.size]? = _; simp
theorem blk_other {o : Obj} {a : Addr} {v : Value} (h : w.heap[b]? = some o) (hn : b ≠ a.block) : (w.setCell a v).heap[b]? = some o := by rw [Below.heap_setCell _ _ _ _ hn]; exact h
end

theorem pw_below_drewN {B : Nat} {w W : World} (h : Below B w W) (n : Nat) : Below B w (W.drewN n) := ⟨h.os, h.tape, h.output, h.size, h.block⟩

theorem pw_cell_below {w w1 : World} (h : Below w.heap.size w w1) {a : Addr} {v : Value} (hc : w.cell? a = some v) : w1.cell? a = some v := (h.cell (World.block_lt_of_cell? w a hc)).trans hc

theorem grown_setCell (w : World) (a : Addr) (u : Value) : w.grownBy (w.setCell a u) (some a.block) :=
  ⟨rfl, rfl, rfl, by simp [World.setCell], fun k _ hk => Below.heap_setCell _ _ _ _ (fun e => hk (by rw [e]))⟩
theorem own_ne {w : World} {base : Nat} {e : TypeId} {size n : Nat} {v : Value} {xs : List Value} (h : w.ownsRow base e size v n xs) {b : Nat} {cs : Array Value} {T : TypeId} {fr : Nat × Nat}
    (hb : w.heap[b]? = some (.cells cs T fr)) (hT : T ≠ e) : v.ownBlock = none ∨ v.ownBlock ≠ some b := by
  rcases h.2 with ⟨rfl, _⟩ | ⟨g, cap, cur, rfl, _, hg, _⟩
  · exact .inl rfl
  · refine .inr fun hk => ?_
    have : g = b := by simpa [Value.ownBlock] using hk
    subst this
    rw [hg] at hb
    injection hb with hb
    injection hb with _ h2
    exact hT h2.symm
theorem own_setCell {w : World} {base : Nat} {e : TypeId} {size n : Nat} {v : Value} {xs : List Value} (h : w.ownsRow base e size v n xs) {b : Nat} {cs : Array Value} {T : TypeId} {fr : Nat × Nat}
    (hb : w.heap[b]? = some (.cells cs T fr)) (hT : T ≠ e) (i : Nat) (u : Value) : (w.setCell ⟨b, i, none⟩ u).ownsRow base e size v n xs :=
  h.kept (grown_setCell w ⟨b, i, none⟩ u) (own_ne h hb hT)
theorem own_below {w w1 : World} {base : Nat} {e : TypeId} {size n : Nat} {v : Value} {xs : List Value} (h : w.ownsRow base e size v n xs) (hb : Below w.heap.size w w1) : w1.ownsRow base e size v n xs :=
  h.kept (row := none) ⟨hb.os, hb.tape, hb.output, hb.size, fun k hk _ => hb.block k hk⟩ (by cases v.ownBlock <;> simp)

/-- What strconv.Atoi tells. -/
theorem atoi_any (s : ByteArray) (hmax : s.size ≤ 281474976710656) (w : World) (he : Env w) :
    Calls Tryz.prog 68 #[.string s] w fun e w' => (match Lib.atoiAll s.data.toList with | .ok v => e = .returned (.tuple #[.int .i64 v, .nilIface]) | _ => ∃ x p, e = .returned (.tuple #[.int .i64 x, .iface 172 p])) ∧ Below w.heap.size w w' := by
  obtain ⟨t1, p1, h1⟩ := he.esyn
  obtain ⟨t2, p2, h2⟩ := he.erng
  cases h : Lib.atoiAll s.data.toList with
  | ok v =>
    refine (Tryz.strconv_Atoi_ok s (by omega) v h w).mono fun e w' h => ⟨h.1, ?_⟩
    rcases h.2 with rfl | ⟨t, rfl⟩
    · exact Below.refl _ _
    · exact below_bytesWorld _ _ _
  | range => exact (Tryz.strconv_Atoi_range_var s hmax h t2 p2 w h2).mono fun e w' ⟨N, h, _, _, hb⟩ => ⟨⟨_, _, h⟩, hb⟩
  | _ => exact (Tryz.strconv_Atoi_syntax_var s hmax (fun v hv => by rw [h] at hv; cases hv) (fun hv => by rw [h] at hv; cases hv) t1 p1 w h1).mono fun e w' ⟨N, h, _, _, hb⟩ => ⟨⟨_, _, h⟩, hb⟩

theorem itoa_any (n : Int) (h0 : -9223372036854775808 ≤ n) (h1 : n ≤ 9223372036854775807) (w : World) (he : Env w) :
    Calls Tryz.prog 31 #[.int .i64 n] w fun e w' => e = .returned (.string ⟨(Lib.itoa n).toArray⟩) ∧ Below w.heap.size w w' := by
  refine (Tryz.strconv_Itoa n h0 h1 w he.p10).mono fun e w' h => ⟨h.1, ?_⟩
  obtain ⟨k, os, rfl⟩ := h.2
  refine ⟨rfl, rfl, rfl, by simp [Sort.grow], fun i hi => ?_⟩
  show (w.heap ++ os)[i]? = w.heap[i]?
  rw [Array.getElem?_append_left hi]

/-- What mark hands back: the struct, its parts in memory of the call's own. -/
def MarkRes (B : Nat) (o : Option (Int × Int × List Int)) (e : Ending) (w' : World) : Prop := match o with
  | none => Gives 40 e
  | some (p, k, ps) => ∃ pv, e = .returned (.agg #[.int .i64 p, .int .i64 k, pv]) ∧ w'.ownsRow B 3 1 pv ps.length (ps.map (Value.int .i64))

theorem piece_le {ps : List ByteArray} {c : UInt8} {s : ByteArray} (h : ps.map (·.data.toList) = cutsL c s.data.toList) {q : ByteArray} (hq : q ∈ ps) : q.size ≤ s.size := by
  have h1 : q.data.toList ∈ cutsL c s.data.toList := by rw [← h]; exact List.mem_map_of_mem hq
  have := cuts_le c _ _ h1
  rw [Lib.size_eq, Lib.size_eq]
  exact this

theorem info_int : (Tryz.prog.info? 3).map (fun i => (i.zero, i.size, i.bytes)) = some (some (.int .i64 0), 1, 8) := by kernel_rfl

set_option maxRecDepth 100000 in
set_option maxHeartbeats 2000000 in
theorem mark_any (s : ByteArray) (hs : s.size < 4294967281) (w : World) (he : Env w) :
    Calls Tryz.prog 36 #[.string s] w fun e w' => MarkRes w.heap.size (markL s.data.toList) e w' ∧ Below w.heap.size w w' := by
  have hb0 : Below w.heap.size w (w.alloc (.cells #[.int .i64 0, .int .i64 0, .slice none 0 0] 60)) := (Below.refl _ _).alloc (Nat.le_refl _) _
  have HS : Hid (Calls Tryz.prog 35 #[.string s, .string ⟨#[59]⟩] (w.alloc (.cells #[.int .i64 0, .int .i64 0, .slice none 0 0] 60)) fun e w1 => ∃ ps : List ByteArray, ps.map (·.data.toList) = cutsL 59 s.data.toList ∧ e = .returned (.slice (some ⟨w.heap.size + 1, 0, none⟩) ps.length ps.length) ∧
      w1.heap[w.heap.size + 1]? = some (.cells (ps.map Value.string).toArray 9 (0, 0)) ∧ w1.heap[w.heap.size]? = some (.cells #[.int .i64 0, .int .i64 0, .slice none 0 0] 60 (0, 0)) ∧ Below w.heap.size w w1 ∧ Env w1 ∧ w1.heap.size = w.heap.size + 2) := by
    refine (split_any s 59 hs _ (he.below hb0)).mono fun e w1 h => ?_
    obtain ⟨ps, h1, h2, h3⟩ := h
    have hb1 : Below w.heap.size w w1 := by rw [h3]; exact hb0.alloc (by simp) _
    refine ⟨ps, h1, by rw [h2]; simp, ?_, ?_, hb1, he.below hb1, by rw [h3]; simp⟩
    · rw [h3]
      have := blk_new (w := w.alloc (.cells #[.int .i64 0, .int .i64 0, .slice none 0 0] 60)) (.cells (ps.map Value.string).toArray 9)
      simpa using this
    · rw [h3]
      exact blk_alloc (blk_new _)
  have HE := Lib.hid he
  clear he hb0
  go_enter Tryz.func36, Tryz.ntmps36
  go_wp2_with fail
  refine (HS.out).mono ?_
  rintro e w1 ⟨ps, hps, rfl, hP1, hR1, hb1, he1, hz1⟩
  clear HS
  by_cases h3 : ps.length = 3
  · obtain ⟨A, B, C, rfl⟩ : ∃ A B C, ps = [A, B, C] := by
      match ps, h3 with
      | [A, B, C], _ => exact ⟨A, B, C, rfl⟩
    have hcA : w1.cell? ⟨w.heap.size + 1, 0, none⟩ = some (.string A) := blk_cell hP1 0
    have hcB : w1.cell? ⟨w.heap.size + 1, 1, none⟩ = some (.string B) := blk_cell hP1 1
    have hcC : w1.cell? ⟨w.heap.size + 1, 2, none⟩ = some (.string C) := blk_cell hP1 2
    have hlen : A.size ≤ s.size ∧ B.size ≤ s.size ∧ C.size ≤ s.size := ⟨piece_le hps (by simp), piece_le hps (by simp), piece_le hps (by simp)⟩
    simp only [List.map_cons, List.map_nil] at hps
    have hmk : markL s.data.toList = match readL A.data.toList, classL B.data.toList, (if C.data.toList = [] then some [] else partsL (cutsL 32 C.data.toList)) with
        | some p, some k, some ps => some (p, k, ps)
        | _, _, _ => none := by
      unfold markL
      rw [← hps]
      rfl
    have HP1 := Lib.hid hP1
    have HR1 := Lib.hid hR1
    have HE1 := Lib.hid he1
    clear hps hP1 hR1 he1 h3
    cases hA : readL A.data.toList with
    | none =>
      have hm : markL s.data.toList = none := by rw [hmk, hA]
      have HM := Lib.hid hm
      have HA := Lib.hid (read_bad A (by omega) w1 HE1.out hA)
      clear hm hmk hA hcB hcC
      go_wp2_with fail
      refine (HA.out).mono ?_
      rintro e w2 ⟨rfl, hb2⟩
      go_wp2
      exact ⟨rfl, by rw [HM.out]; exact rfl, hb1.trans (hb2.mono hb1.size)⟩
    | some p =>
      have HA := Lib.hid (read_ok A (by omega) w1 HE1.out p hA)
      rw [hA] at hmk
      go_wp2_with fail
      refine (HA.out).mono ?_
      rintro e w2 ⟨rfl, hb2⟩
      have hP2 := blk_later hb2 HP1.out
      have hR2 := blk_later hb2 HR1.out
      have hbB : Below w.heap.size w w2 := hb1.trans (hb2.mono hb1.size)
      have hcB2 : w2.cell? ⟨w.heap.size + 1, 1, none⟩ = some (.string B) := blk_cell hP2 1
      have hlt2 : w.heap.size + 1 < w2.heap.size := blk_lt hP2
      have hb3 : Below w2.heap.size w2 (w2.alloc (.cells #[.int .i64 p, .int .i64 0, .slice none 0 0] 60)) := (Below.refl _ _).alloc (Nat.le_refl _) _
      have he3 : Env (w2.alloc (.cells #[.int .i64 p, .int .i64 0, .slice none 0 0] 60)) := (HE1.out.below hb2).below hb3
      have HT := Lib.hid (atoi_any B (by omega) _ he3)
      have HP3 := Lib.hid (blk_later hb3 hP2)
      have HR3 := Lib.hid (blk_later hb3 hR2)
      have HM3 := Lib.hid (blk_new (w := w2) (.cells #[.int .i64 p, .int .i64 0, .slice none 0 0] 60))
      have HB3 := Lib.hid (hbB.trans (hb3.mono hbB.size))
      have HE3 := Lib.hid he3
      clear hcA hcB hcC hb1 hb2 HP1 HR1 HE1 hP2 hR2 hbB hb3 he3 HA
      go_wp2_with fail
      refine (HT.out).mono ?_
      rintro e w4 ⟨hat, hb4⟩
      have hP4 := blk_later hb4 HP3.out
      have hR4 := blk_later hb4 HR3.out
      have hM4 := blk_later hb4 HM3.out
      have hbB : Below w.heap.size w w4 := HB3.out.trans (hb4.mono HB3.out.size)
      have HE4 := Lib.hid (HE3.out.below hb4)
      clear HT HP3 HR3 HM3 HB3 HE3 hcB2 hb4
      cases hk : Lib.atoiAll B.data.toList with
      | ok v =>
        rw [hk] at hat
        subst hat
        by_cases hv : 0 ≤ v ∧ v ≤ 254
        · obtain ⟨hv0, hv1⟩ := hv
          have hcB4 : w4.cell? ⟨w.heap.size + 1, 1, none⟩ = some (.string B) := blk_cell hP4 1
          have HI : Hid (∀ W, Below w4.heap.size w4 W → Calls Tryz.prog 31 #[.int .i64 v] W fun e W' => e = .returned (.string ⟨(Lib.itoa v).toArray⟩) ∧ Below w4.heap.size w4 W' ∧ W'.cell? ⟨w.heap.size + 1, 1, none⟩ = some (.string B)) := by
            intro W hW
            refine (itoa_any v (by omega) (by omega) W (HE4.out.below hW)).mono fun e W' h => ⟨h.1, ?_, ?_⟩
            · exact hW.trans (h.2.mono hW.size)
            · exact pw_cell_below (hW.trans (h.2.mono hW.size)) hcB4
          have HBB := Lib.hid hbB
          have HP4 := Lib.hid hP4
          have HR4 := Lib.hid hR4
          have HM4 := Lib.hid hM4
          have hg1 : decide (v < 0) = false := decide_eq_false (by omega)
          have hg2 : decide (254 < v) = false := decide_eq_false (by omega)
          clear hP4 hR4 hM4 hbB hv0 hv1
          go_wp2
          go_region_held3 (fun W => Below w4.heap.size w4 W ∧ W.cell? ⟨w.heap.size + 1, 1, none⟩ = some (.string B)) (first | exact ⟨(Below.refl _ _).drew, hcB4⟩ | assumption | (constructor <;> assumption) | simp [*])
            (first | (go_at_call 31; refine (HI.out _ ?_).mono ?_; (first | assumption | exact (Below.refl _ _).drew); rintro e w5 ⟨rfl, hb5, hc5⟩))
          have hbB5 : Below w.heap.size w w5 := HBB.out.trans (hb5.mono HBB.out.size)
          by_cases hBv : Lib.itoa v = B.data.toList
          · have hg3 : (Lib.itoa v == B.toList) = true := by rw [bytes_list]; simpa using hBv
            have hcl : classL B.data.toList = some v := by
              simp only [classL, hk]
              rw [if_pos ⟨of_decide_eq_false hg1 |> Int.not_lt.1, of_decide_eq_false hg2 |> Int.not_lt.1, hBv⟩]
            rw [hcl] at hmk
            have hP5 := blk_later hb5 HP4.out
            have hR5 := blk_later hb5 HR4.out
            have hM5 := blk_later hb5 HM4.out
            have hE5 := HE4.out.below hb5
            have hbE := hbB5
            have hcM : w5.cell? ⟨w2.heap.size, 1, none⟩ = some (.int .i64 0) := blk_cell hM5 1
            have hfM : w5.frozen? ⟨w2.heap.size, 1, none⟩ = false := blk_frozen hM5 1
            have HP5 := Lib.hid hP5
            have HR5 := Lib.hid hR5
            have HM5 := Lib.hid hM5
            have HE5 := Lib.hid hE5
            have HB5 := Lib.hid hbB5
            clear hP5 hR5 hM5 hE5 hbB5 hbE hcB4 HI HP4 HR4 HM4 HBB HE4 hc5 hb5 hcl hBv hk hg1 hg2 hA
            simp only [hg3, Bool.not_true]
            go_upto_region 9 with fail
            generalize hw6 : w5.setCell _ _ = w6
            have hlM : w.heap.size + 1 < w2.heap.size := hlt2
            have hP6 : w6.heap[w.heap.size + 1]? = some (.cells #[.string A, .string B, .string C] 9 (0, 0)) := by rw [← hw6]; exact blk_other HP5.out (by show w.heap.size + 1 ≠ w2.heap.size; omega)
            have hR6 : w6.heap[w.heap.size]? = some (.cells #[.int .i64 0, .int .i64 0, .slice none 0 0] 60 (0, 0)) := by rw [← hw6]; exact blk_other HR5.out (by show w.heap.size ≠ w2.heap.size; omega)
            have hM6 : w6.heap[w2.heap.size]? = some (.cells #[.int .i64 p, .int .i64 v, .slice none 0 0] 60 (0, 0)) := by rw [← hw6]; exact blk_set HM5.out 1 _
            have hB6 : Below w.heap.size w w6 := by rw [← hw6]; exact HB5.out.setCell (by show w.heap.size ≤ w2.heap.size; omega) _
            have hE6 : Env w6 := HE.out.below hB6
            have hcC6 : w6.cell? ⟨w.heap.size + 1, 2, none⟩ = some (.string C) := blk_cell hP6 2
            clear hw6 HP5 HR5 HM5 HE5 HB5 hcM hfM hg3
            by_cases hC : C.data.toList = []
            · have hemp : C.toList.isEmpty = true := by rw [bytes_list, hC]; rfl
              have hcM0 : w6.cell? ⟨w2.heap.size, 0, none⟩ = some (.int .i64 p) := blk_cell hM6 0
              have hcM1 : w6.cell? ⟨w2.heap.size, 1, none⟩ = some (.int .i64 v) := blk_cell hM6 1
              have hcM2 : w6.cell? ⟨w2.heap.size, 2, none⟩ = some (.slice none 0 0) := blk_cell hM6 2
              have hcR0 : w6.cell? ⟨w.heap.size, 0, none⟩ = some (.int .i64 0) := blk_cell hR6 0
              have hcR1 : w6.cell? ⟨w.heap.size, 1, none⟩ = some (.int .i64 0) := blk_cell hR6 1
              have hcR2 : w6.cell? ⟨w.heap.size, 2, none⟩ = some (.slice none 0 0) := blk_cell hR6 2
              have hfR0 : w6.frozen? ⟨w.heap.size, 0, none⟩ = false := blk_frozen hR6 0
              have hfR1 : w6.frozen? ⟨w.heap.size, 1, none⟩ = false := blk_frozen hR6 1
              have hfR2 : w6.frozen? ⟨w.heap.size, 2, none⟩ = false := blk_frozen hR6 2
              have hm : markL s.data.toList = some (p, v, []) := by rw [hmk, if_pos hC]
              have HM := Lib.hid hm
              have HB6 := Lib.hid hB6
              clear hm hmk hC hP6 hM6 hE6 hB6
              have HR6 := Lib.hid hR6
              clear hR6
              go_wp2
              refine bodyPost_ret (v := .agg #[.int .i64 p, .int .i64 v, .slice none 0 0]) ?_ rfl ⟨?_, ?_⟩
              · have h1 := blk_set (blk_set (blk_set HR6.out 0 (.int .i64 p)) 1 (.int .i64 v)) 2 (.slice none 0 0)
                have g0 := blk_cell h1 0
                have g1 := blk_cell h1 1
                have g2 := blk_cell h1 2
                simp at g0 g1 g2
                simp [results, Tryz.results36, go_sem, g0, g1, g2]
              · rw [HM.out]
                exact ⟨_, rfl, by simp, .inl ⟨rfl, rfl⟩⟩
              · exact ((HB6.out.setCell (Nat.le_refl _) _).setCell (Nat.le_refl _) _).setCell (Nat.le_refl _) _
            · have hemp : C.toList.isEmpty = false := by
                rw [bytes_list]
                cases hc : C.data.toList with
                | nil => exact absurd hc hC
                | cons a l => rfl
              rw [if_neg hC] at hmk
              have HS := Lib.hid (split_any C 32 (by omega) w6 hE6)
              have HP6 := Lib.hid hP6
              have HR6 := Lib.hid hR6
              have HM6 := Lib.hid hM6
              have HB6 := Lib.hid hB6
              have HE6 := Lib.hid hE6
              clear hC hP6 hR6 hM6 hB6 hE6
              go_wp2_with fail
              refine (HS.out).mono ?_
              rintro e w7 ⟨qs, hqs, rfl, hw7⟩
              have hb7 : Below w6.heap.size w6 w7 := by rw [hw7]; exact (Below.refl _ _).alloc (Nat.le_refl _) _
              have hQ7 : w7.heap[w6.heap.size]? = some (.cells (qs.map Value.string).toArray 9 (0, 0)) := by rw [hw7]; exact blk_new _
              have hR7 := blk_later hb7 HR6.out
              have hM7 := blk_later hb7 HM6.out
              have hB7 : Below w.heap.size w w7 := HB6.out.trans (hb7.mono HB6.out.size)
              have hlM : w2.heap.size < w6.heap.size := blk_lt HM6.out
              have hqn : qs.length ≤ 4294967282 := by
                have h1 := congrArg List.length hqs
                have h2 := cuts_count 32 C.data.toList
                rw [List.length_map] at h1
                have h3 := Lib.size_eq C
                omega
              have hqall : ∀ q ∈ qs, q.size ≤ 4294967281 := fun q hq => by
                have := piece_le hqs hq
                omega
              rw [← hqs] at hmk
              clear hw7 HS HP6 HR6 HM6 HB6 HE6 hb7 hqs hcC6 hemp hlen
              have HMK := Lib.hid hmk
              have HQN := Lib.hid hqn
              have HQA := Lib.hid hqall
              have HF := Lib.hid (And.intro hQ7 (And.intro hR7 (And.intro hM7 hB7)))
              clear hmk hqn hqall hQ7 hR7 hM7 hB7
              go_wp2
              go_loopw [59] (fun vk wr => ∃ (k : Nat) (xs : List Int) (pv : Value), vk = .int .i64 k ∧ k ≤ qs.length ∧ Hid (
                  partsL (qs.map (·.data.toList)) = (partsL ((qs.drop k).map (·.data.toList))).map (xs ++ ·) ∧ xs.length = k ∧
                  wr.ownsRow w.heap.size 3 1 pv xs.length (xs.map (Value.int .i64)) ∧
                  wr.heap[w6.heap.size]? = some (.cells (qs.map Value.string).toArray 9 (0, 0)) ∧
                  wr.heap[w.heap.size]? = some (.cells #[.int .i64 0, .int .i64 0, .slice none 0 0] 60 (0, 0)) ∧
                  wr.heap[w2.heap.size]? = some (.cells #[.int .i64 p, .int .i64 v, pv] 60 (0, 0)) ∧ Below w.heap.size w wr))
                (fun vk _ => qs.length - (intOf vk).toNat)
              case atStart =>
                obtain ⟨h1, h2, h3, h4⟩ := HF.out
                exact ⟨0, [], .slice none 0 0, rfl, by omega, by simp, rfl, ⟨by simp, .inl ⟨rfl, rfl⟩⟩, h1, h2, h3, h4⟩
              case round =>
                obtain ⟨k, xs, pv, rfl, hk, hh⟩ := hrel
                by_cases hkn : k < qs.length
                · obtain ⟨hpl, hxl, hown, hQ, hR, hM, hB⟩ := hh.out
                  clear hh
                  have hq : wr.cell? ⟨w6.heap.size, k, none⟩ = some (.string (qs[k]'hkn)) := by
                    rw [blk_cell hQ k]
                    simp [hkn]
                  have hdrop : qs.drop k = qs[k]'hkn :: qs.drop (k + 1) := List.drop_eq_getElem_cons hkn
                  rw [hdrop, List.map_cons, partsL] at hpl
                  have hqs := HQA.out _ (List.getElem_mem hkn)
                  generalize qs[k]'hkn = q at hq hpl hqs
                  clear hdrop
                  cases hrd : readL q.data.toList with
                  | none =>
                    rw [hrd] at hpl
                    have hm : markL s.data.toList = none := by
                      rw [HMK.out, hpl]
                      rfl
                    have HM := Lib.hid hm
                    have HRD : Hid (∀ W, Below wr.heap.size wr W → Calls Tryz.prog 67 #[.string q] W fun e W' => Gives 40 e ∧ Below w.heap.size w W') := by
                      intro W hW
                      refine (read_bad q (by omega) W (HE.out.below (hB.trans (hW.mono hB.size))) hrd).mono fun e W' h => ⟨h.1, ?_⟩
                      have h2 := hW.trans (h.2.mono hW.size)
                      exact hB.trans (h2.mono hB.size)
                    have hcM : wr.cell? ⟨w2.heap.size, 2, none⟩ = some pv := blk_cell hM 2
                    clear hm hpl hxl hown hQ hR hM hB hrd hqs
                    go_wp2
                    refine wp_region_any (by kernel_rfl) ?_
                    change wpAny _ _ _ _ _ _ _ (World.drew _)
                    refine wpAny_take (i := 0) (v := ?v0) rfl (by kernel_rfl) (by kernel_rfl) (by kernel_rfl) (fun _ _ _ h => h) (Or.inl ⟨by rfl, ?h0⟩) ?_
                    case h0 =>
                      intro w
                      go_simp
                      with_reducible rfl
                    refine wpAny_take (i := 2) (v := ?v2) rfl (by kernel_rfl) (by kernel_rfl) (by kernel_rfl) (fun _ _ _ h => h) (Or.inl ⟨by rfl, ?h2⟩) ?_
                    case h2 =>
                      intro w
                      go_simp
                      with_reducible rfl
                    refine wpAny_ready (rs := [1, 3]) (by kernel_rfl) (by simp) ?_
                    refine AllReady.cons rfl (fun K hK => ?_) ?_
                    · go_simp
                      refine hK _ _ ?_
                      clear hK K
                      refine wpAny_ready (rs := [3]) (by kernel_rfl) (by simp) ?_
                      refine AllReady.cons rfl (fun K hK => ?_) AllReady.nil
                      go_simp
                      refine (HRD.out _ ((Below.refl _ _).drew)).mono ?_
                      rintro e W1 ⟨rfl, hbW⟩
                      exact ⟨rfl, by rw [HM.out]; exact rfl, hbW⟩
                    · refine AllReady.cons rfl (fun K hK => ?_) AllReady.nil
                      go_simp
                      refine (HRD.out _ ((Below.refl _ _).drew)).mono ?_
                      rintro e W1 ⟨rfl, hbW⟩
                      exact ⟨rfl, by rw [HM.out]; exact rfl, hbW⟩
                  | some n =>
                    rw [hrd] at hpl
                    have hcM : wr.cell? ⟨w2.heap.size, 2, none⟩ = some pv := blk_cell hM 2
                    have HRD : Hid (∀ W, Below wr.heap.size wr W → Calls Tryz.prog 67 #[.string q] W fun e W' => e = .returned (.int .i64 n) ∧ Below wr.heap.size wr W' ∧ W'.cell? ⟨w2.heap.size, 2, none⟩ = some pv ∧ W'.ownsRow w.heap.size 3 1 pv xs.length (xs.map (Value.int .i64)) ∧ w2.heap.size < W'.heap.size) := by
                      intro W hW
                      refine (read_ok q (by omega) W (HE.out.below (hB.trans (hW.mono hB.size))) n hrd).mono fun e W' h => ?_
                      have h2 := hW.trans (h.2.mono hW.size)
                      have h3 := blk_later h2 hM
                      exact ⟨h.1, h2, blk_cell h3 2, own_below hown h2, blk_lt h3⟩
                    have HKN := Lib.hid hkn
                    have hkb : k ≤ 4294967282 := by have := HQN.out; omega
                    obtain ⟨i0, hi, hz0, hz1, hz2⟩ := info_parts info_int
                    have hnum : (xs.length + 1) * 8 ≤ 140737488355328 := by have := HQN.out; omega
                    have HXN : Hid (∀ W1 : World, W1.ownsRow w.heap.size 3 1 pv xs.length (xs.map (Value.int .i64)) → Below wr.heap.size wr W1 → some w2.heap.size ≠ pv.ownBlock) := by
                      intro W1 ho hb
                      rcases own_ne ho (blk_later hb hM) (by decide) with h | h
                      · rw [h]; simp
                      · exact fun e => h e.symm
                    have HXF : Hid (∀ W1 : World, Below wr.heap.size wr W1 → W1.frozen? ⟨w2.heap.size, 2, none⟩ = false) := fun W1 hb => blk_frozen (blk_later hb hM) 2
                    have FIN : Hid (∀ (W1 W2 : World) (g cap : Nat), Below wr.heap.size wr W1 → W1.ownsRow w.heap.size 3 1 pv xs.length (xs.map (Value.int .i64)) →
                        W2.ownsRow w.heap.size 3 1 (.slice (some ⟨g, 0, none⟩) (xs.length + 1) cap) (xs.length + 1) (xs.map (Value.int .i64) ++ [Value.int .i64 n]) → (W1.alloc (.cells #[.int .i64 n] 3)).grownBy W2 pv.ownBlock → Hid (
                        partsL (qs.map (·.data.toList)) = (partsL ((qs.drop (k + 1)).map (·.data.toList))).map ((xs ++ [n]) ++ ·) ∧ (xs ++ [n]).length = k + 1 ∧
                        (W2.setCell ⟨w2.heap.size, 2, none⟩ (.slice (some ⟨g, 0, none⟩) (xs.length + 1) cap)).ownsRow w.heap.size 3 1 (.slice (some ⟨g, 0, none⟩) (xs.length + 1) cap) (xs ++ [n]).length ((xs ++ [n]).map (Value.int .i64)) ∧
                        (W2.setCell ⟨w2.heap.size, 2, none⟩ (.slice (some ⟨g, 0, none⟩) (xs.length + 1) cap)).heap[w6.heap.size]? = some (.cells (qs.map Value.string).toArray 9 (0, 0)) ∧
                        (W2.setCell ⟨w2.heap.size, 2, none⟩ (.slice (some ⟨g, 0, none⟩) (xs.length + 1) cap)).heap[w.heap.size]? = some (.cells #[.int .i64 0, .int .i64 0, .slice none 0 0] 60 (0, 0)) ∧
                        (W2.setCell ⟨w2.heap.size, 2, none⟩ (.slice (some ⟨g, 0, none⟩) (xs.length + 1) cap)).heap[w2.heap.size]? = some (.cells #[.int .i64 p, .int .i64 v, .slice (some ⟨g, 0, none⟩) (xs.length + 1) cap] 60 (0, 0)) ∧
                        Below w.heap.size w (W2.setCell ⟨w2.heap.size, 2, none⟩ (.slice (some ⟨g, 0, none⟩) (xs.length + 1) cap)))) := by
                      intro W1 W2 g cap hb1 ho1 ho2 hg2
                      have lift : ∀ {b : Nat} {cs : Array Value} {T : TypeId}, wr.heap[b]? = some (.cells cs T (0, 0)) → T ≠ 3 → W2.heap[b]? = some (.cells cs T (0, 0)) := by
                        intro b cs T hb hT
                        have h1 := blk_later hb1 hb
                        have h2 := blk_alloc (o' := .cells #[.int .i64 n] 3) h1
                        refine (hg2.block b (blk_lt h2) ?_).trans h2
                        rcases own_ne ho1 h1 hT with h | h
                        · rw [h]; simp
                        · exact fun e => h e.symm
                      have hM2 := lift hM (by decide)
                      have hBW : Below w.heap.size w W2 := by
                        refine (hB.trans (hb1.mono hB.size)).trans ?_
                        have hs : w.heap.size ≤ W1.heap.size := Nat.le_trans hB.size hb1.size
                        refine (((Below.refl _ _).alloc (B := w.heap.size) hs _)).grown hg2 (by simp; omega) ?_
                        intro j hj
                        rcases ho1.2 with ⟨h1, _⟩ | ⟨g', cap', cur, h1, hge, _⟩
                        · rw [h1] at hj; simp [Value.ownBlock] at hj
                        · rw [h1] at hj
                          have : g' = j := by simpa [Value.ownBlock] using hj
                          omega
                      refine ⟨?_, by simp [hxl], ?_, ?_, ?_, ?_, ?_⟩
                      · rw [hpl]
                        cases partsL ((qs.drop (k + 1)).map (·.data.toList)) with
                        | none => rfl
                        | some ys => simp
                      · have := own_setCell ho2 hM2 (by decide) 2 (.slice (some ⟨g, 0, none⟩) (xs.length + 1) cap)
                        simpa using this
                      · exact blk_other (lift hQ (by decide)) (by show w6.heap.size ≠ w2.heap.size; omega)
                      · exact blk_other (lift hR (by decide)) (by show w.heap.size ≠ w2.heap.size; omega)
                      · exact blk_set hM2 2 _
                      · exact hBW.setCell (by show w.heap.size ≤ w2.heap.size; omega) _
                    have HX := Lib.hid (And.intro hpl (And.intro hxl (And.intro hown (And.intro hQ (And.intro hR (And.intro hM hB))))))
                    clear hpl hxl hown hQ hR hM hB hrd hqs
                    go_wp2
                    refine wp_region_any (by kernel_rfl) ?_
                    change wpAny _ _ _ _ _ _ _ (World.drew _)
                    refine wpAny_take (i := 0) (v := ?v0) rfl (by kernel_rfl) (by kernel_rfl) (by kernel_rfl) (fun _ _ _ h => h) (Or.inl ⟨by rfl, ?h0⟩) ?_
                    case h0 =>
                      intro w
                      go_simp
                      try with_reducible rfl
                    refine wpAny_take (i := 2) (v := ?v2) rfl (by kernel_rfl) (by kernel_rfl) (by kernel_rfl) (fun _ _ _ h => h) (Or.inl ⟨by rfl, ?h2⟩) ?_
                    case h2 =>
                      intro w
                      go_simp
                      try with_reducible rfl
                    refine wpAny_ready (rs := [1, 3]) (by kernel_rfl) (by simp) ?_
                    refine AllReady.cons rfl (fun K hK => ?_) ?_
                    · skip
                      go_simp
                      refine hK _ _ ?_
                      clear hK K
                      refine wpAny_ready (rs := [3]) (by kernel_rfl) (by simp) ?_
                      refine AllReady.cons rfl (fun K hK => ?_) AllReady.nil
                      go_simp
                      refine (HRD.out _ ((Below.refl _ _).drew)).mono ?_
                      rintro e W1 ⟨rfl, hbW, hcW, hoW, hzW⟩
                      dsimp only
                      refine hK _ _ ?_
                      clear hK K
                      refine wpAny_ready (rs := [4]) (by kernel_rfl) (by simp) ?_
                      refine AllReady.cons rfl (fun K hK => ?_) AllReady.nil
                      go_simp
                      refine hK _ _ ?_
                      clear hK K
                      refine wpAny_ready (rs := [5]) (by kernel_rfl) (by simp) ?_
                      refine AllReady.cons rfl (fun K hK => ?_) AllReady.nil
                      refine step_append_lies _ rfl _ _ _ rfl w.heap.size 3 i0 (.int .i64 0) 1 8 Tryz.underlying43 hi hz0 hz1 hz2 rfl (by decide) pv xs.length (xs.map (Value.int .i64)) rfl (hoW.alloc _) _ 1 1 [.int .i64 n] rfl rfl (World.news_of_block (blk_new _)) (by intro u hu; simp at hu; subst hu; rfl) (by decide) (by unfold maxLen; omega) hnum (by simp; omega) _ rfl ?_
                      intro g cap W2 hown2 hgr2 hat2 hlt2g
                      have hcM2 : W2.cell? ⟨w2.heap.size, 2, none⟩ = some pv := hgr2.cell (by rw [World.cell?_alloc_past _ _ _ hzW]; exact hcW) (HXN.out W1 hoW hbW)
                      have hfM2 : W2.frozen? ⟨w2.heap.size, 2, none⟩ = false := (hgr2.frozen_far _ (by simp; omega) (HXN.out W1 hoW hbW)).trans ((World.frozen?_alloc_past _ _ _ hzW).trans (HXF.out W1 hbW))
                      refine hK _ _ ?_
                      clear hK K
                      refine wpAny_ready (rs := [6]) (by kernel_rfl) (by simp) ?_
                      refine AllReady.cons rfl (fun K hK => ?_) AllReady.nil
                      go_simp
                      refine hK _ _ ?_
                      clear hK K
                      refine wpAny_ready (rs := [7]) (by kernel_rfl) (by simp) ?_
                      refine AllReady.cons rfl (fun K hK => ?_) AllReady.nil
                      go_simp
                      refine hK _ _ ?_
                      clear hK K
                      refine wpAny_done (by kernel_rfl) ?_ _
                      go_wp2
                      go_roundw
                      case measure => have := HKN.out; simp [intOf]; omega
                      case rel => exact ⟨k + 1, xs ++ [n], _, by go_num, by have := HKN.out; omega, FIN.out W1 W2 g cap hbW hoW hown2 hgr2⟩
                    refine AllReady.cons rfl (fun K hK => ?_) AllReady.nil
                    go_simp
                    refine (HRD.out _ ((Below.refl _ _).drew)).mono ?_
                    rintro e W1 ⟨rfl, hbW, hcW, hoW, hzW⟩
                    dsimp only
                    refine hK _ _ ?_
                    clear hK K
                    refine wpAny_ready (rs := [1, 4]) (by kernel_rfl) (by simp) ?_
                    refine AllReady.cons rfl (fun K hK => ?_) ?_
                    · skip
                      go_simp
                      refine hK _ _ ?_
                      clear hK K
                      refine wpAny_ready (rs := [4]) (by kernel_rfl) (by simp) ?_
                      refine AllReady.cons rfl (fun K hK => ?_) AllReady.nil
                      go_simp
                      refine hK _ _ ?_
                      clear hK K
                      refine wpAny_ready (rs := [5]) (by kernel_rfl) (by simp) ?_
                      refine AllReady.cons rfl (fun K hK => ?_) AllReady.nil
                      refine step_append_lies _ rfl _ _ _ rfl w.heap.size 3 i0 (.int .i64 0) 1 8 Tryz.underlying43 hi hz0 hz1 hz2 rfl (by decide) pv xs.length (xs.map (Value.int .i64)) rfl (hoW.alloc _) _ 1 1 [.int .i64 n] rfl rfl (World.news_of_block (blk_new _)) (by intro u hu; simp at hu; subst hu; rfl) (by decide) (by unfold maxLen; omega) hnum (by simp; omega) _ rfl ?_
                      intro g cap W2 hown2 hgr2 hat2 hlt2g
                      have hcM2 : W2.cell? ⟨w2.heap.size, 2, none⟩ = some pv := hgr2.cell (by rw [World.cell?_alloc_past _ _ _ hzW]; exact hcW) (HXN.out W1 hoW hbW)
                      have hfM2 : W2.frozen? ⟨w2.heap.size, 2, none⟩ = false := (hgr2.frozen_far _ (by simp; omega) (HXN.out W1 hoW hbW)).trans ((World.frozen?_alloc_past _ _ _ hzW).trans (HXF.out W1 hbW))
                      refine hK _ _ ?_
                      clear hK K
                      refine wpAny_ready (rs := [6]) (by kernel_rfl) (by simp) ?_
                      refine AllReady.cons rfl (fun K hK => ?_) AllReady.nil
                      go_simp
                      refine hK _ _ ?_
                      clear hK K
                      refine wpAny_ready (rs := [7]) (by kernel_rfl) (by simp) ?_
                      refine AllReady.cons rfl (fun K hK => ?_) AllReady.nil
                      go_simp
                      refine hK _ _ ?_
                      clear hK K
                      refine wpAny_done (by kernel_rfl) ?_ _
                      go_wp2
                      go_roundw
                      case measure => have := HKN.out; simp [intOf]; omega
                      case rel => exact ⟨k + 1, xs ++ [n], _, by go_num, by have := HKN.out; omega, FIN.out W1 W2 g cap hbW hoW hown2 hgr2⟩
                    refine AllReady.cons rfl (fun K hK => ?_) AllReady.nil
                    go_simp
                    refine hK _ _ ?_
                    clear hK K
                    refine wpAny_ready (rs := [1]) (by kernel_rfl) (by simp) ?_
                    refine AllReady.cons rfl (fun K hK => ?_) AllReady.nil
                    go_simp
                    refine hK _ _ ?_
                    clear hK K
                    refine wpAny_ready (rs := [5]) (by kernel_rfl) (by simp) ?_
                    refine AllReady.cons rfl (fun K hK => ?_) AllReady.nil
                    refine step_append_lies _ rfl _ _ _ rfl w.heap.size 3 i0 (.int .i64 0) 1 8 Tryz.underlying43 hi hz0 hz1 hz2 rfl (by decide) pv xs.length (xs.map (Value.int .i64)) rfl (hoW.alloc _) _ 1 1 [.int .i64 n] rfl rfl (World.news_of_block (blk_new _)) (by intro u hu; simp at hu; subst hu; rfl) (by decide) (by unfold maxLen; omega) hnum (by simp; omega) _ rfl ?_
                    intro g cap W2 hown2 hgr2 hat2 hlt2g
                    have hcM2 : W2.cell? ⟨w2.heap.size, 2, none⟩ = some pv := hgr2.cell (by rw [World.cell?_alloc_past _ _ _ hzW]; exact hcW) (HXN.out W1 hoW hbW)
                    have hfM2 : W2.frozen? ⟨w2.heap.size, 2, none⟩ = false := (hgr2.frozen_far _ (by simp; omega) (HXN.out W1 hoW hbW)).trans ((World.frozen?_alloc_past _ _ _ hzW).trans (HXF.out W1 hbW))
                    refine hK _ _ ?_
                    clear hK K
                    refine wpAny_ready (rs := [6]) (by kernel_rfl) (by simp) ?_
                    refine AllReady.cons rfl (fun K hK => ?_) AllReady.nil
                    go_simp
                    refine hK _ _ ?_
                    clear hK K
                    refine wpAny_ready (rs := [7]) (by kernel_rfl) (by simp) ?_
                    refine AllReady.cons rfl (fun K hK => ?_) AllReady.nil
                    go_simp
                    refine hK _ _ ?_
                    clear hK K
                    refine wpAny_done (by kernel_rfl) ?_ _
                    go_wp2
                    go_roundw
                    case measure => have := HKN.out; simp [intOf]; omega
                    case rel => exact ⟨k + 1, xs ++ [n], _, by go_num, by have := HKN.out; omega, FIN.out W1 W2 g cap hbW hoW hown2 hgr2⟩
                · obtain ⟨hpl, hxl, hown, hQ, hR, hM, hB⟩ := hh.out
                  clear hh
                  have hkk : k = qs.length := by omega
                  subst hkk
                  have hcM0 : wr.cell? ⟨w2.heap.size, 0, none⟩ = some (.int .i64 p) := blk_cell hM 0
                  have hcM1 : wr.cell? ⟨w2.heap.size, 1, none⟩ = some (.int .i64 v) := blk_cell hM 1
                  have hcM2 : wr.cell? ⟨w2.heap.size, 2, none⟩ = some pv := blk_cell hM 2
                  have hcR0 : wr.cell? ⟨w.heap.size, 0, none⟩ = some (.int .i64 0) := blk_cell hR 0
                  have hcR1 : wr.cell? ⟨w.heap.size, 1, none⟩ = some (.int .i64 0) := blk_cell hR 1
                  have hcR2 : wr.cell? ⟨w.heap.size, 2, none⟩ = some (.slice none 0 0) := blk_cell hR 2
                  have hfR0 : wr.frozen? ⟨w.heap.size, 0, none⟩ = false := blk_frozen hR 0
                  have hfR1 : wr.frozen? ⟨w.heap.size, 1, none⟩ = false := blk_frozen hR 1
                  have hfR2 : wr.frozen? ⟨w.heap.size, 2, none⟩ = false := blk_frozen hR 2
                  have hm : markL s.data.toList = some (p, v, xs) := by
                    rw [HMK.out]
                    have : partsL (qs.map (·.data.toList)) = some xs := by rw [hpl, List.drop_length]; simp [partsL]
                    rw [this]
                  have HM := Lib.hid hm
                  have HR := Lib.hid hR
                  have HB := Lib.hid hB
                  have HO := Lib.hid hown
                  clear hm hR hB hM hQ hpl hxl hown
                  obtain ⟨pa, pc, hpv⟩ : ∃ pa pc, pv = .slice pa xs.length pc := by
                    rcases HO.out.2 with ⟨h1, h2⟩ | ⟨g, cap, cur, h1, _⟩
                    · have h3 : xs = [] := by simpa using h2
                      exact ⟨none, 0, by rw [h1, h3]; rfl⟩
                    · exact ⟨_, _, h1⟩
                  subst hpv
                  go_wp2
                  refine bodyPost_ret (v := .agg #[.int .i64 p, .int .i64 v, .slice pa xs.length pc]) ?_ rfl ⟨?_, ?_⟩
                  · have h1 := blk_set (blk_set (blk_set HR.out 0 (.int .i64 p)) 1 (.int .i64 v)) 2 (.slice pa xs.length pc)
                    have g0 := blk_cell h1 0
                    have g1 := blk_cell h1 1
                    have g2 := blk_cell h1 2
                    simp at g0 g1 g2
                    simp [results, Tryz.results36, go_sem, g0, g1, g2]
                  · rw [HM.out]
                    refine ⟨_, rfl, ?_⟩
                    have g1 := own_setCell HO.out HR.out (by decide) 0 (.int .i64 p)
                    have k1 := blk_set HR.out 0 (.int .i64 p)
                    have g2 := own_setCell g1 k1 (by decide) 1 (.int .i64 v)
                    have k2 := blk_set k1 1 (.int .i64 v)
                    exact own_setCell g2 k2 (by decide) 2 _
                  · exact ((HB.out.setCell (Nat.le_refl _) _).setCell (Nat.le_refl _) _).setCell (Nat.le_refl _) _
          · have hg3 : (Lib.itoa v == B.toList) = false := by rw [bytes_list]; simpa using hBv
            have hm : markL s.data.toList = none := by
              rw [hmk]
              have : classL B.data.toList = none := by
                simp only [classL, hk]
                rw [if_neg (fun h => hBv h.2.2)]
              rw [this]
            have HM := Lib.hid hm
            clear hm hmk hk hBv
            simp only [hg3, Bool.not_false]
            go_wp2
            exact ⟨rfl, by rw [HM.out]; exact rfl, hbB5⟩
        · have hm : markL s.data.toList = none := by
            rw [hmk]
            have : classL B.data.toList = none := by
              simp only [classL, hk]
              rw [if_neg (fun h => hv ⟨h.1, h.2.1⟩)]
            rw [this]
          have HM := Lib.hid hm
          clear hm hmk hk
          by_cases hv0 : v < 0
          · clear hv
            go_wp2
            go_quiet (fail)
            go_wp2
            exact ⟨rfl, by rw [HM.out]; exact rfl, by first | exact hbB | exact hbB.drew | exact pw_below_drewN hbB _⟩
          · have hv1 : 254 < v := by omega
            have hv2 : 0 ≤ v := by omega
            clear hv hv0
            go_wp2
            go_quiet (fail)
            go_wp2
            exact ⟨rfl, by rw [HM.out]; exact rfl, by first | exact hbB | exact hbB.drew | exact pw_below_drewN hbB _⟩
      | range =>
        rw [hk] at hat
        obtain ⟨x, q, rfl⟩ := hat
        have hm : markL s.data.toList = none := by rw [hmk]; simp [classL, hk]
        have HM := Lib.hid hm
        clear hm hmk hk
        go_wp2
        go_quiet (fail)
        go_wp2
        exact ⟨rfl, by rw [HM.out]; exact rfl, by first | exact hbB | exact hbB.drew | exact pw_below_drewN hbB _⟩
      | _ =>
        rw [hk] at hat
        obtain ⟨x, q, rfl⟩ := hat
        have hm : markL s.data.toList = none := by rw [hmk]; simp [classL, hk]
        have HM := Lib.hid hm
        clear hm hmk hk
        go_wp2
        go_quiet (fail)
        go_wp2
        exact ⟨rfl, by rw [HM.out]; exact rfl, by first | exact hbB | exact hbB.drew | exact pw_below_drewN hbB _⟩
  · have hm : markL s.data.toList = none := by
      unfold markL
      rw [← hps]
      match ps, h3 with
      | [], _ => rfl
      | [_], _ => rfl
      | [_, _], _ => rfl
      | _ :: _ :: _ :: _ :: _, _ => rfl
      | [_, _, _], h => simp at h
    have hn : ((ps.length : Int) != 3) = true := by rw [bne_iff_ne]; omega
    have HM := Lib.hid hm
    clear hm hP1 hR1 he1 hps
    go_wp2
    exact ⟨rfl, by rw [HM.out]; exact rfl, hb1⟩

end Go.Proofs.YtgmafjaphnponaaGreatDoor
