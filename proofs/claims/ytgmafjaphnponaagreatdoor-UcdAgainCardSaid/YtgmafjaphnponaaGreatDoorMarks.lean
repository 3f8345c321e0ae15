/- (*ucd.Data).Marks: all marks, rising by their points, in memory of their own. -/
import Derived.Test.YtgmafjaphnponaaGreatDoorRange
import Derived.Test.YtgmafjaphnponaaGreatDoorParts
import Derived.Test.YtgmafjaphnponaaGreatDoorIn
import Derived.Test.YtgmafjaphnponaaGreatDoorSort
namespace Go.Proofs.YtgmafjaphnponaaGreatDoor
open Go.RowKit Dov Go.Shelf Go.Lib Go.Sort

/-- A mark in three cells: its point, its class, where its parts lie. -/
structure PM where
  pt : Fin 1114112
  cls : Int
  a : Option Addr
  n : Nat
  c : Nat
instance : Inhabited PM := ⟨⟨0, 0, none, 0, 0⟩⟩
def encPM (x : PM) : List Value := [.int .i64 (x.pt.val : Nat), .int .i64 x.cls, .slice x.a x.n x.c]
def cfPM (x y : PM) : Int := (x.pt.val : Int) - (y.pt.val : Int)

theorem ltPM (x y : PM) : ltOf cfPM x y = decide (x.pt.val < y.pt.val) := by
  unfold ltOf cfPM
  by_cases h : x.pt.val < y.pt.val
  · rw [decide_eq_true h, decide_eq_true (by omega)]
  · rw [decide_eq_false h, decide_eq_false (by omega)]
theorem swoPM : SWO (ltOf cfPM) where
  irrefl x := by rw [ltPM]; simp
  trans x y z h1 h2 := by rw [ltPM] at *; simp at *; omega
  ntrans x y z h1 h2 := by rw [ltPM] at *; simp at *; omega

set_option maxRecDepth 100000 in
set_option maxHeartbeats 1000000 in
theorem lessMarks (x y : PM) (W : World) : Calls Tryz.prog 41 #[.agg (encPM x).toArray, .agg (encPM y).toArray] W fun e w' => e = .returned (.int .i64 (cfPM x y)) ∧ ∃ q os', w' = grow (W.drewN q) os' := by
  have hx := x.pt.isLt
  have hy := y.pt.isLt
  unfold cfPM encPM
  generalize x.pt.val = p at hx ⊢
  generalize y.pt.val = q at hy ⊢
  go_enter Tryz.func41, Tryz.ntmps41
  go_wp2
  go_ret
  exact ⟨rfl, 0, _, by rw [alloc_eq_grow, alloc_eq_grow, grow_grow]; rfl⟩

theorem cmpMarks (blk off size : Nat) (w : World) : CmpLays Tryz.prog 41 #[] encPM 3 cfPM blk off size w := fun _ _ _ _ x y => lessMarks x y _

theorem isAgg_mark : ∀ w, (isAgg 60).run Tryz.prog w = .ok true w := fun _ => by kernel_rfl
theorem sizeOf_mark : ∀ w, (Go.sizeOf 60).run Tryz.prog w = .ok 3 w := fun _ => by kernel_rfl

/-- slices.SortFunc over marks. -/
theorem sort_any (blk cap : Nat) (d : Array PM) (w : World) (hH : HoldsK encPM 3 w blk 0 d) (hblk : blk < w.heap.size) (hsz : d.size < 4611686018427387904) :
    Calls Tryz.prog 40 #[.slice (some ⟨blk, 0, none⟩) d.size cap, .func (.func 41) #[] #[]] w fun e w' => e = .returned (.tuple #[]) ∧ ∃ d' n os, PermIn 0 d.size d d' ∧ SortedIn (ltOf cfPM) 0 d.size d' ∧ w' = sortWorldK encPM 3 w blk 0 n d' os :=
  AnyQ.slices_SortFunc Tryz.sortMarks 3 isAgg_mark sizeOf_mark encPM (fun _ => rfl) (fun x v hv => by simp [encPM] at hv; rcases hv with rfl | rfl | rfl <;> rfl) cfPM swoPM 41 #[] blk 0 cap d w
    (enters_of Tryz.func41 (by kernel_rfl) rfl) (cmpMarks blk 0 d.size w) hH hblk hsz
theorem sort_none (a : Option Addr) (cap : Nat) (fv : Value) (w : World) :
    Calls Tryz.prog 40 #[.slice a 0 cap, fv] w fun e w' => e = .returned (.tuple #[]) ∧ w' = w := AnyF.slices_SortFunc_none Tryz.sortMarks a cap fv w

theorem info_mark : (Tryz.prog.info? 60).map (fun i => (i.zero, i.size, i.bytes)) = some (some (.agg #[.int .i64 0, .int .i64 0, .slice none 0 0]), 3, 40) := by kernel_rfl

/-- Three cells that tell of a mark of the data. -/
def PMok (w : World) (B : Nat) (ms : List MarkD) (x : PM) : Prop :=
  (lookMark ms (x.pt.val : Nat)).1 = (x.pt.val : Nat) ∧ (lookMark ms (x.pt.val : Nat)).2.1 = x.cls ∧ x.n = (partsOf ms (x.pt.val : Nat)).length ∧
  w.ownsRow B 3 1 (.slice x.a x.n x.c) x.n ((partsOf ms (x.pt.val : Nat)).map (Value.int .i64))
theorem PMok.kept {w w1 : World} {B : Nat} {ms : List MarkD} {x : PM} (h : PMok w B ms x) (hk : ∀ (v : Value) (n : Nat) (xs : List Value), w.ownsRow B 3 1 v n xs → w1.ownsRow B 3 1 v n xs) : PMok w1 B ms x :=
  ⟨h.1, h.2.1, h.2.2.1, hk _ _ _ h.2.2.2⟩

theorem look_self {ms : List MarkD} (hn : (ms.map (·.1)).Nodup) {m : MarkD} (hm : m ∈ ms) : lookMark ms m.1 = m := by
  induction ms with
  | nil => cases hm
  | cons a r ih =>
    rw [List.map_cons, List.nodup_cons] at hn
    unfold lookMark markOf
    rw [List.find?_cons]
    by_cases h : a.1 = m.1
    · have hb : (a.1 == m.1) = true := by simpa using h
      rw [hb]
      rcases List.mem_cons.1 hm with rfl | hr
      · rfl
      · exact absurd (List.mem_map.2 ⟨m, hr, h.symm⟩) hn.1
    · have hb : (a.1 == m.1) = false := by simpa using h
      rw [hb]
      rcases List.mem_cons.1 hm with rfl | hr
      · exact absurd rfl h
      · exact ih hn.2 hr

theorem flat_get (ps : List PM) : ∀ t : Nat, t < ps.length * 3 → (ps.flatMap encPM)[t]? = some ((encPM (ps.toArray[t / 3]!))[t % 3]!) := by
  induction ps with
  | nil => intro t h; simp at h
  | cons x r ih =>
    intro t h
    rw [List.flatMap_cons]
    by_cases h3 : t < 3
    · rw [List.getElem?_append_left (by simpa [encPM] using h3)]
      have e0 : t / 3 = 0 := by omega
      have e1 : t % 3 = t := by omega
      rw [e0, e1]
      have hx : t < (encPM x).length := by simpa [encPM] using h3
      rw [List.getElem?_eq_getElem hx]
      simp [getElem!_pos, hx]
    · have hl : (encPM x).length = 3 := rfl
      rw [List.getElem?_append_right (by omega), hl]
      have h4 := ih (t - 3) (by rw [List.length_cons] at h; omega)
      rw [h4]
      have e0 : t / 3 = (t - 3) / 3 + 1 := by omega
      have e1 : (t - 3) % 3 = t % 3 := by omega
      rw [e0, e1]
      congr 2
      simp [List.getElem!_toArray]
theorem holds_any {w : World} {base n g cap : Nat} {ps : List PM} (h : w.ownsRow base 60 3 (.slice (some ⟨g, 0, none⟩) n cap) n (ps.flatMap encPM)) {cur : Array Value} (hh : w.heap[g]? = some (.cells cur 60 (0, 0))) : HoldsK encPM 3 w g 0 ps.toArray := by
  intro t ht
  rw [size_flatK] at ht
  have ht' : t < ps.length * 3 := by simpa using ht
  rw [get_flatK _ _ _ t ht]
  have := h.cells (g := g) rfl t _ (flat_get ps t ht')
  have ha : (⟨g, 0, none⟩ : Addr).add t = ⟨g, 0 + t, none⟩ := by unfold Addr.add; split <;> simp_all
  rw [ha] at this
  exact ⟨this, blk_frozen hh (0 + t)⟩

theorem sort_below {w : World} {D g n : Nat} {d : Array PM} {os : Array Obj} (hD : D ≤ g) (hg : g < w.heap.size) : RowKit.Below D w (sortWorldK encPM 3 w g 0 n d os) := by
  have hsz : w.heap.size ≤ (sortWorldK encPM 3 w g 0 n d os).heap.size := size_sortWorldK_c encPM 3 w g 0 n d os
  refine ⟨rfl, rfl, rfl, hsz, fun b hb => ?_⟩
  have hbw : b < w.heap.size := by omega
  unfold sortWorldK putRowK putRow mapBlock grow Sort.ahead
  simp only
  rw [Array.getElem?_append_left (by simp; omega), Array.getElem?_modify, if_neg (by omega)]

/-- What Marks leaves: the marks, rising. -/
def MarksEnd (w : World) (ms : List MarkD) (e : Ending) (w' : World) : Prop :=
  ∃ a c ms', e = .returned (.slice a ms'.length c) ∧ ms'.Perm ms ∧ ms'.Pairwise (fun x y => x.1 ≤ y.1) ∧ MarksIn w' a ms' ∧ Below w.heap.size w w'

theorem marks_end {w wr : World} {ms : List MarkD} {es : List (Int × Value)} {vs : List Nat} {ps : List PM} {g cap n : Nat} {cur : Array Value} {os : Array Obj} {d' : Array PM}
    (hkeys : es.map (·.1) = ms.map (·.1)) (hN : (es.map (·.1)).Nodup) (hdone : ∀ i, i < es.length → i ∈ vs) (hnd : vs.Nodup) (hlt : ∀ i ∈ vs, i < es.length)
    (hpm : ps.map (fun x => ((x.pt.val : Nat) : Int)) = vs.map (fun i => (es.getD i (0, default)).1)) (hown : wr.ownsRow (w.heap.size + 1) 60 3 (.slice (some ⟨g, 0, none⟩) ps.length cap) ps.length (ps.flatMap encPM))
    (hgh : wr.heap[g]? = some (.cells cur 60 (0, 0))) (hgb : w.heap.size + 1 ≤ g) (hok : ∀ x ∈ ps, PMok wr (w.heap.size + 1) ms x) (hB : RowKit.Below w.heap.size w wr)
    (hperm : PermIn 0 ps.toArray.size ps.toArray d') (hsort : SortedIn (ltOf cfPM) 0 ps.toArray.size d') :
    MarksEnd w ms (.returned (.slice (some ⟨g, 0, none⟩) ps.length cap)) (sortWorldK encPM 3 wr g 0 n d' os) := by
  obtain ⟨hs, _, hp⟩ := hperm
  have hd : d'.toList.Perm ps := by
    have e1 : d'.extract 0 ps.toArray.size = d' := by rw [← hs]; simp
    have e2 : ps.toArray.extract 0 ps.toArray.size = ps.toArray := by simp
    rw [e1, e2] at hp
    exact hp
  have hlen : es.length = ms.length := by have := congrArg List.length hkeys; simpa using this
  have e1 : ps.map (fun x => lookMark ms ((x.pt.val : Nat) : Int)) = vs.map (fun i => ms.getD i (0, 0, [])) := by
    have h1 : ps.map (fun x => lookMark ms ((x.pt.val : Nat) : Int)) = (ps.map (fun x => ((x.pt.val : Nat) : Int))).map (lookMark ms) := by rw [List.map_map]; rfl
    rw [h1, hpm, List.map_map]
    apply List.map_congr_left
    intro i hi
    have hi1 := hlt i hi
    have hi2 : i < ms.length := by omega
    show lookMark ms (es.getD i (0, default)).1 = ms.getD i (0, 0, [])
    have h2 : (es.getD i (0, default)).1 = (ms[i]'hi2).1 := by
      have h3 : (es.map (·.1))[i]? = (ms.map (·.1))[i]? := by rw [hkeys]
      simp [List.getElem?_eq_getElem hi1, List.getElem?_eq_getElem hi2] at h3
      simp [List.getD, List.getElem?_eq_getElem hi1, h3]
    rw [h2, look_self (by rw [← hkeys]; exact hN) (List.getElem_mem hi2)]
    simp [List.getD, List.getElem?_eq_getElem hi2]
  have e2 : vs.Perm (List.range ms.length) := (List.perm_ext_iff_of_nodup hnd List.nodup_range).2 (fun i => ⟨fun h => List.mem_range.2 (by have := hlt i h; omega), fun h => hdone i (by have := List.mem_range.1 h; omega)⟩)
  have e3 : (List.range ms.length).map (fun i => ms.getD i (0, 0, [])) = ms := by
    apply List.ext_getElem?
    intro i
    by_cases hi : i < ms.length
    · simp [hi, List.getD]
    · simp [hi]
  have hPerm : (d'.toList.map (fun x => lookMark ms ((x.pt.val : Nat) : Int))).Perm ms := by
    refine (hd.map _).trans ?_
    rw [e1]
    refine (e2.map _).trans ?_
    rw [e3]
  have hsize : d'.size = ps.length := by simpa using hs
  have hH := holds_any hown hgh
  have hH2 := holdsK_sortWorldK_c encPM 3 wr g 0 ps.toArray d' n os hH (blk_lt hgh) hs
  refine ⟨some ⟨g, 0, none⟩, cap, d'.toList.map (fun x => lookMark ms ((x.pt.val : Nat) : Int)), by simp [hsize], hPerm, ?_, ?_, hB.trans (sort_below (by omega) (blk_lt hgh))⟩
  · rw [List.pairwise_map, List.pairwise_iff_getElem]
    intro i j hi hj hij
    have hi' : i < d'.size := by simpa using hi
    have hj' : j < d'.size := by simpa using hj
    have h1 := hsort i j (Nat.zero_le _) hij (by simp; omega)
    rw [ltPM, getElem!_pos d' i hi', getElem!_pos d' j hj'] at h1
    have h2 := of_decide_eq_false h1
    have a1 := (hok d'[i] (hd.subset (by simp))).1
    have a2 := (hok d'[j] (hd.subset (by simp))).1
    simp only [Array.getElem_toList]
    rw [a1, a2]
    omega
  · intro i m hm
    rw [List.getElem?_map] at hm
    obtain ⟨x, hx, rfl⟩ := Option.map_eq_some_iff.1 hm
    have hx' : d'[i]? = some x := by simpa using hx
    obtain ⟨hi, hxe⟩ := Array.getElem?_eq_some_iff.1 hx'
    have hxp : x ∈ ps := hd.subset (by rw [← hxe]; simp)
    obtain ⟨q1, q2, q3, q4⟩ := hok x hxp
    have hcell : ∀ c, c < 3 → (sortWorldK encPM 3 wr g 0 n d' os).cell? ⟨g, i * 3 + c, none⟩ = some ((encPM x)[c]!) := by
      intro c hc
      have h1 := (hH2 (i * 3 + c) (by rw [size_flatK]; omega)).1
      rw [get_flatK _ _ _ _ (by omega)] at h1
      have e1 : (i * 3 + c) / 3 = i := by omega
      have e2 : (i * 3 + c) % 3 = c := by omega
      rw [e1, e2, getElem!_pos d' i hi, hxe] at h1
      simpa using h1
    have ha : (⟨g, 0, none⟩ : Addr).add (i * 3) = ⟨g, i * 3, none⟩ := by unfold Addr.add; split <;> simp_all
    refine ⟨⟨g, 0, none⟩, x.a, x.c, rfl, ?_, ?_, ?_, ?_, ?_⟩
    · rw [ha]
      have := hcell 0 (by omega)
      refine this.trans ?_
      simp [encPM, q1]
    · rw [ha]
      have := hcell 1 (by omega)
      refine this.trans ?_
      simp [encPM, q2]
    · rw [ha]
      have := hcell 2 (by omega)
      rw [lookMark_parts, ← q3]
      refine this.trans ?_
      simp [encPM]
    · rw [lookMark_parts, ← q3]
      rcases q4.2 with ⟨h, h0⟩ | ⟨_, _, _, h, _, _, hc, _⟩
      · rw [h0]; exact Nat.zero_le _
      · have h5 := (Value.slice.inj h).2.2; omega
    · rw [lookMark_parts]
      have hin : IntsIn wr x.a (partsOf ms ((x.pt.val : Nat) : Int)) := IntsIn.own q4
      intro j y hy
      obtain ⟨b, hb1, hb2⟩ := hin j y hy
      refine ⟨b, hb1, ?_⟩
      rw [cell?_sortWorldK_other encPM 3 wr g 0 n d' os (b.add j) ?_ (cell_lt hb2)]
      · exact hb2
      · have hbb : (b.add j).block = b.block := by unfold Addr.add; split <;> rfl
        rw [hbb]
        rcases own_ne q4 hgh (by decide) with h | h
        · rw [hb1] at h
          simp [Value.ownBlock] at h
        · intro e
          exact h (by rw [hb1]; simp [Value.ownBlock, e])

set_option maxRecDepth 100000 in
set_option maxHeartbeats 4000000 in
theorem marks_any (d : Value) (ms : List MarkD) (B : Nat) (w : World) (hd : DataAt w B d ms) (hn : ms.length ≤ 1000000) (hl : ∀ m ∈ ms, m.2.2.length ≤ 1000000) (hp : ∀ m ∈ ms, 0 ≤ m.1 ∧ m.1 < 1114112) :
    Calls Tryz.prog 12 #[d] w (MarksEnd w ms) := by
  obtain ⟨db, r, rfl, hdb, es, hmap, hkeys, hmv⟩ := hd
  have hcd : w.cell? ⟨db, 0, none⟩ = some (.map (some r)) := blk_cell hdb 0
  obtain ⟨hrange, hrng⟩ := Rng.start (P := Tryz.prog) hmap Tryz.underlying69
  generalize hW : w.alloc _ = W at hrange hrng
  have HN : Hid ((es.map (·.1)).Nodup) := by obtain ⟨_, _, _, _, h⟩ := hmap; exact h
  have HG := Lib.hid (And.intro hW (And.intro hrng (And.intro hkeys hmv)))
  clear hW hrng hkeys hmv hdb
  go_enter Tryz.func12, Tryz.ntmps12
  go_wp2
  have hbW : Below w.heap.size w W := by rw [← HG.out.1]; exact (Below.refl _ _).alloc (Nat.le_refl _) _
  have hsW : W.heap.size = w.heap.size + 1 := by rw [← HG.out.1]; simp
  have hown0 : W.ownsRow (w.heap.size + 1) 60 3 (.slice none 0 0) 0 [] := ⟨by simp, .inl ⟨rfl, rfl⟩⟩
  have HW := Lib.hid (And.intro hbW (And.intro hsW hown0))
  have hlen : es.length = ms.length := by have := congrArg List.length HG.out.2.2.1; simpa using this
  clear hbW hsW hown0 hrange hcd
  go_loopg [3] (es.length + 1) (fun f v3 wr => ∃ (vs : List Nat) (ps : List PM), Hid (
      vs.length + f = es.length + 1 ∧ Rng wr r w.heap.size es vs ∧ vs.Nodup ∧ (∀ i ∈ vs, i < es.length) ∧ ps.map (fun x => ((x.pt.val : Nat) : Int)) = vs.map (fun i => (es.getD i (0, default)).1) ∧
      wr.ownsRow (w.heap.size + 1) 60 3 v3 ps.length (ps.flatMap encPM) ∧ (∀ x ∈ ps, PMok wr (w.heap.size + 1) ms x) ∧ Below w.heap.size w wr))
  case atStart => exact ⟨[], [], by simp, HG.out.2.1, by simp, by simp, rfl, by simpa using HW.out.2.2, by simp, HW.out.1⟩
  case round =>
    obtain ⟨vs, ps, hh⟩ := hrel
    obtain ⟨hf, hrg, hnd, hlt, hpm, hown, hok, hB⟩ := hh.out
    clear hh
    rcases hrg.next (P := Tryz.prog) 0 with ⟨hdone, hrun⟩ | ⟨i, k, v, W1, hiv, hik, hrun, hent, hrg1, hg1, hs1⟩
    · rcases hown.2 with ⟨rfl, h0⟩ | ⟨g, cap, cur, rfl, hgb, hgh, hgc, hgm, hgs, hgt⟩
      · have hps : ps = [] := List.eq_nil_of_length_eq_zero h0
        have hms : ms = [] := by
          have h1 : vs = [] := by have := congrArg List.length hpm; rw [hps] at this; simpa using this.symm
          have h2 : es.length = 0 := by
            rcases Nat.eq_zero_or_pos es.length with h | h
            · exact h
            · have := hdone 0 h
              rw [h1] at this
              cases this
          exact List.eq_nil_of_length_eq_zero (by omega)
        have HE : Hid (MarksEnd w ms (.returned (.slice none 0 0)) wr) := ⟨none, 0, [], rfl, by rw [hms], by simp, (by intro i m h; simp at h), hB⟩
        clear hf hrg hnd hlt hpm hown hok hB hdone h0 hps hms
        go_wp2_with fail
        refine (sort_none none 0 _ _).mono ?_
        rintro e w9 ⟨rfl, rfl⟩
        go_wp2
        go_ret
        exact HE.out
      · have hpl : ps.length ≤ 1000001 := by have := congrArg List.length hpm; simp at this; omega
        have HS := Lib.hid (sort_any g cap ps.toArray wr (holds_any hown hgh) (blk_lt hgh) (by simp; omega))
        have HE : Hid (∀ d' n os, PermIn 0 ps.toArray.size ps.toArray d' → SortedIn (ltOf cfPM) 0 ps.toArray.size d' → MarksEnd w ms (.returned (.slice (some ⟨g, 0, none⟩) ps.length cap)) (sortWorldK encPM 3 wr g 0 n d' os)) :=
          fun d' n os h1 h2 => marks_end HG.out.2.2.1 HN.out hdone hnd hlt hpm hown hgh hgb hok hB h1 h2
        clear hf hrg hnd hlt hpm hown hok hB hdone hgb hgh hgc hgm hgs hgt
        go_wp2_with fail
        refine HS.out.mono ?_
        rintro e w9 ⟨rfl, d', n, os, h1, h2, rfl⟩
        have HE2 := Lib.hid (HE.out d' n os h1 h2)
        clear HE HS h1 h2
        go_wp2
        go_ret
        exact HE2.out
    · have hil : i < es.length := (List.getElem?_eq_some_iff.1 hik).1
      have hvl : (vs ++ [i]).length ≤ es.length := by
        have h1 := nodup_le (vs ++ [i]) (List.range es.length) (by
          rw [List.nodup_append]
          exact ⟨hnd, by simp, fun a ha b hb => by simp at hb; subst hb; rintro rfl; exact hiv ha⟩) (fun a ha => by
          rcases List.mem_append.1 ha with ha | ha
          · exact List.mem_range.2 (hlt a ha)
          · simp at ha; subst ha; exact List.mem_range.2 hil)
        simpa using h1
      rw [List.length_append, List.length_singleton] at hvl
      obtain ⟨f, rfl⟩ : ∃ f, gk = f + 1 := ⟨gk - 1, by omega⟩
      have him : i < ms.length := by omega
      obtain ⟨pv, hv, hpv⟩ := HG.out.2.2.2 i (k, v) ms[i] hik (List.getElem?_eq_getElem him)
      have hv' : v = .agg #[.int .i64 (ms[i]'him).1, .int .i64 (ms[i]'him).2.1, pv] := hv
      have hkm : k = (ms[i]'him).1 := by
        have h1 : (es.map (·.1))[i]? = (ms.map (·.1))[i]? := by rw [HG.out.2.2.1]
        simpa [hik, List.getElem?_eq_getElem him] using h1
      have hmm := List.getElem_mem him
      have hll := hl _ hmm
      have hpp := hp _ hmm
      generalize ms[i]'him = m at hv hv' hpv hkm hmm hll hpp
      subst hv'
      have hB1 : Below w.heap.size w W1 := hB.grown hg1 hB.size (fun j hj => by cases hj; omega)
      have hsz : w.heap.size + 1 ≤ W1.heap.size := by have := hrg1.lt.1; omega
      obtain ⟨pa, pc, rfl⟩ := slice_form hpv
      have hpv1 := own_below hpv hB1
      have hbX : Below W1.heap.size W1 (W1.alloc (.cells #[.int .i64 m.1, .int .i64 m.2.1, .slice pa m.2.2.length pc] 60)) := (Below.refl _ _).alloc (Nat.le_refl _) _
      have hX := blk_new (w := W1) (.cells #[.int .i64 m.1, .int .i64 m.2.1, .slice pa m.2.2.length pc] 60)
      have HCL := Lib.hid (clone_any (own_below hpv1 hbX) (by omega))
      have hown1 : W1.ownsRow (w.heap.size + 1) 60 3 u3 ps.length (ps.flatMap encPM) := own_kept hown hg1 (by
        right
        intro e
        have := own_lt hown _ e
        omega)
      have hok1 : ∀ x ∈ ps, PMok W1 (w.heap.size + 1) ms x := fun x hx => (hok x hx).kept fun v n xs ho => own_kept ho hg1 (by
        right
        intro e
        have := own_lt ho _ e
        omega)
      have hpl : ps.length = vs.length := by have := congrArg List.length hpm; simpa using this
      have HH := Lib.hid (And.intro hf (And.intro hnd (And.intro hlt (And.intro hpm (And.intro hown1 (And.intro hok1 (And.intro hB1 (And.intro hrg1 (And.intro hX hbX)))))))))
      have HM := Lib.hid (And.intro hiv (And.intro hik (And.intro hkm (And.intro hmm (And.intro hll (And.intro hpp hil))))))
      have hps : ps.length ≤ 1000001 := by omega
      clear hf hrg hnd hlt hpm hown hok hB hown1 hok1 hB1 hrg1 hX hbX hiv hik hv hpv hpv1 hkm hg1 hs1 hpl hil hvl
      go_wp2_with fail
      refine HCL.out.mono ?_
      rintro e W3 ⟨v', rfl, hv3, hb3⟩
      obtain ⟨va, vc, rfl⟩ := slice_form hv3
      obtain ⟨_, _, _, _, hown1, hok1, hB1, hrg1, hX, hbX⟩ := HH.out
      have hb13 := hbX.trans (hb3.mono hbX.size)
      have hM3 := blk_later hb3 hX
      have hB3 := hB1.trans (hb13.mono hB1.size)
      have hrg3 := hrg1.below hb13
      have hown3 := own_below hown1 hb13
      have hok3 : ∀ x ∈ ps, PMok W3 (w.heap.size + 1) ms x := fun x hx => (hok1 x hx).kept fun v n xs ho => own_below ho hb13
      have hv3' := own_base hv3 (Nat.le_trans hsz hbX.size)
      -- the store
      have hM4 := blk_set hM3 2 (.slice va m.2.2.length vc)
      have hB4 := hB3.setCell (p := ⟨W1.heap.size, 2, none⟩) hB1.size (.slice va m.2.2.length vc)
      have hne4 : ∀ b, b ≠ W1.heap.size → (W3.setCell ⟨W1.heap.size, 2, none⟩ (.slice va m.2.2.length vc)).heap[b]? = W3.heap[b]? := fun b hb => Below.heap_setCell _ _ _ _ hb
      have hrg4 := hrg3.same (hne4 r (by have := hrg1.lt.2; omega)) (hne4 w.heap.size (by have := hrg1.lt.1; omega))
      have hown4 : (W3.setCell ⟨W1.heap.size, 2, none⟩ (.slice va m.2.2.length vc)).ownsRow (w.heap.size + 1) 60 3 u3 ps.length (ps.flatMap encPM) := own_kept hown3 (grown_setCell W3 ⟨W1.heap.size, 2, none⟩ _) (by
        by_cases h : u3.ownBlock = none
        · exact .inl h
        · right
          intro e
          have := own_lt hown1 W1.heap.size e
          omega)
      have hok4 : ∀ x ∈ ps, PMok (W3.setCell ⟨W1.heap.size, 2, none⟩ (.slice va m.2.2.length vc)) (w.heap.size + 1) ms x := fun x hx => (hok3 x hx).kept fun v n xs ho => own_setCell ho hM3 (by decide) 2 _
      have hv4 := own_setCell hv3' hM3 (by decide) 2 (.slice va m.2.2.length vc)
      have hcM2 : W3.cell? ⟨W1.heap.size, 2, none⟩ = some (.slice pa m.2.2.length pc) := blk_cell hM3 2
      have hfM2 : W3.frozen? ⟨W1.heap.size, 2, none⟩ = false := blk_frozen hM3 2
      have hs4 : (W3.setCell ⟨W1.heap.size, 2, none⟩ (.slice va m.2.2.length vc)).heap.size = W3.heap.size := by simp
      generalize hW4 : W3.setCell ⟨W1.heap.size, 2, none⟩ (.slice va m.2.2.length vc) = W4 at hM4 hB4 hrg4 hown4 hok4 hv4 hs4
      simp at hM4
      have hd0 : W4.cell? ⟨W1.heap.size, 0, none⟩ = some (.int .i64 m.1) := blk_cell hM4 0
      have hd1 : W4.cell? ⟨W1.heap.size, 1, none⟩ = some (.int .i64 m.2.1) := blk_cell hM4 1
      have hd2 : W4.cell? ⟨W1.heap.size, 2, none⟩ = some (.slice va m.2.2.length vc) := blk_cell hM4 2
      have hsz4 : w.heap.size + 1 ≤ W4.heap.size := by have := hrg4.lt.1; omega
      have HQ := Lib.hid (And.intro hB4 (And.intro hrg4 (And.intro hown4 (And.intro hok4 hv4))))
      clear HCL hown1 hok1 hB1 hrg1 hX hbX hb13 hM3 hB3 hrg3 hown3 hok3 hv3' hM4 hB4 hne4 hrg4 hown4 hok4 hv4 hs4 hv3 hb3
      obtain ⟨i0, hi, hz0, hz1, hz2⟩ := info_parts info_mark
      go_wp2_with (at_builtin; refine wpList_append_own_at _ rfl _ _ 22 rfl (w.heap.size + 1) 60 i0 (.agg #[.int .i64 0, .int .i64 0, .slice none 0 0]) 3 40 Tryz.underlying22 hi hz0 hz1 hz2 rfl (by decide) u3 ps.length (ps.flatMap encPM) rfl (HQ.out.2.2.1.alloc _) ⟨W4.heap.size, 0, none⟩ 1 1 [.int .i64 m.1, .int .i64 m.2.1, .slice va m.2.2.length vc] rfl rfl (World.news_of_block (blk_new _)) (by intro u hu; simp at hu; rcases hu with rfl | rfl | rfl <;> rfl) (by unfold maxLen; omega) (by omega) (by simp; omega) ?_; intro v8 W7 hown7 hg7 _ hat7)
      go_roundg f
      case measure => omega
      case rel =>
        obtain ⟨hf, hnd, hlt, hpm, _, _, _, _, _, _⟩ := HH.out
        obtain ⟨hiv, hik, hkm, hmm, _, hpp, hil⟩ := HM.out
        obtain ⟨hB4, hrg4, hown4, hok4, hv4⟩ := HQ.out
        have hx : (((m.1.toNat : Nat)) : Int) = m.1 := Int.toNat_of_nonneg hpp.1
        have hlk : lookMark ms m.1 = m := look_self (by rw [← HG.out.2.2.1]; exact HN.out) hmm
        have hgr : W4.grownBy W7 u3.ownBlock := ⟨hg7.os, hg7.tape, hg7.output, Nat.le_trans (by simp) hg7.size, fun b hb hne => (hg7.block b (by simp; omega) hne).trans (Below.heap_alloc _ _ _ hb)⟩
        have hint : ∀ (v : Value) (n : Nat) (xs : List Value), W4.ownsRow (w.heap.size + 1) 3 1 v n xs → W7.ownsRow (w.heap.size + 1) 3 1 v n xs := fun v n xs ho => own_kept ho hgr (by
          rcases hown4.2 with ⟨h1, _⟩ | ⟨g, cap, cur, h1, _, hh, _⟩
          · rw [h1]
            by_cases hvv : v.ownBlock = none
            · exact .inl hvv
            · exact .inr hvv
          · rw [h1]
            exact own_ne ho hh (by decide))
        refine ⟨vs ++ [i], ps ++ [⟨⟨m.1.toNat, by omega⟩, m.2.1, va, m.2.2.length, vc⟩], by simp; omega, ?_, ?_, ?_, ?_, ?_, ?_, ?_⟩
        · exact hrg4.grown hgr (fun e => by have := own_lt hown4 r e.symm; have := hmap.lt; omega) (fun e => by have := own_lt hown4 w.heap.size e.symm; omega)
        · rw [List.nodup_append]
          exact ⟨hnd, by simp, fun a ha b hb => by simp at hb; subst hb; rintro rfl; exact hiv ha⟩
        · intro a ha
          rcases List.mem_append.1 ha with ha | ha
          · exact hlt a ha
          · simp at ha
            subst ha
            exact hil
        · rw [List.map_append, List.map_append, hpm]
          congr 1
          simp [List.getD, hik, hkm, hx]
        · have e : (ps ++ [(⟨⟨m.1.toNat, by omega⟩, m.2.1, va, m.2.2.length, vc⟩ : PM)]).flatMap encPM = ps.flatMap encPM ++ [.int .i64 m.1, .int .i64 m.2.1, .slice va m.2.2.length vc] := by
            simp [encPM, hx]
          rw [e]
          simpa using hown7
        · intro x hxm
          rcases List.mem_append.1 hxm with hxm | hxm
          · exact (hok4 x hxm).kept hint
          · simp at hxm
            subst hxm
            refine ⟨?_, ?_, ?_, ?_⟩
            · show (lookMark ms ((m.1.toNat : Nat) : Int)).1 = _
              rw [hx, hlk]
            · show (lookMark ms ((m.1.toNat : Nat) : Int)).2.1 = _
              rw [hx, hlk]
            · show m.2.2.length = (partsOf ms ((m.1.toNat : Nat) : Int)).length
              rw [hx, ← lookMark_parts, hlk]
            · have := hint _ _ _ hv4
              show W7.ownsRow _ _ _ (.slice va m.2.2.length vc) m.2.2.length ((partsOf ms ((m.1.toNat : Nat) : Int)).map (Value.int .i64))
              rw [hx, ← lookMark_parts, hlk]
              exact this
        · exact hB4.grown hgr hB4.size (fun b hb => by have := own_lt hown4 b hb; omega)
end Go.Proofs.YtgmafjaphnponaaGreatDoor
