/- (*ucd.Data).leads: whether a point leads to itself, for all data. -/
import Derived.Test.YtgmafjaphnponaaGreatDoorData
import Derived.Deep.LoopGhost
import Derived.WalkSmall
namespace Go.Proofs.YtgmafjaphnponaaGreatDoor
open Go.RowKit Dov

def MetIs (es : List (Int × Value)) (met : List Int) : Prop := ∀ k, lookI es k = if met.contains k then some (.bool true) else none
theorem MetIs.put {es : List (Int × Value)} {met : List Int} (h : MetIs es met) (q : Int) (hq : met.contains q = false) : MetIs (putI es q (.bool true)) (q :: met) := by
  have hn : lookI es q = none := by rw [h q, hq]; rfl
  have hany : es.any (fun p => p.1 == q) = false := by
    rw [List.any_eq_false]
    intro x hx hxq
    unfold lookI at hn
    rw [Option.map_eq_none_iff, List.find?_eq_none] at hn
    exact hn x hx hxq
  intro k
  simp only [putI, hany, Bool.false_eq_true, if_false]
  have hl : lookI (es ++ [(q, .bool true)]) k = match lookI es k with | some v => some v | none => if q = k then some (.bool true) else none := by
    unfold lookI
    rw [List.find?_append]
    cases hf : es.find? (fun p => p.1 == k) with
    | some x => simp
    | none =>
      by_cases hqk : q = k
      · subst hqk; simp
      · have : (q == k) = false := by simpa using hqk
        simp [this, hqk]
  rw [hl, h k]
  have hcq : (q :: met).contains k = (k == q || met.contains k) := rfl
  rw [hcq]
  by_cases hk : met.contains k = true
  · rw [hk]
    simp
  · have hk' : met.contains k = false := by simpa using hk
    rw [hk']
    by_cases hqk : q = k
    · subst hqk; simp
    · have : (k == q) = false := by simpa using fun e => hqk e.symm
      rw [this]
      simp [hqk]

theorem field_parts (a b c : Value) (W : World) : (Instr.field 60 (.agg #[a, b, c]) 2).run Tryz.prog W = .ok c W := by kernel_rfl

theorem zero_bool (w : World) : (zeroValue 4).run Tryz.prog w = .ok (.bool false) w := by kernel_rfl

theorem slice_pop (g n cap : Nat) (hn : n ≤ cap) (W : World) :
    (Instr.slice 43 (.slice (some ⟨g, 0, none⟩) (n + 1) cap) none (some (.int .i64 (n : Int))) none).run Tryz.prog W = .ok (.slice (some ⟨g, 0, none⟩) n cap) W := by
  have hs : ∀ W, (sizeOf (Tryz.prog.elem 43)).run Tryz.prog W = .ok 1 W := fun _ => by kernel_rfl
  rw [run_slice_h W 43 _ _ _ (by kernel_rfl) .i64 (n : Int) (by omega) (by omega), hs]
  simp only [Result.andThen, sliced]
  have h2 : (⟨g, 0, none⟩ : Addr).add (0 * 1) = ⟨g, 0, none⟩ := rfl
  simp [h2]

set_option maxRecDepth 100000 in
set_option maxHeartbeats 4000000 in
theorem leads_any (d : Value) (ms : List MarkD) (B : Nat) (p : Int) (w : World) (hd : DataAt w B d ms) (hbig : (partsOf ms p).length + unmet [] ms ≤ 1099511627776) :
    Calls Tryz.prog 37 #[d, .int .i64 p] w fun e w' => e = .returned (.bool (leadsL ms p)) ∧ Below w.heap.size w w' := by
  obtain ⟨db, r, rfl, hdb, hms⟩ := hd
  have hB1 : Below w.heap.size w (w.alloc (.map #[] 0)) := (Below.refl _ _).alloc (Nat.le_refl _) _
  have hms1 := hms.below hB1
  have hcd : w.cell? ⟨db, 0, none⟩ = some (.map (some r)) := blk_cell hdb 0
  have hdl : db < w.heap.size := blk_lt hdb
  obtain ⟨pv, hrun, hown⟩ := hms1.lookup p
  have hr0 := hrun false
  simp only [Bool.false_eq_true, if_false] at hr0
  have HC := Lib.hid (clone_any hown (by omega))
  have hmm := @run_makeMap Tryz.prog
  have hfl := field_parts
  have HDB := Lib.hid hdb
  have HMS := Lib.hid hms
  have HB1 := Lib.hid hB1
  have HM1 := Lib.hid (MapI.new w)
  have HBIG := Lib.hid hbig
  clear hdb hms hB1 hms1 hrun hown hbig
  go_enter Tryz.func37, Tryz.ntmps37
  go_wp2_with fail
  refine (HC.out).mono ?_
  rintro e w2 ⟨v', rfl, hown2, hb2⟩
  have hM2 := HM1.out.below hb2 (by simp)
  have hB2 : Below w.heap.size w w2 := HB1.out.trans (hb2.mono (by simp))
  have hown2' : w2.ownsRow (w.heap.size + 1) 3 1 v' (partsOf ms p).length ((partsOf ms p).map (Value.int .i64)) := by simpa using hown2
  have HF := Lib.hid (And.intro hM2 (And.intro hB2 hown2'))
  clear hM2 hB2 hown2 hown2' hb2 HC HB1 HM1 hr0 hmm
  go_wp2
  go_loopg [6] ((partsOf ms p).length + unmet [] ms + 1) (fun f v6 wr => ∃ (left met : List Int) (es : List (Int × Value)), Hid (leadsF ms p f left met = leadsL ms p ∧ left.length + unmet met ms < f ∧ f ≤ (partsOf ms p).length + unmet [] ms + 1 ∧
      wr.ownsRow (w.heap.size + 1) 3 1 v6 left.length (left.map (Value.int .i64)) ∧ MapI wr w.heap.size es ∧ MetIs es met ∧ Below w.heap.size w wr))
  case atStart =>
    obtain ⟨h1, h2, h3⟩ := HF.out
    exact ⟨partsOf ms p, [], [], rfl, by omega, Nat.le_refl _, h3, h1, fun k => rfl, h2⟩
  case round =>
    obtain ⟨left, met, es, hh⟩ := hrel
    obtain ⟨hr, hf, hfm, hown, hmap, hmet, hB⟩ := hh.out
    clear hh
    obtain ⟨f, rfl⟩ : ∃ f, gk = f + 1 := ⟨gk - 1, by omega⟩
    rw [leadsF] at hr
    rcases List.eq_nil_or_concat left with rfl | ⟨l, q, hlq⟩
    · have hv : ∃ a c, u6 = .slice a 0 c := by
        rcases hown.2 with ⟨h, _⟩ | ⟨g, cap, cur, h, _⟩
        · exact ⟨_, _, h⟩
        · exact ⟨_, _, h⟩
      obtain ⟨a, c, rfl⟩ := hv
      have hres : leadsL ms p = false := by rw [← hr]; rfl
      have HRES := Lib.hid hres
      have HB := Lib.hid hB
      clear hr hf hfm hown hmap hmet hB hres
      go_wp2
      go_ret
      exact ⟨by rw [HRES.out]; rfl, HB.out⟩
    · have hlq' : left = l ++ [q] := by rw [hlq]; simp
      subst hlq'
      simp only [List.getLast?_append, List.getLast?_singleton, Option.some_or, List.dropLast_concat] at hr
      have hll : (l ++ [q]).length = l.length + 1 := by simp
      rw [hll] at hown hf
      obtain ⟨g, cap, rfl, hgb, hgl⟩ := hown.form (by omega)
      have hc : wr.cell? ⟨g, l.length, none⟩ = some (.int .i64 q) := by
        have h1 := hown.cells (g := g) rfl l.length (.int .i64 q) (by simp)
        have h2 : (⟨g, 0, none⟩ : Addr).add l.length = ⟨g, l.length, none⟩ := by unfold Addr.add; split <;> simp_all
        rwa [h2] at h1
      have hbl : l.length ≤ 1099511627777 := by have := HBIG.out; omega
      have hpop : wr.ownsRow (w.heap.size + 1) 3 1 (.slice (some ⟨g, 0, none⟩) l.length cap) l.length (l.map (Value.int .i64)) := ownsRow_pop (last := [.int .i64 q]) (by simp) (by simpa using hown)
      have hcap : l.length ≤ cap := by
        rcases hown.2 with ⟨h, _⟩ | ⟨g', cap', cur, h, _, _, h1, h2, h3, _⟩
        · cases h
        · cases h; omega
      have hsl := slice_pop g l.length cap hcap
      have hlk0 := run_lookup_int (P := Tryz.prog) (w := wr) Tryz.underlying118 Tryz.underlying3 hmap q false _ (zero_bool wr)
      rw [hmet q] at hlk0
      by_cases hqp : q = p
      · have hres : leadsL ms p = true := by rw [← hr, if_pos hqp]
        have HRES := Lib.hid hres
        have HB := Lib.hid hB
        clear hr hf hfm hown hmap hmet hB hres hpop hlk0 hgb hgl hll hsl
        have hqb : (q == p) = true := by simpa using hqp
        clear hqp
        go_wp2
        go_ret
        exact ⟨by rw [HRES.out]; rfl, HB.out⟩
      · have hqb : (q == p) = false := by simpa using hqp
        rw [if_neg hqp] at hr
        clear hqp hown
        by_cases hqm : met.contains q = true
        · rw [if_pos hqm] at hr
          rw [hqm] at hlk0
          simp at hlk0
          have HH := Lib.hid (And.intro hr (And.intro hpop (And.intro hmap (And.intro hmet hB))))
          clear hr hpop hmap hmet hB hgb hgl hll
          go_wp2
          go_roundg f
          case measure => omega
          case rel =>
            obtain ⟨h1, h2, h3, h4, h5⟩ := HH.out
            exact ⟨l, met, es, h1, by omega, by omega, h2, h3, h4, h5⟩
        · have hqm' : met.contains q = false := by simpa using hqm
          rw [if_neg hqm] at hr
          rw [hqm'] at hlk0
          simp at hlk0
          obtain ⟨ents, hmu, hmap3⟩ := run_mapUpdate_int (P := Tryz.prog) Tryz.underlying118 Tryz.underlying3 hmap q (.bool true)
          obtain ⟨ents0, hmb, _⟩ := hmap
          have hg3 : wr.grownBy (mapWorld wr w.heap.size ents) (some w.heap.size) := ⟨rfl, rfl, rfl, by simp [mapWorld], fun k _ hk => by
            simp only [mapWorld]
            rw [Array.getElem?_setIfInBounds_ne (fun e => hk (by rw [e]))]⟩
          generalize mapWorld wr w.heap.size ents = w3 at hmu hmap3 hg3
          have hpop3 := own_kept hpop hg3 (own_ne_map hpop hmb)
          have hB3 : Below w.heap.size w w3 := hB.grown hg3 hB.size (fun k hk => by cases hk; omega)
          have hdb3 := blk_later hB3 HDB.out
          have hms3 := HMS.out.below hB3
          obtain ⟨pv2, hrun2, hown2⟩ := hms3.lookup q
          have hr2 := hrun2 false
          simp only [Bool.false_eq_true, if_false] at hr2
          have hcd3 : w3.cell? ⟨db, 0, none⟩ = some (.map (some r)) := blk_cell hdb3 0
          have hu := unmet_step q met ms hqm'
          have hmet3 := hmet.put q hqm'
          have hsz3 : w.heap.size + 1 ≤ w3.heap.size := by have := hmap3.lt; omega
          have hplen : (l ++ partsOf ms q).length = l.length + (partsOf ms q).length := by simp
          have hbig2 := HBIG.out
          have hnum : (l.length + (partsOf ms q).length) * 8 ≤ 140737488355328 := by omega
          rcases hown2.2 with ⟨rfl, hx⟩ | ⟨g2, cap2, cur2, rfl, _⟩
          · have hpq : partsOf ms q = [] := by simpa using hx
            rw [hpq, List.append_nil] at hr
            obtain ⟨i0, hi, _, _, _⟩ := info_parts info_int
            have happ := run_append_nil (P := Tryz.prog) w3 (t := 43) (ty := 43) Tryz.underlying43 hi (some ⟨g, 0, none⟩) l.length cap hcap
            have HH := Lib.hid (And.intro hr (And.intro hpop3 (And.intro hmap3 (And.intro hmet3 (And.intro hB3 (And.intro hu (And.intro hf hfm)))))))
            clear hr hpop hpop3 hmap3 hmet hmet3 hB hB3 hgb hgl hll hrun2 hown2 hms3 hdb3 hg3 hmb hu hf hfm hbig2 hnum hplen hpq hx hi hqm hqm'
            go_wp2
            go_roundg f
            case measure => omega
            case rel =>
              obtain ⟨h1, h2, h3, h4, h5, h6, h7, h8⟩ := HH.out
              exact ⟨l, q :: met, _, h1, by omega, by omega, h2, h3, h4, h5⟩
          · obtain ⟨i0, hi, hz0, hz1, hz2⟩ := info_parts info_int
            have hcells : ∀ (j : Nat) u, ((partsOf ms q).map (Value.int .i64))[j]? = some u → w3.cell? ((⟨g2, 0, none⟩ : Addr).add j) = some u := fun j u hu => hown2.cells (g := g2) rfl j u hu
            have HCE := Lib.hid hcells
            have HPO := Lib.hid hpop3
            have HH := Lib.hid (And.intro hr (And.intro hmap3 (And.intro hmet3 (And.intro hB3 (And.intro hu (And.intro hf hfm))))))
            have hown2m : Hid (some w.heap.size ≠ (Value.slice (some ⟨g, 0, none⟩) l.length cap).ownBlock) := by
              obtain ⟨e3, h3, _⟩ := hmap3
              rcases own_ne_map hpop3 h3 with h | h
              · simp [Value.ownBlock] at h
              · exact fun e => h e.symm
            clear hr hpop hpop3 hmap3 hmet hmet3 hB hB3 hgb hgl hll hrun2 hown2 hms3 hdb3 hg3 hmb hu hf hfm hbig2 hcells hqm hqm' hplen
            go_wp2_with (at_builtin; refine wpList_append_own_at _ rfl _ _ 43 rfl (w.heap.size + 1) 3 i0 (.int .i64 0) 1 8 Tryz.underlying43 hi hz0 hz1 hz2 rfl (by decide) (.slice (some ⟨g, 0, none⟩) l.length cap) l.length (l.map (Value.int .i64)) rfl HPO.out ⟨g2, 0, none⟩ (partsOf ms q).length cap2 ((partsOf ms q).map (Value.int .i64)) rfl (by simp) HCE.out (by intro u hu; obtain ⟨x, _, rfl⟩ := List.mem_map.1 hu; rfl) (by unfold maxLen; omega) hnum hsz3 ?_; intro v4 w4 hown4 hg4 _ hat4)
            go_roundg f
            case measure => omega
            case rel =>
              obtain ⟨h1, h2, h3, h4, h5, h6, h7⟩ := HH.out
              refine ⟨l ++ partsOf ms q, q :: met, _, h1, by simp; omega, by omega, by simpa using hown4, h2.grown hg4 hown2m.out, h3, ?_⟩
              exact h4.grown hg4 h4.size (fun k hk => by have := (own_lt HPO.out k hk).1; omega)
end Go.Proofs.YtgmafjaphnponaaGreatDoor
