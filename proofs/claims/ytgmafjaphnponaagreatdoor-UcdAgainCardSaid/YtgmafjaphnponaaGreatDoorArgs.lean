/- An argument []api.Mark, opened: the marks lie in memory; how many and how long. -/
import Derived.Test.YtgmafjaphnponaaGreatDoorRow
import Derived.Test.YtgmafjaphnponaaGreatDoorIn
import Derived.Deep.Slices
namespace Go.Proofs.YtgmafjaphnponaaGreatDoor
open Go.RowKit Go.WideShapes Go.ChangeShapes Go.Deep Dov

theorem Tryz.cellsMark : Tryz.prog.cellsOf 60 = 3 := by kernel_rfl
theorem Tryz.bytesMark : Tryz.prog.bytesOf 60 = 40 := by kernel_rfl
theorem Tryz.cellsInt : Tryz.prog.cellsOf 3 = 1 := by kernel_rfl
theorem Tryz.bytesInt : Tryz.prog.bytesOf 3 = 8 := by kernel_rfl
theorem Tryz.cellsInts : Tryz.prog.cellsOf 43 = 1 := by kernel_rfl

/-- A []int, read: its numbers lie in memory. -/
theorem open_intsIn {H : Type} {enc : TypeId × Value → H} {W : World} {sp : Nat → Bool} {fuel : Nat} {cs : List Value} {x : DataW H × List MemPlace}
    (h : DataW.trod enc Tryz.prog W 0 sp true fuel 43 cs = some x) :
    ∃ (a : Option Addr) (cap : Nat) (xs : List Int), cs = [.slice a xs.length cap] ∧ xs.length ≤ cap ∧ IntsIn W a xs ∧ (∀ z ∈ xs, (Lit.int .i64 z).wf = true) ∧ ((xs.length = 0) ∨ ∃ E S, x.1 = .slice E S ∧ E.length = xs.length) := by
  rcases open_ints Tryz.underlying43 Tryz.underlying3 Tryz.cellsInt h with ⟨rfl, rfl⟩ | ⟨a, len, cap, zs, rfl, _, hl, _, hz, rfl, hc, hw⟩
  · exact ⟨none, 0, [], rfl, Nat.le_refl _, fun j x h => by simp at h, by simp, Or.inl rfl⟩
  · have hzl : len ≤ zs.length := by rw [hz]; split <;> omega
    have e : (zs.take len).length = len := by rw [List.length_take]; omega
    refine ⟨some a, cap, zs.take len, by rw [e], by omega, fun j x hx => ?_, fun z hz => hw z (List.mem_of_mem_take hz), Or.inr ⟨_, _, rfl, by simp [lits]⟩⟩
    have hj : j < len := by
      have := (List.getElem?_eq_some_iff.1 hx).1
      omega
    refine ⟨a, rfl, ?_⟩
    rw [hc j (by omega)]
    rw [List.getElem?_take_of_lt hj] at hx
    simp [List.getD, hx]

set_option maxRecDepth 100000 in
/-- A []api.Mark, read: its marks lie in memory. -/
theorem open_marks {H : Type} {enc : TypeId × Value → H} {W : World} {fuel : Nat} {cs : List Value} {x : DataW H × List MemPlace}
    (h : DataW.trod enc Tryz.prog W 0 (fun _ => true) true fuel 22 cs = some x) (hz : ((x.1).weights Tryz.prog 22).all (· ≤ reachBytes) = true) :
    ∃ (a : Option Addr) (cap : Nat) (ms : List MarkD), cs = [.slice a ms.length cap] ∧ MarksIn W a ms ∧ ms.length ≤ 140737488355328 ∧ ∀ m ∈ ms, m.2.2.length ≤ 140737488355328 := by
  rcases open_slice Tryz.underlying22 h with ⟨rfl, rfl⟩ | ⟨a, len, m0, cap, n, D, Pl, rfl, _, hl, hm, hmm, rfl, hx⟩
  · exact ⟨none, 0, [], rfl, fun i m h => by simp at h, by simp, by simp⟩
  · simp only [if_true] at hmm
    subst hmm
    have hreach : cap * 40 ≤ reachBytes := by
      have := List.all_eq_true.1 hz ((((List.range len).map D).length + ((List.range (cap - len)).map fun j => D (len + j)).length) * Tryz.prog.bytesOf 60) (by
        simp only [DataW.weights, Tryz.underlying22]
        exact List.mem_cons_self ..)
      simp only [List.length_map, List.length_range, Tryz.bytesMark, decide_eq_true_eq] at this
      have e : len + (cap - len) = cap := by omega
      rw [e] at this
      exact this
    have hrb : reachBytes < 140737488355328 := by decide
    obtain ⟨ms, hml, hms⟩ := list_of (Q := fun i (m : MarkD) => ∃ pa pc, W.cell? (a.add (i * 3)) = some (.int .i64 m.1) ∧ W.cell? ⟨(a.add (i * 3)).block, (a.add (i * 3)).off + 1, none⟩ = some (.int .i64 m.2.1) ∧
        W.cell? ⟨(a.add (i * 3)).block, (a.add (i * 3)).off + 2, none⟩ = some (.slice pa m.2.2.length pc) ∧ m.2.2.length ≤ pc ∧ IntsIn W pa m.2.2 ∧ m.2.2.length ≤ 140737488355328) len (fun i hi => by
      obtain ⟨cs', h1, h2⟩ := hx i (by omega)
      rw [Tryz.cellsMark] at h1
      obtain ⟨_, hlen, hcell⟩ := World.cells?_some h1
      obtain ⟨xs, k, hk, hxy, _, hxl, hf⟩ := DataW.trod_struct Tryz.underlying60 h2
      match xs, hxl, cs', hlen with
      | [y0, y1, y2], _, [v0, v1, v2], _ =>
        have g0 : DataW.trod enc Tryz.prog W 0 (fun _ => true) true k 3 (([v0, v1, v2].drop 0).take (Tryz.prog.cellsOf 3)) = some y0 := hf 0 _ rfl
        have g1 : DataW.trod enc Tryz.prog W 0 (fun _ => true) true k 3 (([v0, v1, v2].drop 1).take (Tryz.prog.cellsOf 3)) = some y1 := hf 1 _ rfl
        have g2 : DataW.trod enc Tryz.prog W 0 (fun _ => true) true k 43 (([v0, v1, v2].drop 2).take (Tryz.prog.cellsOf 43)) = some y2 := hf 2 _ rfl
        rw [Tryz.cellsInt] at g0 g1
        rw [Tryz.cellsInts] at g2
        obtain ⟨z0, e0, _, _⟩ := DataW.trod_int Tryz.underlying3 g0
        obtain ⟨z1, e1, _, _⟩ := DataW.trod_int Tryz.underlying3 g1
        obtain ⟨pa, pc, zs, e2, hpc, hin, _, hE⟩ := open_intsIn g2
        have e0' : v0 = .int .i64 z0 := by simpa using e0
        have e1' : v1 = .int .i64 z1 := by simpa using e1
        have e2' : v2 = .slice pa zs.length pc := by simpa using e2
        have c0 := hcell 0 (by omega)
        have c1 := hcell 1 (by omega)
        have c2 := hcell 2 (by omega)
        have hsp : (a.add (i * 3)).spot = none := World.cell?_spot (by simpa [Addr.add] using c0)
        have c0' : W.cell? (a.add (i * 3)) = some v0 := by simpa [Addr.add] using c0
        have c1' : W.cell? ⟨(a.add (i * 3)).block, (a.add (i * 3)).off + 1, none⟩ = some v1 := by
          have e : ((a.add (i * 3)).add 1) = ⟨(a.add (i * 3)).block, (a.add (i * 3)).off + 1, none⟩ := by
            generalize a.add (i * 3) = q at hsp
            obtain ⟨b, o, s⟩ := q
            simp only at hsp
            subst hsp
            rfl
          rw [← e]
          simpa using c1
        have c2' : W.cell? ⟨(a.add (i * 3)).block, (a.add (i * 3)).off + 2, none⟩ = some v2 := by
          have e : ((a.add (i * 3)).add 2) = ⟨(a.add (i * 3)).block, (a.add (i * 3)).off + 2, none⟩ := by
            generalize a.add (i * 3) = q at hsp
            obtain ⟨b, o, s⟩ := q
            simp only at hsp
            subst hsp
            rfl
          rw [← e]
          simpa using c2
        refine ⟨(z0, z1, zs), pa, pc, by rw [c0', e0'], by rw [c1', e1'], by rw [c2', e2'], hpc, hin, ?_⟩
        show zs.length ≤ _
        rcases hE with h0 | ⟨E, S, hES, hEl⟩
        · omega
        · have hD : D i = .agg [y0.1, y1.1, y2.1] := by
            have := (Prod.mk.inj hxy).1
            simpa using this
          have hw := List.all_eq_true.1 hz ((E.length + S.length) * Tryz.prog.bytesOf 3) (by
            simp only [DataW.weights, Tryz.underlying22]
            refine List.mem_cons_of_mem _ (List.mem_append_left _ ?_)
            refine weights_mem_all (d := D i) (List.mem_map.2 ⟨i, List.mem_range.2 hi, rfl⟩) _ ?_
            rw [hD, hES]
            simp [DataW.weights, DataW.weightsEach, Tryz.underlying60, Tryz.underlying43])
          rw [Tryz.bytesInt] at hw
          simp only [decide_eq_true_eq] at hw
          omega)
    refine ⟨some a, cap, ms, by rw [hml], fun i m hi => ?_, by omega, fun m hm => ?_⟩
    · obtain ⟨pa, pc, q1, q2, q3, q4, q5, _⟩ := hms i m hi
      exact ⟨a, pa, pc, rfl, q1, q2, q3, q4, q5⟩
    · obtain ⟨i, hi⟩ := List.mem_iff_getElem?.1 hm
      obtain ⟨pa, pc, _, _, _, _, _, q6⟩ := hms i m hi
      exact q6
end Go.Proofs.YtgmafjaphnponaaGreatDoor
