/- Plain laws of good configurations: the program's search finds what the reference's does. -/
import Derived.Test.YtchnnplcpidkiaaDoorC11
namespace Go.Proofs.YtchnnplcpidkiaaDoor
open Go.RowKit
set_option linter.unusedSimpArgs false
set_option linter.unusedVariables false

def idC (id : Int) (m : LMember) : Int := IntKind.i64.wrap (m.id - id)
structure GoodM (ms : List LMember) : Prop where
  rng : ∀ m ∈ ms, 1 ≤ m.id ∧ m.id ≤ 63
  asc : ms.Pairwise (fun a b => a.id < b.id)
theorem goodM_of {ep : Int} {ms : List LMember} (h : cfgGood ep ms = true) : GoodM ms := by
  simp only [cfgGood, Bool.and_eq_true, List.all_eq_true, List.mem_range] at h
  have hok : ∀ i (hi : i < ms.length), okAt ms i = true := h.2
  have hr : ∀ i (hi : i < ms.length), rightB ms[i] = true := fun i hi => by
    have := hok i hi
    simp only [okAt, List.getElem?_eq_getElem hi, Bool.and_eq_true] at this
    exact this.1
  refine ⟨fun m hm => ?_, pairwise_of_step (fun a b c h1 h2 => by omega) fun i a b ha hb => ?_⟩
  · obtain ⟨i, hi, rfl⟩ := List.getElem_of_mem hm
    have := hr i hi
    simp [rightB] at this
    omega
  · obtain ⟨hi, rfl⟩ := List.getElem?_eq_some_iff.1 ha
    obtain ⟨hj, rfl⟩ := List.getElem?_eq_some_iff.1 hb
    have := hok (i + 1) hj
    simp [okAt, hj, hi] at this
    exact this.2
theorem idC_in {id : Int} {m : LMember} (h : 1 ≤ id ∧ id ≤ 63) (hm : 1 ≤ m.id ∧ m.id ≤ 63) : idC id m = m.id - id := wrap_in (by omega) (by omega)
theorem idC_ord {ms : List LMember} {id : Int} (h : GoodM ms) (hid : 1 ≤ id ∧ id ≤ 63) : Ord3 (idC id) ms :=
  h.asc.imp_of_mem fun {a b} ha hb hab hc => by
    rw [idC_in hid (h.rng _ hb)] at hc
    rw [idC_in hid (h.rng _ ha)]
    omega
theorem wrap0 {a b : Int} (ha : I64 a) (hb : I64 b) (h : IntKind.i64.wrap (a - b) = 0) : a = b := by
  unfold IntKind.wrap at h
  simp [IntKind.bits, IntKind.signed] at h
  unfold I64 at ha hb
  omega
theorem find_has {ms : List LMember} {id : Int} (h : GoodM ms) (hwf : ∀ m ∈ ms, m.wf) (hid : I64 id) : findB ms id = hasM ms id := by
  cases hh : hasM ms id with
  | true =>
    simp only [hasM, List.any_eq_true, decide_eq_true_eq] at hh
    obtain ⟨m, hm, rfl⟩ := hh
    exact (bsB_iff (idC_ord h (h.rng m hm))).2 ⟨m, hm, by rw [idC_in (h.rng m hm) (h.rng m hm)]; omega⟩
  | false =>
    cases hb : findB ms id with
    | false => rfl
    | true =>
      simp only [findB, bsB, Bool.and_eq_true, decide_eq_true_eq] at hb
      rw [at0_lt hb.1] at hb
      have hm := List.getElem_mem hb.1
      have := wrap0 (hwf _ hm).id hid hb.2
      simp only [hasM, List.any_eq_false, decide_eq_true_eq] at hh
      exact absurd this (hh _ hm)
theorem find_lt {ms : List LMember} {id : Int} (h : findB ms id = true) : findI ms id < ms.length := by
  simp only [findB, bsB, Bool.and_eq_true, decide_eq_true_eq] at h
  exact h.1
theorem find_out {ms : List LMember} {id : Int} (h : GoodM ms) (hh : hasM ms id = true) : ms.filter (fun m => decide (m.id ≠ id)) = ms.take (findI ms id) ++ ms.drop (findI ms id + 1) := by
  simp only [hasM, List.any_eq_true, decide_eq_true_eq] at hh
  obtain ⟨m, hm, rfl⟩ := hh
  have ho := idC_ord h (h.rng m hm)
  refine bs_filter ho ((bsB_iff ho).2 ⟨m, hm, by rw [idC_in (h.rng m hm) (h.rng m hm)]; omega⟩) fun x hx => ?_
  rw [idC_in (h.rng m hm) (h.rng x hx), ← decide_not]
  congr 1
  exact propext ⟨fun h => by omega, fun h => by omega⟩
theorem find_with {ms : List LMember} {x : LMember} (h : GoodM ms) (hx : 1 ≤ x.id ∧ x.id ≤ 63) (hh : hasM ms x.id = false) : withM x ms = ms.take (findI ms x.id) ++ x :: ms.drop (findI ms x.id) := by
  have ho := idC_ord h hx
  refine bs_with0 ho x ?_ fun y hy => ?_
  · cases hb : bsB (idC x.id) ms with
    | false => rfl
    | true =>
      obtain ⟨m, hm, hc⟩ := (bsB_iff ho).1 hb
      rw [idC_in hx (h.rng m hm)] at hc
      simp only [hasM, List.any_eq_false, decide_eq_true_eq] at hh
      exact absurd (by omega) (hh m hm)
  · rw [idC_in hx (h.rng y hy)]
    congr 1
    exact propext ⟨fun h => by omega, fun h => by omega⟩
theorem GoodM.filter {ms : List LMember} {q : LMember → Bool} (h : GoodM ms) : GoodM (ms.filter q) := ⟨fun m hm => h.rng m (List.mem_filter.1 hm).1, h.asc.sublist List.filter_sublist⟩
theorem GoodM.out {ms : List LMember} {x : LChange} (h : GoodM ms) : GoodM (chgOut ms x) := by
  unfold chgOut
  split
  · exact h.filter
  · exact h
theorem has_filter {ms : List LMember} {q : LMember → Bool} {id : Int} (h : hasM ms id = false) : hasM (ms.filter q) id = false := by
  simp only [hasM, List.any_eq_false, decide_eq_true_eq] at h ⊢
  exact fun m hm => h m (List.mem_filter.1 hm).1
theorem chg_none {ms : List LMember} {x : LChange} (h1 : 1 ≤ x.kind) (h4 : x.kind ≤ 4) (h2 : x.kind ≠ 2) (hb : chgBad4 ms x = false) : hasM (chgOut ms x) (chgM x).id = false := by
  by_cases h : x.kind = 1 ∨ x.kind = 3
  · have : hasM ms (chgM x).id = false := by
      unfold chgBad4 at hb
      rcases h with h | h <;> simp [h] at hb <;> exact hb
    unfold chgOut
    split
    · exact has_filter this
    · exact this
  · have h5 : x.kind = 4 := by omega
    have h6 : (chgM x).id = x.id := by simp [chgM, h5]
    rw [h6]
    unfold chgOut
    rw [if_pos (by omega)]
    simp only [hasM, List.any_eq_false, decide_eq_true_eq]
    intro m hm
    simpa using (List.mem_filter.1 hm).2
theorem chg_right {x : LChange} (h2 : x.kind ≠ 2) (hb : chgBad2 x = false) : 1 ≤ (chgM x).id ∧ (chgM x).id ≤ 63 := by
  have : rightB (chgM x) = true := by simpa [chgBad2, h2] using hb
  simp [rightB] at this
  omega
end Go.Proofs.YtchnnplcpidkiaaDoor
