/- What every one of the four claims needs beside its walk: the table of powers of ten is laid; the arguments read as they did; a world in which all of it is met. No condition. -/
import Derived.Test.YtchnnplcpidkiaaDoorCards
import Derived.Test.YtchnnplcpidkiaaDoorTie
import Derived.Test.YtchnnplcpidkiaaDoorO1
import Derived.Test.YtchnnplcpidkiaaDoorC13
import Derived.WalkKit
import Derived.ProofKit
import Derived.OpenShut
import Derived.Deep.DeepHandedRow
import Derived.Lib.LaidTab
namespace Go.Proofs.YtchnnplcpidkiaaDoor
open Go.ChangeShapes Go.WideShapes Go.ChangeAt Go.RowKit
set_option linter.unusedSimpArgs false
set_option linter.unusedVariables false
set_option maxRecDepth 100000

theorem ownOff : ownKnob Tryd.prog.godebug = none := by kernel_rfl
theorem gPow : Tryd.prog.globalNamed "internal/strconv.uint64pow10" = some 0 := by kernel_rfl
theorem gPowType : (Tryd.prog.globals[0]?).map (·.type) = some 162 := by kernel_rfl
theorem cells162 : Tryd.prog.cellsOf 162 = 20 := by kernel_rfl
theorem cells153 : Tryd.prog.cellsOf 153 = 1 := by kernel_rfl
theorem laidOut : laidOutB Tryd.prog = true := by kernel_rfl
theorem rowed : mapsRowed Tryd.prog = true := by kernel_rfl
theorem slicesFull : ((List.range Tryd.prog.types.size).all fun t => match Tryd.prog.underlying t with | some (.slice e) => decide (0 < Tryd.prog.cellsOf e) | _ => true) = true := by kernel_rfl
/-- The table of powers of ten is what the row lists. -/
theorem tab_of_laid {W : World} (h : laidMetH Tryd.prog Rows.stateAppliesRow.laid W) : Tab (fun _ => True) W := by
  have h' : laidMet Tryd.prog Rows.stateAppliesRow.laid W := h
  obtain ⟨ps, ⟨_, _, _, _, _, _, _, _, _, _, ⟨_, _, _, _, _, _, _, _, _, _, ⟨g', t', cs, fuel, p, q, hg', ht', hvar, hd, _, _⟩, _⟩, _⟩, _⟩ := h'
  refine ⟨0, gPow, trivial, ?_⟩
  obtain rfl := Option.some.inj (gPow.symm.trans hg')
  obtain rfl := Option.some.inj (gPowType.symm.trans ht')
  unfold Lib.TabIs
  rw [hvar, ← Lib.cells_of_tab (zs := Lib.pow10Tab) Tryd.underlying162 Tryd.underlying153 cells153 cells162 hd]
section
variable {H : Type} {enc : TypeId × Value → H}
/-- The arguments read as they did, wherever no old memory has turned. -/
theorem trodAll_stays {W W' : World} (hb : Below W.heap.size W W') {sp : Nat → Bool} : ∀ {ts : List TypeId} {vs : List Value} {ds : List (DataW H)} {ps : List MemPlace}, (∀ t ∈ ts, t < Tryd.prog.types.size) →
    DataW.TrodAll enc Tryd.prog W 0 (fun _ => true) true ts vs ds ps → (∀ p ∈ ps, sp p.block = true) → DataW.TrodAll enc Tryd.prog W' 0 sp true ts vs ds ps
  | [], [], [], _, _, h, _ => h
  | _ :: _, _ :: _, _ :: _, _, hT, ⟨p, q, ⟨n, h1⟩, h2, e⟩, hs => by
    refine ⟨p, q, ⟨n, DataW.trod_stays (kids_rows laidOut rowed) (fun {t e} ht he => slices_full_of _ slicesFull t e ht he) (fun h => by cases h) (hT _ (List.mem_cons.2 (.inl rfl))) h1 (fun x hx => ?_) (fun x hx => hs x (by rw [e]; exact List.mem_append_left _ hx))⟩,
      trodAll_stays hb (fun t ht => hT t (List.mem_cons.2 (.inr ht))) h2 (fun x hx => hs x (by rw [e]; exact List.mem_append_right _ hx)), e⟩
    exact hb.same (DataW.trod_lt n _ _ _ h1 x hx)
/-- What a law that answers true and turns nothing leaves is what its row asks. -/
theorem post_true {f : Func} {s : ChangeSpec} {W W' : World} {args : Array Value} {ds gs : List (DataW H)} {before : List MemPlace} (hf : f.resultTypes = #[4]) (hvars : s.vars = [])
    (hts : ∀ t ∈ f.params.toList, t < Tryd.prog.types.size) (hW : DataW.Whole enc Tryd.prog f.params.toList s.vars false W args.toList ds gs before)
    (hfn : s.fn H (ds ++ gs) = { results := [.lit (.bool true)], args := ds }) (hb : Below W.heap.size W W') : s.post enc Tryd.prog f false true false false W args (.bool true) W' := by
  have hW0 := hW
  obtain ⟨p, q, hA, hV, rfl, _, _⟩ := hW0
  rw [hvars] at hV
  obtain ⟨rfl, rfl⟩ := trodVars_none hV
  have hres : ∀ (b : Nat) (sp : Nat → Bool) (hd : Bool), DataW.TrodAll enc Tryd.prog W' b sp hd f.resultTypes.toList ((Value.bool true).resultList f.resultTypes.size) (s.fn H (ds ++ [])).results [] := fun b sp hd => by
    rw [hfn, hf]
    exact trodAll_cons_mk (shut_bool Tryd.underlying4 _) trodAll_mk0
  have hargs : ∀ sp : Nat → Bool, (∀ x ∈ p ++ [], sp x.block = true) → DataW.TrodAll enc Tryd.prog W' 0 sp true f.params.toList args.toList (s.fn H (ds ++ [])).args p := fun sp hs => by
    rw [hfn]
    exact trodAll_stays hb hts hA (fun x hx => hs x (List.mem_append_left _ hx))
  have hvar : ∀ sp : Nat → Bool, DataW.TrodVars enc Tryd.prog W' sp s.vars (s.fn H (ds ++ [])).vars [] := fun sp => by
    rw [hfn, hvars]; exact rfl
  have hold : ∀ x ∈ p ++ [], (fun b => decide (b < W.heap.size)) x.block = true := fun x hx => by simpa using hW.lt x hx
  refine ⟨ds, [], p ++ [], [], p, [], hW, hres _ _ _, hargs _ hold, hvar _, World.keptBut_mono (fun x hx => ⟨hx, .inr (by simpa using hx)⟩) (hb.frame _), fun _ => ?_⟩
  have hlt := hW.lt
  obtain ⟨_, _, _, _, _, hz, hn⟩ := hW
  refine ⟨ok_one hf rfl (okWide_bool_mk Tryd.underlying4 _), _, _, ([] ++ p) ++ [], ⟨[] ++ p, [], trodAll_append (hargs _ (fun _ _ => rfl)) (hres _ _ _), hvar _, rfl, ?_, ?_⟩, ?_⟩
  · intro b off hp
    rw [hb.frozen (hlt (.cell b off) (by simpa using hp))]
    exact hz b off (by simpa using hp)
  · intro ha
    simpa using hn ha
  · intro x hx _
    simpa using hx
/-- A reading of one argument. -/
theorem tr_arg {W : World} {ts : List TypeId} {vs : List Value} {ds : List (DataW H)} {ps : List MemPlace} (h : DataW.TrodAll enc Tryd.prog W 0 (fun _ => true) true ts vs ds ps) (hz : (DataW.weightsEach Tryd.prog ts ds).all (· ≤ reachBytes) = true) {t : TypeId} {ts' : List TypeId} (ht : ts = t :: ts') :
    ∃ v vs' d ds' ps', vs = v :: vs' ∧ ds = d :: ds' ∧ (∃ n x, TR enc W n t v.cells.toList x) ∧ DataW.TrodAll enc Tryd.prog W 0 (fun _ => true) true ts' vs' ds' ps' ∧ (DataW.weightsEach Tryd.prog ts' ds').all (· ≤ reachBytes) = true := by
  subst ht
  obtain ⟨v, vs', d, ds', p, q, rfl, rfl, rfl, ⟨n, h0⟩, h1⟩ := trodAll_cons h
  simp only [DataW.weightsEach, List.all_append, Bool.and_eq_true] at hz
  refine ⟨v, vs', d, ds', q, rfl, rfl, ⟨n, (d, p), h0, fun m hm => by simpa using List.all_eq_true.1 hz.1 m hm⟩, h1, hz.2⟩
end
/-- The value of an argument of a struct's type. -/
theorem val_state {W : World} {base : Nat} {v : Value} (h : Value.okWide Tryd.prog W .any base 28 v) : ∃ cs : List Value, v = .agg cs.toArray ∧ v.cells.toList = cs := by
  unfold Value.okWide at h
  rw [Tryd.underlying28] at h
  obtain ⟨cs, rfl, _⟩ := h
  exact ⟨cs.toList, by simp, by simp [Value.cells]⟩
theorem val_slice {W : World} {base t e : Nat} {v : Value} (ht : Tryd.prog.underlying t = some (.slice e)) (h : Value.okWide Tryd.prog W .any base t v) : v.cells.toList = [v] := by
  unfold Value.okWide at h
  rw [ht] at h
  simp only [Cell.okWide, Cell.ok, ht] at h
  cases v <;> simp_all [Value.cells]
/-- A WORLD FOR THE WITNESS: the settled one, the tables holding what their initialisers lay. -/
noncomputable def laidWorld (os : Os) : World :=
  { World.holding Tryd.prog os ⟨#[], #[], []⟩ with heap := ((((World.holding Tryd.prog os ⟨#[], #[], []⟩).heap.modify 0 (fun
      | .cells _ t frozen => .cells (Lib.pow10Tab.map fun z => Value.int .u64 z).toArray t frozen
      | o => o)).modify 1 (fun
      | .cells _ t frozen => .cells #[.int .u8 0, .int .u8 1, .int .u8 28, .int .u8 2, .int .u8 29, .int .u8 14, .int .u8 24, .int .u8 3, .int .u8 30, .int .u8 22, .int .u8 20, .int .u8 15, .int .u8 25, .int .u8 17, .int .u8 4, .int .u8 8, .int .u8 31, .int .u8 27, .int .u8 13, .int .u8 23, .int .u8 21, .int .u8 19, .int .u8 16, .int .u8 7, .int .u8 26, .int .u8 12, .int .u8 18, .int .u8 6, .int .u8 11, .int .u8 5, .int .u8 10, .int .u8 9] t frozen
      | o => o)).modify 2 (fun
      | .cells _ t frozen => .cells #[.int .u8 0, .int .u8 1, .int .u8 56, .int .u8 2, .int .u8 57, .int .u8 49, .int .u8 28, .int .u8 3, .int .u8 61, .int .u8 58, .int .u8 42, .int .u8 50, .int .u8 38, .int .u8 29, .int .u8 17, .int .u8 4, .int .u8 62, .int .u8 47, .int .u8 59, .int .u8 36, .int .u8 45, .int .u8 43, .int .u8 51, .int .u8 22, .int .u8 53, .int .u8 39, .int .u8 33, .int .u8 30, .int .u8 24, .int .u8 18, .int .u8 12, .int .u8 5, .int .u8 63, .int .u8 55, .int .u8 48, .int .u8 27, .int .u8 60, .int .u8 41, .int .u8 37, .int .u8 16, .int .u8 46, .int .u8 35, .int .u8 44, .int .u8 21, .int .u8 52, .int .u8 32, .int .u8 23, .int .u8 11, .int .u8 54, .int .u8 26, .int .u8 40, .int .u8 15, .int .u8 34, .int .u8 20, .int .u8 31, .int .u8 10, .int .u8 25, .int .u8 14, .int .u8 19, .int .u8 9, .int .u8 13, .int .u8 8, .int .u8 7, .int .u8 6] t frozen
      | o => o)) }
end Go.Proofs.YtchnnplcpidkiaaDoor
