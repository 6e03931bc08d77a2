/- The law OrderChecks answers true at every state, log and list of events, and turns nothing; its condition: three tables of the library are as the program's text lays them. -/
import Derived.Test.YtchnnplcpidkiaaDoorX5
import Derived.Test.YtchnnplcpidkiaaDoorO2
namespace Go.Proofs.YtchnnplcpidkiaaDoor.orderChecks
open Go.ChangeShapes Go.WideShapes Go.ChangeAt Go.RowKit

theorem small28 : (28 : Nat) < Tryd.prog.types.size := of_decide_eq_true (by kernel_rfl)
theorem small57 : (57 : Nat) < Tryd.prog.types.size := of_decide_eq_true (by kernel_rfl)
theorem small29 : (29 : Nat) < Tryd.prog.types.size := of_decide_eq_true (by kernel_rfl)
set_option maxRecDepth 100000 in
theorem contract (H : Type) (enc : TypeId × Value → H) (W : World) (base : Nat) (args : Array Value) (ds gs : List (DataW H)) (before : List MemPlace)
    (hval : ∀ (j : Nat) t v, Tryd.f5.params[j]? = some t → args[j]? = some v → Value.okWide Tryd.prog W .any base t v)
    (hW : DataW.Whole enc Tryd.prog Tryd.f5.params.toList Rows.orderChecksSpec.vars false W args.toList ds gs before)
    (hz : (DataW.weightsEach Tryd.prog (Tryd.f5.params.toList ++ []) (ds ++ gs)).all (· ≤ reachBytes) = true) (hL : laidMetH Tryd.prog Rows.orderChecksRow.laid W) :
    Calls Tryd.prog 5 args W fun e W' => ∃ v, e = .returned v ∧ Rows.orderChecksSpec.post enc Tryd.prog Tryd.f5 false true false false W args v W' := by
  have hW0 := hW
  obtain ⟨p, q, hA, hV, rfl, _, _⟩ := hW0
  obtain ⟨rfl, rfl⟩ := trodVars_none hV
  rw [List.append_nil, List.append_nil] at hz
  rw [Tryd.params5] at hA hz hval
  obtain ⟨v0, vs0, d0, ds0, p0, hvs, rfl, ⟨n0, x0, h0⟩, hA, hz⟩ := tr_arg hA hz rfl
  obtain ⟨v1, vs1, d1, ds1, p1, rfl, rfl, ⟨n1, x1, h1⟩, hA, hz⟩ := tr_arg hA hz rfl
  obtain ⟨v2, vs2, d2, ds2, p2, rfl, rfl, ⟨n2, x2, h2⟩, hA, hz⟩ := tr_arg hA hz rfl
  obtain ⟨rfl, rfl, rfl⟩ := trodAll_nil hA
  obtain rfl : args = #[v0, v1, v2] := Array.ext' hvs
  obtain ⟨cs, rfl, hcs⟩ := val_state (hval 0 28 v0 rfl rfl)
  have hv1 := val_slice Tryd.underlying29 (hval 1 29 v1 rfl rfl)
  have hv2 := val_slice Tryd.underlying57 (hval 2 57 v2 rfl rfl)
  rw [hcs] at h0
  rw [hv1] at h1
  rw [hv2] at h2
  obtain ⟨s, hs, hswf⟩ := rd_state h0
  obtain ⟨A, cap, qs, hqe, hqs, hqw⟩ := rd_reqs h1
  obtain rfl : v1 = .slice A qs.length cap := by simpa using hqe
  obtain ⟨Ae, ce, es, hee, ⟨ws, hws, her, hev⟩, hew⟩ := rd_events h2
  subst hws
  rw [List.length_map] at her hee
  obtain rfl : v2 = .slice Ae ws.length ce := by simpa using hee
  refine (checks_any (fun _ => True) cs s A cap qs Ae ce ws W hs hswf hqs hqw her (fun x hx => ⟨hew _ (List.mem_map_of_mem hx), hev x hx⟩) (tab_of_laid hL)).2.mono fun e W' ⟨v, he, hb, hv⟩ => ?_
  subst hv
  exact ⟨_, he, post_true (by kernel_rfl) rfl (fun t ht => by
    rw [Tryd.params5] at ht
    simp only [List.mem_cons, List.not_mem_nil, or_false] at ht
    rcases ht with rfl | rfl | rfl
    · exact small28
    · exact small29
    · exact small57) hW rfl hb⟩

theorem laid_met (os : Os) : laidMet Tryd.prog Rows.orderChecksRow.laid ((laidWorld os).forCall (fun _ _ => 0) ⟨#[], #[.agg #[.slice none 0 0, .slice none 0 0, .int .i64 0, .slice none 0 0], .slice none 0 0, .slice none 0 0], []⟩).memory :=
  laidMet_of_run' 8 (by kernel_rfl) (by kernel_rfl)
theorem reads (os : Os) {H : Type} (enc : TypeId × Value → H) : ∃ places, DataW.whole enc Tryd.prog ((laidWorld os).forCall (fun _ _ => 0) ⟨#[], #[.agg #[.slice none 0 0, .slice none 0 0, .int .i64 0, .slice none 0 0], .slice none 0 0, .slice none 0 0], []⟩).memory Tryd.f5.params.toList Rows.orderChecksSpec.vars false #[Value.agg #[.slice none 0 0, .slice none 0 0, .int .i64 0, .slice none 0 0], .slice none 0 0, .slice none 0 0].toList 8 = some ([.agg [.nil, .nil, .agg [.lit (.int .i64 0), .nil]], .nil, .nil], [], places) :=
  ⟨[], by kernel_rfl⟩

set_option maxRecDepth 100000 in
theorem lifted (os : Os) (started : os.Started) (H : Type) (enc : TypeId × Value → H) (F : Stop.Interp) :
    ReturnsInHanded {} Tryd.checked os 5 .any ((OpenSpec.ofChange Rows.orderChecksSpec).preRow enc Tryd.prog Tryd.f5 Rows.orderChecksRow.domain false Rows.orderChecksRow.laid) (((OpenSpec.ofChange Rows.orderChecksSpec).at F).post enc Tryd.prog Tryd.f5 false true false false) := by
  obtain ⟨places, hx⟩ := reads os enc
  refine returnsInHanded_of_row (C := Tryd.checked) (s := OpenSpec.ofChange Rows.orderChecksSpec) ownOff started (by kernel_rfl) Tryd.func5
    (witness_row_at (enc := enc) (C := Tryd.checked) false (laidWorld os) #[.agg #[.slice none 0 0, .slice none 0 0, .int .i64 0, .slice none 0 0], .slice none 0 0, .slice none 0 0] rfl (by kernel_rfl) (by kernel_rfl) (by kernel_rfl)
      (OpenSpec.preRow_of_cond 8 hx (by kernel_rfl) (fun k hk => by cases hk) (by kernel_rfl) (laid_met os))) ?_
  intro W base args ds gs before hval hW _ _ hz hL _ _
  exact contract H enc W base args ds gs before hval hW hz hL

theorem said : Rows.OrderChecksSaid :=
  OpenClaim.holds_of_cond 5 Tryd.f5 rfl rfl rfl rfl rfl rfl rfl ⟨rfl, rfl, rfl, rfl, rfl⟩ rfl rfl rfl rfl rfl (by kernel_rfl) Tryd.func5 (by kernel_rfl)
    (of_decide_eq_true (by kernel_rfl)) (by unfold Func.isWrapper; first | (rw [if_pos (by decide +kernel)]; kernel_rfl) | (rw [if_neg (by decide +kernel)]; exact ⟨rfl, rfl⟩))
    (fun os started H enc _ F => by rw [OpenClaim.pre_eq_preRow]; exact lifted os started H enc F)

/-- No parameter wants a stand-in; the program's own looks are off: what the card asks. -/
theorem plain (f : FuncId) (fn : Func) (hf : Tryd.pinned.checked.prog.funcNamed "wapentake/wapentakelaw24.OrderChecks" = some f) (hfn : Tryd.pinned.checked.prog.funcs[f]? = some fn) :
    false = Tryd.pinned.checked.prog.looks [] ∧ ∀ (j : Nat) t, fn.params[j]? = some t → Tryd.pinned.checked.prog.wantsStandIn t = false := by
  obtain rfl : f = 5 := Option.some.inj ((show Tryd.prog.funcNamed "wapentake/wapentakelaw24.OrderChecks" = some 5 by kernel_rfl).symm.trans hf) |>.symm
  obtain rfl : fn = Tryd.f5 := (Option.some.inj (Tryd.func5.symm.trans hfn)).symm
  refine ⟨by kernel_rfl, fun j t ht => ?_⟩
  rw [Tryd.params5] at ht
  have h28 : Tryd.prog.wantsStandIn 28 = false := by kernel_rfl
  have h29 : Tryd.prog.wantsStandIn 29 = false := by kernel_rfl
  have h57 : Tryd.prog.wantsStandIn 57 = false := by kernel_rfl
  have := Array.mem_of_getElem? ht
  simp only [List.mem_toArray, List.mem_cons, List.not_mem_nil, or_false] at this
  rcases this with rfl | rfl | rfl
  · exact h28
  · exact h29
  · exact h57

/-- THE CARD. -/
theorem card : Rows.OrderChecksCardSaid :=
  Claim7.holds_tied_plain_at .later [] _ _ _ _ said (fun _ h => by cases h) (by kernel_rfl) (fun _ h => by cases h) orderChecks_row_tie rfl ⟨rfl, rfl⟩ (by kernel_rfl) rfl plain (by kernel_rfl)
end Go.Proofs.YtchnnplcpidkiaaDoor.orderChecks
