/- The law StateKeeps answers true at every state and every request, and turns nothing; its condition: three tables of the library are as the program's text lays them. -/
import Derived.Test.YtchnnplcpidkiaaDoorC24
import Derived.Test.YtchnnplcpidkiaaDoorO2
namespace Go.Proofs.YtchnnplcpidkiaaDoor.stateKeeps
open Go.ChangeShapes Go.WideShapes Go.ChangeAt Go.RowKit

/-- The request for the witness, and what it reads as. -/
def zcells : List Value := [.int .i64 0, .int .i64 0, .int .i64 0, .string ⟨#[]⟩, .string ⟨#[]⟩, .string ⟨#[]⟩, .int .i64 0, .int .i64 0, .int .i64 0] ++ List.replicate 32 (Value.int .u8 0) ++ [.int .i64 0]
def zreq : Value := .agg zcells.toArray
def zdat {H : Type} : DataW H := .agg [.lit (.int .i64 0), .lit (.int .i64 0), .agg [.lit (.int .i64 0), .lit (.string []), .lit (.string []), .lit (.string []), .agg [.lit (.int .i64 0), .lit (.int .i64 0), .lit (.int .i64 0), .agg [.agg (List.replicate 32 (.lit (.int .u8 0))), .lit (.int .i64 0)]]]]
set_option maxRecDepth 100000 in
theorem val_req {W : World} {base : Nat} {v : Value} (h : Value.okWide Tryd.prog W .any base 41 v) : ∃ cs : List Value, v = .agg cs.toArray ∧ v.cells.toList = cs := by
  unfold Value.okWide at h
  rw [Tryd.underlying41] at h
  obtain ⟨cs, rfl, _⟩ := h
  exact ⟨cs.toList, by simp, by simp [Value.cells]⟩
theorem small28 : (28 : Nat) < Tryd.prog.types.size := of_decide_eq_true (by kernel_rfl)
theorem small41 : (41 : Nat) < Tryd.prog.types.size := of_decide_eq_true (by kernel_rfl)
set_option maxRecDepth 100000 in
theorem contract (H : Type) (enc : TypeId × Value → H) (W : World) (base : Nat) (args : Array Value) (ds gs : List (DataW H)) (before : List MemPlace)
    (hval : ∀ (j : Nat) t v, Tryd.f4.params[j]? = some t → args[j]? = some v → Value.okWide Tryd.prog W .any base t v)
    (hW : DataW.Whole enc Tryd.prog Tryd.f4.params.toList Rows.stateKeepsSpec.vars false W args.toList ds gs before)
    (hz : (DataW.weightsEach Tryd.prog (Tryd.f4.params.toList ++ []) (ds ++ gs)).all (· ≤ reachBytes) = true) (hL : laidMetH Tryd.prog Rows.stateKeepsRow.laid W) :
    Calls Tryd.prog 4 args W fun e W' => ∃ v, e = .returned v ∧ Rows.stateKeepsSpec.post enc Tryd.prog Tryd.f4 false true false false W args v W' := by
  have hW0 := hW
  obtain ⟨p, q, hA, hV, rfl, _, _⟩ := hW0
  obtain ⟨rfl, rfl⟩ := trodVars_none hV
  rw [List.append_nil, List.append_nil] at hz
  rw [Tryd.params4] at hA hz hval
  obtain ⟨v0, vs0, d0, ds0, p0, hvs, rfl, ⟨n0, x0, h0⟩, hA, hz⟩ := tr_arg hA hz rfl
  obtain ⟨v1, vs1, d1, ds1, p1, rfl, rfl, ⟨n1, x1, h1⟩, hA, hz⟩ := tr_arg hA hz rfl
  obtain ⟨rfl, rfl, rfl⟩ := trodAll_nil hA
  obtain rfl : args = #[v0, v1] := Array.ext' hvs
  obtain ⟨cs, rfl, hcs⟩ := val_state (hval 0 28 v0 rfl rfl)
  obtain ⟨ks, rfl, hks⟩ := val_req (hval 1 41 v1 rfl rfl)
  rw [hcs] at h0
  rw [hks] at h1
  obtain ⟨s, hs, hswf⟩ := rd_state h0
  obtain ⟨q, rfl, hqw⟩ := rd_req _ _ _ h1
  refine (keeps_any (fun _ => True) cs s q W hs hswf hqw (tab_of_laid hL)).2.mono fun e W' ⟨v, he, hb, hv⟩ => ?_
  subst hv
  exact ⟨_, he, post_true (by kernel_rfl) rfl (fun t ht => by
    rw [Tryd.params4] at ht
    simp only [List.mem_cons, List.not_mem_nil, or_false] at ht
    rcases ht with rfl | rfl
    · exact small28
    · exact small41) hW rfl hb⟩

theorem laid_met (os : Os) : laidMet Tryd.prog Rows.stateKeepsRow.laid ((laidWorld os).forCall (fun _ _ => 0) ⟨#[], #[.agg #[.slice none 0 0, .slice none 0 0, .int .i64 0, .slice none 0 0], zreq], []⟩).memory :=
  laidMet_of_run' 8 (by kernel_rfl) (by kernel_rfl)
theorem reads (os : Os) {H : Type} (enc : TypeId × Value → H) : ∃ places, DataW.whole enc Tryd.prog ((laidWorld os).forCall (fun _ _ => 0) ⟨#[], #[.agg #[.slice none 0 0, .slice none 0 0, .int .i64 0, .slice none 0 0], zreq], []⟩).memory Tryd.f4.params.toList Rows.stateKeepsSpec.vars false #[Value.agg #[.slice none 0 0, .slice none 0 0, .int .i64 0, .slice none 0 0], zreq].toList 8 = some ([.agg [.nil, .nil, .agg [.lit (.int .i64 0), .nil]], zdat], [], places) :=
  ⟨[], by kernel_rfl⟩

set_option maxRecDepth 100000 in
theorem lifted (os : Os) (started : os.Started) (H : Type) (enc : TypeId × Value → H) (F : Stop.Interp) :
    ReturnsInHanded {} Tryd.checked os 4 .any ((OpenSpec.ofChange Rows.stateKeepsSpec).preRow enc Tryd.prog Tryd.f4 Rows.stateKeepsRow.domain false Rows.stateKeepsRow.laid) (((OpenSpec.ofChange Rows.stateKeepsSpec).at F).post enc Tryd.prog Tryd.f4 false true false false) := by
  obtain ⟨places, hx⟩ := reads os enc
  refine returnsInHanded_of_row (C := Tryd.checked) (s := OpenSpec.ofChange Rows.stateKeepsSpec) ownOff started (by kernel_rfl) Tryd.func4
    (witness_row_at (enc := enc) (C := Tryd.checked) false (laidWorld os) #[.agg #[.slice none 0 0, .slice none 0 0, .int .i64 0, .slice none 0 0], zreq] rfl (by kernel_rfl) (by kernel_rfl) (by kernel_rfl)
      (OpenSpec.preRow_of_cond 8 hx (by kernel_rfl) (fun k hk => by cases hk) (by kernel_rfl) (laid_met os))) ?_
  intro W base args ds gs before hval hW _ _ hz hL _ _
  exact contract H enc W base args ds gs before hval hW hz hL

theorem said : Rows.StateKeepsSaid :=
  OpenClaim.holds_of_cond 4 Tryd.f4 rfl rfl rfl rfl rfl rfl rfl ⟨rfl, rfl, rfl, rfl, rfl⟩ rfl rfl rfl rfl rfl (by kernel_rfl) Tryd.func4 (by kernel_rfl)
    (of_decide_eq_true (by kernel_rfl)) (by unfold Func.isWrapper; first | (rw [if_pos (by decide +kernel)]; kernel_rfl) | (rw [if_neg (by decide +kernel)]; exact ⟨rfl, rfl⟩))
    (fun os started H enc _ F => by rw [OpenClaim.pre_eq_preRow]; exact lifted os started H enc F)

/-- No parameter wants a stand-in; the program's own looks are off: what the card asks. -/
theorem plain (f : FuncId) (fn : Func) (hf : Tryd.pinned.checked.prog.funcNamed "wapentake/wapentakelaw10.StateKeeps" = some f) (hfn : Tryd.pinned.checked.prog.funcs[f]? = some fn) :
    false = Tryd.pinned.checked.prog.looks [] ∧ ∀ (j : Nat) t, fn.params[j]? = some t → Tryd.pinned.checked.prog.wantsStandIn t = false := by
  obtain rfl : f = 4 := Option.some.inj ((show Tryd.prog.funcNamed "wapentake/wapentakelaw10.StateKeeps" = some 4 by kernel_rfl).symm.trans hf) |>.symm
  obtain rfl : fn = Tryd.f4 := (Option.some.inj (Tryd.func4.symm.trans hfn)).symm
  refine ⟨by kernel_rfl, fun j t ht => ?_⟩
  rw [Tryd.params4] at ht
  have h28 : Tryd.prog.wantsStandIn 28 = false := by kernel_rfl
  have h41 : Tryd.prog.wantsStandIn 41 = false := by kernel_rfl
  have := Array.mem_of_getElem? ht
  simp only [List.mem_toArray, List.mem_cons, List.not_mem_nil, or_false] at this
  rcases this with rfl | rfl
  · exact h28
  · exact h41

/-- THE CARD. -/
theorem card : Rows.StateKeepsCardSaid :=
  Claim7.holds_tied_plain_at .later [] _ _ _ _ said (fun _ h => by cases h) (by kernel_rfl) (fun _ h => by cases h) stateKeeps_row_tie rfl ⟨rfl, rfl⟩ (by kernel_rfl) rfl plain (by kernel_rfl)
end Go.Proofs.YtchnnplcpidkiaaDoor.stateKeeps
