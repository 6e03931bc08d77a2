/- The contract of state.Apply; no condition but bounds on lengths, and that the state stands in order. -/
import Derived.Test.YtchnnplcpidkiaaDoorC16
namespace Go.Proofs.YtchnnplcpidkiaaDoor
open Go.RowKit
set_option linter.unusedSimpArgs false
set_option linter.unusedVariables false
set_option maxRecDepth 20000
set_option maxHeartbeats 16000000

theorem last_full (F : Nat → Prop) (cs : List Value) (s : LState) (c : Int) (w : World) (h : RState F w cs s) (hsm : Small s) :
    CallsTo 28 #[.agg cs.toArray, .int .i64 c] w (fun v w' => lastB s c = true → ∃ r A cap, s.rs[lastI s c]? = some r ∧ v = .tuple #[.agg (rcells (r, A, cap)).toArray, .bool true] ∧ OwnF (fun b => w.heap.size ≤ b) w' 9 1 A r.vals.length cap (r.vals.flatMap sstr)) := by
  have hRS := h
  obtain ⟨Ap, cp, Ar, cr, Am, cm, rfl, hp, hr, hm⟩ := h.form
  obtain ⟨hs, hhs, hrow, hvals⟩ := hr
  have hlen : hs.length = s.rs.length := by rw [← hhs]; simp
  have b2' := hsm.rs
  refine CallsTo.enter 28 (fun _ => True) F Tryd.func28 rfl rfl rfl rfl (by intros; first | trivial | assumption) ?_
  with_reducible refine JC.seq ?_
  with_reducible refine JC.region ?_
  refine JL.op (JO.box rfl rfl ?_); intro b2
  refine JL.op (JO.alloc rfl rfl ?_); intro b4
  refine JL.op (JO.val (y_assign) rfl ?_)
  with_reducible refine JL.nil ?_
  with_reducible refine JQ.seq (JC.seq ?_)
  with_reducible refine JC.region ?_
  refine JL.op (JO.val (y_ldA 0 rfl rfl rfl rfl) rfl ?_)
  refine JL.op (JO.val (y_move) rfl ?_)
  refine JL.op (JO.callv (fun wc hc => last_any _ _ s c wc (hRS.step hc.step) hsm) rfl rfl rfl ?_)
  refine JL.op (JO.val (y_move) rfl ?_)
  refine JL.op (JO.val (y_extract rfl rfl) rfl ?_)
  refine JL.op (JO.val (y_extract rfl rfl) rfl ?_)
  refine JL.op (JO.val (y_assign) rfl ?_)
  refine JL.op (JO.val (y_assign) rfl ?_)
  with_reducible refine JL.nil ?_
  with_reducible refine JQ.seq (JC.seq (JC.seq ?_))
  with_reducible refine JC.region ?_
  refine JL.op (JO.val (y_move) rfl ?_)
  refine JL.op (JO.val (y_not rfl) rfl ?_)
  with_reducible refine JL.nil ?_
  with_reducible refine JQ.seq ?_
  refine JC.cond (b := !lastB s c) rfl (fun hg => ?_) (fun hg => ?_)
  · with_reducible refine JC.seq ?_
    with_reducible refine JC.region ?_
    refine JL.op (JO.val (y_build rfl rfl (rfl)) rfl ?_)
    refine JL.op (JO.storeA 1 rfl rfl rfl rfl (by first | rfl | assumption) (by first | rfl | assumption) (by first | rfl | assumption) ?_)
    refine JL.op (JO.val (y_assign) rfl ?_)
    with_reducible refine JL.nil ?_
    with_reducible refine JQ.seq (JC.ret (JQ.seq_ret ?_))
    exact ret_two rfl (ResV.cellA 1 rfl rfl rfl rfl) ResV.tmp (fun w' hc hb => by rw [hb] at hg; cases hg)
  · have hlb : lastB s c = true := by simpa using hg
    have hlt : lastI s c < s.rs.length := by
      simp only [lastB, bsB, Bool.and_eq_true, decide_eq_true_eq] at hlb
      exact hlb.1
    obtain ⟨r, hx⟩ : ∃ r, s.rs[lastI s c]? = some r := ⟨s.rs[lastI s c], by simp [hlt]⟩
    obtain ⟨⟨x1, A1, c1⟩, hx1, rfl⟩ := map_at hhs hx
    have hv : RStrs F w A1 c1 x1.vals := hvals _ (List.mem_of_getElem? hx1)
    have hvn : x1.vals.length ≤ 10000 := hsm.vals _ (List.mem_of_getElem? hx)
    obtain ⟨b, o, hA, hat⟩ := SlF.elem hrow rcells_len hlen.symm hx1
    with_reducible refine JC.skip (JQ.seq (JC.seq ?_))
    with_reducible refine JC.region ?_
    refine JL.op (JO.val (y_fieldAddr rfl rfl rfl) rfl ?_)
    refine JL.op (JO.val (y_ld 0 rfl rfl rfl rfl) rfl ?_)
    refine JL.op (JO.val (y_move) rfl ?_)
    refine JL.op (JO.val (y_idx (b := b) (o := o) rfl rfl rfl rfl hA rfl hlt) rfl ?_)
    refine JL.op (JO.val (y_lddA rfl rfl hat rfl) rfl ?_)
    refine JL.op (JO.alloc rfl rfl ?_); intro b8
    refine JL.op (JO.storeA 2 rfl rfl rfl rfl (by first | rfl | assumption) (by first | rfl | assumption) (by first | rfl | assumption) ?_)
    with_reducible refine JL.nil ?_
    with_reducible refine JQ.seq (JC.seq ?_)
    with_reducible refine JC.region ?_
    refine JL.op (JO.val (y_fieldAddr rfl rfl rfl) rfl ?_)
    refine JL.op (JO.val (y_ld 2 rfl rfl rfl rfl) rfl ?_)
    refine JL.op (JO.call _ (fun wc hc => clone_strs _ A1 x1.vals.length c1 _ wc (SlF.step hv hc.step (by omega)) (flatMap_one fun m _ => sstr_one m) (by omega)) rfl rfl rfl ?_)
    rintro wc v wn hst hsz hfr hbl hst0 hvv
    obtain ⟨Av, cv, rfl, hov⟩ := hvv.own
    refine JL.op (JO.val (y_fieldAddr rfl rfl rfl) rfl ?_)
    refine JL.op (JO.store1 2 rfl rfl rfl rfl rfl rfl rfl ?_)
    with_reducible refine JL.nil ?_
    with_reducible refine JQ.seq (JC.seq ?_)
    with_reducible refine JC.region ?_
    refine JL.op (JO.val (y_ldA 2 rfl rfl rfl rfl) rfl ?_)
    refine JL.op (JO.storeA 1 rfl rfl rfl rfl (by first | rfl | assumption) (by first | rfl | assumption) (by first | rfl | assumption) ?_)
    refine JL.op (JO.val (y_assign) rfl ?_)
    with_reducible refine JL.nil ?_
    with_reducible refine JQ.seq (JC.ret ?_)
    refine ret_two rfl (ResV.cellA 1 rfl rfl rfl rfl) ResV.tmp (fun w' hc _ => ⟨x1, Av, cv, hx, rfl, ?_⟩)
    exact ((hov.weak fun b hb => (⟨hfr b hb, Nat.le_trans hsz hb⟩ : _ ∧ w.heap.size ≤ b)).step (hc.step.and _)).weak fun b hb => hb.2
end Go.Proofs.YtchnnplcpidkiaaDoor
