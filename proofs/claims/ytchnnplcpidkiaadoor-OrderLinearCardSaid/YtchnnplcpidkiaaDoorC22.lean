/- The contract of law 10's 'great'; no condition but a bound on the list. -/
import Derived.Test.YtchnnplcpidkiaaDoorC21
namespace Go.Proofs.YtchnnplcpidkiaaDoor
open Go.RowKit
set_option linter.unusedSimpArgs false
set_option linter.unusedVariables false
set_option maxRecDepth 20000
set_option maxHeartbeats 16000000

theorem Cur.back {X : Cx} {S : Sto} {F F' : Nat → Prop} {w1 w1' w : World} (h : Cur X S F' w1' w) (hst : Step F w1 F' w1') (hsz : w1.heap.size ≤ w1'.heap.size) : Cur X S F w1 w :=
  ⟨h.below, Nat.le_trans hsz h.size, h.own, h.nodup, hst.trans h.step hsz⟩
/-- What 'great' refuses not. -/
structure Meek (s : LState) : Prop where
  mild : Mild s
  ord : Ord s
theorem great10_any (F : Nat → Prop) (cs : List Value) (s : LState) (Aq : Option Addr) (cq : Nat) (qs : List LReq) (w : World) (h : RState F w cs s) (hwf : s.wf) (hq : RReqs F w Aq cq qs) (hqw : ∀ q ∈ qs, q.wf) :
    CallsTo 8 #[.agg cs.toArray, .slice Aq qs.length cq] w (fun v _ => ∃ g : Bool, v = .bool g ∧ (g = false → Meek s ∧ qs.length ≤ 60)) := by
  have hRS := h
  obtain ⟨Ap, cp, Ar, cr, Am, cm, rfl, hp, hr, hm⟩ := h.form
  refine CallsTo.enter 41 (fun _ => True) F Tryd.func8 rfl rfl rfl rfl (by intros; first | trivial | assumption) ?_
  with_reducible refine JC.seq ?_
  with_reducible refine JC.region ?_
  refine JL.op (JO.box rfl rfl ?_); intro b2
  refine JL.op (JO.val (y_assign) rfl ?_)
  with_reducible refine JL.nil ?_
  with_reducible refine JQ.seq (JC.seq (JC.seq ?_))
  refine JC.cutI (fun E S F' w1' => ∃ gt : Bool, (gt = false → Meek s ∧ qs.length ≤ 60) ∧ S = [(some b2, 28, [.slice Ap s.ps.length cp, .slice Ar s.rs.length cr, .int .i64 s.ep, .slice Am s.ms.length cm])] ∧ Step F w F' w1' ∧ Has E [(1, .slice Aq qs.length cq), (2, .pointer (some ⟨b2, 0, none⟩)), (18, .bool gt)]) ?_ ?_
  · with_reducible refine JC.region ?_
    refine JL.op (JO.val (y_ldA 0 rfl rfl rfl rfl) rfl ?_)
    refine JL.op (JO.call _ (fun wc hc => great_any _ _ s wc (hRS.step hc.step) hwf) rfl rfl rfl ?_)
    rintro wc v wn hst hsz hfr hbl hst0 ⟨g, rfl, hgr⟩
    refine JL.op (JO.val (y_move) rfl ?_)
    refine JL.split (d := 9) rfl (fun hg2 => ?_) (fun hg2 => ?_)
    · refine JL.op_skip rfl rfl (congrArg Value.bool hg2) rfl ?_
      refine JL.op_skip rfl rfl (congrArg Value.bool hg2) rfl ?_
      refine JL.op_skip rfl rfl (congrArg Value.bool hg2) rfl ?_
      refine JL.op (JO.val (y_pick (congrArg Value.bool hg2)) rfl ?_)
      refine JL.op (JO.val (y_move) rfl ?_)
      refine JL.op_skip rfl rfl rfl rfl ?_
      refine JL.op_skip rfl rfl rfl rfl ?_
      refine JL.op_skip rfl rfl rfl rfl ?_
      refine JL.op (JO.val (y_pick rfl) rfl ?_)
      with_reducible refine JL.nil ?_
      exact JQ.inv ⟨true, fun h => absurd h (by decide), rfl, hst, ⟨rfl, rfl, rfl, trivial⟩⟩
    · refine JL.op_do rfl rfl (congrArg Value.bool hg2) (JO.val (y_ldA 0 rfl rfl rfl rfl) rfl ?_)
      refine JL.op_do rfl rfl (congrArg Value.bool hg2) (JO.callv (fun wc hc => rises_any _ _ s wc ((hRS.step hst).step hc.step) ((hgr hg2).sized.small (by omega))) rfl rfl rfl ?_)
      refine JL.op_do rfl rfl (congrArg Value.bool hg2) (JO.val (y_not rfl) rfl ?_)
      refine JL.op (JO.val (y_pick (congrArg Value.bool hg2)) rfl ?_)
      refine JL.op (JO.val (y_move) rfl ?_)
      refine JL.split (d := 14) rfl (fun hg7 => ?_) (fun hg7 => ?_)
      · refine JL.op_skip rfl rfl (congrArg Value.bool hg7) rfl ?_
        refine JL.op_skip rfl rfl (congrArg Value.bool hg7) rfl ?_
        refine JL.op_skip rfl rfl (congrArg Value.bool hg7) rfl ?_
        refine JL.op (JO.val (y_pick (congrArg Value.bool hg7)) rfl ?_)
        with_reducible refine JL.nil ?_
        exact JQ.inv ⟨true, fun h => absurd h (by decide), rfl, hst, ⟨rfl, rfl, rfl, trivial⟩⟩
      · refine JL.op_do rfl rfl (congrArg Value.bool hg7) (JO.val (y_move) rfl ?_)
        refine JL.op_do rfl rfl (congrArg Value.bool hg7) (JO.val (y_len rfl rfl) rfl ?_)
        refine JL.op_do rfl rfl (congrArg Value.bool hg7) (JO.val (y_gtr rfl rfl) rfl ?_)
        refine JL.op (JO.val (y_pick (congrArg Value.bool hg7)) rfl ?_)
        with_reducible refine JL.nil ?_
        exact JQ.inv ⟨decide ((qs.length : Int) > 60), fun h => ⟨⟨hgr hg2, rises_ord (by simpa using hg7)⟩, by simp at h; omega⟩, rfl, hst, ⟨rfl, rfl, rfl, trivial⟩⟩
  rintro E S F1 w1 ⟨gt, hgt, rfl, hst, hE⟩
  refine JQ.env hE (fun E => ?_)
  with_reducible refine JQ.seq ?_
  refine JC.cond rfl (fun hg => ?_) (fun hg => ?_)
  · with_reducible refine JC.seq ?_
    with_reducible refine JC.region ?_
    refine JL.op (JO.val (y_assign) rfl ?_)
    with_reducible refine JL.nil ?_
    with_reducible refine JQ.seq (JC.ret (JQ.seq_ret ?_))
    exact ret_one rfl ResV.tmp (fun w _ => ⟨true, rfl, fun h => by cases h⟩)
  have hmk := hgt hg
  clear hgt
  with_reducible refine JC.skip (JQ.seq (JC.seq (JC.seq ?_)))
  with_reducible refine JC.region ?_
  refine JL.op (JO.val (y_move) rfl ?_)
  refine JL.op (JO.val (y_len rfl rfl) rfl ?_)
  refine JL.op (JO.val (y_move) rfl ?_)
  with_reducible refine JL.nil ?_
  with_reducible refine JQ.seq (JC.block ?_)
  refine JC.loop (fun m E S F' w1' => ∃ k, m = qs.length - k ∧ k ≤ qs.length ∧ S = [(some b2, 28, [.slice Ap s.ps.length cp, .slice Ar s.rs.length cr, .int .i64 s.ep, .slice Am s.ms.length cm])] ∧ Step F w F' w1' ∧
      Has E [(2, .pointer (some ⟨b2, 0, none⟩)), (19, .slice Aq qs.length cq), (20, .int .i64 (qs.length : Nat)), (21, .int .i64 (k : Nat))])
    _ ⟨0, rfl, Nat.zero_le _, rfl, hst, ⟨rfl, rfl, rfl, rfl, trivial⟩⟩ ?_
  clear hst
  rintro m E S F' w1' ⟨k, rfl, hk, rfl, hst, hE⟩
  refine JC.env hE (fun E => ?_)
  with_reducible refine JC.seq ?_
  with_reducible refine JC.region ?_
  refine JL.op (JO.val (y_lss rfl rfl) rfl ?_)
  with_reducible refine JL.nil ?_
  with_reducible refine JQ.seq (JC.seq ?_)
  by_cases hlt : k < qs.length
  · have hd : decide ((k : Int) < (qs.length : Int)) = true := by simpa using hlt
    refine JC.cond_true (congrArg Value.bool hd) ?_
    obtain ⟨y, hy⟩ : ∃ y, qs[k]? = some y := ⟨qs[k]'hlt, List.getElem?_eq_getElem hlt⟩
    have hyw := hqw y (List.mem_of_getElem? hy)
    have hyl := LReq.len_cells hyw
    have hy1 := LReq.all1 hyw
    obtain ⟨b, o, hA, hat⟩ := SlF.elem (hq.step hst) (fun q hq => LReq.len_cells (hqw q hq)) rfl hy
    with_reducible refine JC.skip (JQ.seq (JC.seq (JC.block (JC.seq ?_))))
    with_reducible refine JC.region ?_
    refine JL.op (JO.val (y_idx (b := b) (o := o) rfl rfl rfl rfl hA rfl hlt) rfl ?_)
    refine JL.op (JO.val (y_lddA rfl rfl hat (by first | rfl | assumption)) rfl ?_)
    refine JL.op (JO.alloc rfl rfl ?_); intro b6
    refine JL.op (JO.storeA 1 rfl rfl rfl rfl (by first | rfl | assumption) (by first | rfl | assumption) (by first | rfl | assumption) ?_)
    with_reducible refine JL.nil ?_
    with_reducible refine JQ.seq (JC.seq ?_)
    with_reducible refine JC.region ?_
    refine JL.op (JO.val (y_fieldAddr rfl rfl rfl) rfl ?_)
    refine JL.op (JO.val (y_fieldAddr rfl rfl rfl) rfl ?_)
    refine JL.op (JO.val (y_ld 1 rfl rfl rfl rfl) rfl ?_)
    refine JL.op (JO.val (y_lens rfl rfl) rfl ?_)
    refine JL.op (JO.val (y_fieldAddr rfl rfl rfl) rfl ?_)
    refine JL.op (JO.val (y_fieldAddr rfl rfl rfl) rfl ?_)
    refine JL.op (JO.val (y_ld 1 rfl rfl rfl rfl) rfl ?_)
    refine JL.op (JO.val (y_lens rfl rfl) rfl ?_)
    refine JL.op (JO.val (y_add rfl rfl rfl) rfl ?_)
    refine JL.op (JO.val (y_fieldAddr rfl rfl rfl) rfl ?_)
    refine JL.op (JO.val (y_fieldAddr rfl rfl rfl) rfl ?_)
    refine JL.op (JO.val (y_ld 1 rfl rfl rfl rfl) rfl ?_)
    refine JL.op (JO.val (y_lens rfl rfl) rfl ?_)
    refine JL.op (JO.val (y_add rfl rfl rfl) rfl ?_)
    refine JL.op (JO.val (y_gtr rfl rfl) rfl ?_)
    with_reducible refine JL.nil ?_
    with_reducible refine JQ.seq ?_
    refine JC.cond rfl (fun hg2 => ?_) (fun hg2 => ?_)
    · with_reducible refine JC.seq ?_
      with_reducible refine JC.region ?_
      refine JL.op (JO.val (y_assign) rfl ?_)
      with_reducible refine JL.nil ?_
      with_reducible refine JQ.seq (JC.ret (JQ.blk_ret (JQ.seq_ret (JQ.loop_ret (JQ.blk_ret (JQ.seq_ret ?_))))))
      exact ret_one rfl ResV.tmp (fun w _ => ⟨true, rfl, fun h => by cases h⟩)
    · with_reducible refine JC.skip (JQ.blk (JQ.seq ?_))
      with_reducible refine JC.region ?_
      refine JL.op (JO.val (y_add rfl rfl (natAdd hk (by have := hmk.2; omega))) rfl ?_)
      refine JL.op (JO.val (y_move) rfl ?_)
      with_reducible refine JL.nil ?_
      refine JQ.takeN 1 ?_
      exact JQ.loop (qs.length - (k + 1)) ⟨k + 1, rfl, hlt, rfl, hst, ⟨rfl, rfl, rfl, rfl, trivial⟩⟩ (by omega)
  · have hd : decide ((k : Int) < (qs.length : Int)) = false := by simpa using hlt
    refine JC.cond_false (congrArg Value.bool hd) ?_
    with_reducible refine JC.exit (JQ.seq_exit (JQ.loop_exit (JQ.blk_here (JQ.seq (JC.seq ?_)))))
    with_reducible refine JC.region ?_
    refine JL.op (JO.val (y_assign) rfl ?_)
    with_reducible refine JL.nil ?_
    with_reducible refine JQ.seq (JC.ret ?_)
    exact ret_one rfl ResV.tmp (fun w _ => ⟨false, rfl, fun _ => hmk⟩)
end Go.Proofs.YtchnnplcpidkiaaDoor
