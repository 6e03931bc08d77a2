/- The law StateApplies, walked: it answers true at every state and every list; no condition but the forms. -/
import Derived.Test.YtchnnplcpidkiaaDoorC22
namespace Go.Proofs.YtchnnplcpidkiaaDoor
open Go.RowKit
set_option linter.unusedSimpArgs false
set_option linter.unusedVariables false
set_option maxRecDepth 20000
set_option maxHeartbeats 16000000

theorem Cur.perm {X : Cx} {S S' : Sto} {F : Nat → Prop} {w1 w : World} (hp : S.Perm S') (h : Cur X S F w1 w) : Cur X S' F w1 w := by
  have hb : (blks S).Perm (blks S') := hp.filterMap _
  exact ⟨h.below, h.size, fun e he => h.own e (hp.mem_iff.2 he), hb.nodup_iff.1 h.nodup, h.step.mono (fun _ h => h) fun k hk => ⟨hk.1, fun hm => hk.2 (hb.mem_iff.2 hm)⟩⟩
theorem RState.four {F : Nat → Prop} {w : World} {cs : List Value} {s : LState} (h : RState F w cs s) : cs.length = 4 ∧ allOne cs = true := by
  obtain ⟨Ap, cp, Ar, cr, Am, cm, rfl, _⟩ := h.form
  exact ⟨rfl, rfl⟩
theorem applyD_vl {k : Nat} {s : LState} {q : LReq} (h : Sized k s) (hk : k ≤ 1000 := by omega) : (applyD s q).2.vals.length ≤ 100000 := by
  have hd : (doneD s q).2.vals.length ≤ 100000 := by
    have := did_vl (ep := s.ep) (o := q.op) h.ps h.ms
    show (did s.ps s.ep s.ms q.op).vals.length ≤ 100000
    omega
  unfold applyD
  repeat' split
  all_goals first | exact hd | exact Nat.zero_le _ | (rename_i hx _; have := h.vals _ (List.mem_of_getElem? hx); simp only; omega)
theorem applies_any (F : Nat → Prop) (cs : List Value) (s : LState) (Aq : Option Addr) (cq : Nat) (qs : List LReq) (w : World) (h : RState F w cs s) (hwf : s.wf) (hq : RReqs F w Aq cq qs) (hqw : ∀ q ∈ qs, q.wf) (htab : Tab F w) :
    CallsTo 3 #[.agg cs.toArray, .slice Aq qs.length cq] w (fun v _ => v = .bool true) := by
  have hRS := h
  obtain ⟨Ap, cp, Ar, cr, Am, cm, rfl, hp, hr, hm⟩ := h.form
  refine CallsTo.enter 65 F F Tryd.func3 rfl rfl rfl rfl (by intros; first | trivial | assumption) ?_
  with_reducible refine JC.seq ?_
  with_reducible refine JC.region ?_
  refine JL.op (JO.box rfl rfl ?_); intro b2
  refine JL.op (JO.val (y_assign) rfl ?_)
  with_reducible refine JL.nil ?_
  with_reducible refine JQ.seq (JC.seq (JC.seq ?_))
  with_reducible refine JC.region ?_
  refine JL.op (JO.callv (fun wc hc => alive_any _ wc (htab.step hc.step)) rfl rfl rfl ?_)
  refine JL.op (JO.val (y_not rfl) rfl ?_)
  with_reducible refine JL.nil ?_
  with_reducible refine JQ.seq ?_
  refine JC.cond_false rfl ?_
  with_reducible refine JC.skip (JQ.seq (JC.seq (JC.seq ?_)))
  with_reducible refine JC.region ?_
  refine JL.op (JO.val (y_ldA 0 rfl rfl rfl rfl) rfl ?_)
  refine JL.op (JO.val (y_move) rfl ?_)
  refine JL.op (JO.call _ (fun wc hc => great10_any _ _ s Aq cq qs wc (hRS.step hc.step) hwf (hq.step hc.step) hqw) rfl rfl rfl ?_)
  rintro wc v wn hst hsz hfr hbl hst0 ⟨g, rfl, hgr⟩
  have hsw : w.heap.size ≤ wn.heap.size := Nat.le_trans hsz hbl.size
  with_reducible refine JL.nil ?_
  with_reducible refine JQ.seq ?_
  refine JC.cond rfl (fun hg => ?_) (fun hg => ?_)
  · with_reducible refine JC.seq ?_
    with_reducible refine JC.region ?_
    refine JL.op (JO.val (y_assign) rfl ?_)
    with_reducible refine JL.nil ?_
    with_reducible refine JQ.seq (JC.ret (JQ.seq_ret ?_))
    exact ret_one rfl ResV.tmp (fun w _ => rfl)
  obtain ⟨hmk, hql⟩ := hgr hg
  have hfit : Fit 0 s := ⟨hwf, hmk.mild.sized, hmk.ord⟩
  clear hgr hfr hst0
  with_reducible refine JC.skip (JQ.seq (JC.seq ?_))
  refine JC.cutI (fun E S F' w1' => ∃ b5 b6, S = [(some b2, 28, [.slice Ap s.ps.length cp, .slice Ar s.rs.length cr, .int .i64 s.ep, .slice Am s.ms.length cm]), (some b5, 28, [.slice Ap s.ps.length cp, .slice Ar s.rs.length cr, .int .i64 s.ep, .slice Am s.ms.length cm]), (some b6, 28, [.slice Ap s.ps.length cp, .slice Ar s.rs.length cr, .int .i64 s.ep, .slice Am s.ms.length cm])] ∧ Step F w F' w1' ∧ w.heap.size ≤ w1'.heap.size ∧ Has E [(1, .slice Aq qs.length cq), (2, .pointer (some ⟨b2, 0, none⟩)), (5, .pointer (some ⟨b5, 0, none⟩)), (6, .pointer (some ⟨b6, 0, none⟩))]) ?_ ?_
  · skip
    refine JC.held [0] ?_
    refine JH.take 0 rfl (by kernel_rfl) (by kernel_rfl) (by kernel_rfl) (fun _ _ _ => y_ldA 0 rfl rfl rfl rfl) rfl (by repeat (first | exact np_fun | exact np_inv | refine np_seq ?_ | refine np_blk ?_ | refine np_loop ?_)) (⟨rfl, trivial⟩) ?_
    refine JH.take 1 rfl (by kernel_rfl) (by kernel_rfl) (by kernel_rfl) (fun _ _ _ => y_ldA 0 rfl rfl rfl rfl) rfl (by repeat (first | exact np_fun | exact np_inv | refine np_seq ?_ | refine np_blk ?_ | refine np_loop ?_)) (⟨rfl, trivial⟩) ?_
    refine JH.two 2 3 (by kernel_rfl) (JI.op rfl ?_) (JI.op rfl ?_)
    · refine (JO.alloc rfl rfl ?_); intro b5
      refine ⟨⟨rfl, trivial⟩, ?_⟩
      refine JH.one 3 (by kernel_rfl) (JI.op rfl ?_)
      refine (JO.alloc rfl rfl ?_); intro b6
      refine ⟨⟨rfl, trivial⟩, ?_⟩
      refine JH.one 4 (by kernel_rfl) (JI.op rfl ?_)
      refine (JO.storeA 1 rfl rfl rfl rfl (by first | rfl | assumption) (by first | rfl | assumption) (by first | rfl | assumption) ?_)
      refine ⟨⟨rfl, trivial⟩, ?_⟩
      refine JH.one 5 (by kernel_rfl) (JI.op rfl ?_)
      refine (JO.storeA 2 rfl rfl rfl rfl (by first | rfl | assumption) (by first | rfl | assumption) (by first | rfl | assumption) ?_)
      refine ⟨⟨rfl, trivial⟩, ?_⟩
      refine JH.done (by kernel_rfl) ?_
      exact JQ.inv ⟨b5, b6, rfl, hst, hsw, ⟨rfl, rfl, rfl, rfl, trivial⟩⟩
    · refine (JO.alloc rfl rfl ?_); intro b6
      refine ⟨⟨rfl, trivial⟩, ?_⟩
      refine JH.one 2 (by kernel_rfl) (JI.op rfl ?_)
      refine (JO.alloc rfl rfl ?_); intro b5
      refine ⟨⟨rfl, trivial⟩, ?_⟩
      refine JH.one 4 (by kernel_rfl) (JI.op rfl ?_)
      refine (JO.storeA 2 rfl rfl rfl rfl (by first | rfl | assumption) (by first | rfl | assumption) (by first | rfl | assumption) ?_)
      refine ⟨⟨rfl, trivial⟩, ?_⟩
      refine JH.one 5 (by kernel_rfl) (JI.op rfl ?_)
      refine (JO.storeA 1 rfl rfl rfl rfl (by first | rfl | assumption) (by first | rfl | assumption) (by first | rfl | assumption) ?_)
      refine ⟨⟨rfl, trivial⟩, ?_⟩
      refine JH.done (by kernel_rfl) ?_
      exact JQ.weaken (fun w h => h.perm (List.Perm.cons _ (List.Perm.swap _ _ []))) (JQ.inv ⟨b5, b6, rfl, hst, hsw, ⟨rfl, rfl, rfl, rfl, trivial⟩⟩)
  rintro E S F1 w1 ⟨b5, b6, rfl, hst, hsw, hE⟩
  refine JQ.env hE (fun E => ?_)
  with_reducible refine JQ.seq (JC.seq (JC.seq ?_))
  with_reducible refine JC.region ?_
  refine JL.op (JO.val (y_move) rfl ?_)
  refine JL.op (JO.val (y_len rfl rfl) rfl ?_)
  refine JL.op (JO.val (y_move) rfl ?_)
  with_reducible refine JL.nil ?_
  with_reducible refine JQ.seq (JC.block ?_)
  refine JC.loop (fun m E S F' w1' => ∃ k csA csB, m = qs.length - k ∧ k ≤ qs.length ∧ RState F' w1' csA (allD s (qs.take k)) ∧ RState F' w1' csB (allD s (qs.take k)) ∧ S = [(some b2, 28, [.slice Ap s.ps.length cp, .slice Ar s.rs.length cr, .int .i64 s.ep, .slice Am s.ms.length cm]), (some b5, 28, csA), (some b6, 28, csB)] ∧ Step F w F' w1' ∧ w.heap.size ≤ w1'.heap.size ∧
      Has E [(1, .slice Aq qs.length cq), (2, .pointer (some ⟨b2, 0, none⟩)), (5, .pointer (some ⟨b5, 0, none⟩)), (6, .pointer (some ⟨b6, 0, none⟩)), (20, .slice Aq qs.length cq), (21, .int .i64 (qs.length : Nat)), (22, .int .i64 (k : Nat))])
    _ ⟨0, _, _, rfl, Nat.zero_le _, hRS.step hst, hRS.step hst, rfl, hst, hsw, ⟨rfl, rfl, rfl, rfl, rfl, rfl, rfl, trivial⟩⟩ ?_
  clear hst hsw F1 w1
  rintro m E S F' w1' ⟨k, csA, csB, rfl, hk, hra, hrb, rfl, hst, hsw, hE⟩
  refine JC.env hE (fun E => ?_)
  obtain ⟨hla, hla1⟩ := hra.four
  obtain ⟨hlb, hlb1⟩ := hrb.four
  have hfk : Fit 60 (allD s (qs.take k)) := (hfit.all (fun q hq => hqw q (List.mem_of_mem_take hq))).mono (by rw [List.length_take]; omega)
  with_reducible refine JC.seq ?_
  with_reducible refine JC.region ?_
  refine JL.op (JO.val (y_lss rfl rfl) rfl ?_)
  with_reducible refine JL.nil ?_
  with_reducible refine JQ.seq (JC.seq ?_)
  by_cases hlt : k < qs.length
  · have hd : decide ((k : Int) < (qs.length : Int)) = true := by simpa using hlt
    refine JC.cond_true (congrArg Value.bool hd) ?_
    obtain ⟨y, hy⟩ : ∃ y, qs[k]? = some y := ⟨qs[k]'hlt, List.getElem?_eq_getElem hlt⟩
    have hyw := hqw y (List.mem_of_getElem? hy)
    have hyl := LReq.len_cells hyw
    have hy1 := LReq.all1 hyw
    have hfk2 : Fit 61 (applyD (allD s (qs.take k)) y).1 := hfk.apply hyw
    obtain ⟨b, o, hA, hat⟩ := SlF.elem (hq.step hst) (fun q hq => LReq.len_cells (hqw q hq)) rfl hy
    with_reducible refine JC.skip (JQ.seq (JC.seq (JC.block (JC.seq ?_))))
    with_reducible refine JC.region ?_
    refine JL.op (JO.val (y_idx (b := b) (o := o) rfl rfl rfl rfl hA rfl hlt) rfl ?_)
    refine JL.op (JO.val (y_lddA rfl rfl hat (by first | rfl | assumption)) rfl ?_)
    refine JL.op (JO.alloc rfl rfl ?_); intro b8
    refine JL.op (JO.storeA 3 rfl rfl rfl rfl (by first | rfl | assumption) (by first | rfl | assumption) (by first | rfl | assumption) ?_)
    with_reducible refine JL.nil ?_
    with_reducible refine JQ.seq (JC.seq ?_)
    with_reducible refine JC.region ?_
    refine JL.op (JO.alloc rfl rfl ?_); intro b9
    refine JL.op (JO.alloc rfl rfl ?_); intro b10
    with_reducible refine JL.nil ?_
    with_reducible refine JQ.seq (JC.seq ?_)
    with_reducible refine JC.region ?_
    refine JL.op (JO.val (y_ldA 1 rfl rfl rfl hla) rfl ?_)
    refine JL.op (JO.val (y_ldA 3 rfl rfl rfl (by first | rfl | assumption)) rfl ?_)
    refine JL.op (JO.call _ (fun wc hc => apply_any _ _ _ y wc (hra.step hc.step) hfk.wf (hfk.size.small (by omega)) hfk.ord hyw ((htab.step hst).step hc.step)) rfl rfl rfl ?_)
    rintro wc v wn hst2 hsz2 hfr2 hbl2 hst02 ⟨cs2, A2, cap2, rfl, hos2, hov2⟩
    obtain ⟨hl5, hl6⟩ := hos2.four
    have hra2 := (hos2.weak (fun b hb => hfr2 b hb.1)).reads
    have hrr2 := (hov2.weak (fun b hb => hfr2 b hb)).slF
    have hsw2 : w.heap.size ≤ wn.heap.size := Nat.le_trans hsw (Nat.le_trans hsz2 hbl2.size)
    replace hrb := hrb.step hst2
    replace hst2 := hst.trans hst2 hsw
    clear hos2 hov2 hfr2 hbl2 hst02
    refine JL.op (JO.val (y_move) rfl ?_)
    refine JL.op (JO.val (y_extract rfl rfl) rfl ?_)
    refine JL.op (JO.val (y_extract rfl rfl) rfl ?_)
    refine JL.op (JO.storeA 1 rfl rfl rfl rfl (by first | rfl | assumption) (by first | rfl | assumption) (by first | rfl | assumption) ?_)
    refine JL.op (JO.storeA 4 rfl rfl rfl rfl (by first | rfl | assumption) (by first | rfl | assumption) (by first | rfl | assumption) ?_)
    with_reducible refine JL.nil ?_
    with_reducible refine JQ.seq (JC.seq ?_)
    with_reducible refine JC.region ?_
    refine JL.op (JO.val (y_ldA 2 rfl rfl rfl hlb) rfl ?_)
    refine JL.op (JO.val (y_ldA 3 rfl rfl rfl (by first | rfl | assumption)) rfl ?_)
    refine JL.op (JO.call _ (fun wc hc => refapply_any _ _ _ y wc (hrb.step hc.step) hfk.wf (hfk.size.small (by omega)) hyw ((htab.step hst2).step hc.step)) rfl rfl rfl ?_)
    rintro wc3 v wn3 hst3 hsz3 hfr3 hbl3 hst03 ⟨cs3, ra3, rfl, hrb3, hrr3⟩
    replace hrb3 := hrb3.step (Step.weak (fun b hb => Or.elim hb id (hfr3 b)))
    replace hrr3 := hrr3.step (Step.weak (fun b hb => Or.elim hb id (hfr3 b)))
    obtain ⟨hl7, hl8⟩ := hrb3.four
    obtain ⟨A3, cap3, rfl, hrs3⟩ := hrr3.form
    have hsw3 : w.heap.size ≤ wn3.heap.size := Nat.le_trans hsw2 (Nat.le_trans hsz3 hbl3.size)
    replace hra2 := hra2.step hst3
    replace hrr2 := SlF.step hrr2 hst3 (by omega)
    replace hst3 := hst2.trans hst3 hsw2
    clear hfr3 hbl3 hst03
    refine JL.op (JO.val (y_move) rfl ?_)
    refine JL.op (JO.val (y_extract rfl rfl) rfl ?_)
    refine JL.op (JO.val (y_extract rfl rfl) rfl ?_)
    refine JL.op (JO.storeA 2 rfl rfl rfl rfl (by first | rfl | assumption) (by first | rfl | assumption) (by first | rfl | assumption) ?_)
    refine JL.op (JO.storeA 5 rfl rfl rfl rfl (by first | rfl | assumption) (by first | rfl | assumption) (by first | rfl | assumption) ?_)
    with_reducible refine JL.nil ?_
    with_reducible refine JQ.seq (JC.seq ?_)
    with_reducible refine JC.region ?_
    refine JL.op (JO.val (y_ldA 1 rfl rfl rfl hl5) rfl ?_)
    refine JL.op (JO.val (y_ldA 2 rfl rfl rfl hl7) rfl ?_)
    refine JL.op (JO.callv (fun wc hc => same10_same _ _ _ (applyD (allD s (qs.take k)) y).1 wc (hra2.step hc.step) (hrb3.step hc.step) hfk2.wf (hfk2.size.small (by omega))) rfl rfl rfl ?_)
    refine JL.op (JO.val (y_not rfl) rfl ?_)
    refine JL.op (JO.val (y_move) rfl ?_)
    refine JL.op_do rfl rfl rfl (JO.val (y_ldA 4 rfl rfl rfl rfl) rfl ?_)
    refine JL.op_do rfl rfl rfl (JO.val (y_ldA 5 rfl rfl rfl rfl) rfl ?_)
    refine JL.op_do rfl rfl rfl (JO.callv (fun wc hc => same9_same _ _ _ (applyD (allD s (qs.take k)) y).2 wc ⟨A2, cap2, rfl, SlF.step hrr2 hc.step (by omega)⟩ (hrr3.step hc.step) (applyD_vl hfk.size)) rfl rfl rfl ?_)
    refine JL.op_do rfl rfl rfl (JO.val (y_not rfl) rfl ?_)
    refine JL.op (JO.val (y_pick rfl) rfl ?_)
    with_reducible refine JL.nil ?_
    with_reducible refine JQ.seq ?_
    refine JC.cond_false rfl ?_
    with_reducible refine JC.skip (JQ.blk (JQ.seq ?_))
    with_reducible refine JC.region ?_
    refine JL.op (JO.val (y_add rfl rfl (natAdd hk (by omega))) rfl ?_)
    refine JL.op (JO.val (y_move) rfl ?_)
    with_reducible refine JL.nil ?_
    refine JQ.takeN 3 ?_
    refine JQ.loop (qs.length - (k + 1)) ⟨k + 1, cs2, cs3, rfl, by omega, ?_, ?_, rfl, hst3, hsw3, ⟨rfl, rfl, rfl, rfl, rfl, rfl, rfl, trivial⟩⟩ (by omega)
    · rw [take_snoc hy, allD_snoc]; exact hra2
    · rw [take_snoc hy, allD_snoc]; exact hrb3
  · have hd : decide ((k : Int) < (qs.length : Int)) = false := by simpa using hlt
    refine JC.cond_false (congrArg Value.bool hd) ?_
    obtain rfl : k = qs.length := by omega
    rw [List.take_length] at hra hrb hfk
    with_reducible refine JC.exit (JQ.seq_exit (JQ.loop_exit (JQ.blk_here (JQ.seq (JC.seq ?_)))))
    with_reducible refine JC.region ?_
    refine JL.op (JO.val (y_ldA 0 rfl rfl rfl rfl) rfl ?_)
    refine JL.op (JO.val (y_move) rfl ?_)
    refine JL.op (JO.call _ (fun wc hc => all_any _ _ s Aq cq qs wc ((hRS.step hst).step hc.step) ((hq.step hst).step hc.step) hfit hqw (by omega) ((htab.step hst).step hc.step)) rfl rfl rfl ?_)
    rintro wc v wn hst2 hsz2 hfr2 hbl2 hst02 ⟨cs2, A2, cap2, hs2, rfl, hos2, hmap2, hov2⟩
    obtain ⟨hl5, hl6⟩ := hos2.four
    have hra2 := (hos2.weak (fun b hb => hfr2 b hb)).reads
    replace hrb := hrb.step hst2
    refine JL.op (JO.val (y_move) rfl ?_)
    refine JL.op (JO.val (y_extract rfl rfl) rfl ?_)
    refine JL.op (JO.val (y_extract rfl rfl) rfl ?_)
    refine JL.op (JO.alloc rfl rfl ?_); intro b11
    refine JL.op (JO.storeA 3 rfl rfl rfl rfl (by first | rfl | assumption) (by first | rfl | assumption) (by first | rfl | assumption) ?_)
    refine JL.op (JO.val (y_assign) rfl ?_)
    with_reducible refine JL.nil ?_
    with_reducible refine JQ.seq (JC.seq ?_)
    with_reducible refine JC.region ?_
    refine JL.op (JO.val (y_ldA 3 rfl rfl rfl hl5) rfl ?_)
    refine JL.op (JO.val (y_ldA 2 rfl rfl rfl hlb) rfl ?_)
    refine JL.op (JO.callv (fun wc hc => same10_same _ _ _ (allD s qs) wc (hra2.step hc.step) (hrb.step hc.step) hfk.wf (hfk.size.small (by omega))) rfl rfl rfl ?_)
    refine JL.op (JO.val (y_move) rfl ?_)
    refine JL.op_do rfl rfl rfl (JO.val (y_move) rfl ?_)
    refine JL.op_do rfl rfl rfl (JO.val (y_len rfl rfl) rfl ?_)
    refine JL.op_do rfl rfl rfl (JO.val (y_move) rfl ?_)
    refine JL.op_do rfl rfl rfl (JO.val (y_len rfl rfl) rfl ?_)
    refine JL.op_do rfl rfl rfl (JO.val (y_eql rfl rfl) rfl ?_)
    refine JL.op (JO.val (y_pick rfl) rfl ?_)
    refine JL.op (JO.val (y_assign) rfl ?_)
    with_reducible refine JL.nil ?_
    with_reducible refine JQ.seq (JC.ret ?_)
    exact ret_one rfl ResV.tmp (fun w' hc => congrArg Value.bool (decide_eq_true rfl))
end Go.Proofs.YtchnnplcpidkiaaDoor
