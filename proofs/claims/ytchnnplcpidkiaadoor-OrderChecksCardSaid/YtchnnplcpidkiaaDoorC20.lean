/- The contract of state.All; no condition but bounds on lengths, and that the state stands in order. -/
import Derived.Test.YtchnnplcpidkiaaDoorC19
import Derived.Test.YtchnnplcpidkiaaDoorP3
namespace Go.Proofs.YtchnnplcpidkiaaDoor
open Go.RowKit
set_option linter.unusedSimpArgs false
set_option linter.unusedVariables false
set_option maxRecDepth 20000
set_option maxHeartbeats 16000000

def AllR (s : LState) (qs : List LReq) (w : World) (v : Value) (w' : World) : Prop :=
  ∃ cs' A cap, ∃ hs : List (LReply × Option Addr × Nat), v = .tuple #[.agg cs'.toArray, .slice A qs.length cap] ∧ OState (fun b => w.heap.size ≤ b) w' cs' (allD s qs) ∧ hs.map (·.1) = allR s qs ∧ OwnF (fun b => w.heap.size ≤ b) w' 45 4 A qs.length cap (hs.flatMap rcells)
theorem all_any (F : Nat → Prop) (cs : List Value) (s : LState) (Aq : Option Addr) (cq : Nat) (qs : List LReq) (w : World) (h : RState F w cs s) (hq : RReqs F w Aq cq qs) (hfit : Fit 0 s) (hqw : ∀ q ∈ qs, q.wf) (hn : qs.length ≤ 900) (htab : Tab F w) :
    CallsTo 13 #[.agg cs.toArray, .slice Aq qs.length cq] w (fun v w' => AllR s qs w v w') := by
  have hRS := h
  obtain ⟨Ap, cp, Ar, cr, Am, cm, rfl, hp, hr, hm⟩ := h.form
  refine CallsTo.enter 32 (fun _ => True) F Tryd.func13 rfl rfl rfl rfl (by intros; first | trivial | assumption) ?_
  with_reducible refine JC.seq ?_
  with_reducible refine JC.region ?_
  refine JL.op (JO.box rfl rfl ?_); intro b2
  refine JL.op (JO.alloc rfl rfl ?_); intro b4
  refine JL.op (JO.val (y_assign) rfl ?_)
  with_reducible refine JL.nil ?_
  with_reducible refine JQ.seq (JC.seq ?_)
  with_reducible refine JC.region ?_
  refine JL.op (JO.val (y_ldA 0 rfl rfl rfl rfl) rfl ?_)
  refine JL.op (JO.call _ (fun wc hc => copied_any _ _ s wc (hRS.step hc.step) hfit.wf (hfit.size.small (by omega))) rfl rfl rfl ?_)
  rintro wc v wn hst hsz hfr hbl hst0 ⟨cs0, rfl, hos⟩
  obtain ⟨hl4, hl1⟩ := hos.four
  replace hos := hos.weak (fun b hb => (⟨hfr b hb, Nat.le_trans hsz hb⟩ : _ ∧ w.heap.size ≤ b))
  have hsw : w.heap.size ≤ wn.heap.size := Nat.le_trans hsz hbl.size
  refine JL.op (JO.alloc rfl rfl ?_); intro b6
  refine JL.op (JO.storeA 2 rfl rfl rfl rfl (by first | rfl | assumption) (by first | rfl | assumption) (by first | rfl | assumption) ?_)
  with_reducible refine JL.nil ?_
  with_reducible refine JQ.seq (JC.seq ?_)
  with_reducible refine JC.region ?_
  refine JL.op (JO.val (y_assign) rfl ?_)
  with_reducible refine JL.nil ?_
  with_reducible refine JQ.seq (JC.seq (JC.seq ?_))
  with_reducible refine JC.region ?_
  refine JL.op (JO.val (y_move) rfl ?_)
  refine JL.op (JO.val (y_len rfl rfl) rfl ?_)
  refine JL.op (JO.val (y_move) rfl ?_)
  with_reducible refine JL.nil ?_
  refine JQ.env (S := [(some b2, 28, [.slice Ap s.ps.length cp, .slice Ar s.rs.length cr, .int .i64 s.ep, .slice Am s.ms.length cm]), (some b4, 28, [.slice none 0 0, .slice none 0 0, .int .i64 0, .slice none 0 0]), (some b6, 28, cs0)]) (l := [(2, .pointer (some ⟨b2, 0, none⟩)), (4, .pointer (some ⟨b4, 0, none⟩)), (5, .slice none 0 0), (6, .pointer (some ⟨b6, 0, none⟩)), (7, .slice none 0 0), (13, .slice Aq qs.length cq), (14, .int .i64 (qs.length : Nat)), (15, .int .i64 0)]) ⟨rfl, rfl, rfl, rfl, rfl, rfl, rfl, rfl, trivial⟩ (fun E => ?_)
  with_reducible refine JQ.seq (JC.block ?_)
  refine JC.addNone 45 ?_
  refine JC.loop (fun m E S F' w1' => ∃ k ob cap' cur cs', ∃ hs : List (LReply × Option Addr × Nat), m = qs.length - k ∧ k ≤ qs.length ∧ hs.length = k ∧ hs.map (·.1) = allR s (qs.take k) ∧ Row ob k cap' 4 cur ∧ cur.take (k * 4) = hs.flatMap rcells ∧ OState (fun b => F' b ∧ w.heap.size ≤ b) w1' cs' (allD s (qs.take k)) ∧ S = [(some b2, 28, [.slice Ap s.ps.length cp, .slice Ar s.rs.length cr, .int .i64 s.ep, .slice Am s.ms.length cm]), (some b4, 28, [.slice none 0 0, .slice none 0 0, .int .i64 0, .slice none 0 0]), (some b6, 28, cs'), (ob, 45, cur)] ∧ Step F w F' w1' ∧ w.heap.size ≤ w1'.heap.size ∧
      Has E [(2, .pointer (some ⟨b2, 0, none⟩)), (4, .pointer (some ⟨b4, 0, none⟩)), (5, .slice none 0 0), (6, .pointer (some ⟨b6, 0, none⟩)), (7, .slice (ob.map mkA) k cap'), (13, .slice Aq qs.length cq), (14, .int .i64 (qs.length : Nat)), (15, .int .i64 (k : Nat))])
    _ ⟨0, none, 0, [], cs0, [], rfl, Nat.zero_le _, rfl, rfl, Row.none _, rfl, hos, rfl, hst, hsw, ⟨rfl, rfl, rfl, rfl, rfl, rfl, rfl, rfl, trivial⟩⟩ ?_
  clear hos hst hfr hst0
  rintro m E S F' w1' ⟨k, ob, cap', cur, cs', hs, rfl, hk, hkl, hmap, hrow, htk, hos, rfl, hst, hsw1, hE⟩
  obtain ⟨hl4', hl1'⟩ := hos.four
  refine JC.env hE (fun E => ?_)
  with_reducible refine JC.seq ?_
  with_reducible refine JC.region ?_
  refine JL.op (JO.val (y_lss rfl rfl) rfl ?_)
  with_reducible refine JL.nil ?_
  with_reducible refine JQ.seq (JC.seq ?_)
  by_cases hlt : k < qs.length
  · have hd : decide ((k : Int) < (qs.length : Int)) = true := by simpa using hlt
    refine JC.cond_true (congrArg Value.bool hd) ?_
    obtain ⟨y, hy⟩ : ∃ y, qs[k]? = some y := ⟨qs[k]'hlt, List.getElem?_eq_getElem hlt⟩
    have hyw := hqw y (List.mem_of_getElem? hy)
    have hyl := LReq.len_cells hyw
    have hy1 := LReq.all1 hyw
    have hfk : Fit 900 (allD s (qs.take k)) := (hfit.all (fun q hq => hqw q (List.mem_of_mem_take hq))).mono (by rw [List.length_take]; omega)
    obtain ⟨b, o, hA, hat⟩ := SlF.elem (hq.step hst) (fun q hq => LReq.len_cells (hqw q hq)) rfl hy
    with_reducible refine JC.skip (JQ.seq (JC.seq (JC.block (JC.seq ?_))))
    with_reducible refine JC.region ?_
    refine JL.op (JO.val (y_idx (b := b) (o := o) rfl rfl rfl rfl hA rfl hlt) rfl ?_)
    refine JL.op (JO.val (y_lddA rfl rfl hat (by first | rfl | assumption)) rfl ?_)
    refine JL.op (JO.alloc rfl rfl ?_); intro b9
    refine JL.op (JO.storeA 4 rfl rfl rfl rfl (by first | rfl | assumption) (by first | rfl | assumption) (by first | rfl | assumption) ?_)
    with_reducible refine JL.nil ?_
    with_reducible refine JQ.seq (JC.seq ?_)
    with_reducible refine JC.region ?_
    refine JL.op (JO.alloc rfl rfl ?_); intro b10
    with_reducible refine JL.nil ?_
    with_reducible refine JQ.seq (JC.seq ?_)
    with_reducible refine JC.region ?_
    refine JL.op (JO.val (y_ldA 2 rfl rfl rfl hl4') rfl ?_)
    refine JL.op (JO.val (y_ldA 4 rfl rfl rfl (by first | rfl | assumption)) rfl ?_)
    refine JL.op (JO.call _ (fun wc hc => apply_any _ _ _ y wc (hos.reads.step (hc.step.mono (fun _ h => h.1) (fun _ h => h))) hfk.wf (hfk.size.small (by omega)) hfk.ord hyw ((htab.step hst).step hc.step)) rfl rfl rfl ?_)
    rintro wc v wn hst2 hsz2 hfr2 hbl2 hst02 ⟨cs2, A2, cap2, rfl, hos2, hov2⟩
    obtain ⟨hl5, hl6⟩ := hos2.four
    replace hos2 := hos2.weak (fun b hb => (⟨hfr2 b hb.1, Nat.le_trans (Nat.le_trans hsw1 hsz2) hb.1⟩ : _ ∧ w.heap.size ≤ b))
    have hsw2 : w.heap.size ≤ wn.heap.size := Nat.le_trans hsw1 (Nat.le_trans hsz2 hbl2.size)
    replace hst2 := hst.trans hst2 hsw1
    refine JL.op (JO.val (y_move) rfl ?_)
    refine JL.op (JO.val (y_extract rfl rfl) rfl ?_)
    refine JL.op (JO.val (y_extract rfl rfl) rfl ?_)
    refine JL.op (JO.storeA 2 rfl rfl rfl rfl (by first | rfl | assumption) (by first | rfl | assumption) (by first | rfl | assumption) ?_)
    refine JL.op (JO.storeA 5 rfl rfl rfl rfl (by first | rfl | assumption) (by first | rfl | assumption) (by first | rfl | assumption) ?_)
    with_reducible refine JL.nil ?_
    with_reducible refine JQ.seq ?_
    with_reducible refine JC.region ?_
    refine JL.op (JO.val (y_move) rfl ?_)
    refine JL.op (JO.val (y_ldA 5 rfl rfl rfl rfl) rfl ?_)
    refine JL.op (JO.build1 rfl rfl rfl (by first | rfl | assumption) rfl rfl ?_); intro b27
    refine JL.op (JO.append 3 (ob := ob) (rcells ((applyD (allD s (qs.take k)) y).2, A2, cap2)) rfl rfl rfl rfl rfl rfl rfl hrow (by first | rfl | omega) (fun h => by cases h) (fun w2 hc => hc.src (i := 6) rfl) (rcells_one _) (room_max2 (by omega)) (by omega) ?_)
    intro ob' cap'' cur' hrow' htk' _
    refine JL.op (JO.val (y_assign) rfl ?_)
    with_reducible refine JL.nil ?_
    with_reducible refine JQ.blk (JQ.seq ?_)
    with_reducible refine JC.region ?_
    refine JL.op (JO.val (y_add rfl rfl (natAdd hk (by omega))) rfl ?_)
    refine JL.op (JO.val (y_move) rfl ?_)
    with_reducible refine JL.nil ?_
    refine JQ.takeN 4 ?_
    refine JQ.loop (qs.length - (k + 1)) ⟨k + 1, ob', cap'', cur', cs2, hs ++ [((applyD (allD s (qs.take k)) y).2, A2, cap2)], rfl, by omega, by rw [List.length_append, hkl]; rfl, ?_, hrow', cur_snoc htk htk', ?_, rfl, hst2, hsw2, ⟨rfl, rfl, rfl, rfl, rfl, rfl, rfl, rfl, trivial⟩⟩ (by omega)
    · rw [take_snoc hy, allR_snoc, List.map_append, hmap]; rfl
    · rw [take_snoc hy, allD_snoc]; exact hos2
  · have hd : decide ((k : Int) < (qs.length : Int)) = false := by simpa using hlt
    refine JC.cond_false (congrArg Value.bool hd) ?_
    obtain rfl : k = qs.length := by omega
    rw [List.take_length] at hmap hos
    with_reducible refine JC.exit (JQ.seq_exit (JQ.loop_exit (JQ.blk_here (JQ.seq (JC.seq ?_)))))
    with_reducible refine JC.region ?_
    refine JL.op (JO.val (y_ldA 2 rfl rfl rfl hl4') rfl ?_)
    refine JL.op (JO.val (y_move) rfl ?_)
    refine JL.op (JO.storeA 1 rfl rfl rfl rfl (by first | rfl | assumption) (by first | rfl | assumption) (by first | rfl | assumption) ?_)
    refine JL.op (JO.val (y_assign) rfl ?_)
    with_reducible refine JL.nil ?_
    with_reducible refine JQ.seq (JC.ret ?_)
    refine ret_two rfl (ResV.cellA 1 rfl rfl rfl hl4') ResV.tmp (fun w' hc => ?_)
    exact ⟨cs', _, cap', hs, rfl, (hos.step (hc.step.and _)).weak (fun b hb => hb.2), hmap, ob, cur, rfl, hrow, htk, fun b hb => hc.own0 rfl _ (List.mem_of_getElem? (i := 3) rfl) b hb⟩
end Go.Proofs.YtchnnplcpidkiaaDoor
