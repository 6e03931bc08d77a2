/- Contracts of HasPrefix, ref09.Texts, ref09.Same, ref08.Same, ref10.Same at equal data, state.Get; no condition but bounds on lengths. -/
import Derived.Test.YtchnnplcpidkiaaDoorE1
namespace Go.Proofs.YtchnnplcpidkiaaDoor
open Go.RowKit
set_option linter.unusedSimpArgs false
set_option linter.unusedVariables false
set_option maxRecDepth 20000
set_option maxHeartbeats 1000000

def hasPre (s p : ByteArray) : Bool := decide ((p.size : Int) ≤ (s.size : Int)) && ((s.extract 0 p.size).toList == p.toList)
theorem prefix_any (s p : ByteArray) (w : World) : CallsTo 72 #[.string s, .string p] w (fun v _ => v = .bool (hasPre s p)) := by
  refine CallsTo.enter 18 (fun _ => True) (fun _ => True) Tryd.func72 rfl rfl rfl rfl (by intros; first | trivial | assumption) ?_
  with_reducible refine JC.seq ?_
  with_reducible refine JC.region ?_
  refine JL.op (JO.val (y_assign) rfl ?_)
  with_reducible refine JL.nil ?_
  with_reducible refine JQ.seq (JC.seq ?_)
  refine JC.cutS [(4, .bool (hasPre s p))] ?_ (fun E => ?_)
  · with_reducible refine JC.region ?_
    refine JL.op (JO.val (y_move) rfl ?_)
    refine JL.op (JO.val (y_lens rfl rfl) rfl ?_)
    refine JL.op (JO.val (y_move) rfl ?_)
    refine JL.op (JO.val (y_lens rfl rfl) rfl ?_)
    refine JL.op (JO.val (y_geq rfl rfl) rfl ?_)
    refine JL.op (JO.val (y_move) rfl ?_)
    refine JL.split (d := 10) rfl (fun hg5 => ?_) (fun hg5 => ?_)
    · refine JL.op_do rfl rfl (congrArg Value.bool hg5) (JO.val (y_move) rfl ?_)
      refine JL.op_do rfl rfl (congrArg Value.bool hg5) (JO.val (y_move) rfl ?_)
      refine JL.op_do rfl rfl (congrArg Value.bool hg5) (JO.val (y_lens rfl rfl) rfl ?_)
      refine JL.op_do rfl rfl (congrArg Value.bool hg5) (JO.val (y_head rfl rfl rfl (by simp only [decide_eq_true_eq] at hg5; omega)) rfl ?_)
      refine JL.op_do rfl rfl (congrArg Value.bool hg5) (JO.val (y_move) rfl ?_)
      refine JL.op_do rfl rfl (congrArg Value.bool hg5) (JO.val (y_eqs rfl rfl) rfl ?_)
      refine JL.op (JO.val (y_pick (congrArg Value.bool hg5)) rfl ?_)
      refine JL.op (JO.val (y_assign) rfl ?_)
      with_reducible refine JL.nil ?_
      (refine JQ.has ⟨congrArg Value.bool ?_, trivial⟩ (fun _ h => h); (simp_all [hasPre]; done))
    · refine JL.op_skip rfl rfl (congrArg Value.bool hg5) rfl ?_
      refine JL.op_skip rfl rfl (congrArg Value.bool hg5) rfl ?_
      refine JL.op_skip rfl rfl (congrArg Value.bool hg5) rfl ?_
      refine JL.op_skip rfl rfl (congrArg Value.bool hg5) rfl ?_
      refine JL.op_skip rfl rfl (congrArg Value.bool hg5) rfl ?_
      refine JL.op_skip rfl rfl (congrArg Value.bool hg5) rfl ?_
      refine JL.op (JO.val (y_pick (congrArg Value.bool hg5)) rfl ?_)
      refine JL.op (JO.val (y_assign) rfl ?_)
      with_reducible refine JL.nil ?_
      (refine JQ.has ⟨congrArg Value.bool ?_, trivial⟩ (fun _ h => h); (rw [Bool.eq_iff_iff]; simp_all [hasPre]; omega))
  with_reducible refine JQ.seq (JC.ret ?_)
  exact ret_one rfl ResV.tmp (fun w _ => rfl)
theorem prefix2_any (s p : ByteArray) (w : World) : CallsTo 50 #[.string s, .string p] w (fun v _ => v = .bool (hasPre s p)) := by
  refine CallsTo.enter 8 (fun _ => True) (fun _ => True) Tryd.func50 rfl rfl rfl rfl (by intros; first | trivial | assumption) ?_
  with_reducible refine JC.seq ?_
  with_reducible refine JC.region ?_
  refine JL.op (JO.val (y_assign) rfl ?_)
  with_reducible refine JL.nil ?_
  with_reducible refine JQ.seq (JC.seq ?_)
  with_reducible refine JC.region ?_
  refine JL.op (JO.val (y_move) rfl ?_)
  refine JL.op (JO.val (y_move) rfl ?_)
  refine JL.op (JO.callv (fun wc hc => prefix_any s p wc) rfl rfl rfl ?_)
  refine JL.op (JO.val (y_assign) rfl ?_)
  with_reducible refine JL.nil ?_
  with_reducible refine JQ.seq (JC.ret ?_)
  exact ret_one rfl ResV.tmp (fun w _ => rfl)
theorem texts_same (F : Nat → Prop) (A B : Option Addr) (cap cap' : Nat) (ss : List ByteArray) (w : World) (h : RStrs F w A cap ss) (h' : RStrs F w B cap' ss) (hn : ss.length ≤ 100000) :
    CallsTo 36 #[.slice A ss.length cap, .slice B ss.length cap'] w (fun v _ => v = .bool true) := by
  refine CallsTo.enter 26 (fun _ => True) F Tryd.func36 rfl rfl rfl rfl (by intros; first | trivial | assumption) ?_
  with_reducible refine JC.seq ?_
  with_reducible refine JC.region ?_
  refine JL.op (JO.val (y_assign) rfl ?_)
  with_reducible refine JL.nil ?_
  with_reducible refine JQ.seq (JC.seq (JC.seq ?_))
  with_reducible refine JC.region ?_
  refine JL.op (JO.val (y_move) rfl ?_)
  refine JL.op (JO.val (y_len rfl rfl) rfl ?_)
  refine JL.op (JO.val (y_move) rfl ?_)
  refine JL.op (JO.val (y_len rfl rfl) rfl ?_)
  refine JL.op (JO.val (y_neq rfl rfl) rfl ?_)
  with_reducible refine JL.nil ?_
  with_reducible refine JQ.seq ?_
  refine JC.cond_false (congrArg Value.bool (by simp)) ?_
  with_reducible refine JC.skip (JQ.seq (JC.seq (JC.seq ?_)))
  with_reducible refine JC.region ?_
  refine JL.op (JO.val (y_move) rfl ?_)
  refine JL.op (JO.val (y_len rfl rfl) rfl ?_)
  refine JL.op (JO.val (y_move) rfl ?_)
  with_reducible refine JL.nil ?_
  with_reducible refine JQ.seq (JC.block ?_)
  refine JC.loop (fun m E S F' w1' => ∃ k : Nat, m = ss.length - k ∧ k ≤ ss.length ∧ S = [] ∧ F' = F ∧ w1' = w ∧ Has E [(0, .slice A ss.length cap), (1, .slice B ss.length cap'), (12, .int .i64 (ss.length : Nat)), (13, .int .i64 (k : Nat))])
    _ ⟨0, rfl, Nat.zero_le _, rfl, rfl, rfl, ⟨rfl, rfl, rfl, rfl, trivial⟩⟩ ?_
  rintro m E S F' w1' ⟨k, rfl, hk, rfl, rfl, rfl, hE⟩
  refine JC.env hE (fun E => ?_)
  with_reducible refine JC.seq ?_
  with_reducible refine JC.region ?_
  refine JL.op (JO.val (y_lss rfl rfl) rfl ?_)
  with_reducible refine JL.nil ?_
  with_reducible refine JQ.seq (JC.seq ?_)
  by_cases hlt : k < ss.length
  · have hd : decide ((k : Int) < (ss.length : Int)) = true := by simpa using hlt
    refine JC.cond_true (congrArg Value.bool hd) ?_
    obtain ⟨x, hx⟩ : ∃ x, ss[k]? = some x := ⟨ss[k], by simp [hlt]⟩
    obtain ⟨b, o, hA, hat⟩ := SlF.elem h (fun s _ => rfl) rfl hx
    obtain ⟨b', o', hA', hat'⟩ := SlF.elem h' (fun s _ => rfl) rfl hx
    with_reducible refine JC.skip (JQ.seq (JC.seq (JC.block (JC.seq ?_))))
    with_reducible refine JC.region ?_
    refine JL.op (JO.val (y_move) rfl ?_)
    refine JL.op (JO.val (y_assign) rfl ?_)
    with_reducible refine JL.nil ?_
    with_reducible refine JQ.seq (JC.seq ?_)
    refine JC.quiet (by kernel_rfl) ?_
    first | refine JT.val (y_move) rfl ?_
    first | refine JT.val (y_move) rfl ?_
    refine JT.val (y_idx (b := b) (o := o) rfl rfl rfl rfl hA rfl hlt) rfl ?_
    refine JT.val (y_ldd rfl rfl hat) rfl ?_
    first | refine JT.val (y_move) rfl ?_
    first | refine JT.val (y_move) rfl ?_
    refine JT.val (y_idx (b := b') (o := o') rfl rfl rfl rfl hA' rfl hlt) rfl ?_
    refine JT.val (y_ldd rfl rfl hat') rfl ?_
    first | refine JT.val (y_nes rfl rfl) rfl ?_
    refine JT.nil ?_
    with_reducible refine JQ.seq ?_
    refine JC.cond_false (congrArg Value.bool (by simp)) ?_
    with_reducible refine JC.skip (JQ.blk (JQ.seq ?_))
    with_reducible refine JC.region ?_
    refine JL.op (JO.val (y_add rfl rfl (natAdd hk hn)) rfl ?_)
    refine JL.op (JO.val (y_move) rfl ?_)
    with_reducible refine JL.nil ?_
    refine JQ.loop (ss.length - (k + 1)) ⟨k + 1, rfl, hlt, rfl, rfl, rfl, ⟨rfl, rfl, rfl, rfl, trivial⟩⟩ (by omega)
  · have hd : decide ((k : Int) < (ss.length : Int)) = false := by simpa using hlt
    refine JC.cond_false (congrArg Value.bool hd) ?_
    with_reducible refine JC.exit (JQ.seq_exit (JQ.loop_exit (JQ.blk_here (JQ.seq (JC.seq ?_)))))
    with_reducible refine JC.region ?_
    refine JL.op (JO.val (y_assign) rfl ?_)
    with_reducible refine JL.nil ?_
    with_reducible refine JQ.seq (JC.ret ?_)
    exact ret_one rfl ResV.tmp (fun w _ => rfl)
theorem same9_same (F : Nat → Prop) (cs cs' : List Value) (r : LReply) (w : World) (h : RReply F w cs r) (h' : RReply F w cs' r) (hn : r.vals.length ≤ 100000) :
    CallsTo 12 #[.agg cs.toArray, .agg cs'.toArray] w (fun v _ => v = .bool true) := by
  obtain ⟨A, cap, rfl, hs⟩ := h.form
  obtain ⟨B, cap', rfl, hs'⟩ := h'.form
  refine CallsTo.enter 31 (fun _ => True) F Tryd.func12 rfl rfl rfl rfl (by intros; first | trivial | assumption) ?_
  with_reducible refine JC.seq ?_
  with_reducible refine JC.region ?_
  refine JL.op (JO.box rfl rfl ?_); intro b2
  refine JL.op (JO.box rfl rfl ?_); intro b3
  refine JL.op (JO.val (y_assign) rfl ?_)
  with_reducible refine JL.nil ?_
  with_reducible refine JQ.seq (JC.seq ?_)
  refine JC.cutS [(4, .bool true)] ?_ (fun E => ?_)
  · with_reducible refine JC.region ?_
    refine JL.op (JO.val (y_fieldAddr rfl rfl rfl) rfl ?_)
    refine JL.op (JO.val (y_ld 0 rfl rfl rfl rfl) rfl ?_)
    refine JL.op (JO.val (y_fieldAddr rfl rfl rfl) rfl ?_)
    refine JL.op (JO.val (y_ld 1 rfl rfl rfl rfl) rfl ?_)
    refine JL.op (JO.val (y_eql rfl rfl) rfl ?_)
    refine JL.op (JO.val (y_move) rfl ?_)
    refine JL.split (d := 10) rfl (fun hg5 => ?_) (fun hg5 => ?_)
    · refine JL.op_do rfl rfl (congrArg Value.bool hg5) (JO.val (y_fieldAddr rfl rfl rfl) rfl ?_)
      refine JL.op_do rfl rfl (congrArg Value.bool hg5) (JO.val (y_ld 0 rfl rfl rfl rfl) rfl ?_)
      refine JL.op_do rfl rfl (congrArg Value.bool hg5) (JO.val (y_fieldAddr rfl rfl rfl) rfl ?_)
      refine JL.op_do rfl rfl (congrArg Value.bool hg5) (JO.val (y_ld 1 rfl rfl rfl rfl) rfl ?_)
      refine JL.op_do rfl rfl (congrArg Value.bool hg5) (JO.val (y_eql rfl rfl) rfl ?_)
      refine JL.op (JO.val (y_pick (congrArg Value.bool hg5)) rfl ?_)
      refine JL.op (JO.val (y_move) rfl ?_)
      refine JL.split (d := 17) rfl (fun hg12 => ?_) (fun hg12 => ?_)
      · refine JL.op_do rfl rfl (congrArg Value.bool hg12) (JO.val (y_fieldAddr rfl rfl rfl) rfl ?_)
        refine JL.op_do rfl rfl (congrArg Value.bool hg12) (JO.val (y_ld 0 rfl rfl rfl rfl) rfl ?_)
        refine JL.op_do rfl rfl (congrArg Value.bool hg12) (JO.val (y_fieldAddr rfl rfl rfl) rfl ?_)
        refine JL.op_do rfl rfl (congrArg Value.bool hg12) (JO.val (y_ld 1 rfl rfl rfl rfl) rfl ?_)
        refine JL.op_do rfl rfl (congrArg Value.bool hg12) (JO.val (y_eql rfl rfl) rfl ?_)
        refine JL.op (JO.val (y_pick (congrArg Value.bool hg12)) rfl ?_)
        refine JL.op (JO.val (y_move) rfl ?_)
        refine JL.split (d := 24) rfl (fun hg19 => ?_) (fun hg19 => ?_)
        · refine JL.op_do rfl rfl (congrArg Value.bool hg19) (JO.val (y_fieldAddr rfl rfl rfl) rfl ?_)
          refine JL.op_do rfl rfl (congrArg Value.bool hg19) (JO.val (y_ld 0 rfl rfl rfl rfl) rfl ?_)
          refine JL.op_do rfl rfl (congrArg Value.bool hg19) (JO.val (y_fieldAddr rfl rfl rfl) rfl ?_)
          refine JL.op_do rfl rfl (congrArg Value.bool hg19) (JO.val (y_ld 1 rfl rfl rfl rfl) rfl ?_)
          refine JL.op_do rfl rfl (congrArg Value.bool hg19) (JO.callv (fun wc hc => texts_same _ A B cap cap' r.vals wc (hs.step hc.step) (hs'.step hc.step) hn) rfl rfl rfl ?_)
          refine JL.op (JO.val (y_pick (congrArg Value.bool hg19)) rfl ?_)
          refine JL.op (JO.val (y_assign) rfl ?_)
          with_reducible refine JL.nil ?_
          refine JQ.has ⟨rfl, trivial⟩ (fun _ h => h)
        · refine JL.op_skip rfl rfl (congrArg Value.bool hg19) rfl ?_
          refine JL.op_skip rfl rfl (congrArg Value.bool hg19) rfl ?_
          refine JL.op_skip rfl rfl (congrArg Value.bool hg19) rfl ?_
          refine JL.op_skip rfl rfl (congrArg Value.bool hg19) rfl ?_
          refine JL.op_skip rfl rfl (congrArg Value.bool hg19) rfl ?_
          refine JL.op (JO.val (y_pick (congrArg Value.bool hg19)) rfl ?_)
          refine JL.op (JO.val (y_assign) rfl ?_)
          with_reducible refine JL.nil ?_
          (refine JQ.has ⟨congrArg Value.bool ?_, trivial⟩ (fun _ h => h); (simp_all []; done))
      · refine JL.op_skip rfl rfl (congrArg Value.bool hg12) rfl ?_
        refine JL.op_skip rfl rfl (congrArg Value.bool hg12) rfl ?_
        refine JL.op_skip rfl rfl (congrArg Value.bool hg12) rfl ?_
        refine JL.op_skip rfl rfl (congrArg Value.bool hg12) rfl ?_
        refine JL.op_skip rfl rfl (congrArg Value.bool hg12) rfl ?_
        refine JL.op (JO.val (y_pick (congrArg Value.bool hg12)) rfl ?_)
        refine JL.op (JO.val (y_move) rfl ?_)
        refine JL.op_skip rfl rfl rfl rfl ?_
        refine JL.op_skip rfl rfl rfl rfl ?_
        refine JL.op_skip rfl rfl rfl rfl ?_
        refine JL.op_skip rfl rfl rfl rfl ?_
        refine JL.op_skip rfl rfl rfl rfl ?_
        refine JL.op (JO.val (y_pick rfl) rfl ?_)
        refine JL.op (JO.val (y_assign) rfl ?_)
        with_reducible refine JL.nil ?_
        (refine JQ.has ⟨congrArg Value.bool ?_, trivial⟩ (fun _ h => h); (simp_all []; done))
    · refine JL.op_skip rfl rfl (congrArg Value.bool hg5) rfl ?_
      refine JL.op_skip rfl rfl (congrArg Value.bool hg5) rfl ?_
      refine JL.op_skip rfl rfl (congrArg Value.bool hg5) rfl ?_
      refine JL.op_skip rfl rfl (congrArg Value.bool hg5) rfl ?_
      refine JL.op_skip rfl rfl (congrArg Value.bool hg5) rfl ?_
      refine JL.op (JO.val (y_pick (congrArg Value.bool hg5)) rfl ?_)
      refine JL.op (JO.val (y_move) rfl ?_)
      refine JL.op_skip rfl rfl rfl rfl ?_
      refine JL.op_skip rfl rfl rfl rfl ?_
      refine JL.op_skip rfl rfl rfl rfl ?_
      refine JL.op_skip rfl rfl rfl rfl ?_
      refine JL.op_skip rfl rfl rfl rfl ?_
      refine JL.op (JO.val (y_pick rfl) rfl ?_)
      refine JL.op (JO.val (y_move) rfl ?_)
      refine JL.op_skip rfl rfl rfl rfl ?_
      refine JL.op_skip rfl rfl rfl rfl ?_
      refine JL.op_skip rfl rfl rfl rfl ?_
      refine JL.op_skip rfl rfl rfl rfl ?_
      refine JL.op_skip rfl rfl rfl rfl ?_
      refine JL.op (JO.val (y_pick rfl) rfl ?_)
      refine JL.op (JO.val (y_assign) rfl ?_)
      with_reducible refine JL.nil ?_
      (refine JQ.has ⟨congrArg Value.bool ?_, trivial⟩ (fun _ h => h); (simp_all []; done))
  with_reducible refine JQ.seq (JC.ret ?_)
  exact ret_one rfl ResV.tmp (fun w _ => rfl)
theorem same8_same (F : Nat → Prop) (ep : Int) (A B : Option Addr) (cap cap' : Nat) (ms : List LMember) (w : World) (h : RMems F w A cap ms) (h' : RMems F w B cap' ms) (hn : ms.length ≤ 100000) (hwf : ∀ m ∈ ms, m.wf) :
    CallsTo 35 #[.agg [.int .i64 ep, .slice A ms.length cap].toArray, .agg [.int .i64 ep, .slice B ms.length cap'].toArray] w (fun v _ => v = .bool true) := by
  refine CallsTo.enter 38 (fun _ => True) F Tryd.func35 rfl rfl rfl rfl (by intros; first | trivial | assumption) ?_
  with_reducible refine JC.seq ?_
  with_reducible refine JC.region ?_
  refine JL.op (JO.box rfl rfl ?_); intro b2
  refine JL.op (JO.box rfl rfl ?_); intro b3
  refine JL.op (JO.val (y_assign) rfl ?_)
  with_reducible refine JL.nil ?_
  with_reducible refine JQ.seq (JC.seq (JC.seq ?_))
  refine JC.cutS [(2, .pointer (some ⟨b2, 0, none⟩)), (3, .pointer (some ⟨b3, 0, none⟩)), (19, .bool false)] ?_ (fun E => ?_)
  · with_reducible refine JC.region ?_
    refine JL.op (JO.val (y_fieldAddr rfl rfl rfl) rfl ?_)
    refine JL.op (JO.val (y_ld 0 rfl rfl rfl rfl) rfl ?_)
    refine JL.op (JO.val (y_fieldAddr rfl rfl rfl) rfl ?_)
    refine JL.op (JO.val (y_ld 1 rfl rfl rfl rfl) rfl ?_)
    refine JL.op (JO.val (y_neq rfl rfl) rfl ?_)
    refine JL.op (JO.val (y_move) rfl ?_)
    refine JL.split (d := 11) rfl (fun hg5 => ?_) (fun hg5 => ?_)
    · refine JL.op_skip rfl rfl (congrArg Value.bool hg5) rfl ?_
      refine JL.op_skip rfl rfl (congrArg Value.bool hg5) rfl ?_
      refine JL.op_skip rfl rfl (congrArg Value.bool hg5) rfl ?_
      refine JL.op_skip rfl rfl (congrArg Value.bool hg5) rfl ?_
      refine JL.op_skip rfl rfl (congrArg Value.bool hg5) rfl ?_
      refine JL.op_skip rfl rfl (congrArg Value.bool hg5) rfl ?_
      refine JL.op_skip rfl rfl (congrArg Value.bool hg5) rfl ?_
      refine JL.op (JO.val (y_pick (congrArg Value.bool hg5)) rfl ?_)
      with_reducible refine JL.nil ?_
      (refine JQ.has ⟨rfl, rfl, congrArg Value.bool ?_, trivial⟩ (fun _ h => h); (simp_all []; done))
    · refine JL.op_do rfl rfl (congrArg Value.bool hg5) (JO.val (y_fieldAddr rfl rfl rfl) rfl ?_)
      refine JL.op_do rfl rfl (congrArg Value.bool hg5) (JO.val (y_ld 0 rfl rfl rfl rfl) rfl ?_)
      refine JL.op_do rfl rfl (congrArg Value.bool hg5) (JO.val (y_len rfl rfl) rfl ?_)
      refine JL.op_do rfl rfl (congrArg Value.bool hg5) (JO.val (y_fieldAddr rfl rfl rfl) rfl ?_)
      refine JL.op_do rfl rfl (congrArg Value.bool hg5) (JO.val (y_ld 1 rfl rfl rfl rfl) rfl ?_)
      refine JL.op_do rfl rfl (congrArg Value.bool hg5) (JO.val (y_len rfl rfl) rfl ?_)
      refine JL.op_do rfl rfl (congrArg Value.bool hg5) (JO.val (y_neq rfl rfl) rfl ?_)
      refine JL.op (JO.val (y_pick (congrArg Value.bool hg5)) rfl ?_)
      with_reducible refine JL.nil ?_
      (refine JQ.has ⟨rfl, rfl, congrArg Value.bool ?_, trivial⟩ (fun _ h => h); (simp_all []; done))
  with_reducible refine JQ.seq ?_
  refine JC.cond_false rfl ?_
  with_reducible refine JC.skip (JQ.seq (JC.seq (JC.seq ?_)))
  with_reducible refine JC.region ?_
  refine JL.op (JO.val (y_fieldAddr rfl rfl rfl) rfl ?_)
  refine JL.op (JO.val (y_ld 0 rfl rfl rfl rfl) rfl ?_)
  refine JL.op (JO.val (y_len rfl rfl) rfl ?_)
  refine JL.op (JO.val (y_move) rfl ?_)
  with_reducible refine JL.nil ?_
  with_reducible refine JQ.seq (JC.block ?_)
  refine JC.loop (fun m E S F' w1' => ∃ k : Nat, m = ms.length - k ∧ k ≤ ms.length ∧ S = [(some b2, 26, [.int .i64 ep, .slice A ms.length cap]), (some b3, 26, [.int .i64 ep, .slice B ms.length cap'])] ∧ F' = F ∧ w1' = w ∧ Has E [(2, .pointer (some ⟨b2, 0, none⟩)), (3, .pointer (some ⟨b3, 0, none⟩)), (22, .int .i64 (ms.length : Nat)), (23, .int .i64 (k : Nat))])
    _ ⟨0, rfl, Nat.zero_le _, rfl, rfl, rfl, ⟨rfl, rfl, rfl, rfl, trivial⟩⟩ ?_
  rintro m E S F' w1' ⟨k, rfl, hk, rfl, rfl, rfl, hE⟩
  refine JC.env hE (fun E => ?_)
  with_reducible refine JC.seq ?_
  with_reducible refine JC.region ?_
  refine JL.op (JO.val (y_lss rfl rfl) rfl ?_)
  with_reducible refine JL.nil ?_
  with_reducible refine JQ.seq (JC.seq ?_)
  by_cases hlt : k < ms.length
  · have hd : decide ((k : Int) < (ms.length : Int)) = true := by simpa using hlt
    refine JC.cond_true (congrArg Value.bool hd) ?_
    obtain ⟨x, hx⟩ : ∃ x, ms[k]? = some x := ⟨ms[k], by simp [hlt]⟩
    have hxw := hwf x (List.mem_of_getElem? hx)
    have hxl := LMember.len_cells hxw
    have hx1 := LMember.all1 hxw
    obtain ⟨b, o, hA, hat⟩ := SlF.elem h (fun m hm => LMember.len_cells (hwf m hm)) rfl hx
    obtain ⟨b', o', hA', hat'⟩ := SlF.elem h' (fun m hm => LMember.len_cells (hwf m hm)) rfl hx
    with_reducible refine JC.skip (JQ.seq (JC.seq (JC.block (JC.seq ?_))))
    with_reducible refine JC.region ?_
    refine JL.op (JO.val (y_move) rfl ?_)
    refine JL.op (JO.val (y_assign) rfl ?_)
    with_reducible refine JL.nil ?_
    with_reducible refine JQ.seq (JC.seq ?_)
    refine JC.quiet (by kernel_rfl) ?_
    first | refine JT.val (y_fieldAddr rfl rfl rfl) rfl ?_
    refine JT.val (y_ld 0 rfl rfl rfl rfl) rfl ?_
    first | refine JT.val (y_move) rfl ?_
    refine JT.val (y_idx (b := b) (o := o) rfl rfl rfl rfl hA rfl hlt) rfl ?_
    refine JT.val (y_lddA rfl rfl hat (by first | rfl | assumption)) rfl ?_
    first | refine JT.val (y_fieldAddr rfl rfl rfl) rfl ?_
    refine JT.val (y_ld 1 rfl rfl rfl rfl) rfl ?_
    first | refine JT.val (y_move) rfl ?_
    refine JT.val (y_idx (b := b') (o := o') rfl rfl rfl rfl hA' rfl hlt) rfl ?_
    refine JT.val (y_lddA rfl rfl hat' (by first | rfl | assumption)) rfl ?_
    refine JT.val (y_neqSame kt55 Tryd.eqGuardType55 Tryd.underlying55 (by rw [cells55]; exact hxl) (kl_member hxw) rfl rfl) rfl ?_
    refine JT.nil ?_
    with_reducible refine JQ.seq ?_
    refine JC.cond_false rfl ?_
    with_reducible refine JC.skip (JQ.blk (JQ.seq ?_))
    with_reducible refine JC.region ?_
    refine JL.op (JO.val (y_add rfl rfl (natAdd hk hn)) rfl ?_)
    refine JL.op (JO.val (y_move) rfl ?_)
    with_reducible refine JL.nil ?_
    refine JQ.loop (ms.length - (k + 1)) ⟨k + 1, rfl, hlt, rfl, rfl, rfl, ⟨rfl, rfl, rfl, rfl, trivial⟩⟩ (by omega)
  · have hd : decide ((k : Int) < (ms.length : Int)) = false := by simpa using hlt
    refine JC.cond_false (congrArg Value.bool hd) ?_
    with_reducible refine JC.exit (JQ.seq_exit (JQ.loop_exit (JQ.blk_here (JQ.seq (JC.seq ?_)))))
    with_reducible refine JC.region ?_
    refine JL.op (JO.val (y_assign) rfl ?_)
    with_reducible refine JL.nil ?_
    with_reducible refine JQ.seq (JC.ret ?_)
    exact ret_one rfl ResV.tmp (fun w _ => rfl)
theorem map_at {α β : Type} {f : α → β} {xs : List α} {ys : List β} (h : xs.map f = ys) {k : Nat} {y : β} (hy : ys[k]? = some y) : ∃ x, xs[k]? = some x ∧ f x = y := by
  subst h
  rw [List.getElem?_map] at hy
  cases hx : xs[k]? with
  | none => rw [hx] at hy; cases hy
  | some x => rw [hx] at hy; exact ⟨x, rfl, by simpa using hy⟩
theorem same10_same (F : Nat → Prop) (cs cs' : List Value) (s : LState) (w : World) (h : RState F w cs s) (h' : RState F w cs' s) (hwf : s.wf) (hsm : Small s) :
    CallsTo 11 #[.agg cs.toArray, .agg cs'.toArray] w (fun v _ => v = .bool true) := by
  obtain ⟨Ap, cp, Ar, cr, Am, cm, rfl, hp, hr, hm⟩ := h.form
  obtain ⟨Bp, dp, Br, dr, Bm, dm, rfl, hp', hr', hm'⟩ := h'.form
  obtain ⟨hs, hhs, hrow, hvals⟩ := hr
  obtain ⟨gs, hgs, hrow', hvals'⟩ := hr'
  have b1 := hsm.ps
  have b2' := hsm.rs
  have b3' := hsm.ms
  have hlen : hs.length = s.rs.length := by rw [← hhs]; simp
  have glen : gs.length = s.rs.length := by rw [← hgs]; simp
  refine CallsTo.enter 68 (fun _ => True) F Tryd.func11 rfl rfl rfl rfl (by intros; first | trivial | assumption) ?_
  with_reducible refine JC.seq ?_
  with_reducible refine JC.region ?_
  refine JL.op (JO.box rfl rfl ?_); intro b2
  refine JL.op (JO.box rfl rfl ?_); intro b3
  refine JL.op (JO.val (y_assign) rfl ?_)
  with_reducible refine JL.nil ?_
  with_reducible refine JQ.seq (JC.seq (JC.seq ?_))
  refine JC.cutS [(2, .pointer (some ⟨b2, 0, none⟩)), (3, .pointer (some ⟨b3, 0, none⟩)), (30, .bool false)] ?_ (fun E => ?_)
  · with_reducible refine JC.region ?_
    refine JL.op (JO.val (y_fieldAddr rfl rfl rfl) rfl ?_)
    refine JL.op (JO.val (y_ld 0 rfl rfl rfl rfl) rfl ?_)
    refine JL.op (JO.val (y_len rfl rfl) rfl ?_)
    refine JL.op (JO.val (y_fieldAddr rfl rfl rfl) rfl ?_)
    refine JL.op (JO.val (y_ld 1 rfl rfl rfl rfl) rfl ?_)
    refine JL.op (JO.val (y_len rfl rfl) rfl ?_)
    refine JL.op (JO.val (y_neq rfl rfl) rfl ?_)
    refine JL.op (JO.val (y_move) rfl ?_)
    refine JL.split (d := 14) rfl (fun hg7 => ?_) (fun hg7 => ?_)
    · refine JL.op_skip rfl rfl (congrArg Value.bool hg7) rfl ?_
      refine JL.op_skip rfl rfl (congrArg Value.bool hg7) rfl ?_
      refine JL.op_skip rfl rfl (congrArg Value.bool hg7) rfl ?_
      refine JL.op_skip rfl rfl (congrArg Value.bool hg7) rfl ?_
      refine JL.op_skip rfl rfl (congrArg Value.bool hg7) rfl ?_
      refine JL.op_skip rfl rfl (congrArg Value.bool hg7) rfl ?_
      refine JL.op_skip rfl rfl (congrArg Value.bool hg7) rfl ?_
      refine JL.op (JO.val (y_pick (congrArg Value.bool hg7)) rfl ?_)
      refine JL.op (JO.val (y_move) rfl ?_)
      refine JL.op_skip rfl rfl rfl rfl ?_
      refine JL.op_skip rfl rfl rfl rfl ?_
      refine JL.op_skip rfl rfl rfl rfl ?_
      refine JL.op_skip rfl rfl rfl rfl ?_
      refine JL.op_skip rfl rfl rfl rfl ?_
      refine JL.op_skip rfl rfl rfl rfl ?_
      refine JL.op (JO.val (y_pick rfl) rfl ?_)
      with_reducible refine JL.nil ?_
      (refine JQ.has ⟨rfl, rfl, congrArg Value.bool ?_, trivial⟩ (fun _ h => h); (simp_all []; done))
    · refine JL.op_do rfl rfl (congrArg Value.bool hg7) (JO.val (y_fieldAddr rfl rfl rfl) rfl ?_)
      refine JL.op_do rfl rfl (congrArg Value.bool hg7) (JO.val (y_ld 0 rfl rfl rfl rfl) rfl ?_)
      refine JL.op_do rfl rfl (congrArg Value.bool hg7) (JO.val (y_len rfl rfl) rfl ?_)
      refine JL.op_do rfl rfl (congrArg Value.bool hg7) (JO.val (y_fieldAddr rfl rfl rfl) rfl ?_)
      refine JL.op_do rfl rfl (congrArg Value.bool hg7) (JO.val (y_ld 1 rfl rfl rfl rfl) rfl ?_)
      refine JL.op_do rfl rfl (congrArg Value.bool hg7) (JO.val (y_len rfl rfl) rfl ?_)
      refine JL.op_do rfl rfl (congrArg Value.bool hg7) (JO.val (y_neq rfl rfl) rfl ?_)
      refine JL.op (JO.val (y_pick (congrArg Value.bool hg7)) rfl ?_)
      refine JL.op (JO.val (y_move) rfl ?_)
      refine JL.split (d := 23) rfl (fun hg16 => ?_) (fun hg16 => ?_)
      · refine JL.op_skip rfl rfl (congrArg Value.bool hg16) rfl ?_
        refine JL.op_skip rfl rfl (congrArg Value.bool hg16) rfl ?_
        refine JL.op_skip rfl rfl (congrArg Value.bool hg16) rfl ?_
        refine JL.op_skip rfl rfl (congrArg Value.bool hg16) rfl ?_
        refine JL.op_skip rfl rfl (congrArg Value.bool hg16) rfl ?_
        refine JL.op_skip rfl rfl (congrArg Value.bool hg16) rfl ?_
        refine JL.op (JO.val (y_pick (congrArg Value.bool hg16)) rfl ?_)
        with_reducible refine JL.nil ?_
        (refine JQ.has ⟨rfl, rfl, congrArg Value.bool ?_, trivial⟩ (fun _ h => h); (simp_all []; done))
      · refine JL.op_do rfl rfl (congrArg Value.bool hg16) (JO.val (y_fieldAddr rfl rfl rfl) rfl ?_)
        refine JL.op_do rfl rfl (congrArg Value.bool hg16) (JO.val (y_ldP 0 rfl rfl rfl rfl rfl) rfl ?_)
        refine JL.op_do rfl rfl (congrArg Value.bool hg16) (JO.val (y_fieldAddr rfl rfl rfl) rfl ?_)
        refine JL.op_do rfl rfl (congrArg Value.bool hg16) (JO.val (y_ldP 1 rfl rfl rfl rfl rfl) rfl ?_)
        refine JL.op_do rfl rfl (congrArg Value.bool hg16) (JO.callv (fun wc hc => same8_same _ s.ep Am Bm cm dm s.ms wc (hm.step hc.step) (hm'.step hc.step) (by omega) hwf.ms) rfl rfl rfl ?_)
        refine JL.op_do rfl rfl (congrArg Value.bool hg16) (JO.val (y_not rfl) rfl ?_)
        refine JL.op (JO.val (y_pick (congrArg Value.bool hg16)) rfl ?_)
        with_reducible refine JL.nil ?_
        refine JQ.has ⟨rfl, rfl, rfl, trivial⟩ (fun _ h => h)
  with_reducible refine JQ.seq ?_
  refine JC.cond_false rfl ?_
  with_reducible refine JC.skip (JQ.seq (JC.seq (JC.seq ?_)))
  with_reducible refine JC.region ?_
  refine JL.op (JO.val (y_fieldAddr rfl rfl rfl) rfl ?_)
  refine JL.op (JO.val (y_ld 0 rfl rfl rfl rfl) rfl ?_)
  refine JL.op (JO.val (y_len rfl rfl) rfl ?_)
  refine JL.op (JO.val (y_move) rfl ?_)
  with_reducible refine JL.nil ?_
  with_reducible refine JQ.seq (JC.block ?_)
  refine JC.loop (fun m E S F' w1' => ∃ k : Nat, m = s.ps.length - k ∧ k ≤ s.ps.length ∧ S = [(some b2, 28, [.slice Ap s.ps.length cp, .slice Ar s.rs.length cr, .int .i64 s.ep, .slice Am s.ms.length cm]), (some b3, 28, [.slice Bp s.ps.length dp, .slice Br s.rs.length dr, .int .i64 s.ep, .slice Bm s.ms.length dm])] ∧ F' = F ∧ w1' = w ∧ Has E [(2, .pointer (some ⟨b2, 0, none⟩)), (3, .pointer (some ⟨b3, 0, none⟩)), (33, .int .i64 (s.ps.length : Nat)), (34, .int .i64 (k : Nat))])
    _ ⟨0, rfl, Nat.zero_le _, rfl, rfl, rfl, ⟨rfl, rfl, rfl, rfl, trivial⟩⟩ ?_
  rintro m E S F' w1' ⟨k, rfl, hk, rfl, rfl, rfl, hE⟩
  refine JC.env hE (fun E => ?_)
  with_reducible refine JC.seq ?_
  with_reducible refine JC.region ?_
  refine JL.op (JO.val (y_lss rfl rfl) rfl ?_)
  with_reducible refine JL.nil ?_
  with_reducible refine JQ.seq (JC.seq ?_)
  by_cases hlt : k < s.ps.length
  · have hd : decide ((k : Int) < (s.ps.length : Int)) = true := by simpa using hlt
    refine JC.cond_true (congrArg Value.bool hd) ?_
    obtain ⟨x, hx⟩ : ∃ x, s.ps[k]? = some x := ⟨s.ps[k], by simp [hlt]⟩
    have hxw := hwf.ps x (List.mem_of_getElem? hx)
    have hxl : x.cells.length = 2 := rfl
    obtain ⟨b, o, hA, hat⟩ := SlF.elem hp pair_len rfl hx
    obtain ⟨b', o', hA', hat'⟩ := SlF.elem hp' pair_len rfl hx
    with_reducible refine JC.skip (JQ.seq (JC.seq (JC.block (JC.seq ?_))))
    with_reducible refine JC.region ?_
    refine JL.op (JO.val (y_move) rfl ?_)
    refine JL.op (JO.val (y_assign) rfl ?_)
    with_reducible refine JL.nil ?_
    with_reducible refine JQ.seq (JC.seq ?_)
    refine JC.quiet (by kernel_rfl) ?_
    first | refine JT.val (y_fieldAddr rfl rfl rfl) rfl ?_
    refine JT.val (y_ld 0 rfl rfl rfl rfl) rfl ?_
    first | refine JT.val (y_move) rfl ?_
    refine JT.val (y_idx (b := b) (o := o) rfl rfl rfl rfl hA rfl hlt) rfl ?_
    refine JT.val (y_lddA rfl rfl hat (by first | rfl | assumption)) rfl ?_
    first | refine JT.val (y_fieldAddr rfl rfl rfl) rfl ?_
    refine JT.val (y_ld 1 rfl rfl rfl rfl) rfl ?_
    first | refine JT.val (y_move) rfl ?_
    refine JT.val (y_idx (b := b') (o := o') rfl rfl rfl rfl hA' rfl hlt) rfl ?_
    refine JT.val (y_lddA rfl rfl hat' (by first | rfl | assumption)) rfl ?_
    refine JT.val (y_neqSame kt53 Tryd.eqGuardType53 Tryd.underlying53 (by rw [cells53]; exact hxl) (kl_pair hxw) rfl rfl) rfl ?_
    refine JT.nil ?_
    with_reducible refine JQ.seq ?_
    refine JC.cond_false rfl ?_
    with_reducible refine JC.skip (JQ.blk (JQ.seq ?_))
    with_reducible refine JC.region ?_
    refine JL.op (JO.val (y_add rfl rfl (natAdd hk (by omega))) rfl ?_)
    refine JL.op (JO.val (y_move) rfl ?_)
    with_reducible refine JL.nil ?_
    refine JQ.loop (s.ps.length - (k + 1)) ⟨k + 1, rfl, hlt, rfl, rfl, rfl, ⟨rfl, rfl, rfl, rfl, trivial⟩⟩ (by omega)
  have hd : decide ((k : Int) < (s.ps.length : Int)) = false := by simpa using hlt
  refine JC.cond_false (congrArg Value.bool hd) ?_
  with_reducible refine JC.exit (JQ.seq_exit (JQ.loop_exit (JQ.blk_here (JQ.seq (JC.seq (JC.seq ?_))))))
  with_reducible refine JC.region ?_
  refine JL.op (JO.val (y_fieldAddr rfl rfl rfl) rfl ?_)
  refine JL.op (JO.val (y_ld 0 rfl rfl rfl rfl) rfl ?_)
  refine JL.op (JO.val (y_len rfl rfl) rfl ?_)
  refine JL.op (JO.val (y_move) rfl ?_)
  with_reducible refine JL.nil ?_
  with_reducible refine JQ.seq (JC.block ?_)
  refine JC.loop (fun m E S F2 w2 => ∃ k : Nat, m = s.rs.length - k ∧ k ≤ s.rs.length ∧ S = [(some b2, 28, [.slice Ap s.ps.length cp, .slice Ar s.rs.length cr, .int .i64 s.ep, .slice Am s.ms.length cm]), (some b3, 28, [.slice Bp s.ps.length dp, .slice Br s.rs.length dr, .int .i64 s.ep, .slice Bm s.ms.length dm])] ∧ F2 = F' ∧ w2 = w1' ∧ Has E [(2, .pointer (some ⟨b2, 0, none⟩)), (3, .pointer (some ⟨b3, 0, none⟩)), (51, .int .i64 (s.rs.length : Nat)), (52, .int .i64 (k : Nat))])
    _ ⟨0, rfl, Nat.zero_le _, rfl, rfl, rfl, ⟨rfl, rfl, rfl, rfl, trivial⟩⟩ ?_
  clear hk hlt hd hE
  rintro m E S F2 w2 ⟨k, rfl, hk, rfl, rfl, rfl, hE⟩
  refine JC.env hE (fun E => ?_)
  with_reducible refine JC.seq ?_
  with_reducible refine JC.region ?_
  refine JL.op (JO.val (y_lss rfl rfl) rfl ?_)
  with_reducible refine JL.nil ?_
  with_reducible refine JQ.seq (JC.seq ?_)
  by_cases hlt : k < s.rs.length
  · have hd : decide ((k : Int) < (s.rs.length : Int)) = true := by simpa using hlt
    refine JC.cond_true (congrArg Value.bool hd) ?_
    obtain ⟨x, hx⟩ : ∃ x, s.rs[k]? = some x := ⟨s.rs[k], by simp [hlt]⟩
    obtain ⟨⟨x1, A1, c1⟩, hx1, rfl⟩ := map_at hhs hx
    obtain ⟨⟨x2, A2, c2⟩, hx2, hxe⟩ := map_at hgs hx
    simp only at hxe
    subst hxe
    have hv := hvals _ (List.mem_of_getElem? hx1)
    have hv' := hvals' _ (List.mem_of_getElem? hx2)
    have hvn : x2.vals.length ≤ 10000 := hsm.vals _ (List.mem_of_getElem? hx)
    obtain ⟨b, o, hA, hat⟩ := SlF.elem hrow rcells_len hlen.symm hx1
    obtain ⟨b', o', hA', hat'⟩ := SlF.elem hrow' rcells_len glen.symm hx2
    with_reducible refine JC.skip (JQ.seq (JC.seq (JC.block (JC.seq ?_))))
    with_reducible refine JC.region ?_
    refine JL.op (JO.val (y_move) rfl ?_)
    refine JL.op (JO.val (y_assign) rfl ?_)
    with_reducible refine JL.nil ?_
    with_reducible refine JQ.seq (JC.seq ?_)
    refine JC.quiet (by kernel_rfl) ?_
    first | refine JT.val (y_fieldAddr rfl rfl rfl) rfl ?_
    refine JT.val (y_ld 0 rfl rfl rfl rfl) rfl ?_
    first | refine JT.val (y_move) rfl ?_
    refine JT.val (y_idx (b := b) (o := o) rfl rfl rfl rfl hA rfl hlt) rfl ?_
    refine JT.val (y_lddA rfl rfl hat (by first | rfl | assumption)) rfl ?_
    first | refine JT.val (y_fieldAddr rfl rfl rfl) rfl ?_
    refine JT.val (y_ld 1 rfl rfl rfl rfl) rfl ?_
    first | refine JT.val (y_move) rfl ?_
    refine JT.val (y_idx (b := b') (o := o') rfl rfl rfl rfl hA' rfl hlt) rfl ?_
    refine JT.val (y_lddA rfl rfl hat' (by first | rfl | assumption)) rfl ?_
    refine JT.callv (fun wc hc => same9_same _ _ _ x2 wc ⟨A1, c1, rfl, RStrs.step hv hc.step⟩ ⟨A2, c2, rfl, RStrs.step hv' hc.step⟩ (by omega)) rfl rfl rfl ⟨_, Tryd.func12, rfl, rfl⟩ ?_
    first | refine JT.val (y_not rfl) rfl ?_
    refine JT.nil ?_
    with_reducible refine JQ.seq ?_
    refine JC.cond_false rfl ?_
    with_reducible refine JC.skip (JQ.blk (JQ.seq ?_))
    with_reducible refine JC.region ?_
    refine JL.op (JO.val (y_add rfl rfl (natAdd hk (by omega))) rfl ?_)
    refine JL.op (JO.val (y_move) rfl ?_)
    with_reducible refine JL.nil ?_
    refine JQ.loop (s.rs.length - (k + 1)) ⟨k + 1, rfl, hlt, rfl, rfl, rfl, ⟨rfl, rfl, rfl, rfl, trivial⟩⟩ (by omega)
  · have hd : decide ((k : Int) < (s.rs.length : Int)) = false := by simpa using hlt
    refine JC.cond_false (congrArg Value.bool hd) ?_
    with_reducible refine JC.exit (JQ.seq_exit (JQ.loop_exit (JQ.blk_here (JQ.seq (JC.seq ?_)))))
    with_reducible refine JC.region ?_
    refine JL.op (JO.val (y_assign) rfl ?_)
    with_reducible refine JL.nil ?_
    with_reducible refine JQ.seq (JC.ret ?_)
    exact ret_one rfl ResV.tmp (fun w _ => rfl)
end Go.Proofs.YtchnnplcpidkiaaDoor
