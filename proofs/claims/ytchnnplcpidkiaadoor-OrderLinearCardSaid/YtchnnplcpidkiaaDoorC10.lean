/- Contracts of ref10.Rises, ref10.Great; no condition but bounds on lengths. -/
import Derived.Test.YtchnnplcpidkiaaDoorC9
namespace Go.Proofs.YtchnnplcpidkiaaDoor
open Go.RowKit
set_option linter.unusedSimpArgs false
set_option linter.unusedVariables false
set_option maxRecDepth 20000
set_option maxHeartbeats 1000000

def riseP (ps : List LPair) (i : Nat) : Bool := decide (i = 0) || (match ps[i - 1]?, ps[i]? with | some p, some q => Op.bytesLess p.k.toList q.k.toList | _, _ => true)
def riseR (rs : List LReply) (i : Nat) : Bool := decide (i = 0) || (match rs[i - 1]?, rs[i]? with | some p, some q => decide (p.client < q.client) | _, _ => true)
def rises (s : LState) : Bool := (List.range s.ps.length).all (riseP s.ps) && (List.range s.rs.length).all (riseR s.rs)
theorem rises_any (F : Nat → Prop) (cs : List Value) (s : LState) (w : World) (h : RState F w cs s) (hsm : Small s) :
    CallsTo 24 #[.agg cs.toArray] w (fun v _ => v = .bool (rises s)) := by
  obtain ⟨Ap, cp, Ar, cr, Am, cm, rfl, hp, hr, hm⟩ := h.form
  obtain ⟨hs, hhs, hrow, hvals⟩ := hr
  have b1' := hsm.ps
  have b2' := hsm.rs
  have hlen : hs.length = s.rs.length := by rw [← hhs]; simp
  refine CallsTo.enter 55 (fun _ => True) F Tryd.func24 rfl rfl rfl rfl (by intros; first | trivial | assumption) ?_
  with_reducible refine JC.seq ?_
  with_reducible refine JC.region ?_
  refine JL.op (JO.box rfl rfl ?_); intro b1
  refine JL.op (JO.val (y_assign) rfl ?_)
  with_reducible refine JL.nil ?_
  with_reducible refine JQ.seq (JC.seq (JC.seq ?_))
  with_reducible refine JC.region ?_
  refine JL.op (JO.val (y_fieldAddr rfl rfl rfl) rfl ?_)
  refine JL.op (JO.val (y_ld 0 rfl rfl rfl rfl) rfl ?_)
  refine JL.op (JO.val (y_len rfl rfl) rfl ?_)
  refine JL.op (JO.val (y_move) rfl ?_)
  with_reducible refine JL.nil ?_
  with_reducible refine JQ.seq (JC.block ?_)
  refine JC.loop (fun m E S F' w1' => ∃ k : Nat, m = s.ps.length - k ∧ k ≤ s.ps.length ∧ (List.range k).all (riseP s.ps) = true ∧ S = [(some b1, 28, [.slice Ap s.ps.length cp, .slice Ar s.rs.length cr, .int .i64 s.ep, .slice Am s.ms.length cm])] ∧ F' = F ∧ w1' = w ∧ Has E [(1, .pointer (some ⟨b1, 0, none⟩)), (7, .int .i64 (s.ps.length : Nat)), (8, .int .i64 (k : Nat))])
    _ ⟨0, rfl, Nat.zero_le _, by simp, rfl, rfl, rfl, ⟨rfl, rfl, rfl, trivial⟩⟩ ?_
  rintro m E S F' w1' ⟨k, rfl, hk, hall, rfl, rfl, rfl, hE⟩
  refine JC.env hE (fun E => ?_)
  with_reducible refine JC.seq ?_
  with_reducible refine JC.region ?_
  refine JL.op (JO.val (y_lss rfl rfl) rfl ?_)
  with_reducible refine JL.nil ?_
  with_reducible refine JQ.seq (JC.seq ?_)
  by_cases hlt : k < s.ps.length
  · have hd : decide ((k : Int) < (s.ps.length : Int)) = true := by simpa using hlt
    refine JC.cond_true (congrArg Value.bool hd) ?_
    obtain ⟨x, hx⟩ : ∃ x, s.ps[k]? = some x := ⟨s.ps[k], by simp [hlt]⟩
    obtain ⟨y, hy⟩ : ∃ y, s.ps[k - 1]? = some y := ⟨s.ps[k - 1]'(by omega), List.getElem?_eq_getElem (by omega)⟩
    obtain ⟨b, o, hA, hat⟩ := SlF.elem hp pair_len rfl hx
    obtain ⟨b', o', hA', hat'⟩ := SlF.elem hp pair_len rfl hy
    with_reducible refine JC.skip (JQ.seq (JC.seq (JC.block (JC.seq ?_))))
    with_reducible refine JC.region ?_
    refine JL.op (JO.val (y_move) rfl ?_)
    refine JL.op (JO.val (y_assign) rfl ?_)
    with_reducible refine JL.nil ?_
    with_reducible refine JQ.seq (JC.seq ?_)
    refine JC.cutS [(1, .pointer (some ⟨b1, 0, none⟩)), (7, .int .i64 (s.ps.length : Nat)), (8, .int .i64 (k : Nat)), (28, .bool (!riseP s.ps k))] ?_ (fun E => ?_)
    · refine JC.quiet (by kernel_rfl) ?_
      refine JT.val (y_move) rfl ?_
      refine JT.val (y_gtr rfl rfl) rfl ?_
      refine JT.val (y_move) rfl ?_
      refine JT.split (d := 13) rfl (fun hg2 => ?_) (fun hg2 => ?_)
      · refine JT.val_do rfl rfl (congrArg Value.bool hg2) (y_fieldAddr rfl rfl rfl) rfl ?_
        refine JT.val_do rfl rfl (congrArg Value.bool hg2) (y_ld 0 rfl rfl rfl rfl) rfl ?_
        refine JT.val_do rfl rfl (congrArg Value.bool hg2) (y_move) rfl ?_
        refine JT.val_do rfl rfl (congrArg Value.bool hg2) (y_sub rfl rfl (natSub (by simpa using hg2) hk (by omega))) rfl ?_
        refine JT.val_do rfl rfl (congrArg Value.bool hg2) (y_idx (b := b') (o := o') rfl rfl rfl rfl hA' rfl (by omega)) rfl ?_
        refine JT.val_do rfl rfl (congrArg Value.bool hg2) (y_fieldAddr rfl rfl rfl) rfl ?_
        refine JT.val_do rfl rfl (congrArg Value.bool hg2) (y_ldd rfl rfl (At.cell1 (j := 0) hat' rfl)) rfl ?_
        refine JT.val_do rfl rfl (congrArg Value.bool hg2) (y_fieldAddr rfl rfl rfl) rfl ?_
        refine JT.val_do rfl rfl (congrArg Value.bool hg2) (y_ld 0 rfl rfl rfl rfl) rfl ?_
        refine JT.val_do rfl rfl (congrArg Value.bool hg2) (y_move) rfl ?_
        refine JT.val_do rfl rfl (congrArg Value.bool hg2) (y_idx (b := b) (o := o) rfl rfl rfl rfl hA rfl hlt) rfl ?_
        refine JT.val_do rfl rfl (congrArg Value.bool hg2) (y_fieldAddr rfl rfl rfl) rfl ?_
        refine JT.val_do rfl rfl (congrArg Value.bool hg2) (y_ldd rfl rfl (At.cell1 (j := 0) hat rfl)) rfl ?_
        refine JT.val_do rfl rfl (congrArg Value.bool hg2) (y_ges rfl rfl) rfl ?_
        refine JT.val (y_pick (congrArg Value.bool hg2)) rfl ?_
        refine JT.nil ?_
        (refine JQ.has ⟨rfl, rfl, rfl, congrArg Value.bool ?_, trivial⟩ (fun _ h => h); (rw [Bool.eq_iff_iff]; simp_all [riseP]; omega))
      · refine JT.skip rfl rfl (congrArg Value.bool hg2) rfl ?_
        refine JT.skip rfl rfl (congrArg Value.bool hg2) rfl ?_
        refine JT.skip rfl rfl (congrArg Value.bool hg2) rfl ?_
        refine JT.skip rfl rfl (congrArg Value.bool hg2) rfl ?_
        refine JT.skip rfl rfl (congrArg Value.bool hg2) rfl ?_
        refine JT.skip rfl rfl (congrArg Value.bool hg2) rfl ?_
        refine JT.skip rfl rfl (congrArg Value.bool hg2) rfl ?_
        refine JT.skip rfl rfl (congrArg Value.bool hg2) rfl ?_
        refine JT.skip rfl rfl (congrArg Value.bool hg2) rfl ?_
        refine JT.skip rfl rfl (congrArg Value.bool hg2) rfl ?_
        refine JT.skip rfl rfl (congrArg Value.bool hg2) rfl ?_
        refine JT.skip rfl rfl (congrArg Value.bool hg2) rfl ?_
        refine JT.skip rfl rfl (congrArg Value.bool hg2) rfl ?_
        refine JT.skip rfl rfl (congrArg Value.bool hg2) rfl ?_
        refine JT.val (y_pick (congrArg Value.bool hg2)) rfl ?_
        refine JT.nil ?_
        (refine JQ.has ⟨rfl, rfl, rfl, congrArg Value.bool ?_, trivial⟩ (fun _ h => h); (simp_all [riseP]; done))
    with_reducible refine JQ.seq ?_
    refine JC.cond rfl (fun hg2 => ?_) (fun hg2 => ?_)
    · with_reducible refine JC.seq ?_
      with_reducible refine JC.region ?_
      refine JL.op (JO.val (y_assign) rfl ?_)
      with_reducible refine JL.nil ?_
      with_reducible refine JQ.seq (JC.ret (JQ.blk_ret (JQ.seq_ret (JQ.loop_ret (JQ.blk_ret (JQ.seq_ret ?_))))))
      refine ret_one rfl ResV.tmp (fun w _ => ?_)
      exact congrArg Value.bool (by unfold rises; rw [range_false hlt (by simpa using hg2)]; rfl)
    · with_reducible refine JC.skip (JQ.blk (JQ.seq ?_))
      with_reducible refine JC.region ?_
      refine JL.op (JO.val (y_add rfl rfl (natAdd hk (by omega))) rfl ?_)
      refine JL.op (JO.val (y_move) rfl ?_)
      with_reducible refine JL.nil ?_
      refine JQ.loop (s.ps.length - (k + 1)) ⟨k + 1, rfl, hlt, range_snoc hall (by simpa using hg2), rfl, rfl, rfl, ⟨rfl, rfl, rfl, trivial⟩⟩ (by omega)
  have hd : decide ((k : Int) < (s.ps.length : Int)) = false := by simpa using hlt
  refine JC.cond_false (congrArg Value.bool hd) ?_
  obtain rfl : k = s.ps.length := by omega
  with_reducible refine JC.exit (JQ.seq_exit (JQ.loop_exit (JQ.blk_here (JQ.seq (JC.seq (JC.seq ?_))))))
  with_reducible refine JC.region ?_
  refine JL.op (JO.val (y_fieldAddr rfl rfl rfl) rfl ?_)
  refine JL.op (JO.val (y_ld 0 rfl rfl rfl rfl) rfl ?_)
  refine JL.op (JO.val (y_len rfl rfl) rfl ?_)
  refine JL.op (JO.val (y_move) rfl ?_)
  with_reducible refine JL.nil ?_
  with_reducible refine JQ.seq (JC.block ?_)
  refine JC.loop (fun m E S F2 w2 => ∃ k : Nat, m = s.rs.length - k ∧ k ≤ s.rs.length ∧ (List.range k).all (riseR s.rs) = true ∧ S = [(some b1, 28, [.slice Ap s.ps.length cp, .slice Ar s.rs.length cr, .int .i64 s.ep, .slice Am s.ms.length cm])] ∧ F2 = F' ∧ w2 = w1' ∧ Has E [(1, .pointer (some ⟨b1, 0, none⟩)), (32, .int .i64 (s.rs.length : Nat)), (33, .int .i64 (k : Nat))])
    _ ⟨0, rfl, Nat.zero_le _, by simp, rfl, rfl, rfl, ⟨rfl, rfl, rfl, trivial⟩⟩ ?_
  clear hk hlt hd hE
  rintro m E S F2 w2 ⟨k, rfl, hk, hall2, rfl, rfl, rfl, hE⟩
  refine JC.env hE (fun E => ?_)
  with_reducible refine JC.seq ?_
  with_reducible refine JC.region ?_
  refine JL.op (JO.val (y_lss rfl rfl) rfl ?_)
  with_reducible refine JL.nil ?_
  with_reducible refine JQ.seq (JC.seq ?_)
  by_cases hlt : k < s.rs.length
  · have hd : decide ((k : Int) < (s.rs.length : Int)) = true := by simpa using hlt
    refine JC.cond_true (congrArg Value.bool hd) ?_
    obtain ⟨x, hx⟩ : ∃ x, s.rs[k]? = some x := ⟨s.rs[k], by simp [hlt]⟩
    obtain ⟨y, hy⟩ : ∃ y, s.rs[k - 1]? = some y := ⟨s.rs[k - 1]'(by omega), List.getElem?_eq_getElem (by omega)⟩
    obtain ⟨⟨x1, A1, c1⟩, hx1, rfl⟩ := map_at hhs hx
    obtain ⟨⟨y1, A2, c2⟩, hy1, rfl⟩ := map_at hhs hy
    obtain ⟨b, o, hA, hat⟩ := SlF.elem hrow rcells_len hlen.symm hx1
    obtain ⟨b', o', hA', hat'⟩ := SlF.elem hrow rcells_len hlen.symm hy1
    with_reducible refine JC.skip (JQ.seq (JC.seq (JC.block (JC.seq ?_))))
    with_reducible refine JC.region ?_
    refine JL.op (JO.val (y_move) rfl ?_)
    refine JL.op (JO.val (y_assign) rfl ?_)
    with_reducible refine JL.nil ?_
    with_reducible refine JQ.seq (JC.seq ?_)
    refine JC.cutS [(1, .pointer (some ⟨b1, 0, none⟩)), (32, .int .i64 (s.rs.length : Nat)), (33, .int .i64 (k : Nat)), (53, .bool (!riseR s.rs k))] ?_ (fun E => ?_)
    · refine JC.quiet (by kernel_rfl) ?_
      refine JT.val (y_move) rfl ?_
      refine JT.val (y_gtr rfl rfl) rfl ?_
      refine JT.val (y_move) rfl ?_
      refine JT.split (d := 38) rfl (fun hg2 => ?_) (fun hg2 => ?_)
      · refine JT.val_do rfl rfl (congrArg Value.bool hg2) (y_fieldAddr rfl rfl rfl) rfl ?_
        refine JT.val_do rfl rfl (congrArg Value.bool hg2) (y_ld 0 rfl rfl rfl rfl) rfl ?_
        refine JT.val_do rfl rfl (congrArg Value.bool hg2) (y_move) rfl ?_
        refine JT.val_do rfl rfl (congrArg Value.bool hg2) (y_sub rfl rfl (natSub (by simpa using hg2) hk (by omega))) rfl ?_
        refine JT.val_do rfl rfl (congrArg Value.bool hg2) (y_idx (b := b') (o := o') rfl rfl rfl rfl hA' rfl (by omega)) rfl ?_
        refine JT.val_do rfl rfl (congrArg Value.bool hg2) (y_fieldAddr rfl rfl rfl) rfl ?_
        refine JT.val_do rfl rfl (congrArg Value.bool hg2) (y_ldd rfl rfl (At.cell1 (j := 0) hat' rfl)) rfl ?_
        refine JT.val_do rfl rfl (congrArg Value.bool hg2) (y_fieldAddr rfl rfl rfl) rfl ?_
        refine JT.val_do rfl rfl (congrArg Value.bool hg2) (y_ld 0 rfl rfl rfl rfl) rfl ?_
        refine JT.val_do rfl rfl (congrArg Value.bool hg2) (y_move) rfl ?_
        refine JT.val_do rfl rfl (congrArg Value.bool hg2) (y_idx (b := b) (o := o) rfl rfl rfl rfl hA rfl hlt) rfl ?_
        refine JT.val_do rfl rfl (congrArg Value.bool hg2) (y_fieldAddr rfl rfl rfl) rfl ?_
        refine JT.val_do rfl rfl (congrArg Value.bool hg2) (y_ldd rfl rfl (At.cell1 (j := 0) hat rfl)) rfl ?_
        refine JT.val_do rfl rfl (congrArg Value.bool hg2) (y_geq rfl rfl) rfl ?_
        refine JT.val (y_pick (congrArg Value.bool hg2)) rfl ?_
        refine JT.nil ?_
        (refine JQ.has ⟨rfl, rfl, rfl, congrArg Value.bool ?_, trivial⟩ (fun _ h => h); (rw [Bool.eq_iff_iff]; simp_all [riseR]; omega))
      · refine JT.skip rfl rfl (congrArg Value.bool hg2) rfl ?_
        refine JT.skip rfl rfl (congrArg Value.bool hg2) rfl ?_
        refine JT.skip rfl rfl (congrArg Value.bool hg2) rfl ?_
        refine JT.skip rfl rfl (congrArg Value.bool hg2) rfl ?_
        refine JT.skip rfl rfl (congrArg Value.bool hg2) rfl ?_
        refine JT.skip rfl rfl (congrArg Value.bool hg2) rfl ?_
        refine JT.skip rfl rfl (congrArg Value.bool hg2) rfl ?_
        refine JT.skip rfl rfl (congrArg Value.bool hg2) rfl ?_
        refine JT.skip rfl rfl (congrArg Value.bool hg2) rfl ?_
        refine JT.skip rfl rfl (congrArg Value.bool hg2) rfl ?_
        refine JT.skip rfl rfl (congrArg Value.bool hg2) rfl ?_
        refine JT.skip rfl rfl (congrArg Value.bool hg2) rfl ?_
        refine JT.skip rfl rfl (congrArg Value.bool hg2) rfl ?_
        refine JT.skip rfl rfl (congrArg Value.bool hg2) rfl ?_
        refine JT.val (y_pick (congrArg Value.bool hg2)) rfl ?_
        refine JT.nil ?_
        (refine JQ.has ⟨rfl, rfl, rfl, congrArg Value.bool ?_, trivial⟩ (fun _ h => h); (simp_all [riseR]; done))
    with_reducible refine JQ.seq ?_
    refine JC.cond rfl (fun hg2 => ?_) (fun hg2 => ?_)
    · with_reducible refine JC.seq ?_
      with_reducible refine JC.region ?_
      refine JL.op (JO.val (y_assign) rfl ?_)
      with_reducible refine JL.nil ?_
      with_reducible refine JQ.seq (JC.ret (JQ.blk_ret (JQ.seq_ret (JQ.loop_ret (JQ.blk_ret (JQ.seq_ret ?_))))))
      refine ret_one rfl ResV.tmp (fun w _ => ?_)
      exact congrArg Value.bool (by unfold rises; rw [range_false hlt (by simpa using hg2)]; simp)
    · with_reducible refine JC.skip (JQ.blk (JQ.seq ?_))
      with_reducible refine JC.region ?_
      refine JL.op (JO.val (y_add rfl rfl (natAdd hk (by omega))) rfl ?_)
      refine JL.op (JO.val (y_move) rfl ?_)
      with_reducible refine JL.nil ?_
      refine JQ.loop (s.rs.length - (k + 1)) ⟨k + 1, rfl, hlt, range_snoc hall2 (by simpa using hg2), rfl, rfl, rfl, ⟨rfl, rfl, rfl, trivial⟩⟩ (by omega)
  · have hd : decide ((k : Int) < (s.rs.length : Int)) = false := by simpa using hlt
    refine JC.cond_false (congrArg Value.bool hd) ?_
    obtain rfl : k = s.rs.length := by omega
    with_reducible refine JC.exit (JQ.seq_exit (JQ.loop_exit (JQ.blk_here (JQ.seq (JC.seq ?_)))))
    with_reducible refine JC.region ?_
    refine JL.op (JO.val (y_assign) rfl ?_)
    with_reducible refine JL.nil ?_
    with_reducible refine JQ.seq (JC.ret ?_)
    refine ret_one rfl ResV.tmp (fun w _ => ?_)
    exact congrArg Value.bool (by unfold rises; rw [hall, hall2]; rfl)

/-- What a state is that is not great. -/
structure Mild (s : LState) : Prop where
  ps : s.ps.length ≤ 300
  rs : s.rs.length ≤ 100
  ms : s.ms.length ≤ 20
  vals : ∀ r ∈ s.rs, r.vals.length ≤ 300
theorem great_any (F : Nat → Prop) (cs : List Value) (s : LState) (w : World) (h : RState F w cs s) (hwf : s.wf) :
    CallsTo 23 #[.agg cs.toArray, .int .i64 16384] w (fun v _ => ∃ g : Bool, v = .bool g ∧ (g = false → Mild s)) := by
  obtain ⟨Ap, cp, Ar, cr, Am, cm, rfl, hp, hr, hm⟩ := h.form
  obtain ⟨hs, hhs, hrow, hvals⟩ := hr
  have hlen : hs.length = s.rs.length := by rw [← hhs]; simp
  refine CallsTo.enter 78 (fun _ => True) F Tryd.func23 rfl rfl rfl rfl (by intros; first | trivial | assumption) ?_
  with_reducible refine JC.seq ?_
  with_reducible refine JC.region ?_
  refine JL.op (JO.box rfl rfl ?_); intro b2
  refine JL.op (JO.val (y_assign) rfl ?_)
  with_reducible refine JL.nil ?_
  with_reducible refine JQ.seq (JC.seq (JC.seq ?_))
  refine JC.cutS [(1, .int .i64 16384), (2, .pointer (some ⟨b2, 0, none⟩)), (28, .bool (decide (s.ps.length > 300) || decide (s.rs.length > 100) || decide (s.ms.length > 20)))] ?_ (fun E => ?_)
  · with_reducible refine JC.region ?_
    refine JL.op (JO.val (y_fieldAddr rfl rfl rfl) rfl ?_)
    refine JL.op (JO.val (y_ld 0 rfl rfl rfl rfl) rfl ?_)
    refine JL.op (JO.val (y_len rfl rfl) rfl ?_)
    refine JL.op (JO.val (y_gtr rfl rfl) rfl ?_)
    refine JL.op (JO.val (y_move) rfl ?_)
    refine JL.split (d := 16) rfl (fun hg4 => ?_) (fun hg4 => ?_)
    · refine JL.op_skip rfl rfl (congrArg Value.bool hg4) rfl ?_
      refine JL.op_skip rfl rfl (congrArg Value.bool hg4) rfl ?_
      refine JL.op_skip rfl rfl (congrArg Value.bool hg4) rfl ?_
      refine JL.op_skip rfl rfl (congrArg Value.bool hg4) rfl ?_
      refine JL.op (JO.val (y_pick (congrArg Value.bool hg4)) rfl ?_)
      refine JL.op (JO.val (y_move) rfl ?_)
      refine JL.op_skip rfl rfl rfl rfl ?_
      refine JL.op_skip rfl rfl rfl rfl ?_
      refine JL.op_skip rfl rfl rfl rfl ?_
      refine JL.op_skip rfl rfl rfl rfl ?_
      refine JL.op_skip rfl rfl rfl rfl ?_
      refine JL.op (JO.val (y_pick rfl) rfl ?_)
      with_reducible refine JL.nil ?_
      (refine JQ.has ⟨rfl, rfl, congrArg Value.bool ?_, trivial⟩ (fun _ h => h); (rw [Bool.eq_iff_iff]; simp_all []; omega))
    · refine JL.op_do rfl rfl (congrArg Value.bool hg4) (JO.val (y_fieldAddr rfl rfl rfl) rfl ?_)
      refine JL.op_do rfl rfl (congrArg Value.bool hg4) (JO.val (y_ld 0 rfl rfl rfl rfl) rfl ?_)
      refine JL.op_do rfl rfl (congrArg Value.bool hg4) (JO.val (y_len rfl rfl) rfl ?_)
      refine JL.op_do rfl rfl (congrArg Value.bool hg4) (JO.val (y_gtr rfl rfl) rfl ?_)
      refine JL.op (JO.val (y_pick (congrArg Value.bool hg4)) rfl ?_)
      refine JL.op (JO.val (y_move) rfl ?_)
      refine JL.split (d := 22) rfl (fun hg10 => ?_) (fun hg10 => ?_)
      · refine JL.op_skip rfl rfl (congrArg Value.bool hg10) rfl ?_
        refine JL.op_skip rfl rfl (congrArg Value.bool hg10) rfl ?_
        refine JL.op_skip rfl rfl (congrArg Value.bool hg10) rfl ?_
        refine JL.op_skip rfl rfl (congrArg Value.bool hg10) rfl ?_
        refine JL.op_skip rfl rfl (congrArg Value.bool hg10) rfl ?_
        refine JL.op (JO.val (y_pick (congrArg Value.bool hg10)) rfl ?_)
        with_reducible refine JL.nil ?_
        (refine JQ.has ⟨rfl, rfl, congrArg Value.bool ?_, trivial⟩ (fun _ h => h); (rw [Bool.eq_iff_iff]; simp_all []; omega))
      · refine JL.op_do rfl rfl (congrArg Value.bool hg10) (JO.val (y_fieldAddr rfl rfl rfl) rfl ?_)
        refine JL.op_do rfl rfl (congrArg Value.bool hg10) (JO.val (y_fieldAddr rfl rfl rfl) rfl ?_)
        refine JL.op_do rfl rfl (congrArg Value.bool hg10) (JO.val (y_ld 0 rfl rfl rfl rfl) rfl ?_)
        refine JL.op_do rfl rfl (congrArg Value.bool hg10) (JO.val (y_len rfl rfl) rfl ?_)
        refine JL.op_do rfl rfl (congrArg Value.bool hg10) (JO.val (y_gtr rfl rfl) rfl ?_)
        refine JL.op (JO.val (y_pick (congrArg Value.bool hg10)) rfl ?_)
        with_reducible refine JL.nil ?_
        (refine JQ.has ⟨rfl, rfl, congrArg Value.bool ?_, trivial⟩ (fun _ h => h); (rw [Bool.eq_iff_iff]; simp_all []; omega))
  with_reducible refine JQ.seq ?_
  refine JC.cond rfl (fun hg => ?_) (fun hg => ?_)
  · with_reducible refine JC.seq ?_
    with_reducible refine JC.region ?_
    refine JL.op (JO.val (y_assign) rfl ?_)
    with_reducible refine JL.nil ?_
    with_reducible refine JQ.seq (JC.ret (JQ.seq_ret ?_))
    exact ret_one rfl ResV.tmp (fun w _ => ⟨true, rfl, fun h => by cases h⟩)
  have hb : s.ps.length ≤ 300 ∧ s.rs.length ≤ 100 ∧ s.ms.length ≤ 20 := by simp at hg; omega
  obtain ⟨hb1, hb2, hb3⟩ := hb
  with_reducible refine JC.skip (JQ.seq (JC.seq ?_))
  with_reducible refine JC.region ?_
  refine JL.op (JO.val (y_assign) rfl ?_)
  with_reducible refine JL.nil ?_
  with_reducible refine JQ.seq (JC.seq (JC.seq ?_))
  with_reducible refine JC.region ?_
  refine JL.op (JO.val (y_fieldAddr rfl rfl rfl) rfl ?_)
  refine JL.op (JO.val (y_ld 0 rfl rfl rfl rfl) rfl ?_)
  refine JL.op (JO.val (y_len rfl rfl) rfl ?_)
  refine JL.op (JO.val (y_move) rfl ?_)
  with_reducible refine JL.nil ?_
  with_reducible refine JQ.seq (JC.block ?_)
  refine JC.loop (fun m E S F' w1' => ∃ (k : Nat) (n : Int), m = s.ps.length - k ∧ k ≤ s.ps.length ∧ 0 ≤ n ∧ n ≤ 16384 ∧ S = [(some b2, 28, [.slice Ap s.ps.length cp, .slice Ar s.rs.length cr, .int .i64 s.ep, .slice Am s.ms.length cm])] ∧ F' = F ∧ w1' = w ∧ Has E [(1, .int .i64 16384), (2, .pointer (some ⟨b2, 0, none⟩)), (5, .int .i64 n), (30, .slice Ap s.ps.length cp), (31, .int .i64 (s.ps.length : Nat)), (32, .int .i64 (k : Nat))])
    _ ⟨0, 0, rfl, Nat.zero_le _, by omega, by omega, rfl, rfl, rfl, ⟨rfl, rfl, rfl, rfl, rfl, rfl, trivial⟩⟩ ?_
  rintro m E S F' w1' ⟨k, n, rfl, hk, hn0, hn1, rfl, rfl, rfl, hE⟩
  refine JC.env hE (fun E => ?_)
  with_reducible refine JC.seq ?_
  with_reducible refine JC.region ?_
  refine JL.op (JO.val (y_lss rfl rfl) rfl ?_)
  with_reducible refine JL.nil ?_
  with_reducible refine JQ.seq (JC.seq ?_)
  by_cases hlt : k < s.ps.length
  · have hd : decide ((k : Int) < (s.ps.length : Int)) = true := by simpa using hlt
    refine JC.cond_true (congrArg Value.bool hd) ?_
    obtain ⟨x, hx⟩ : ∃ x, s.ps[k]? = some x := ⟨s.ps[k], by simp [hlt]⟩
    have hxw := hwf.ps x (List.mem_of_getElem? hx)
    have hk1 := hxw.k
    have hv1 := hxw.v
    unfold strMax at hk1 hv1
    have hxl : x.cells.length = 2 := rfl
    have hx1 : allOne x.cells = true := rfl
    obtain ⟨b, o, hA, hat⟩ := SlF.elem hp pair_len rfl hx
    with_reducible refine JC.skip (JQ.seq (JC.seq (JC.block (JC.seq ?_))))
    with_reducible refine JC.region ?_
    refine JL.op (JO.val (y_idx (b := b) (o := o) rfl rfl rfl rfl hA rfl hlt) rfl ?_)
    refine JL.op (JO.val (y_lddA rfl rfl hat (by first | rfl | assumption)) rfl ?_)
    refine JL.op (JO.alloc rfl rfl ?_); intro b7
    refine JL.op (JO.storeA 1 rfl rfl rfl rfl (by first | rfl | assumption) (by first | rfl | assumption) (by first | rfl | assumption) ?_)
    with_reducible refine JL.nil ?_
    with_reducible refine JQ.seq (JC.seq ?_)
    with_reducible refine JC.region ?_
    refine JL.op (JO.val (y_move) rfl ?_)
    refine JL.op (JO.val (y_add (r := n + 1) rfl rfl (wrap_in (by omega) (by omega))) rfl ?_)
    refine JL.op (JO.val (y_fieldAddr rfl rfl rfl) rfl ?_)
    refine JL.op (JO.val (y_ld 1 rfl rfl rfl rfl) rfl ?_)
    refine JL.op (JO.val (y_lens rfl rfl) rfl ?_)
    refine JL.op (JO.val (y_add (r := n + 1 + (x.k.size : Nat)) rfl rfl (wrap_in (by omega) (by omega))) rfl ?_)
    refine JL.op (JO.val (y_fieldAddr rfl rfl rfl) rfl ?_)
    refine JL.op (JO.val (y_ld 1 rfl rfl rfl rfl) rfl ?_)
    refine JL.op (JO.val (y_lens rfl rfl) rfl ?_)
    refine JL.op (JO.val (y_add (r := n + 1 + (x.k.size : Nat) + (x.v.size : Nat)) rfl rfl (wrap_in (by omega) (by omega))) rfl ?_)
    refine JL.op (JO.val (y_assign) rfl ?_)
    with_reducible refine JL.nil ?_
    with_reducible refine JQ.seq (JC.seq ?_)
    with_reducible refine JC.region ?_
    refine JL.op (JO.val (y_move) rfl ?_)
    refine JL.op (JO.val (y_move) rfl ?_)
    refine JL.op (JO.val (y_gtr rfl rfl) rfl ?_)
    with_reducible refine JL.nil ?_
    with_reducible refine JQ.seq ?_
    refine JC.cond rfl (fun hg2 => ?_) (fun hg2 => ?_)
    · with_reducible refine JC.seq ?_
      with_reducible refine JC.region ?_
      refine JL.op (JO.val (y_assign) rfl ?_)
      with_reducible refine JL.nil ?_
      with_reducible refine JQ.seq (JC.ret (JQ.blk_ret (JQ.seq_ret (JQ.loop_ret (JQ.blk_ret (JQ.seq_ret ?_))))))
      exact ret_one rfl ResV.tmp (fun w _ => ⟨true, rfl, fun h => by cases h⟩)
    · with_reducible refine JC.skip (JQ.blk (JQ.seq ?_))
      with_reducible refine JC.region ?_
      refine JL.op (JO.val (y_add rfl rfl (natAdd hk (by omega))) rfl ?_)
      refine JL.op (JO.val (y_move) rfl ?_)
      with_reducible refine JL.nil ?_
      refine JQ.takeN 1 ?_
      refine JQ.loop (s.ps.length - (k + 1)) ⟨k + 1, n + 1 + (x.k.size : Nat) + (x.v.size : Nat), rfl, hlt, by omega, by simpa using hg2, rfl, rfl, rfl, ⟨rfl, rfl, rfl, rfl, rfl, rfl, trivial⟩⟩ (by omega)
  have hd : decide ((k : Int) < (s.ps.length : Int)) = false := by simpa using hlt
  refine JC.cond_false (congrArg Value.bool hd) ?_
  with_reducible refine JC.exit (JQ.seq_exit (JQ.loop_exit (JQ.blk_here (JQ.seq (JC.seq (JC.seq ?_))))))
  with_reducible refine JC.region ?_
  refine JL.op (JO.val (y_fieldAddr rfl rfl rfl) rfl ?_)
  refine JL.op (JO.val (y_ld 0 rfl rfl rfl rfl) rfl ?_)
  refine JL.op (JO.val (y_len rfl rfl) rfl ?_)
  refine JL.op (JO.val (y_move) rfl ?_)
  with_reducible refine JL.nil ?_
  with_reducible refine JQ.seq (JC.block ?_)
  refine JC.loop (fun m E S F2 w2 => ∃ (k : Nat) (n : Int), m = s.rs.length - k ∧ k ≤ s.rs.length ∧ 0 ≤ n ∧ n ≤ 16384 ∧ (∀ r ∈ s.rs.take k, r.vals.length ≤ 300) ∧ S = [(some b2, 28, [.slice Ap s.ps.length cp, .slice Ar s.rs.length cr, .int .i64 s.ep, .slice Am s.ms.length cm])] ∧ F2 = F' ∧ w2 = w1' ∧ Has E [(1, .int .i64 16384), (2, .pointer (some ⟨b2, 0, none⟩)), (5, .int .i64 n), (51, .slice Ar s.rs.length cr), (52, .int .i64 (s.rs.length : Nat)), (53, .int .i64 (k : Nat))])
    _ ⟨0, n, rfl, Nat.zero_le _, hn0, hn1, by simp, rfl, rfl, rfl, ⟨rfl, rfl, rfl, rfl, rfl, rfl, trivial⟩⟩ ?_
  clear hk hlt hd hE hn0 hn1
  rintro m E S F2 w2 ⟨k, n, rfl, hk, hn0, hn1, hvs, rfl, rfl, rfl, hE⟩
  refine JC.env hE (fun E => ?_)
  with_reducible refine JC.seq ?_
  with_reducible refine JC.region ?_
  refine JL.op (JO.val (y_lss rfl rfl) rfl ?_)
  with_reducible refine JL.nil ?_
  with_reducible refine JQ.seq (JC.seq ?_)
  by_cases hlt : k < s.rs.length
  · have hd : decide ((k : Int) < (s.rs.length : Int)) = true := by simpa using hlt
    refine JC.cond_true (congrArg Value.bool hd) ?_
    obtain ⟨x, hx⟩ : ∃ x, s.rs[k]? = some x := ⟨s.rs[k], by simp [hlt]⟩
    have hxw := hwf.rs x (List.mem_of_getElem? hx)
    obtain ⟨⟨x1, A1, c1⟩, hx1, rfl⟩ := map_at hhs hx
    have hv : RStrs F2 w2 A1 c1 x1.vals := hvals _ (List.mem_of_getElem? hx1)
    obtain ⟨b, o, hA, hat⟩ := SlF.elem hrow rcells_len hlen.symm hx1
    with_reducible refine JC.skip (JQ.seq (JC.seq (JC.block (JC.seq ?_))))
    with_reducible refine JC.region ?_
    refine JL.op (JO.val (y_idx (b := b) (o := o) rfl rfl rfl rfl hA rfl hlt) rfl ?_)
    refine JL.op (JO.val (y_lddA rfl rfl hat (by first | rfl | assumption)) rfl ?_)
    refine JL.op (JO.alloc rfl rfl ?_); intro b9
    refine JL.op (JO.storeA 1 rfl rfl rfl rfl (by first | rfl | assumption) (by first | rfl | assumption) (by first | rfl | assumption) ?_)
    with_reducible refine JL.nil ?_
    with_reducible refine JQ.seq (JC.seq (JC.seq ?_))
    with_reducible refine JC.region ?_
    refine JL.op (JO.val (y_fieldAddr rfl rfl rfl) rfl ?_)
    refine JL.op (JO.val (y_ld 1 rfl rfl rfl rfl) rfl ?_)
    refine JL.op (JO.val (y_len rfl rfl) rfl ?_)
    refine JL.op (JO.val (y_gtr rfl rfl) rfl ?_)
    with_reducible refine JL.nil ?_
    with_reducible refine JQ.seq ?_
    refine JC.cond rfl (fun hg2 => ?_) (fun hg2 => ?_)
    · with_reducible refine JC.seq ?_
      with_reducible refine JC.region ?_
      refine JL.op (JO.val (y_assign) rfl ?_)
      with_reducible refine JL.nil ?_
      with_reducible refine JQ.seq (JC.ret (JQ.seq_ret (JQ.blk_ret (JQ.seq_ret (JQ.loop_ret (JQ.blk_ret (JQ.seq_ret ?_)))))))
      exact ret_one rfl ResV.tmp (fun w _ => ⟨true, rfl, fun h => by cases h⟩)
    have hvl : x1.vals.length ≤ 300 := by simp at hg2; omega
    with_reducible refine JC.skip (JQ.seq (JC.seq ?_))
    with_reducible refine JC.region ?_
    refine JL.op (JO.val (y_fieldAddr rfl rfl rfl) rfl ?_)
    refine JL.op (JO.val (y_ld 1 rfl rfl rfl rfl) rfl ?_)
    refine JL.op (JO.val (y_len rfl rfl) rfl ?_)
    refine JL.op (JO.val (y_move) rfl ?_)
    with_reducible refine JL.nil ?_
    with_reducible refine JQ.seq (JC.block ?_)
    refine JC.loop (fun m E S F3 w3 => ∃ (j : Nat) (n : Int), m = x1.vals.length - j ∧ j ≤ x1.vals.length ∧ 0 ≤ n ∧ n ≤ 16384 ∧ S = [(some b2, 28, [.slice Ap s.ps.length cp, .slice Ar s.rs.length cr, .int .i64 s.ep, .slice Am s.ms.length cm]), (some b9, 45, rcells (x1, A1, c1))] ∧ F3 = F2 ∧ w3 = w2 ∧ Has E [(1, .int .i64 16384), (2, .pointer (some ⟨b2, 0, none⟩)), (5, .int .i64 n), (51, .slice Ar s.rs.length cr), (52, .int .i64 (s.rs.length : Nat)), (53, .int .i64 (k : Nat)), (62, .slice A1 x1.vals.length c1), (63, .int .i64 (x1.vals.length : Nat)), (64, .int .i64 (j : Nat))])
      _ ⟨0, n, rfl, Nat.zero_le _, hn0, hn1, rfl, rfl, rfl, ⟨rfl, rfl, rfl, rfl, rfl, rfl, rfl, rfl, rfl, trivial⟩⟩ ?_
    clear hn0 hn1 hE
    rintro m E S F3 w3 ⟨j, n, rfl, hj, hn0, hn1, rfl, rfl, rfl, hE⟩
    refine JC.env hE (fun E => ?_)
    with_reducible refine JC.seq ?_
    with_reducible refine JC.region ?_
    refine JL.op (JO.val (y_lss rfl rfl) rfl ?_)
    with_reducible refine JL.nil ?_
    with_reducible refine JQ.seq (JC.seq ?_)
    by_cases hlt2 : j < x1.vals.length
    · have hd2 : decide ((j : Int) < (x1.vals.length : Int)) = true := by simpa using hlt2
      refine JC.cond_true (congrArg Value.bool hd2) ?_
      obtain ⟨y, hy⟩ : ∃ y, x1.vals[j]? = some y := ⟨x1.vals[j], by simp [hlt2]⟩
      have hyw := hxw.vals y (List.mem_of_getElem? hy)
      unfold strMax at hyw
      obtain ⟨b', o', hA', hat'⟩ := SlF.elem hv (fun s _ => rfl) rfl hy
      with_reducible refine JC.skip (JQ.seq (JC.seq (JC.block (JC.seq ?_))))
      with_reducible refine JC.region ?_
      refine JL.op (JO.val (y_idx (b := b') (o := o') rfl rfl rfl rfl hA' rfl hlt2) rfl ?_)
      refine JL.op (JO.val (y_ldd rfl rfl hat') rfl ?_)
      refine JL.op (JO.val (y_assign) rfl ?_)
      with_reducible refine JL.nil ?_
      with_reducible refine JQ.seq (JC.seq ?_)
      with_reducible refine JC.region ?_
      refine JL.op (JO.val (y_move) rfl ?_)
      refine JL.op (JO.val (y_add (r := n + 1) rfl rfl (wrap_in (by omega) (by omega))) rfl ?_)
      refine JL.op (JO.val (y_move) rfl ?_)
      refine JL.op (JO.val (y_lens rfl rfl) rfl ?_)
      refine JL.op (JO.val (y_add (r := n + 1 + (y.size : Nat)) rfl rfl (wrap_in (by omega) (by omega))) rfl ?_)
      refine JL.op (JO.val (y_assign) rfl ?_)
      with_reducible refine JL.nil ?_
      with_reducible refine JQ.seq (JC.seq ?_)
      with_reducible refine JC.region ?_
      refine JL.op (JO.val (y_move) rfl ?_)
      refine JL.op (JO.val (y_move) rfl ?_)
      refine JL.op (JO.val (y_gtr rfl rfl) rfl ?_)
      with_reducible refine JL.nil ?_
      with_reducible refine JQ.seq ?_
      refine JC.cond rfl (fun hg3 => ?_) (fun hg3 => ?_)
      · with_reducible refine JC.seq ?_
        with_reducible refine JC.region ?_
        refine JL.op (JO.val (y_assign) rfl ?_)
        with_reducible refine JL.nil ?_
        with_reducible refine JQ.seq (JC.ret (JQ.blk_ret (JQ.seq_ret (JQ.loop_ret (JQ.blk_ret (JQ.blk_ret (JQ.seq_ret (JQ.loop_ret (JQ.blk_ret (JQ.seq_ret ?_))))))))))
        exact ret_one rfl ResV.tmp (fun w _ => ⟨true, rfl, fun h => by cases h⟩)
      · with_reducible refine JC.skip (JQ.blk (JQ.seq ?_))
        with_reducible refine JC.region ?_
        refine JL.op (JO.val (y_add rfl rfl (natAdd hj (by omega))) rfl ?_)
        refine JL.op (JO.val (y_move) rfl ?_)
        with_reducible refine JL.nil ?_
        refine JQ.loop (x1.vals.length - (j + 1)) ⟨j + 1, n + 1 + (y.size : Nat), rfl, hlt2, by omega, by simpa using hg3, rfl, rfl, rfl, ⟨rfl, rfl, rfl, rfl, rfl, rfl, rfl, rfl, rfl, trivial⟩⟩ (by omega)
    · have hd2 : decide ((j : Int) < (x1.vals.length : Int)) = false := by simpa using hlt2
      refine JC.cond_false (congrArg Value.bool hd2) ?_
      with_reducible refine JC.exit (JQ.seq_exit (JQ.loop_exit (JQ.blk_here (JQ.blk (JQ.seq ?_)))))
      with_reducible refine JC.region ?_
      refine JL.op (JO.val (y_add rfl rfl (natAdd hk (by omega))) rfl ?_)
      refine JL.op (JO.val (y_move) rfl ?_)
      with_reducible refine JL.nil ?_
      refine JQ.takeN 1 ?_
      refine JQ.loop (s.rs.length - (k + 1)) ⟨k + 1, n, rfl, hlt, hn0, hn1, ?_, rfl, rfl, rfl, ⟨rfl, rfl, rfl, rfl, rfl, rfl, trivial⟩⟩ (by omega)
      intro r hr
      rw [List.take_add_one, hx] at hr
      rcases List.mem_append.1 hr with hr | hr
      · exact hvs r hr
      · simp at hr; subst hr; exact hvl
  · have hd : decide ((k : Int) < (s.rs.length : Int)) = false := by simpa using hlt
    refine JC.cond_false (congrArg Value.bool hd) ?_
    obtain rfl : k = s.rs.length := by omega
    with_reducible refine JC.exit (JQ.seq_exit (JQ.loop_exit (JQ.blk_here (JQ.seq (JC.seq ?_)))))
    with_reducible refine JC.region ?_
    refine JL.op (JO.val (y_assign) rfl ?_)
    with_reducible refine JL.nil ?_
    with_reducible refine JQ.seq (JC.ret ?_)
    exact ret_one rfl ResV.tmp (fun w _ => ⟨false, rfl, fun _ => ⟨hb1, hb2, hb3, fun r hr => hvs r (by rwa [List.take_length])⟩⟩)
end Go.Proofs.YtchnnplcpidkiaaDoor
