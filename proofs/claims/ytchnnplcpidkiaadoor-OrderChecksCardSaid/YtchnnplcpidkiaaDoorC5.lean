/- Contracts of state.pair, last, Get, Last, config.find, right, Good, request.Good, strings.HasPrefix; no condition but bounds on lengths. -/
import Derived.Test.YtchnnplcpidkiaaDoorC4
namespace Go.Proofs.YtchnnplcpidkiaaDoor
open Go.RowKit
set_option linter.unusedSimpArgs false
set_option linter.unusedVariables false
set_option maxRecDepth 20000

def rightB (m : LMember) : Bool := decide (1 ≤ m.id) && decide (m.id ≤ 63) && decide (0 ≤ m.key.h) && decide (m.key.h ≤ 6)
theorem right_any (m : LMember) (hm : m.wf) (w : World) : CallsTo 75 #[.agg m.cells.toArray] w (fun v _ => v = .bool (rightB m)) := by
  refine CallsTo.enter 23 (fun _ => True) (fun _ => True) Tryd.func75 rfl rfl rfl rfl (by intros; first | trivial | assumption) ?_
  with_reducible refine JC.seq ?_
  with_reducible refine JC.region ?_
  refine JL.op (JO.box rfl rfl ?_); intro b1
  refine JL.op (JO.val (y_assign) rfl ?_)
  with_reducible refine JL.nil ?_
  with_reducible refine JQ.seq (JC.seq ?_)
  refine JC.cutS [(2, .bool (rightB m))] ?_ (fun E => ?_)
  · with_reducible refine JC.region ?_
    refine JL.op (JO.val (y_fieldAddr rfl rfl rfl) rfl ?_)
    refine JL.op (JO.val (y_ld 0 rfl rfl rfl rfl) rfl ?_)
    refine JL.op (JO.val (y_geq rfl rfl) rfl ?_)
    refine JL.op (JO.val (y_move) rfl ?_)
    refine JL.split (d := 6) rfl (fun hg3 => ?_) (fun hg3 => ?_)
    · refine JL.op_do rfl rfl (congrArg Value.bool hg3) (JO.val (y_fieldAddr rfl rfl rfl) rfl ?_)
      refine JL.op_do rfl rfl (congrArg Value.bool hg3) (JO.val (y_ld 0 rfl rfl rfl rfl) rfl ?_)
      refine JL.op_do rfl rfl (congrArg Value.bool hg3) (JO.val (y_leq rfl rfl) rfl ?_)
      refine JL.op (JO.val (y_pick (congrArg Value.bool hg3)) rfl ?_)
      refine JL.op (JO.val (y_move) rfl ?_)
      refine JL.split (d := 11) rfl (fun hg8 => ?_) (fun hg8 => ?_)
      · refine JL.op_do rfl rfl (congrArg Value.bool hg8) (JO.val (y_fieldAddr rfl rfl rfl) rfl ?_)
        refine JL.op_do rfl rfl (congrArg Value.bool hg8) (JO.val (y_fieldAddr rfl rfl rfl) rfl ?_)
        refine JL.op_do rfl rfl (congrArg Value.bool hg8) (JO.val (y_ld 0 rfl rfl rfl (LMember.nth33 hm)) rfl ?_)
        refine JL.op_do rfl rfl (congrArg Value.bool hg8) (JO.val (y_geq rfl rfl) rfl ?_)
        refine JL.op (JO.val (y_pick (congrArg Value.bool hg8)) rfl ?_)
        refine JL.op (JO.val (y_move) rfl ?_)
        refine JL.split (d := 17) rfl (fun hg14 => ?_) (fun hg14 => ?_)
        · refine JL.op_do rfl rfl (congrArg Value.bool hg14) (JO.val (y_fieldAddr rfl rfl rfl) rfl ?_)
          refine JL.op_do rfl rfl (congrArg Value.bool hg14) (JO.val (y_fieldAddr rfl rfl rfl) rfl ?_)
          refine JL.op_do rfl rfl (congrArg Value.bool hg14) (JO.val (y_ld 0 rfl rfl rfl (LMember.nth33 hm)) rfl ?_)
          refine JL.op_do rfl rfl (congrArg Value.bool hg14) (JO.val (y_leq rfl rfl) rfl ?_)
          refine JL.op (JO.val (y_pick (congrArg Value.bool hg14)) rfl ?_)
          refine JL.op (JO.val (y_assign) rfl ?_)
          with_reducible refine JL.nil ?_
          (refine JQ.has ⟨congrArg Value.bool ?_, trivial⟩ (fun _ h => h); (simp_all [rightB]; done))
        · refine JL.op_skip rfl rfl (congrArg Value.bool hg14) rfl ?_
          refine JL.op_skip rfl rfl (congrArg Value.bool hg14) rfl ?_
          refine JL.op_skip rfl rfl (congrArg Value.bool hg14) rfl ?_
          refine JL.op_skip rfl rfl (congrArg Value.bool hg14) rfl ?_
          refine JL.op (JO.val (y_pick (congrArg Value.bool hg14)) rfl ?_)
          refine JL.op (JO.val (y_assign) rfl ?_)
          with_reducible refine JL.nil ?_
          (refine JQ.has ⟨congrArg Value.bool ?_, trivial⟩ (fun _ h => h); (rw [Bool.eq_iff_iff]; simp_all [rightB]; omega))
      · refine JL.op_skip rfl rfl (congrArg Value.bool hg8) rfl ?_
        refine JL.op_skip rfl rfl (congrArg Value.bool hg8) rfl ?_
        refine JL.op_skip rfl rfl (congrArg Value.bool hg8) rfl ?_
        refine JL.op_skip rfl rfl (congrArg Value.bool hg8) rfl ?_
        refine JL.op (JO.val (y_pick (congrArg Value.bool hg8)) rfl ?_)
        refine JL.op (JO.val (y_move) rfl ?_)
        refine JL.op_skip rfl rfl rfl rfl ?_
        refine JL.op_skip rfl rfl rfl rfl ?_
        refine JL.op_skip rfl rfl rfl rfl ?_
        refine JL.op_skip rfl rfl rfl rfl ?_
        refine JL.op (JO.val (y_pick rfl) rfl ?_)
        refine JL.op (JO.val (y_assign) rfl ?_)
        with_reducible refine JL.nil ?_
        (refine JQ.has ⟨congrArg Value.bool ?_, trivial⟩ (fun _ h => h); (rw [Bool.eq_iff_iff]; simp_all [rightB]; omega))
    · refine JL.op_skip rfl rfl (congrArg Value.bool hg3) rfl ?_
      refine JL.op_skip rfl rfl (congrArg Value.bool hg3) rfl ?_
      refine JL.op_skip rfl rfl (congrArg Value.bool hg3) rfl ?_
      refine JL.op (JO.val (y_pick (congrArg Value.bool hg3)) rfl ?_)
      refine JL.op (JO.val (y_move) rfl ?_)
      refine JL.op_skip rfl rfl rfl rfl ?_
      refine JL.op_skip rfl rfl rfl rfl ?_
      refine JL.op_skip rfl rfl rfl rfl ?_
      refine JL.op_skip rfl rfl rfl rfl ?_
      refine JL.op (JO.val (y_pick rfl) rfl ?_)
      refine JL.op (JO.val (y_move) rfl ?_)
      refine JL.op_skip rfl rfl rfl rfl ?_
      refine JL.op_skip rfl rfl rfl rfl ?_
      refine JL.op_skip rfl rfl rfl rfl ?_
      refine JL.op_skip rfl rfl rfl rfl ?_
      refine JL.op (JO.val (y_pick rfl) rfl ?_)
      refine JL.op (JO.val (y_assign) rfl ?_)
      with_reducible refine JL.nil ?_
      (refine JQ.has ⟨congrArg Value.bool ?_, trivial⟩ (fun _ h => h); (rw [Bool.eq_iff_iff]; simp_all [rightB]; omega))
  with_reducible refine JQ.seq (JC.ret ?_)
  exact ret_one rfl ResV.tmp (fun w _ => rfl)
theorem short_any (F : Nat → Prop) (A : Option Addr) (cap : Nat) (ss : List ByteArray) (w : World) (h : RStrs F w A cap ss) (hn : ss.length ≤ 100000) :
    CallsTo 43 #[.slice A ss.length cap] w (fun v _ => v = .bool (ss.all fun s => decide (s.size ≤ 1024))) := by
  refine CallsTo.enter 15 (fun _ => True) F Tryd.func43 rfl rfl rfl rfl (by intros; first | trivial | assumption) ?_
  with_reducible refine JC.seq ?_
  with_reducible refine JC.region ?_
  refine JL.op (JO.val (y_assign) rfl ?_)
  with_reducible refine JL.nil ?_
  with_reducible refine JQ.seq (JC.seq (JC.seq ?_))
  with_reducible refine JC.region ?_
  refine JL.op (JO.val (y_move) rfl ?_)
  refine JL.op (JO.val (y_len rfl rfl) rfl ?_)
  refine JL.op (JO.val (y_move) rfl ?_)
  with_reducible refine JL.nil ?_
  with_reducible refine JQ.seq (JC.block ?_)
  refine JC.loop (fun m E S F' w1' => S = [] ∧ F' = F ∧ w1' = w ∧ ∃ k : Nat, m = ss.length - k ∧ k ≤ ss.length ∧ (ss.take k).all (fun s => decide (s.size ≤ 1024)) = true ∧ Has E [(5, .slice A ss.length cap), (6, .int .i64 (ss.length : Nat)), (7, .int .i64 (k : Nat))])
    _ ⟨rfl, rfl, rfl, 0, rfl, Nat.zero_le _, by simp, ⟨rfl, rfl, rfl, trivial⟩⟩ ?_
  rintro m E S F' w1' ⟨rfl, rfl, rfl, k, rfl, hk, hall, hE⟩
  refine JC.env hE (fun E => ?_)
  with_reducible refine JC.seq ?_
  with_reducible refine JC.region ?_
  refine JL.op (JO.val (y_lss rfl rfl) rfl ?_)
  with_reducible refine JL.nil ?_
  with_reducible refine JQ.seq (JC.seq ?_)
  by_cases hlt : k < ss.length
  · have hd : decide ((k : Int) < (ss.length : Int)) = true := by simpa using hlt
    refine JC.cond_true (congrArg Value.bool hd) ?_
    obtain ⟨x, hx⟩ : ∃ x, ss[k]? = some x := ⟨ss[k], by simp [hlt]⟩
    obtain ⟨b, o, hA, hat⟩ := SlF.elem h sstr_len rfl hx
    with_reducible refine JC.skip (JQ.seq (JC.seq (JC.block (JC.seq ?_))))
    with_reducible refine JC.region ?_
    refine JL.op (JO.val (y_idx (b := b) (o := o) rfl rfl rfl rfl hA rfl hlt) rfl ?_)
    refine JL.op (JO.val (y_ldd rfl rfl hat) rfl ?_)
    refine JL.op (JO.val (y_assign) rfl ?_)
    with_reducible refine JL.nil ?_
    with_reducible refine JQ.seq (JC.seq ?_)
    with_reducible refine JC.region ?_
    refine JL.op (JO.val (y_move) rfl ?_)
    refine JL.op (JO.val (y_lens rfl rfl) rfl ?_)
    refine JL.op (JO.val (y_gtr rfl rfl) rfl ?_)
    with_reducible refine JL.nil ?_
    with_reducible refine JQ.seq ?_
    refine JC.cond rfl (fun hg => ?_) (fun hg => ?_)
    · with_reducible refine JC.seq ?_
      with_reducible refine JC.region ?_
      refine JL.op (JO.val (y_assign) rfl ?_)
      with_reducible refine JL.nil ?_
      with_reducible refine JQ.seq (JC.ret (JQ.blk_ret (JQ.seq_ret (JQ.loop_ret (JQ.blk_ret (JQ.seq_ret ?_))))))
      refine ret_one rfl ResV.tmp (fun w _ => ?_)
      refine congrArg Value.bool (Eq.symm ?_)
      rw [List.all_eq_false]
      refine ⟨x, List.mem_of_getElem? hx, ?_⟩
      simp at hg ⊢; omega
    · with_reducible refine JC.skip (JQ.blk (JQ.seq ?_))
      with_reducible refine JC.region ?_
      refine JL.op (JO.val (y_add rfl rfl (r := ((k + 1 : Nat) : Int)) (by rw [Int.natCast_add]; exact wrap_in (by omega) (by omega))) rfl ?_)
      refine JL.op (JO.val (y_move) rfl ?_)
      with_reducible refine JL.nil ?_
      refine JQ.loop (ss.length - (k + 1)) ⟨rfl, rfl, rfl, k + 1, rfl, hlt, ?_, ⟨rfl, rfl, rfl, trivial⟩⟩ (by omega)
      rw [List.take_add_one, hx]
      simp at hg hall ⊢
      exact ⟨hall, by omega⟩
  · have hd : decide ((k : Int) < (ss.length : Int)) = false := by simpa using hlt
    refine JC.cond_false (congrArg Value.bool hd) ?_
    obtain rfl : k = ss.length := by omega
    with_reducible refine JC.exit (JQ.seq_exit (JQ.loop_exit (JQ.blk_here (JQ.seq (JC.seq ?_)))))
    with_reducible refine JC.region ?_
    refine JL.op (JO.val (y_assign) rfl ?_)
    with_reducible refine JL.nil ?_
    with_reducible refine JQ.seq (JC.ret ?_)
    refine ret_one rfl ResV.tmp (fun w _ => ?_)
    rw [List.take_length] at hall
    exact congrArg Value.bool hall.symm
theorem Cur.slF {X : Cx} {S : Sto} {F : Nat → Prop} {w1 w : World} (hc : Cur X S F w1 w) (i : Nat) {b T n sz : Nat} {cs : List Value} (hS : nth S i = some (some b, T, cs)) (hl : cs.length = n * sz) (hn : n ≤ 100000) : SlF (fun _ => True) w (some ⟨b, 0, none⟩) n n sz cs :=
  ⟨Nat.le_refl _, small_max hn, hl, (fun h => by cases h), fun _ => ⟨b, 0, rfl, trivial, fun j u hj => by rw [Nat.zero_add, hc.cell hS]; exact hj⟩⟩
theorem Cur.slice3 {X : Cx} {S : Sto} {F : Nat → Prop} {w1 w : World} (hc : Cur X S F w1 w) (i : Nat) {b T : Nat} {x y z : ByteArray} (hS : nth S i = some (some b, T, [.string x, .string y, .string z])) : RStrs (fun _ => True) w (some ⟨b, 0, none⟩) 3 [x, y, z] :=
  hc.slF (n := 3) (sz := 1) i hS rfl (by omega)
def goodB (q : LReq) : Bool := decide (1 ≤ q.client) && decide (q.client ≤ 64) && decide (1 ≤ q.num) && decide (q.num ≤ 1099511627776) && decide (1 ≤ q.op.kind) && decide (q.op.kind ≤ 7) && decide (q.op.key.size ≤ 1024) && decide (q.op.val.size ≤ 1024) && decide (q.op.old.size ≤ 1024)
theorem good_any (q : LReq) (hq : q.wf) (w : World) : CallsTo 25 #[.agg q.cells.toArray] w (fun v _ => v = .bool (goodB q)) := by
  refine CallsTo.enter 44 (fun _ => True) (fun _ => True) Tryd.func25 rfl rfl rfl rfl (by intros; first | trivial | assumption) ?_
  with_reducible refine JC.seq ?_
  with_reducible refine JC.region ?_
  refine JL.op (JO.box rfl rfl ?_); intro b1
  refine JL.op (JO.val (y_assign) rfl ?_)
  with_reducible refine JL.nil ?_
  with_reducible refine JQ.seq (JC.seq ?_)
  with_reducible refine JC.region ?_
  refine JL.op (JO.val (y_fieldAddr rfl rfl rfl) rfl ?_)
  refine JL.op (JO.val (y_ldP (vs := q.op.cells) 0 rfl rfl rfl (List.take_of_length_le (by rw [show List.drop (0 + 2) q.cells = q.op.cells from rfl, LOp.len_cells hq.op]; exact Nat.le_refl _)) (by rw [LReq.len_cells hq]; rfl)) rfl ?_)
  refine JL.op (JO.alloc rfl rfl ?_); intro b3
  refine JL.op (JO.storeA 1 rfl rfl rfl rfl (LOp.len_cells hq.op) rfl (allOne_of (LOp.one hq.op)) ?_)
  with_reducible refine JL.nil ?_
  with_reducible refine JQ.seq (JC.seq ?_)
  refine JC.cutS [(2, .bool (goodB q))] ?_ (fun E => ?_)
  · with_reducible refine JC.region ?_
    refine JL.op (JO.val (y_fieldAddr rfl rfl rfl) rfl ?_)
    refine JL.op (JO.val (y_ld 0 rfl rfl rfl rfl) rfl ?_)
    refine JL.op (JO.val (y_geq rfl rfl) rfl ?_)
    refine JL.op (JO.val (y_move) rfl ?_)
    refine JL.split (d := 9) rfl (fun hg3 => ?_) (fun hg3 => ?_)
    · refine JL.op_do rfl rfl (congrArg Value.bool hg3) (JO.val (y_fieldAddr rfl rfl rfl) rfl ?_)
      refine JL.op_do rfl rfl (congrArg Value.bool hg3) (JO.val (y_ld 0 rfl rfl rfl rfl) rfl ?_)
      refine JL.op_do rfl rfl (congrArg Value.bool hg3) (JO.val (y_leq rfl rfl) rfl ?_)
      refine JL.op (JO.val (y_pick (congrArg Value.bool hg3)) rfl ?_)
      refine JL.op (JO.val (y_move) rfl ?_)
      refine JL.split (d := 14) rfl (fun hg8 => ?_) (fun hg8 => ?_)
      · refine JL.op_do rfl rfl (congrArg Value.bool hg8) (JO.val (y_fieldAddr rfl rfl rfl) rfl ?_)
        refine JL.op_do rfl rfl (congrArg Value.bool hg8) (JO.val (y_ld 0 rfl rfl rfl rfl) rfl ?_)
        refine JL.op_do rfl rfl (congrArg Value.bool hg8) (JO.val (y_geq rfl rfl) rfl ?_)
        refine JL.op (JO.val (y_pick (congrArg Value.bool hg8)) rfl ?_)
        refine JL.op (JO.val (y_move) rfl ?_)
        refine JL.split (d := 19) rfl (fun hg13 => ?_) (fun hg13 => ?_)
        · refine JL.op_do rfl rfl (congrArg Value.bool hg13) (JO.val (y_fieldAddr rfl rfl rfl) rfl ?_)
          refine JL.op_do rfl rfl (congrArg Value.bool hg13) (JO.val (y_ld 0 rfl rfl rfl rfl) rfl ?_)
          refine JL.op_do rfl rfl (congrArg Value.bool hg13) (JO.val (y_leq rfl rfl) rfl ?_)
          refine JL.op (JO.val (y_pick (congrArg Value.bool hg13)) rfl ?_)
          refine JL.op (JO.val (y_move) rfl ?_)
          refine JL.split (d := 24) rfl (fun hg18 => ?_) (fun hg18 => ?_)
          · refine JL.op_do rfl rfl (congrArg Value.bool hg18) (JO.val (y_fieldAddr rfl rfl rfl) rfl ?_)
            refine JL.op_do rfl rfl (congrArg Value.bool hg18) (JO.val (y_ld 1 rfl rfl rfl rfl) rfl ?_)
            refine JL.op_do rfl rfl (congrArg Value.bool hg18) (JO.val (y_geq rfl rfl) rfl ?_)
            refine JL.op (JO.val (y_pick (congrArg Value.bool hg18)) rfl ?_)
            refine JL.op (JO.val (y_move) rfl ?_)
            refine JL.split (d := 29) rfl (fun hg23 => ?_) (fun hg23 => ?_)
            · refine JL.op_do rfl rfl (congrArg Value.bool hg23) (JO.val (y_fieldAddr rfl rfl rfl) rfl ?_)
              refine JL.op_do rfl rfl (congrArg Value.bool hg23) (JO.val (y_ld 1 rfl rfl rfl rfl) rfl ?_)
              refine JL.op_do rfl rfl (congrArg Value.bool hg23) (JO.val (y_leq rfl rfl) rfl ?_)
              refine JL.op (JO.val (y_pick (congrArg Value.bool hg23)) rfl ?_)
              refine JL.op (JO.val (y_move) rfl ?_)
              refine JL.split (d := 34) rfl (fun hg28 => ?_) (fun hg28 => ?_)
              · refine JL.op_do rfl rfl (congrArg Value.bool hg28) (JO.val (y_fieldAddr rfl rfl rfl) rfl ?_)
                refine JL.op_do rfl rfl (congrArg Value.bool hg28) (JO.val (y_ld 1 rfl rfl rfl rfl) rfl ?_)
                refine JL.op_do rfl rfl (congrArg Value.bool hg28) (JO.val (y_fieldAddr rfl rfl rfl) rfl ?_)
                refine JL.op_do rfl rfl (congrArg Value.bool hg28) (JO.val (y_ld 1 rfl rfl rfl rfl) rfl ?_)
                refine JL.op_do rfl rfl (congrArg Value.bool hg28) (JO.val (y_fieldAddr rfl rfl rfl) rfl ?_)
                refine JL.op_do rfl rfl (congrArg Value.bool hg28) (JO.val (y_ld 1 rfl rfl rfl rfl) rfl ?_)
                refine JL.op_do rfl rfl (congrArg Value.bool hg28) (JO.buildN rfl rfl (⟨_, _, rfl, rfl, rfl, rfl, ⟨_, _, rfl, rfl, rfl, rfl, ⟨_, _, rfl, rfl, rfl, rfl, rfl⟩⟩⟩) rfl rfl rfl ?_); intro b41
                refine JL.op_do rfl rfl (congrArg Value.bool hg28) (JO.callv (fun wc hc => short_any (fun _ => True) _ 3 [q.op.key, q.op.val, q.op.old] wc (hc.slice3 2 rfl) (by simp)) rfl rfl rfl ?_)
                refine JL.op (JO.val (y_pick (congrArg Value.bool hg28)) rfl ?_)
                refine JL.op (JO.val (y_assign) rfl ?_)
                with_reducible refine JL.nil ?_
                (refine JQ.has ⟨congrArg Value.bool ?_, trivial⟩ (fun _ h => h.takeN 2); (simp_all [goodB, Bool.and_assoc]; done))
              · refine JL.op_skip rfl rfl (congrArg Value.bool hg28) rfl ?_
                refine JL.op_skip rfl rfl (congrArg Value.bool hg28) rfl ?_
                refine JL.op_skip rfl rfl (congrArg Value.bool hg28) rfl ?_
                refine JL.op_skip rfl rfl (congrArg Value.bool hg28) rfl ?_
                refine JL.op_skip rfl rfl (congrArg Value.bool hg28) rfl ?_
                refine JL.op_skip rfl rfl (congrArg Value.bool hg28) rfl ?_
                refine JL.op_skip rfl rfl (congrArg Value.bool hg28) rfl ?_
                refine JL.op_skip rfl rfl (congrArg Value.bool hg28) rfl ?_
                refine JL.op (JO.val (y_pick (congrArg Value.bool hg28)) rfl ?_)
                refine JL.op (JO.val (y_assign) rfl ?_)
                with_reducible refine JL.nil ?_
                (refine JQ.has ⟨congrArg Value.bool ?_, trivial⟩ (fun _ h => h.takeN 2); (rw [Bool.eq_iff_iff]; simp_all [goodB, Bool.and_assoc]; omega))
            · refine JL.op_skip rfl rfl (congrArg Value.bool hg23) rfl ?_
              refine JL.op_skip rfl rfl (congrArg Value.bool hg23) rfl ?_
              refine JL.op_skip rfl rfl (congrArg Value.bool hg23) rfl ?_
              refine JL.op (JO.val (y_pick (congrArg Value.bool hg23)) rfl ?_)
              refine JL.op (JO.val (y_move) rfl ?_)
              refine JL.op_skip rfl rfl rfl rfl ?_
              refine JL.op_skip rfl rfl rfl rfl ?_
              refine JL.op_skip rfl rfl rfl rfl ?_
              refine JL.op_skip rfl rfl rfl rfl ?_
              refine JL.op_skip rfl rfl rfl rfl ?_
              refine JL.op_skip rfl rfl rfl rfl ?_
              refine JL.op_skip rfl rfl rfl rfl ?_
              refine JL.op_skip rfl rfl rfl rfl ?_
              refine JL.op (JO.val (y_pick rfl) rfl ?_)
              refine JL.op (JO.val (y_assign) rfl ?_)
              with_reducible refine JL.nil ?_
              (refine JQ.has ⟨congrArg Value.bool ?_, trivial⟩ (fun _ h => h.takeN 2); (rw [Bool.eq_iff_iff]; simp_all [goodB, Bool.and_assoc]; omega))
          · refine JL.op_skip rfl rfl (congrArg Value.bool hg18) rfl ?_
            refine JL.op_skip rfl rfl (congrArg Value.bool hg18) rfl ?_
            refine JL.op_skip rfl rfl (congrArg Value.bool hg18) rfl ?_
            refine JL.op (JO.val (y_pick (congrArg Value.bool hg18)) rfl ?_)
            refine JL.op (JO.val (y_move) rfl ?_)
            refine JL.op_skip rfl rfl rfl rfl ?_
            refine JL.op_skip rfl rfl rfl rfl ?_
            refine JL.op_skip rfl rfl rfl rfl ?_
            refine JL.op (JO.val (y_pick rfl) rfl ?_)
            refine JL.op (JO.val (y_move) rfl ?_)
            refine JL.op_skip rfl rfl rfl rfl ?_
            refine JL.op_skip rfl rfl rfl rfl ?_
            refine JL.op_skip rfl rfl rfl rfl ?_
            refine JL.op_skip rfl rfl rfl rfl ?_
            refine JL.op_skip rfl rfl rfl rfl ?_
            refine JL.op_skip rfl rfl rfl rfl ?_
            refine JL.op_skip rfl rfl rfl rfl ?_
            refine JL.op_skip rfl rfl rfl rfl ?_
            refine JL.op (JO.val (y_pick rfl) rfl ?_)
            refine JL.op (JO.val (y_assign) rfl ?_)
            with_reducible refine JL.nil ?_
            (refine JQ.has ⟨congrArg Value.bool ?_, trivial⟩ (fun _ h => h.takeN 2); (rw [Bool.eq_iff_iff]; simp_all [goodB, Bool.and_assoc]; omega))
        · refine JL.op_skip rfl rfl (congrArg Value.bool hg13) rfl ?_
          refine JL.op_skip rfl rfl (congrArg Value.bool hg13) rfl ?_
          refine JL.op_skip rfl rfl (congrArg Value.bool hg13) rfl ?_
          refine JL.op (JO.val (y_pick (congrArg Value.bool hg13)) rfl ?_)
          refine JL.op (JO.val (y_move) rfl ?_)
          refine JL.op_skip rfl rfl rfl rfl ?_
          refine JL.op_skip rfl rfl rfl rfl ?_
          refine JL.op_skip rfl rfl rfl rfl ?_
          refine JL.op (JO.val (y_pick rfl) rfl ?_)
          refine JL.op (JO.val (y_move) rfl ?_)
          refine JL.op_skip rfl rfl rfl rfl ?_
          refine JL.op_skip rfl rfl rfl rfl ?_
          refine JL.op_skip rfl rfl rfl rfl ?_
          refine JL.op (JO.val (y_pick rfl) rfl ?_)
          refine JL.op (JO.val (y_move) rfl ?_)
          refine JL.op_skip rfl rfl rfl rfl ?_
          refine JL.op_skip rfl rfl rfl rfl ?_
          refine JL.op_skip rfl rfl rfl rfl ?_
          refine JL.op_skip rfl rfl rfl rfl ?_
          refine JL.op_skip rfl rfl rfl rfl ?_
          refine JL.op_skip rfl rfl rfl rfl ?_
          refine JL.op_skip rfl rfl rfl rfl ?_
          refine JL.op_skip rfl rfl rfl rfl ?_
          refine JL.op (JO.val (y_pick rfl) rfl ?_)
          refine JL.op (JO.val (y_assign) rfl ?_)
          with_reducible refine JL.nil ?_
          (refine JQ.has ⟨congrArg Value.bool ?_, trivial⟩ (fun _ h => h.takeN 2); (rw [Bool.eq_iff_iff]; simp_all [goodB, Bool.and_assoc]; omega))
      · refine JL.op_skip rfl rfl (congrArg Value.bool hg8) rfl ?_
        refine JL.op_skip rfl rfl (congrArg Value.bool hg8) rfl ?_
        refine JL.op_skip rfl rfl (congrArg Value.bool hg8) rfl ?_
        refine JL.op (JO.val (y_pick (congrArg Value.bool hg8)) rfl ?_)
        refine JL.op (JO.val (y_move) rfl ?_)
        refine JL.op_skip rfl rfl rfl rfl ?_
        refine JL.op_skip rfl rfl rfl rfl ?_
        refine JL.op_skip rfl rfl rfl rfl ?_
        refine JL.op (JO.val (y_pick rfl) rfl ?_)
        refine JL.op (JO.val (y_move) rfl ?_)
        refine JL.op_skip rfl rfl rfl rfl ?_
        refine JL.op_skip rfl rfl rfl rfl ?_
        refine JL.op_skip rfl rfl rfl rfl ?_
        refine JL.op (JO.val (y_pick rfl) rfl ?_)
        refine JL.op (JO.val (y_move) rfl ?_)
        refine JL.op_skip rfl rfl rfl rfl ?_
        refine JL.op_skip rfl rfl rfl rfl ?_
        refine JL.op_skip rfl rfl rfl rfl ?_
        refine JL.op (JO.val (y_pick rfl) rfl ?_)
        refine JL.op (JO.val (y_move) rfl ?_)
        refine JL.op_skip rfl rfl rfl rfl ?_
        refine JL.op_skip rfl rfl rfl rfl ?_
        refine JL.op_skip rfl rfl rfl rfl ?_
        refine JL.op_skip rfl rfl rfl rfl ?_
        refine JL.op_skip rfl rfl rfl rfl ?_
        refine JL.op_skip rfl rfl rfl rfl ?_
        refine JL.op_skip rfl rfl rfl rfl ?_
        refine JL.op_skip rfl rfl rfl rfl ?_
        refine JL.op (JO.val (y_pick rfl) rfl ?_)
        refine JL.op (JO.val (y_assign) rfl ?_)
        with_reducible refine JL.nil ?_
        (refine JQ.has ⟨congrArg Value.bool ?_, trivial⟩ (fun _ h => h.takeN 2); (rw [Bool.eq_iff_iff]; simp_all [goodB, Bool.and_assoc]; omega))
    · refine JL.op_skip rfl rfl (congrArg Value.bool hg3) rfl ?_
      refine JL.op_skip rfl rfl (congrArg Value.bool hg3) rfl ?_
      refine JL.op_skip rfl rfl (congrArg Value.bool hg3) rfl ?_
      refine JL.op (JO.val (y_pick (congrArg Value.bool hg3)) rfl ?_)
      refine JL.op (JO.val (y_move) rfl ?_)
      refine JL.op_skip rfl rfl rfl rfl ?_
      refine JL.op_skip rfl rfl rfl rfl ?_
      refine JL.op_skip rfl rfl rfl rfl ?_
      refine JL.op (JO.val (y_pick rfl) rfl ?_)
      refine JL.op (JO.val (y_move) rfl ?_)
      refine JL.op_skip rfl rfl rfl rfl ?_
      refine JL.op_skip rfl rfl rfl rfl ?_
      refine JL.op_skip rfl rfl rfl rfl ?_
      refine JL.op (JO.val (y_pick rfl) rfl ?_)
      refine JL.op (JO.val (y_move) rfl ?_)
      refine JL.op_skip rfl rfl rfl rfl ?_
      refine JL.op_skip rfl rfl rfl rfl ?_
      refine JL.op_skip rfl rfl rfl rfl ?_
      refine JL.op (JO.val (y_pick rfl) rfl ?_)
      refine JL.op (JO.val (y_move) rfl ?_)
      refine JL.op_skip rfl rfl rfl rfl ?_
      refine JL.op_skip rfl rfl rfl rfl ?_
      refine JL.op_skip rfl rfl rfl rfl ?_
      refine JL.op (JO.val (y_pick rfl) rfl ?_)
      refine JL.op (JO.val (y_move) rfl ?_)
      refine JL.op_skip rfl rfl rfl rfl ?_
      refine JL.op_skip rfl rfl rfl rfl ?_
      refine JL.op_skip rfl rfl rfl rfl ?_
      refine JL.op_skip rfl rfl rfl rfl ?_
      refine JL.op_skip rfl rfl rfl rfl ?_
      refine JL.op_skip rfl rfl rfl rfl ?_
      refine JL.op_skip rfl rfl rfl rfl ?_
      refine JL.op_skip rfl rfl rfl rfl ?_
      refine JL.op (JO.val (y_pick rfl) rfl ?_)
      refine JL.op (JO.val (y_assign) rfl ?_)
      with_reducible refine JL.nil ?_
      (refine JQ.has ⟨congrArg Value.bool ?_, trivial⟩ (fun _ h => h.takeN 2); (rw [Bool.eq_iff_iff]; simp_all [goodB, Bool.and_assoc]; omega))
  with_reducible refine JQ.seq (JC.ret ?_)
  exact ret_one rfl ResV.tmp (fun w _ => rfl)
theorem good9_any (q : LReq) (hq : q.wf) (w : World) : CallsTo 32 #[.agg q.cells.toArray] w (fun v _ => v = .bool (goodB q)) := by
  refine CallsTo.enter 52 (fun _ => True) (fun _ => True) Tryd.func32 rfl rfl rfl rfl (by intros; first | trivial | assumption) ?_
  with_reducible refine JC.seq ?_
  with_reducible refine JC.region ?_
  refine JL.op (JO.box rfl rfl ?_); intro b1
  refine JL.op (JO.val (y_assign) rfl ?_)
  with_reducible refine JL.nil ?_
  with_reducible refine JQ.seq (JC.seq (JC.seq ?_))
  refine JC.cutS [(1, .pointer (some ⟨b1, 0, none⟩)), (32, .bool (!(decide (1 ≤ q.client) && decide (q.client ≤ 64) && decide (1 ≤ q.num) && decide (q.num ≤ 1099511627776) && decide (1 ≤ q.op.kind) && decide (q.op.kind ≤ 7))))] ?_ (fun E => ?_)
  · with_reducible refine JC.region ?_
    refine JL.op (JO.val (y_fieldAddr rfl rfl rfl) rfl ?_)
    refine JL.op (JO.val (y_ld 0 rfl rfl rfl rfl) rfl ?_)
    refine JL.op (JO.val (y_lss rfl rfl) rfl ?_)
    refine JL.op (JO.val (y_move) rfl ?_)
    refine JL.split (d := 6) rfl (fun hg3 => ?_) (fun hg3 => ?_)
    · refine JL.op_skip rfl rfl (congrArg Value.bool hg3) rfl ?_
      refine JL.op_skip rfl rfl (congrArg Value.bool hg3) rfl ?_
      refine JL.op_skip rfl rfl (congrArg Value.bool hg3) rfl ?_
      refine JL.op (JO.val (y_pick (congrArg Value.bool hg3)) rfl ?_)
      refine JL.op (JO.val (y_move) rfl ?_)
      refine JL.op_skip rfl rfl rfl rfl ?_
      refine JL.op_skip rfl rfl rfl rfl ?_
      refine JL.op_skip rfl rfl rfl rfl ?_
      refine JL.op (JO.val (y_pick rfl) rfl ?_)
      refine JL.op (JO.val (y_move) rfl ?_)
      refine JL.op_skip rfl rfl rfl rfl ?_
      refine JL.op_skip rfl rfl rfl rfl ?_
      refine JL.op_skip rfl rfl rfl rfl ?_
      refine JL.op (JO.val (y_pick rfl) rfl ?_)
      refine JL.op (JO.val (y_move) rfl ?_)
      refine JL.op_skip rfl rfl rfl rfl ?_
      refine JL.op_skip rfl rfl rfl rfl ?_
      refine JL.op_skip rfl rfl rfl rfl ?_
      refine JL.op_skip rfl rfl rfl rfl ?_
      refine JL.op (JO.val (y_pick rfl) rfl ?_)
      refine JL.op (JO.val (y_move) rfl ?_)
      refine JL.op_skip rfl rfl rfl rfl ?_
      refine JL.op_skip rfl rfl rfl rfl ?_
      refine JL.op_skip rfl rfl rfl rfl ?_
      refine JL.op_skip rfl rfl rfl rfl ?_
      refine JL.op (JO.val (y_pick rfl) rfl ?_)
      with_reducible refine JL.nil ?_
      (refine JQ.has ⟨rfl, congrArg Value.bool ?_, trivial⟩ (fun _ h => h); (simp_all []; done))
    · refine JL.op_do rfl rfl (congrArg Value.bool hg3) (JO.val (y_fieldAddr rfl rfl rfl) rfl ?_)
      refine JL.op_do rfl rfl (congrArg Value.bool hg3) (JO.val (y_ld 0 rfl rfl rfl rfl) rfl ?_)
      refine JL.op_do rfl rfl (congrArg Value.bool hg3) (JO.val (y_gtr rfl rfl) rfl ?_)
      refine JL.op (JO.val (y_pick (congrArg Value.bool hg3)) rfl ?_)
      refine JL.op (JO.val (y_move) rfl ?_)
      refine JL.split (d := 11) rfl (fun hg8 => ?_) (fun hg8 => ?_)
      · refine JL.op_skip rfl rfl (congrArg Value.bool hg8) rfl ?_
        refine JL.op_skip rfl rfl (congrArg Value.bool hg8) rfl ?_
        refine JL.op_skip rfl rfl (congrArg Value.bool hg8) rfl ?_
        refine JL.op (JO.val (y_pick (congrArg Value.bool hg8)) rfl ?_)
        refine JL.op (JO.val (y_move) rfl ?_)
        refine JL.op_skip rfl rfl rfl rfl ?_
        refine JL.op_skip rfl rfl rfl rfl ?_
        refine JL.op_skip rfl rfl rfl rfl ?_
        refine JL.op (JO.val (y_pick rfl) rfl ?_)
        refine JL.op (JO.val (y_move) rfl ?_)
        refine JL.op_skip rfl rfl rfl rfl ?_
        refine JL.op_skip rfl rfl rfl rfl ?_
        refine JL.op_skip rfl rfl rfl rfl ?_
        refine JL.op_skip rfl rfl rfl rfl ?_
        refine JL.op (JO.val (y_pick rfl) rfl ?_)
        refine JL.op (JO.val (y_move) rfl ?_)
        refine JL.op_skip rfl rfl rfl rfl ?_
        refine JL.op_skip rfl rfl rfl rfl ?_
        refine JL.op_skip rfl rfl rfl rfl ?_
        refine JL.op_skip rfl rfl rfl rfl ?_
        refine JL.op (JO.val (y_pick rfl) rfl ?_)
        with_reducible refine JL.nil ?_
        (refine JQ.has ⟨rfl, congrArg Value.bool ?_, trivial⟩ (fun _ h => h); (simp_all []; done))
      · refine JL.op_do rfl rfl (congrArg Value.bool hg8) (JO.val (y_fieldAddr rfl rfl rfl) rfl ?_)
        refine JL.op_do rfl rfl (congrArg Value.bool hg8) (JO.val (y_ld 0 rfl rfl rfl rfl) rfl ?_)
        refine JL.op_do rfl rfl (congrArg Value.bool hg8) (JO.val (y_lss rfl rfl) rfl ?_)
        refine JL.op (JO.val (y_pick (congrArg Value.bool hg8)) rfl ?_)
        refine JL.op (JO.val (y_move) rfl ?_)
        refine JL.split (d := 16) rfl (fun hg13 => ?_) (fun hg13 => ?_)
        · refine JL.op_skip rfl rfl (congrArg Value.bool hg13) rfl ?_
          refine JL.op_skip rfl rfl (congrArg Value.bool hg13) rfl ?_
          refine JL.op_skip rfl rfl (congrArg Value.bool hg13) rfl ?_
          refine JL.op (JO.val (y_pick (congrArg Value.bool hg13)) rfl ?_)
          refine JL.op (JO.val (y_move) rfl ?_)
          refine JL.op_skip rfl rfl rfl rfl ?_
          refine JL.op_skip rfl rfl rfl rfl ?_
          refine JL.op_skip rfl rfl rfl rfl ?_
          refine JL.op_skip rfl rfl rfl rfl ?_
          refine JL.op (JO.val (y_pick rfl) rfl ?_)
          refine JL.op (JO.val (y_move) rfl ?_)
          refine JL.op_skip rfl rfl rfl rfl ?_
          refine JL.op_skip rfl rfl rfl rfl ?_
          refine JL.op_skip rfl rfl rfl rfl ?_
          refine JL.op_skip rfl rfl rfl rfl ?_
          refine JL.op (JO.val (y_pick rfl) rfl ?_)
          with_reducible refine JL.nil ?_
          (refine JQ.has ⟨rfl, congrArg Value.bool ?_, trivial⟩ (fun _ h => h); (simp_all []; done))
        · refine JL.op_do rfl rfl (congrArg Value.bool hg13) (JO.val (y_fieldAddr rfl rfl rfl) rfl ?_)
          refine JL.op_do rfl rfl (congrArg Value.bool hg13) (JO.val (y_ld 0 rfl rfl rfl rfl) rfl ?_)
          refine JL.op_do rfl rfl (congrArg Value.bool hg13) (JO.val (y_gtr rfl rfl) rfl ?_)
          refine JL.op (JO.val (y_pick (congrArg Value.bool hg13)) rfl ?_)
          refine JL.op (JO.val (y_move) rfl ?_)
          refine JL.split (d := 21) rfl (fun hg18 => ?_) (fun hg18 => ?_)
          · refine JL.op_skip rfl rfl (congrArg Value.bool hg18) rfl ?_
            refine JL.op_skip rfl rfl (congrArg Value.bool hg18) rfl ?_
            refine JL.op_skip rfl rfl (congrArg Value.bool hg18) rfl ?_
            refine JL.op_skip rfl rfl (congrArg Value.bool hg18) rfl ?_
            refine JL.op (JO.val (y_pick (congrArg Value.bool hg18)) rfl ?_)
            refine JL.op (JO.val (y_move) rfl ?_)
            refine JL.op_skip rfl rfl rfl rfl ?_
            refine JL.op_skip rfl rfl rfl rfl ?_
            refine JL.op_skip rfl rfl rfl rfl ?_
            refine JL.op_skip rfl rfl rfl rfl ?_
            refine JL.op (JO.val (y_pick rfl) rfl ?_)
            with_reducible refine JL.nil ?_
            (refine JQ.has ⟨rfl, congrArg Value.bool ?_, trivial⟩ (fun _ h => h); (simp_all []; done))
          · refine JL.op_do rfl rfl (congrArg Value.bool hg18) (JO.val (y_fieldAddr rfl rfl rfl) rfl ?_)
            refine JL.op_do rfl rfl (congrArg Value.bool hg18) (JO.val (y_fieldAddr rfl rfl rfl) rfl ?_)
            refine JL.op_do rfl rfl (congrArg Value.bool hg18) (JO.val (y_ld 0 rfl rfl rfl rfl) rfl ?_)
            refine JL.op_do rfl rfl (congrArg Value.bool hg18) (JO.val (y_lss rfl rfl) rfl ?_)
            refine JL.op (JO.val (y_pick (congrArg Value.bool hg18)) rfl ?_)
            refine JL.op (JO.val (y_move) rfl ?_)
            refine JL.split (d := 27) rfl (fun hg24 => ?_) (fun hg24 => ?_)
            · refine JL.op_skip rfl rfl (congrArg Value.bool hg24) rfl ?_
              refine JL.op_skip rfl rfl (congrArg Value.bool hg24) rfl ?_
              refine JL.op_skip rfl rfl (congrArg Value.bool hg24) rfl ?_
              refine JL.op_skip rfl rfl (congrArg Value.bool hg24) rfl ?_
              refine JL.op (JO.val (y_pick (congrArg Value.bool hg24)) rfl ?_)
              with_reducible refine JL.nil ?_
              (refine JQ.has ⟨rfl, congrArg Value.bool ?_, trivial⟩ (fun _ h => h); (simp_all []; done))
            · refine JL.op_do rfl rfl (congrArg Value.bool hg24) (JO.val (y_fieldAddr rfl rfl rfl) rfl ?_)
              refine JL.op_do rfl rfl (congrArg Value.bool hg24) (JO.val (y_fieldAddr rfl rfl rfl) rfl ?_)
              refine JL.op_do rfl rfl (congrArg Value.bool hg24) (JO.val (y_ld 0 rfl rfl rfl rfl) rfl ?_)
              refine JL.op_do rfl rfl (congrArg Value.bool hg24) (JO.val (y_gtr rfl rfl) rfl ?_)
              refine JL.op (JO.val (y_pick (congrArg Value.bool hg24)) rfl ?_)
              with_reducible refine JL.nil ?_
              (refine JQ.has ⟨rfl, congrArg Value.bool ?_, trivial⟩ (fun _ h => h); (rw [Bool.eq_iff_iff]; simp_all []; done))
  with_reducible refine JQ.seq ?_
  refine JC.cond rfl (fun hg => ?_) (fun hg => ?_)
  · with_reducible refine JC.seq ?_
    with_reducible refine JC.region ?_
    refine JL.op (JO.val (y_assign) rfl ?_)
    with_reducible refine JL.nil ?_
    with_reducible refine JQ.seq (JC.ret (JQ.seq_ret ?_))
    exact ret_one rfl ResV.tmp (fun w _ => congrArg Value.bool (by simp at hg; simp [goodB]; omega))
  · with_reducible refine JC.skip (JQ.seq (JC.seq ?_))
    refine JC.cutS [(2, .bool (decide (q.op.key.size ≤ 1024) && decide (q.op.val.size ≤ 1024) && decide (q.op.old.size ≤ 1024)))] ?_ (fun E => ?_)
    · with_reducible refine JC.region ?_
      refine JL.op (JO.val (y_fieldAddr rfl rfl rfl) rfl ?_)
      refine JL.op (JO.val (y_fieldAddr rfl rfl rfl) rfl ?_)
      refine JL.op (JO.val (y_ld 0 rfl rfl rfl rfl) rfl ?_)
      refine JL.op (JO.val (y_lens rfl rfl) rfl ?_)
      refine JL.op (JO.val (y_leq rfl rfl) rfl ?_)
      refine JL.op (JO.val (y_move) rfl ?_)
      refine JL.split (d := 38) rfl (fun hg5 => ?_) (fun hg5 => ?_)
      · refine JL.op_do rfl rfl (congrArg Value.bool hg5) (JO.val (y_fieldAddr rfl rfl rfl) rfl ?_)
        refine JL.op_do rfl rfl (congrArg Value.bool hg5) (JO.val (y_fieldAddr rfl rfl rfl) rfl ?_)
        refine JL.op_do rfl rfl (congrArg Value.bool hg5) (JO.val (y_ld 0 rfl rfl rfl rfl) rfl ?_)
        refine JL.op_do rfl rfl (congrArg Value.bool hg5) (JO.val (y_lens rfl rfl) rfl ?_)
        refine JL.op_do rfl rfl (congrArg Value.bool hg5) (JO.val (y_leq rfl rfl) rfl ?_)
        refine JL.op (JO.val (y_pick (congrArg Value.bool hg5)) rfl ?_)
        refine JL.op (JO.val (y_move) rfl ?_)
        refine JL.split (d := 45) rfl (fun hg12 => ?_) (fun hg12 => ?_)
        · refine JL.op_do rfl rfl (congrArg Value.bool hg12) (JO.val (y_fieldAddr rfl rfl rfl) rfl ?_)
          refine JL.op_do rfl rfl (congrArg Value.bool hg12) (JO.val (y_fieldAddr rfl rfl rfl) rfl ?_)
          refine JL.op_do rfl rfl (congrArg Value.bool hg12) (JO.val (y_ld 0 rfl rfl rfl rfl) rfl ?_)
          refine JL.op_do rfl rfl (congrArg Value.bool hg12) (JO.val (y_lens rfl rfl) rfl ?_)
          refine JL.op_do rfl rfl (congrArg Value.bool hg12) (JO.val (y_leq rfl rfl) rfl ?_)
          refine JL.op (JO.val (y_pick (congrArg Value.bool hg12)) rfl ?_)
          refine JL.op (JO.val (y_assign) rfl ?_)
          with_reducible refine JL.nil ?_
          (refine JQ.has ⟨congrArg Value.bool ?_, trivial⟩ (fun _ h => h); (rw [Bool.eq_iff_iff]; simp_all []; omega))
        · refine JL.op_skip rfl rfl (congrArg Value.bool hg12) rfl ?_
          refine JL.op_skip rfl rfl (congrArg Value.bool hg12) rfl ?_
          refine JL.op_skip rfl rfl (congrArg Value.bool hg12) rfl ?_
          refine JL.op_skip rfl rfl (congrArg Value.bool hg12) rfl ?_
          refine JL.op_skip rfl rfl (congrArg Value.bool hg12) rfl ?_
          refine JL.op (JO.val (y_pick (congrArg Value.bool hg12)) rfl ?_)
          refine JL.op (JO.val (y_assign) rfl ?_)
          with_reducible refine JL.nil ?_
          (refine JQ.has ⟨congrArg Value.bool ?_, trivial⟩ (fun _ h => h); (rw [Bool.eq_iff_iff]; simp_all []; omega))
      · refine JL.op_skip rfl rfl (congrArg Value.bool hg5) rfl ?_
        refine JL.op_skip rfl rfl (congrArg Value.bool hg5) rfl ?_
        refine JL.op_skip rfl rfl (congrArg Value.bool hg5) rfl ?_
        refine JL.op_skip rfl rfl (congrArg Value.bool hg5) rfl ?_
        refine JL.op_skip rfl rfl (congrArg Value.bool hg5) rfl ?_
        refine JL.op (JO.val (y_pick (congrArg Value.bool hg5)) rfl ?_)
        refine JL.op (JO.val (y_move) rfl ?_)
        refine JL.op_skip rfl rfl rfl rfl ?_
        refine JL.op_skip rfl rfl rfl rfl ?_
        refine JL.op_skip rfl rfl rfl rfl ?_
        refine JL.op_skip rfl rfl rfl rfl ?_
        refine JL.op_skip rfl rfl rfl rfl ?_
        refine JL.op (JO.val (y_pick rfl) rfl ?_)
        refine JL.op (JO.val (y_assign) rfl ?_)
        with_reducible refine JL.nil ?_
        (refine JQ.has ⟨congrArg Value.bool ?_, trivial⟩ (fun _ h => h); (rw [Bool.eq_iff_iff]; simp_all []; omega))
    with_reducible refine JQ.seq (JC.ret ?_)
    exact ret_one rfl ResV.tmp (fun w _ => congrArg Value.bool (by simp at hg; simp [goodB, hg]))

/-! ### Where a pair, a reply, a member is -/
def pairI (s : LState) (k : ByteArray) : Nat := bsI (fun p => cmpS p.k k) s.ps
def pairB (s : LState) (k : ByteArray) : Bool := bsB (fun p => cmpS p.k k) s.ps
def lastI (s : LState) (c : Int) : Nat := bsI (fun r => cmpI r.client c) s.rs
def lastB (s : LState) (c : Int) : Bool := bsB (fun r => cmpI r.client c) s.rs
def findI (ms : List LMember) (id : Int) : Nat := bsI (fun m => IntKind.i64.wrap (m.id - id)) ms
def findB (ms : List LMember) (id : Int) : Bool := bsB (fun m => IntKind.i64.wrap (m.id - id)) ms
theorem at0_map {α β : Type} (g : α → β) (c : β → Int) (xs : List α) : at0 (fun x => c (g x)) xs = at0 c (xs.map g) := by
  funext k
  unfold at0
  rw [List.getElem?_map]
  cases xs[k]? <;> rfl
theorem bsI_map {α β : Type} (g : α → β) (c : β → Int) (xs : List α) : bsI (fun x => c (g x)) xs = bsI c (xs.map g) := by
  unfold bsI
  rw [at0_map, List.length_map]
theorem bsB_map {α β : Type} (g : α → β) (c : β → Int) (xs : List α) : bsB (fun x => c (g x)) xs = bsB c (xs.map g) := by
  unfold bsB
  rw [bsI_map, at0_map, List.length_map]
theorem pair_any (F : Nat → Prop) (cs : List Value) (s : LState) (k : ByteArray) (w : World) (h : RState F w cs s) (hsm : Small s) :
    CallsTo 42 #[.agg cs.toArray, .string k] w (fun v _ => v = .tuple #[.int .i64 (pairI s k : Nat), .bool (pairB s k)]) := by
  obtain ⟨Ap, cp, Ar, cr, Am, cm, rfl, hp, hr, hm⟩ := h.form
  refine CallsTo.enter 12 (fun _ => True) F Tryd.func42 rfl rfl rfl rfl (by intros; first | trivial | assumption) ?_
  with_reducible refine JC.seq ?_
  with_reducible refine JC.region ?_
  refine JL.op (JO.box rfl rfl ?_); intro b2
  refine JL.op (JO.val (y_assign) rfl ?_)
  refine JL.op (JO.val (y_assign) rfl ?_)
  with_reducible refine JL.nil ?_
  with_reducible refine JQ.seq (JC.seq ?_)
  with_reducible refine JC.region ?_
  refine JL.op (JO.val (y_fieldAddr rfl rfl rfl) rfl ?_)
  refine JL.op (JO.val (y_ld 0 rfl rfl rfl rfl) rfl ?_)
  refine JL.op (JO.val (y_move) rfl ?_)
  refine JL.op (JO.callv (fun wc hc => search_67 _ Ap cp s.ps k wc (SlF.step hp hc.step (by omega)) (by have := hsm.ps; omega) (fun _ _ => trivial) pair_len) rfl rfl rfl ?_)
  refine JL.op (JO.val (y_extract rfl rfl) rfl ?_)
  refine JL.op (JO.val (y_extract rfl rfl) rfl ?_)
  refine JL.op (JO.val (y_assign) rfl ?_)
  refine JL.op (JO.val (y_assign) rfl ?_)
  with_reducible refine JL.nil ?_
  with_reducible refine JQ.seq (JC.ret ?_)
  exact ret_two rfl ResV.tmp ResV.tmp (fun w _ => rfl)
theorem last_any (F : Nat → Prop) (cs : List Value) (s : LState) (c : Int) (w : World) (h : RState F w cs s) (hsm : Small s) :
    CallsTo 27 #[.agg cs.toArray, .int .i64 c] w (fun v _ => v = .tuple #[.int .i64 (lastI s c : Nat), .bool (lastB s c)]) := by
  obtain ⟨Ap, cp, Ar, cr, Am, cm, rfl, hp, hr, hm⟩ := h.form
  obtain ⟨hs, hhs, hrow, hvals⟩ := hr
  have hlen : hs.length = s.rs.length := by rw [← hhs]; simp
  have e1 : bsI (fun h => cmpI h.1.client c) hs = lastI s c := by rw [bsI_map (fun h : LReply × Option Addr × Nat => h.1) (fun r => cmpI r.client c), hhs]; rfl
  have e2 : bsB (fun h => cmpI h.1.client c) hs = lastB s c := by rw [bsB_map (fun h : LReply × Option Addr × Nat => h.1) (fun r => cmpI r.client c), hhs]; rfl
  refine CallsTo.enter 12 (fun _ => True) F Tryd.func27 rfl rfl rfl rfl (by intros; first | trivial | assumption) ?_
  with_reducible refine JC.seq ?_
  with_reducible refine JC.region ?_
  refine JL.op (JO.box rfl rfl ?_); intro b2
  refine JL.op (JO.val (y_assign) rfl ?_)
  refine JL.op (JO.val (y_assign) rfl ?_)
  with_reducible refine JL.nil ?_
  with_reducible refine JQ.seq (JC.seq ?_)
  with_reducible refine JC.region ?_
  refine JL.op (JO.val (y_fieldAddr rfl rfl rfl) rfl ?_)
  refine JL.op (JO.val (y_ld 0 rfl rfl rfl rfl) rfl ?_)
  refine JL.op (JO.val (y_move) rfl ?_)
  refine JL.op (JO.callv (fun wc hc => (hlen ▸ search_45 _ Ar cr hs c wc (SlF.step (hlen ▸ hrow) hc.step (by omega)) (by have := hsm.rs; omega) (fun _ _ => trivial) rcells_len)) rfl rfl rfl ?_)
  refine JL.op (JO.val (y_extract rfl rfl) rfl ?_)
  refine JL.op (JO.val (y_extract rfl rfl) rfl ?_)
  refine JL.op (JO.val (y_assign) rfl ?_)
  refine JL.op (JO.val (y_assign) rfl ?_)
  with_reducible refine JL.nil ?_
  with_reducible refine JQ.seq (JC.ret ?_)
  exact ret_two rfl ResV.tmp ResV.tmp (fun w _ => by rw [← e1, ← e2]; rfl)
theorem find_any (F : Nat → Prop) (ep : Int) (A : Option Addr) (cap : Nat) (ms : List LMember) (id : Int) (w : World) (h : RMems F w A cap ms) (hn : ms.length ≤ 100000) (hwf : ∀ m ∈ ms, m.wf) :
    CallsTo 76 #[.agg [.int .i64 ep, .slice A ms.length cap].toArray, .int .i64 id] w (fun v _ => v = .tuple #[.int .i64 (findI ms id : Nat), .bool (findB ms id)]) := by
  refine CallsTo.enter 12 (fun _ => True) F Tryd.func76 rfl rfl rfl rfl (by intros; first | trivial | assumption) ?_
  with_reducible refine JC.seq ?_
  with_reducible refine JC.region ?_
  refine JL.op (JO.box rfl rfl ?_); intro b2
  refine JL.op (JO.val (y_assign) rfl ?_)
  refine JL.op (JO.val (y_assign) rfl ?_)
  with_reducible refine JL.nil ?_
  with_reducible refine JQ.seq (JC.seq ?_)
  with_reducible refine JC.region ?_
  refine JL.op (JO.val (y_fieldAddr rfl rfl rfl) rfl ?_)
  refine JL.op (JO.val (y_ld 0 rfl rfl rfl rfl) rfl ?_)
  refine JL.op (JO.val (y_move) rfl ?_)
  refine JL.op (JO.callv (fun wc hc => search_92 _ A cap ms id wc (SlF.step h hc.step (by omega)) hn hwf (fun m hm => LMember.len_cells (hwf m hm))) rfl rfl rfl ?_)
  refine JL.op (JO.val (y_extract rfl rfl) rfl ?_)
  refine JL.op (JO.val (y_extract rfl rfl) rfl ?_)
  refine JL.op (JO.val (y_assign) rfl ?_)
  refine JL.op (JO.val (y_assign) rfl ?_)
  with_reducible refine JL.nil ?_
  with_reducible refine JQ.seq (JC.ret ?_)
  exact ret_two rfl ResV.tmp ResV.tmp (fun w _ => rfl)
end Go.Proofs.YtchnnplcpidkiaaDoor
