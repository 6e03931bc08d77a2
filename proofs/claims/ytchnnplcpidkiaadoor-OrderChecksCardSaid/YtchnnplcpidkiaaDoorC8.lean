/- Contracts of the references' With; no condition but bounds on lengths. -/
import Derived.Test.YtchnnplcpidkiaaDoorC7
import Derived.Test.YtchnnplcpidkiaaDoorB8
namespace Go.Proofs.YtchnnplcpidkiaaDoor
open Go.RowKit
set_option linter.unusedSimpArgs false
set_option linter.unusedVariables false
set_option maxRecDepth 20000

theorem room_max2 {n : Nat} (h : n ≤ 1000000) : n ≤ maxLen := by unfold maxLen; omega
/-- A list with x ahead of the first at which to stop; some are left out. -/
def goW {α : Type} (stop keep : α → Bool) (x : α) : List α → Bool → List α
  | [], done => if done then [] else [x]
  | y :: ys, done => (if !done && stop y then [x] else []) ++ ((if keep y then [y] else []) ++ goW stop keep x ys (done || stop y))
theorem goW_at {α : Type} {stop keep : α → Bool} {x y : α} {ys : List α} {k : Nat} {done : Bool} (h : ys[k]? = some y) : goW stop keep x (ys.drop k) done = (if !done && stop y then [x] else []) ++ ((if keep y then [y] else []) ++ goW stop keep x (ys.drop (k + 1)) (done || stop y)) := by
  have : ys.drop k = y :: ys.drop (k + 1) := by
    obtain ⟨h1, h2⟩ := List.getElem?_eq_some_iff.1 h
    rw [← h2]; exact List.drop_eq_getElem_cons h1
  rw [this, goW]
def withP (x : LPair) (ps : List LPair) : List LPair := goW (fun p => !(Op.bytesLess p.k.toList x.k.toList)) (fun p => !(p.k.toList == x.k.toList)) x ps false
def withM (x : LMember) (ms : List LMember) : List LMember := goW (fun m => decide (m.id > x.id)) (fun _ => true) x ms false
theorem withP_any (F : Nat → Prop) (A : Option Addr) (cap : Nat) (ms : List LPair) (x : LPair) (w : World) (h : RPairs F w A cap ms) (hn : ms.length ≤ 100000) :
    CallsTo 56 #[.slice A ms.length cap, .agg x.cells.toArray] w (fun v w' => ∃ A' cap', v = .slice A' (withP x ms).length cap' ∧ OwnF (fun b => w.heap.size ≤ b) w' 53 2 A' (withP x ms).length cap' ((withP x ms).flatMap LPair.cells)) := by
  have hx1 : allOne x.cells = true := rfl
  refine CallsTo.enter 45 (fun _ => True) F Tryd.func56 rfl rfl rfl rfl (by intros; first | trivial | assumption) ?_
  with_reducible refine JC.seq ?_
  with_reducible refine JC.region ?_
  refine JL.op (JO.box rfl rfl ?_); intro b3
  refine JL.op (JO.val (y_assign) rfl ?_)
  with_reducible refine JL.nil ?_
  with_reducible refine JQ.seq (JC.seq ?_)
  with_reducible refine JC.region ?_
  refine JL.op (JO.val (y_assign) rfl ?_)
  with_reducible refine JL.nil ?_
  with_reducible refine JQ.seq (JC.seq ?_)
  with_reducible refine JC.region ?_
  refine JL.op (JO.val (y_assign) rfl ?_)
  with_reducible refine JL.nil ?_
  with_reducible refine JQ.seq (JC.seq (JC.seq ?_))
  with_reducible refine JC.region ?_
  refine JL.op (JO.val (y_move) rfl ?_)
  refine JL.op (JO.val (y_len rfl rfl) rfl ?_)
  refine JL.op (JO.val (y_move) rfl ?_)
  with_reducible refine JL.nil ?_
  with_reducible refine JQ.seq (JC.block ?_)
  refine JC.addNone 53 ?_
  refine JC.loop (fun m E S F' w1' => ∃ k ob cap' cur done out, m = ms.length - k ∧ k ≤ ms.length ∧ out.length ≤ 2 * k ∧ out ++ goW (fun p => !(Op.bytesLess p.k.toList x.k.toList)) (fun p => !(p.k.toList == x.k.toList)) x (ms.drop k) done = withP x ms ∧ Row ob out.length cap' 2 cur ∧ cur.take (out.length * 2) = out.flatMap LPair.cells ∧ S = [(some b3, 53, x.cells), (ob, 53, cur)] ∧ F' = F ∧ w1' = w ∧
      Has E [(3, .pointer (some ⟨b3, 0, none⟩)), (5, .slice (ob.map mkA) out.length cap'), (6, .bool done), (9, .slice A ms.length cap), (10, .int .i64 (ms.length : Nat)), (11, .int .i64 (k : Nat))])
    _ ⟨0, none, 0, [], false, [], rfl, Nat.zero_le _, Nat.zero_le _, rfl, Row.none _, rfl, rfl, rfl, rfl, ⟨rfl, rfl, rfl, rfl, rfl, rfl, trivial⟩⟩ ?_
  rintro m E S F' w1' ⟨k, ob, cap', cur, done, out, rfl, hk, hol, hout, hrow, htk, rfl, rfl, rfl, hE⟩
  refine JC.env hE (fun E => ?_)
  with_reducible refine JC.seq ?_
  with_reducible refine JC.region ?_
  refine JL.op (JO.val (y_lss rfl rfl) rfl ?_)
  with_reducible refine JL.nil ?_
  with_reducible refine JQ.seq (JC.seq ?_)
  by_cases hlt : k < ms.length
  · have hd : decide ((k : Int) < (ms.length : Int)) = true := by simpa using hlt
    refine JC.cond_true (congrArg Value.bool hd) ?_
    obtain ⟨y, hy⟩ : ∃ y, ms[k]? = some y := ⟨ms[k], by simp [hlt]⟩
    rw [goW_at hy] at hout
    obtain ⟨b, o, hA, hat⟩ := SlF.elem h pair_len rfl hy
    have hy1 : allOne y.cells = true := rfl
    have hyl : y.cells.length = 2 := rfl
    with_reducible refine JC.skip (JQ.seq (JC.seq (JC.block (JC.seq ?_))))
    with_reducible refine JC.region ?_
    refine JL.op (JO.val (y_idx (b := b) (o := o) rfl rfl rfl rfl hA rfl hlt) rfl ?_)
    refine JL.op (JO.val (y_lddA rfl rfl hat (by first | rfl | assumption)) rfl ?_)
    refine JL.op (JO.alloc rfl rfl ?_); intro b8
    refine JL.op (JO.storeA 2 rfl rfl rfl rfl (by first | rfl | assumption) (by first | rfl | assumption) (by first | rfl | assumption) ?_)
    with_reducible refine JL.nil ?_
    with_reducible refine JQ.seq (JC.seq (JC.seq ?_))
    refine JC.cutS [(3, .pointer (some ⟨b3, 0, none⟩)), (5, .slice (ob.map mkA) out.length cap'), (6, .bool done), (8, .pointer (some ⟨b8, 0, none⟩)), (9, .slice A ms.length cap), (10, .int .i64 (ms.length : Nat)), (11, .int .i64 (k : Nat)), (23, .bool (!done && !(Op.bytesLess y.k.toList x.k.toList)))] ?_ (fun E => ?_)
    · with_reducible refine JC.region ?_
      refine JL.op (JO.val (y_move) rfl ?_)
      refine JL.op (JO.val (y_not rfl) rfl ?_)
      refine JL.op (JO.val (y_move) rfl ?_)
      refine JL.split (d := 17) rfl (fun hg2 => ?_) (fun hg2 => ?_)
      · refine JL.op_do rfl rfl (congrArg Value.bool hg2) (JO.val (y_fieldAddr rfl rfl rfl) rfl ?_)
        refine JL.op_do rfl rfl (congrArg Value.bool hg2) (JO.val (y_ld 2 rfl rfl rfl rfl) rfl ?_)
        refine JL.op_do rfl rfl (congrArg Value.bool hg2) (JO.val (y_fieldAddr rfl rfl rfl) rfl ?_)
        refine JL.op_do rfl rfl (congrArg Value.bool hg2) (JO.val (y_ld 0 rfl rfl rfl rfl) rfl ?_)
        refine JL.op_do rfl rfl (congrArg Value.bool hg2) (JO.val (y_ges rfl rfl) rfl ?_)
        refine JL.op (JO.val (y_pick (congrArg Value.bool hg2)) rfl ?_)
        with_reducible refine JL.nil ?_
        (refine JQ.has ⟨rfl, rfl, rfl, rfl, rfl, rfl, rfl, congrArg Value.bool ?_, trivial⟩ (fun _ h => h); (simp_all []; done))
      · refine JL.op_skip rfl rfl (congrArg Value.bool hg2) rfl ?_
        refine JL.op_skip rfl rfl (congrArg Value.bool hg2) rfl ?_
        refine JL.op_skip rfl rfl (congrArg Value.bool hg2) rfl ?_
        refine JL.op_skip rfl rfl (congrArg Value.bool hg2) rfl ?_
        refine JL.op_skip rfl rfl (congrArg Value.bool hg2) rfl ?_
        refine JL.op (JO.val (y_pick (congrArg Value.bool hg2)) rfl ?_)
        with_reducible refine JL.nil ?_
        (refine JQ.has ⟨rfl, rfl, rfl, rfl, rfl, rfl, rfl, congrArg Value.bool ?_, trivial⟩ (fun _ h => h); (simp_all []; done))
    with_reducible refine JQ.seq ?_
    refine JC.cutI (fun E S F2 w2 => ∃ ob' cap'' cur' out', out' = out ++ (if !done && !(Op.bytesLess y.k.toList x.k.toList) then [x] else []) ∧ out'.length ≤ 2 * k + 1 ∧ Row ob' out'.length cap'' 2 cur' ∧ cur'.take (out'.length * 2) = out'.flatMap LPair.cells ∧ S = [(some b3, 53, x.cells), (ob', 53, cur'), (some b8, 53, y.cells)] ∧ F2 = F' ∧ w2 = w1' ∧
      Has E [(3, .pointer (some ⟨b3, 0, none⟩)), (5, .slice (ob'.map mkA) out'.length cap''), (6, .bool (done || !(Op.bytesLess y.k.toList x.k.toList))), (8, .pointer (some ⟨b8, 0, none⟩)), (9, .slice A ms.length cap), (10, .int .i64 (ms.length : Nat)), (11, .int .i64 (k : Nat))]) ?_ ?_
    · refine JC.cond rfl (fun hg => ?_) (fun hg => ?_)
      · with_reducible refine JC.seq ?_
        with_reducible refine JC.region ?_
        refine JL.op (JO.val (y_move) rfl ?_)
        refine JL.op (JO.val (y_ldA 0 rfl rfl rfl rfl) rfl ?_)
        refine JL.op (JO.build1 rfl rfl rfl (by first | rfl | assumption) rfl rfl ?_); intro b26
        refine JL.op (JO.append 1 (ob := ob) x.cells rfl rfl rfl rfl rfl rfl rfl hrow (by first | rfl | omega) (fun h => by cases h) (fun w2 hc => hc.src (i := 3) rfl) (allOne_mem hx1) (room_max2 (by omega)) (by omega) ?_)
        intro ob' cap'' cur' hrow' htk' _
        refine JL.op (JO.val (y_assign) rfl ?_)
        with_reducible refine JL.nil ?_
        with_reducible refine JQ.seq ?_
        with_reducible refine JC.region ?_
        refine JL.op (JO.val (y_assign) rfl ?_)
        with_reducible refine JL.nil ?_
        refine JQ.takeN 3 (JQ.inv ⟨ob', cap'', cur', out ++ [x], by rw [if_pos hg], by simp; omega, ?_, ?_, rfl, rfl, rfl, ⟨rfl, ?_, ?_, rfl, rfl, rfl, rfl, trivial⟩⟩)
        · rw [List.length_append]; exact hrow'
        · rw [List.length_append]; exact cur_snoc htk htk'
        · rw [List.length_append]; rfl
        · exact congrArg Value.bool (by revert hg; cases done <;> simp)
      · with_reducible refine JC.skip ?_
        refine JQ.inv ⟨ob, cap', cur, out, by rw [if_neg (by rw [hg]; simp), List.append_nil], by omega, hrow, htk, rfl, rfl, rfl, ⟨rfl, rfl, ?_, rfl, rfl, rfl, rfl, trivial⟩⟩
        exact congrArg Value.bool (by revert hg; cases done <;> simp)
    · rintro E S F2 w2 ⟨ob2, cap2, cur2, out2, ho2, hol2, hrow2, htk2, rfl, rfl, rfl, hE⟩
      rw [← List.append_assoc, ← ho2] at hout
      refine JQ.env hE (fun E => ?_)
      clear hrow htk
      with_reducible refine JQ.seq (JC.seq ?_)
      with_reducible refine JC.region ?_
      refine JL.op (JO.val (y_fieldAddr rfl rfl rfl) rfl ?_)
      refine JL.op (JO.val (y_ld 2 rfl rfl rfl rfl) rfl ?_)
      refine JL.op (JO.val (y_fieldAddr rfl rfl rfl) rfl ?_)
      refine JL.op (JO.val (y_ld 0 rfl rfl rfl rfl) rfl ?_)
      refine JL.op (JO.val (y_nes rfl rfl) rfl ?_)
      with_reducible refine JL.nil ?_
      with_reducible refine JQ.seq ?_
      refine JC.cond rfl (fun hg => ?_) (fun hg => ?_)
      · rw [if_pos hg] at hout
        with_reducible refine JC.region ?_
        refine JL.op (JO.val (y_move) rfl ?_)
        refine JL.op (JO.val (y_ldA 2 rfl rfl rfl rfl) rfl ?_)
        refine JL.op (JO.build1 rfl rfl rfl (by first | rfl | assumption) rfl rfl ?_); intro b35
        refine JL.op (JO.append 1 (ob := ob2) y.cells rfl rfl rfl rfl rfl rfl rfl hrow2 (by first | rfl | omega) (fun h => by cases h) (fun w2 hc => hc.src (i := 3) rfl) (allOne_mem hy1) (room_max2 (by omega)) (by omega) ?_)
        intro ob' cap'' cur' hrow' htk' _
        refine JL.op (JO.val (y_assign) rfl ?_)
        with_reducible refine JL.nil ?_
        with_reducible refine JQ.blk (JQ.seq ?_)
        with_reducible refine JC.region ?_
        refine JL.op (JO.val (y_add rfl rfl (natAdd hk hn)) rfl ?_)
        refine JL.op (JO.val (y_move) rfl ?_)
        with_reducible refine JL.nil ?_
        refine JQ.takeN 2 ?_
        refine JQ.loop (ms.length - (k + 1)) ⟨k + 1, ob', cap'', cur', _, out2 ++ [y], rfl, hlt, by simp; omega, by rw [← hout]; simp only [List.append_assoc], ?_, ?_, rfl, rfl, rfl, ⟨rfl, ?_, rfl, rfl, rfl, rfl, trivial⟩⟩ (by omega)
        · rw [List.length_append]; exact hrow'
        · rw [List.length_append]; exact cur_snoc htk2 htk'
        · rw [List.length_append]; rfl
      · rw [if_neg (by rw [hg]; simp), List.nil_append] at hout
        with_reducible refine JC.skip (JQ.blk (JQ.seq ?_))
        with_reducible refine JC.region ?_
        refine JL.op (JO.val (y_add rfl rfl (natAdd hk hn)) rfl ?_)
        refine JL.op (JO.val (y_move) rfl ?_)
        with_reducible refine JL.nil ?_
        refine JQ.takeN 2 ?_
        refine JQ.loop (ms.length - (k + 1)) ⟨k + 1, ob2, cap2, cur2, _, out2, rfl, hlt, by omega, hout, hrow2, htk2, rfl, rfl, rfl, ⟨rfl, rfl, rfl, rfl, rfl, rfl, trivial⟩⟩ (by omega)
  · have hd : decide ((k : Int) < (ms.length : Int)) = false := by simpa using hlt
    refine JC.cond_false (congrArg Value.bool hd) ?_
    obtain rfl : k = ms.length := by omega
    rw [List.drop_length] at hout
    with_reducible refine JC.exit (JQ.seq_exit (JQ.loop_exit (JQ.blk_here (JQ.seq (JC.seq (JC.seq ?_))))))
    with_reducible refine JC.region ?_
    refine JL.op (JO.val (y_move) rfl ?_)
    refine JL.op (JO.val (y_not rfl) rfl ?_)
    with_reducible refine JL.nil ?_
    with_reducible refine JQ.seq ?_
    refine JC.cond rfl (fun hg => ?_) (fun hg => ?_)
    · have hg' : done = false := by simpa using hg
      subst hg'
      with_reducible refine JC.region ?_
      refine JL.op (JO.val (y_move) rfl ?_)
      refine JL.op (JO.val (y_ldA 0 rfl rfl rfl rfl) rfl ?_)
      refine JL.op (JO.build1 rfl rfl rfl (by first | rfl | assumption) rfl rfl ?_); intro b42
      refine JL.op (JO.append 1 (ob := ob) x.cells rfl rfl rfl rfl rfl rfl rfl hrow (by first | rfl | omega) (fun h => by cases h) (fun w2 hc => hc.src (i := 2) rfl) (allOne_mem hx1) (room_max2 (by omega)) (by omega) ?_)
      intro ob' cap'' cur' hrow' htk' _
      refine JL.op (JO.val (y_assign) rfl ?_)
      with_reducible refine JL.nil ?_
      with_reducible refine JQ.seq (JC.seq ?_)
      with_reducible refine JC.region ?_
      refine JL.op (JO.val (y_move) rfl ?_)
      refine JL.op (JO.val (y_assign) rfl ?_)
      with_reducible refine JL.nil ?_
      with_reducible refine JQ.seq (JC.ret ?_)
      have hw : out ++ [x] = withP x ms := hout
      rw [← hw, List.length_append]
      exact ret_one rfl ResV.tmp (fun w' hc => ⟨_, _, rfl, ob', cur', rfl, hrow', cur_snoc htk htk', fun b hb => hc.own0 rfl (ob', 53, cur') (by simp [sset]) b hb⟩)
    · have hg' : done = true := by simpa using hg
      subst hg'
      with_reducible refine JC.skip (JQ.seq (JC.seq ?_))
      with_reducible refine JC.region ?_
      refine JL.op (JO.val (y_move) rfl ?_)
      refine JL.op (JO.val (y_assign) rfl ?_)
      with_reducible refine JL.nil ?_
      with_reducible refine JQ.seq (JC.ret ?_)
      have hw : out = withP x ms := by rw [← hout]; exact (List.append_nil _).symm
      rw [← hw]
      exact ret_one rfl ResV.tmp (fun w' hc => ⟨_, _, rfl, ob, cur, rfl, hrow, htk, fun b hb => hc.own0 rfl (ob, 53, cur) (by simp) b hb⟩)
theorem withM_any (F : Nat → Prop) (A : Option Addr) (cap : Nat) (ms : List LMember) (x : LMember) (w : World) (h : RMems F w A cap ms) (hn : ms.length ≤ 100000) (hwf : ∀ m ∈ ms, m.wf) (hxw : x.wf) :
    CallsTo 84 #[.slice A ms.length cap, .agg x.cells.toArray] w (fun v w' => ∃ A' cap', v = .slice A' (withM x ms).length cap' ∧ OwnF (fun b => w.heap.size ≤ b) w' 55 34 A' (withM x ms).length cap' ((withM x ms).flatMap LMember.cells)) := by
  have hx1 := LMember.all1 hxw
  have hxl := LMember.len_cells hxw
  refine CallsTo.enter 40 (fun _ => True) F Tryd.func84 rfl rfl rfl rfl (by intros; first | trivial | assumption) ?_
  with_reducible refine JC.seq ?_
  with_reducible refine JC.region ?_
  refine JL.op (JO.box rfl rfl ?_); intro b3
  refine JL.op (JO.val (y_assign) rfl ?_)
  with_reducible refine JL.nil ?_
  with_reducible refine JQ.seq (JC.seq ?_)
  with_reducible refine JC.region ?_
  refine JL.op (JO.val (y_assign) rfl ?_)
  with_reducible refine JL.nil ?_
  with_reducible refine JQ.seq (JC.seq ?_)
  with_reducible refine JC.region ?_
  refine JL.op (JO.val (y_assign) rfl ?_)
  with_reducible refine JL.nil ?_
  with_reducible refine JQ.seq (JC.seq (JC.seq ?_))
  with_reducible refine JC.region ?_
  refine JL.op (JO.val (y_move) rfl ?_)
  refine JL.op (JO.val (y_len rfl rfl) rfl ?_)
  refine JL.op (JO.val (y_move) rfl ?_)
  with_reducible refine JL.nil ?_
  with_reducible refine JQ.seq (JC.block ?_)
  refine JC.addNone 55 ?_
  refine JC.loop (fun m E S F' w1' => ∃ k ob cap' cur done out, m = ms.length - k ∧ k ≤ ms.length ∧ out.length ≤ 2 * k ∧ out ++ goW (fun m => decide (m.id > x.id)) (fun _ => true) x (ms.drop k) done = withM x ms ∧ Row ob out.length cap' 34 cur ∧ cur.take (out.length * 34) = out.flatMap LMember.cells ∧ S = [(some b3, 55, x.cells), (ob, 55, cur)] ∧ F' = F ∧ w1' = w ∧
      Has E [(3, .pointer (some ⟨b3, 0, none⟩)), (5, .slice (ob.map mkA) out.length cap'), (6, .bool done), (9, .slice A ms.length cap), (10, .int .i64 (ms.length : Nat)), (11, .int .i64 (k : Nat))])
    _ ⟨0, none, 0, [], false, [], rfl, Nat.zero_le _, Nat.zero_le _, rfl, Row.none _, rfl, rfl, rfl, rfl, ⟨rfl, rfl, rfl, rfl, rfl, rfl, trivial⟩⟩ ?_
  rintro m E S F' w1' ⟨k, ob, cap', cur, done, out, rfl, hk, hol, hout, hrow, htk, rfl, rfl, rfl, hE⟩
  refine JC.env hE (fun E => ?_)
  with_reducible refine JC.seq ?_
  with_reducible refine JC.region ?_
  refine JL.op (JO.val (y_lss rfl rfl) rfl ?_)
  with_reducible refine JL.nil ?_
  with_reducible refine JQ.seq (JC.seq ?_)
  by_cases hlt : k < ms.length
  · have hd : decide ((k : Int) < (ms.length : Int)) = true := by simpa using hlt
    refine JC.cond_true (congrArg Value.bool hd) ?_
    obtain ⟨y, hy⟩ : ∃ y, ms[k]? = some y := ⟨ms[k], by simp [hlt]⟩
    rw [goW_at hy] at hout
    obtain ⟨b, o, hA, hat⟩ := SlF.elem h (fun m hm => LMember.len_cells (hwf m hm)) rfl hy
    have hyw := hwf y (List.mem_of_getElem? hy)
    have hy1 := LMember.all1 hyw
    have hyl := LMember.len_cells hyw
    with_reducible refine JC.skip (JQ.seq (JC.seq (JC.block (JC.seq ?_))))
    with_reducible refine JC.region ?_
    refine JL.op (JO.val (y_idx (b := b) (o := o) rfl rfl rfl rfl hA rfl hlt) rfl ?_)
    refine JL.op (JO.val (y_lddA rfl rfl hat (by first | rfl | assumption)) rfl ?_)
    refine JL.op (JO.alloc rfl rfl ?_); intro b8
    refine JL.op (JO.storeA 2 rfl rfl rfl rfl (by first | rfl | assumption) (by first | rfl | assumption) (by first | rfl | assumption) ?_)
    with_reducible refine JL.nil ?_
    with_reducible refine JQ.seq (JC.seq (JC.seq ?_))
    refine JC.cutS [(3, .pointer (some ⟨b3, 0, none⟩)), (5, .slice (ob.map mkA) out.length cap'), (6, .bool done), (8, .pointer (some ⟨b8, 0, none⟩)), (9, .slice A ms.length cap), (10, .int .i64 (ms.length : Nat)), (11, .int .i64 (k : Nat)), (23, .bool (!done && decide (y.id > x.id)))] ?_ (fun E => ?_)
    · with_reducible refine JC.region ?_
      refine JL.op (JO.val (y_move) rfl ?_)
      refine JL.op (JO.val (y_not rfl) rfl ?_)
      refine JL.op (JO.val (y_move) rfl ?_)
      refine JL.split (d := 17) rfl (fun hg2 => ?_) (fun hg2 => ?_)
      · refine JL.op_do rfl rfl (congrArg Value.bool hg2) (JO.val (y_fieldAddr rfl rfl rfl) rfl ?_)
        refine JL.op_do rfl rfl (congrArg Value.bool hg2) (JO.val (y_ld 2 rfl rfl rfl rfl) rfl ?_)
        refine JL.op_do rfl rfl (congrArg Value.bool hg2) (JO.val (y_fieldAddr rfl rfl rfl) rfl ?_)
        refine JL.op_do rfl rfl (congrArg Value.bool hg2) (JO.val (y_ld 0 rfl rfl rfl rfl) rfl ?_)
        refine JL.op_do rfl rfl (congrArg Value.bool hg2) (JO.val (y_gtr rfl rfl) rfl ?_)
        refine JL.op (JO.val (y_pick (congrArg Value.bool hg2)) rfl ?_)
        with_reducible refine JL.nil ?_
        (refine JQ.has ⟨rfl, rfl, rfl, rfl, rfl, rfl, rfl, congrArg Value.bool ?_, trivial⟩ (fun _ h => h); (simp_all []; done))
      · refine JL.op_skip rfl rfl (congrArg Value.bool hg2) rfl ?_
        refine JL.op_skip rfl rfl (congrArg Value.bool hg2) rfl ?_
        refine JL.op_skip rfl rfl (congrArg Value.bool hg2) rfl ?_
        refine JL.op_skip rfl rfl (congrArg Value.bool hg2) rfl ?_
        refine JL.op_skip rfl rfl (congrArg Value.bool hg2) rfl ?_
        refine JL.op (JO.val (y_pick (congrArg Value.bool hg2)) rfl ?_)
        with_reducible refine JL.nil ?_
        (refine JQ.has ⟨rfl, rfl, rfl, rfl, rfl, rfl, rfl, congrArg Value.bool ?_, trivial⟩ (fun _ h => h); (simp_all []; done))
    with_reducible refine JQ.seq ?_
    refine JC.cutI (fun E S F2 w2 => ∃ ob' cap'' cur' out', out' = out ++ (if !done && decide (y.id > x.id) then [x] else []) ∧ out'.length ≤ 2 * k + 1 ∧ Row ob' out'.length cap'' 34 cur' ∧ cur'.take (out'.length * 34) = out'.flatMap LMember.cells ∧ S = [(some b3, 55, x.cells), (ob', 55, cur'), (some b8, 55, y.cells)] ∧ F2 = F' ∧ w2 = w1' ∧
      Has E [(3, .pointer (some ⟨b3, 0, none⟩)), (5, .slice (ob'.map mkA) out'.length cap''), (6, .bool (done || decide (y.id > x.id))), (8, .pointer (some ⟨b8, 0, none⟩)), (9, .slice A ms.length cap), (10, .int .i64 (ms.length : Nat)), (11, .int .i64 (k : Nat))]) ?_ ?_
    · refine JC.cond rfl (fun hg => ?_) (fun hg => ?_)
      · with_reducible refine JC.seq ?_
        with_reducible refine JC.region ?_
        refine JL.op (JO.val (y_move) rfl ?_)
        refine JL.op (JO.val (y_ldA 0 rfl rfl rfl (by first | rfl | assumption)) rfl ?_)
        refine JL.op (JO.build1 rfl rfl rfl (by first | rfl | assumption) rfl rfl ?_); intro b26
        refine JL.op (JO.append 1 (ob := ob) x.cells rfl rfl rfl rfl rfl rfl rfl hrow (by first | rfl | omega | simpa using hxl) (fun h => by cases h) (fun w2 hc => hc.src (i := 3) rfl) (allOne_mem hx1) (room_max2 (by omega)) (by omega) ?_)
        intro ob' cap'' cur' hrow' htk' _
        refine JL.op (JO.val (y_assign) rfl ?_)
        with_reducible refine JL.nil ?_
        with_reducible refine JQ.seq ?_
        with_reducible refine JC.region ?_
        refine JL.op (JO.val (y_assign) rfl ?_)
        with_reducible refine JL.nil ?_
        refine JQ.takeN 3 (JQ.inv ⟨ob', cap'', cur', out ++ [x], by rw [if_pos hg], by simp; omega, ?_, ?_, rfl, rfl, rfl, ⟨rfl, ?_, ?_, rfl, rfl, rfl, rfl, trivial⟩⟩)
        · rw [List.length_append]; exact hrow'
        · rw [List.length_append]; exact cur_snoc htk htk'
        · rw [List.length_append]; rfl
        · exact congrArg Value.bool (by revert hg; cases done <;> simp)
      · with_reducible refine JC.skip ?_
        refine JQ.inv ⟨ob, cap', cur, out, by rw [if_neg (by rw [hg]; simp), List.append_nil], by omega, hrow, htk, rfl, rfl, rfl, ⟨rfl, rfl, ?_, rfl, rfl, rfl, rfl, trivial⟩⟩
        exact congrArg Value.bool (by revert hg; cases done <;> simp)
    · rintro E S F2 w2 ⟨ob2, cap2, cur2, out2, ho2, hol2, hrow2, htk2, rfl, rfl, rfl, hE⟩
      rw [← List.append_assoc, ← ho2] at hout
      refine JQ.env hE (fun E => ?_)
      clear hrow htk
      with_reducible refine JQ.seq ?_
      simp only [if_true] at hout
      with_reducible refine JC.region ?_
      refine JL.op (JO.val (y_move) rfl ?_)
      refine JL.op (JO.val (y_ldA 2 rfl rfl rfl (by first | rfl | assumption)) rfl ?_)
      refine JL.op (JO.build1 rfl rfl rfl (by first | rfl | assumption) rfl rfl ?_); intro b30
      refine JL.op (JO.append 1 (ob := ob2) y.cells rfl rfl rfl rfl rfl rfl rfl hrow2 (by first | rfl | omega | simpa using hyl) (fun h => by cases h) (fun w2 hc => hc.src (i := 3) rfl) (allOne_mem hy1) (room_max2 (by omega)) (by omega) ?_)
      intro ob' cap'' cur' hrow' htk' _
      refine JL.op (JO.val (y_assign) rfl ?_)
      with_reducible refine JL.nil ?_
      with_reducible refine JQ.blk (JQ.seq ?_)
      with_reducible refine JC.region ?_
      refine JL.op (JO.val (y_add rfl rfl (natAdd hk hn)) rfl ?_)
      refine JL.op (JO.val (y_move) rfl ?_)
      with_reducible refine JL.nil ?_
      refine JQ.takeN 2 ?_
      refine JQ.loop (ms.length - (k + 1)) ⟨k + 1, ob', cap'', cur', _, out2 ++ [y], rfl, hlt, by simp; omega, by rw [← hout]; simp only [List.append_assoc], ?_, ?_, rfl, rfl, rfl, ⟨rfl, ?_, rfl, rfl, rfl, rfl, trivial⟩⟩ (by omega)
      · rw [List.length_append]; exact hrow'
      · rw [List.length_append]; exact cur_snoc htk2 htk'
      · rw [List.length_append]; rfl
  · have hd : decide ((k : Int) < (ms.length : Int)) = false := by simpa using hlt
    refine JC.cond_false (congrArg Value.bool hd) ?_
    obtain rfl : k = ms.length := by omega
    rw [List.drop_length] at hout
    with_reducible refine JC.exit (JQ.seq_exit (JQ.loop_exit (JQ.blk_here (JQ.seq (JC.seq (JC.seq ?_))))))
    with_reducible refine JC.region ?_
    refine JL.op (JO.val (y_move) rfl ?_)
    refine JL.op (JO.val (y_not rfl) rfl ?_)
    with_reducible refine JL.nil ?_
    with_reducible refine JQ.seq ?_
    refine JC.cond rfl (fun hg => ?_) (fun hg => ?_)
    · have hg' : done = false := by simpa using hg
      subst hg'
      with_reducible refine JC.region ?_
      refine JL.op (JO.val (y_move) rfl ?_)
      refine JL.op (JO.val (y_ldA 0 rfl rfl rfl (by first | rfl | assumption)) rfl ?_)
      refine JL.op (JO.build1 rfl rfl rfl (by first | rfl | assumption) rfl rfl ?_); intro b37
      refine JL.op (JO.append 1 (ob := ob) x.cells rfl rfl rfl rfl rfl rfl rfl hrow (by first | rfl | omega | simpa using hxl) (fun h => by cases h) (fun w2 hc => hc.src (i := 2) rfl) (allOne_mem hx1) (room_max2 (by omega)) (by omega) ?_)
      intro ob' cap'' cur' hrow' htk' _
      refine JL.op (JO.val (y_assign) rfl ?_)
      with_reducible refine JL.nil ?_
      with_reducible refine JQ.seq (JC.seq ?_)
      with_reducible refine JC.region ?_
      refine JL.op (JO.val (y_move) rfl ?_)
      refine JL.op (JO.val (y_assign) rfl ?_)
      with_reducible refine JL.nil ?_
      with_reducible refine JQ.seq (JC.ret ?_)
      have hw : out ++ [x] = withM x ms := hout
      rw [← hw, List.length_append]
      exact ret_one rfl ResV.tmp (fun w' hc => ⟨_, _, rfl, ob', cur', rfl, hrow', cur_snoc htk htk', fun b hb => hc.own0 rfl (ob', 55, cur') (by simp [sset]) b hb⟩)
    · have hg' : done = true := by simpa using hg
      subst hg'
      with_reducible refine JC.skip (JQ.seq (JC.seq ?_))
      with_reducible refine JC.region ?_
      refine JL.op (JO.val (y_move) rfl ?_)
      refine JL.op (JO.val (y_assign) rfl ?_)
      with_reducible refine JL.nil ?_
      with_reducible refine JQ.seq (JC.ret ?_)
      have hw : out = withM x ms := by rw [← hout]; exact (List.append_nil _).symm
      rw [← hw]
      exact ret_one rfl ResV.tmp (fun w' hc => ⟨_, _, rfl, ob, cur, rfl, hrow, htk, fun b hb => hc.own0 rfl (ob, 55, cur) (by simp) b hb⟩)
end Go.Proofs.YtchnnplcpidkiaaDoor
