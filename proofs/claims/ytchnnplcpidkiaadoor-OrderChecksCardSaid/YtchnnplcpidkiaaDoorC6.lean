/- Contracts of the references of layer 8 and 10 that go over lists: Right, Good, Place, Last, With, Without; config.Good; no condition but bounds on lengths. -/
import Derived.Test.YtchnnplcpidkiaaDoorC5
namespace Go.Proofs.YtchnnplcpidkiaaDoor
open Go.RowKit
set_option linter.unusedSimpArgs false
set_option linter.unusedVariables false
set_option maxRecDepth 20000

theorem natAdd {k n : Nat} (h : k ≤ n) (hn : n ≤ 100000) : IntKind.i64.wrap ((k : Int) + 1) = ((k + 1 : Nat) : Int) := by
  rw [Int.natCast_add]; exact wrap_in (by omega) (by omega)
theorem natSub {k n : Nat} (h0 : 0 < k) (h : k ≤ n) (hn : n ≤ 100000) : IntKind.i64.wrap ((k : Int) - 1) = ((k - 1 : Nat) : Int) := by
  rw [wrap_in (by omega) (by omega)]; omega
theorem room_max {n : Nat} (h : n ≤ 200000) : n ≤ maxLen := by unfold maxLen; omega

/-! ### The first place -/
def idx {α : Type} (p : α → Bool) : List α → Option Nat
  | [] => none
  | x :: xs => if p x then some 0 else (idx p xs).map (· + 1)
def placeI : Option Nat → Int
  | some i => (i : Int)
  | none => -1
theorem idx_here {α : Type} {p : α → Bool} : ∀ {xs : List α} {k : Nat} {x : α}, (xs.take k).all (fun x => !p x) = true → xs[k]? = some x → p x = true → idx p xs = some k
  | [], _, _, _, h, _ => by simp at h
  | y :: ys, 0, x, _, h, hp => by simp only [List.getElem?_cons_zero, Option.some.injEq] at h; subst h; simp [idx, hp]
  | y :: ys, k + 1, x, ha, h, hp => by
    simp only [List.take_succ_cons, List.all_cons, Bool.and_eq_true] at ha
    simp only [List.getElem?_cons_succ] at h
    have h1 : p y = false := by simpa using ha.1
    simp [idx, h1, idx_here ha.2 h hp]
theorem idx_none {α : Type} {p : α → Bool} : ∀ {xs : List α}, xs.all (fun x => !p x) = true → idx p xs = none
  | [], _ => rfl
  | y :: ys, h => by
    simp only [List.all_cons, Bool.and_eq_true] at h
    have h1 : p y = false := by simpa using h.1
    simp [idx, h1, idx_none h.2]
theorem placeM_any (F : Nat → Prop) (ep : Int) (A : Option Addr) (cap : Nat) (ms : List LMember) (c : Int) (w : World) (hm : RMems F w A cap ms) (hn : ms.length ≤ 100000) (hwf : ∀ m ∈ ms, m.wf) :
    CallsTo 82 #[.agg [.int .i64 ep, .slice A ms.length cap].toArray, .int .i64 c] w (fun v _ => v = .int .i64 (placeI (idx (fun m => decide (m.id = c)) ms))) := by
  skip
  refine CallsTo.enter 21 (fun _ => True) F Tryd.func82 rfl rfl rfl rfl (by intros; first | trivial | assumption) ?_
  with_reducible refine JC.seq ?_
  with_reducible refine JC.region ?_
  refine JL.op (JO.box rfl rfl ?_); intro b2
  refine JL.op (JO.val (y_assign) rfl ?_)
  with_reducible refine JL.nil ?_
  with_reducible refine JQ.seq (JC.seq (JC.seq ?_))
  with_reducible refine JC.region ?_
  refine JL.op (JO.val (y_fieldAddr rfl rfl rfl) rfl ?_)
  refine JL.op (JO.val (y_ld 0 rfl rfl rfl rfl) rfl ?_)
  refine JL.op (JO.val (y_len rfl rfl) rfl ?_)
  refine JL.op (JO.val (y_move) rfl ?_)
  with_reducible refine JL.nil ?_
  with_reducible refine JQ.seq (JC.block ?_)
  refine JC.loop (fun m E S F' w1' => ∃ k : Nat, m = ms.length - k ∧ k ≤ ms.length ∧ (ms.take k).all (fun x => !(fun m => decide (m.id = c)) x) = true ∧ S = [(some b2, 26, [.int .i64 ep, .slice A ms.length cap])] ∧ F' = F ∧ w1' = w ∧ Has E [(1, .int .i64 c), (2, .pointer (some ⟨b2, 0, none⟩)), (8, .slice A ms.length cap), (9, .int .i64 (ms.length : Nat)), (10, .int .i64 (k : Nat))])
    _ ⟨0, rfl, Nat.zero_le _, by simp, rfl, rfl, rfl, ⟨rfl, rfl, rfl, rfl, rfl, trivial⟩⟩ ?_
  rintro m E S F' w1' ⟨k, rfl, hk, hall, rfl, rfl, rfl, hE⟩
  refine JC.env hE (fun E => ?_)
  with_reducible refine JC.seq ?_
  with_reducible refine JC.region ?_
  refine JL.op (JO.val (y_lss rfl rfl) rfl ?_)
  with_reducible refine JL.nil ?_
  with_reducible refine JQ.seq (JC.seq ?_)
  by_cases hlt : k < ms.length
  · have hd : decide ((k : Int) < (ms.length : Int)) = true := by simpa using hlt
    refine JC.cond_true (congrArg Value.bool hd) ?_
    obtain ⟨x, hx⟩ : ∃ x, ms[k]? = some x := ⟨ms[k], by simp [hlt]⟩
    obtain ⟨b, o, hA, hat⟩ := SlF.elem hm (fun m hm => LMember.len_cells (hwf m hm)) rfl hx
    have hxl := LMember.len_cells (hwf x (List.mem_of_getElem? hx))
    have hx1 := LMember.all1 (hwf x (List.mem_of_getElem? hx))
    with_reducible refine JC.skip (JQ.seq (JC.seq (JC.block (JC.seq ?_))))
    with_reducible refine JC.region ?_
    refine JL.op (JO.val (y_move) rfl ?_)
    refine JL.op (JO.val (y_idx (b := b) (o := o) rfl rfl rfl rfl hA rfl hlt) rfl ?_)
    refine JL.op (JO.val (y_lddA rfl rfl hat (by first | rfl | assumption)) rfl ?_)
    refine JL.op (JO.alloc rfl rfl ?_); intro b6
    refine JL.op (JO.val (y_assign) rfl ?_)
    refine JL.op (JO.storeA 1 rfl rfl rfl rfl (by first | rfl | assumption) (by first | rfl | assumption) (by first | rfl | assumption) ?_)
    with_reducible refine JL.nil ?_
    with_reducible refine JQ.seq (JC.seq ?_)
    with_reducible refine JC.region ?_
    refine JL.op (JO.val (y_fieldAddr rfl rfl rfl) rfl ?_)
    refine JL.op (JO.val (y_ld 1 rfl rfl rfl rfl) rfl ?_)
    refine JL.op (JO.val (y_move) rfl ?_)
    refine JL.op (JO.val (y_eql rfl rfl) rfl ?_)
    with_reducible refine JL.nil ?_
    with_reducible refine JQ.seq ?_
    refine JC.cond rfl (fun hg => ?_) (fun hg => ?_)
    · with_reducible refine JC.seq ?_
      with_reducible refine JC.region ?_
      refine JL.op (JO.val (y_move) rfl ?_)
      refine JL.op (JO.val (y_assign) rfl ?_)
      with_reducible refine JL.nil ?_
      with_reducible refine JQ.seq (JC.ret (JQ.blk_ret (JQ.seq_ret (JQ.loop_ret (JQ.blk_ret (JQ.seq_ret ?_))))))
      refine ret_one rfl ResV.tmp (fun w _ => ?_)
      rw [idx_here hall hx hg]
      rfl
    · with_reducible refine JC.skip (JQ.blk (JQ.seq ?_))
      with_reducible refine JC.region ?_
      refine JL.op (JO.val (y_add rfl rfl (natAdd hk hn)) rfl ?_)
      refine JL.op (JO.val (y_move) rfl ?_)
      with_reducible refine JL.nil ?_
      refine JQ.takeN 1 ?_
      refine JQ.loop (ms.length - (k + 1)) ⟨k + 1, rfl, hlt, ?_, rfl, rfl, rfl, ⟨rfl, rfl, rfl, rfl, rfl, trivial⟩⟩ (by omega)
      rw [List.take_add_one, hx, List.all_append, hall]
      simp only [Option.toList_some, List.all_cons, List.all_nil, Bool.and_true, Bool.true_and]
      exact congrArg (! ·) hg
  · have hd : decide ((k : Int) < (ms.length : Int)) = false := by simpa using hlt
    refine JC.cond_false (congrArg Value.bool hd) ?_
    obtain rfl : k = ms.length := by omega
    with_reducible refine JC.exit (JQ.seq_exit (JQ.loop_exit (JQ.blk_here (JQ.seq (JC.seq ?_)))))
    with_reducible refine JC.region ?_
    refine JL.op (JO.val (y_assign) rfl ?_)
    with_reducible refine JL.nil ?_
    with_reducible refine JQ.seq (JC.ret ?_)
    refine ret_one rfl ResV.tmp (fun w _ => ?_)
    rw [List.take_length] at hall
    rw [idx_none hall]
    rfl
theorem placeP_any (F : Nat → Prop) (cs : List Value) (s : LState) (c : ByteArray) (w : World) (h : RState F w cs s) (hsm : Small s) :
    CallsTo 55 #[.agg cs.toArray, .string c] w (fun v _ => v = .int .i64 (placeI (idx (fun p => p.k.toList == c.toList) s.ps))) := by
  (obtain ⟨Ap, cp, Ar, cr, Am, cm, rfl, hp, hr, hm⟩ := h.form; have hn : s.ps.length ≤ 100000 := by (have := hsm.ps; omega))
  refine CallsTo.enter 21 (fun _ => True) F Tryd.func55 rfl rfl rfl rfl (by intros; first | trivial | assumption) ?_
  with_reducible refine JC.seq ?_
  with_reducible refine JC.region ?_
  refine JL.op (JO.box rfl rfl ?_); intro b2
  refine JL.op (JO.val (y_assign) rfl ?_)
  with_reducible refine JL.nil ?_
  with_reducible refine JQ.seq (JC.seq (JC.seq ?_))
  with_reducible refine JC.region ?_
  refine JL.op (JO.val (y_fieldAddr rfl rfl rfl) rfl ?_)
  refine JL.op (JO.val (y_ld 0 rfl rfl rfl rfl) rfl ?_)
  refine JL.op (JO.val (y_len rfl rfl) rfl ?_)
  refine JL.op (JO.val (y_move) rfl ?_)
  with_reducible refine JL.nil ?_
  with_reducible refine JQ.seq (JC.block ?_)
  refine JC.loop (fun m E S F' w1' => ∃ k : Nat, m = s.ps.length - k ∧ k ≤ s.ps.length ∧ (s.ps.take k).all (fun x => !(fun p => p.k.toList == c.toList) x) = true ∧ S = [(some b2, 28, [.slice Ap s.ps.length cp, .slice Ar s.rs.length cr, .int .i64 s.ep, .slice Am s.ms.length cm])] ∧ F' = F ∧ w1' = w ∧ Has E [(1, .string c), (2, .pointer (some ⟨b2, 0, none⟩)), (8, .slice Ap s.ps.length cp), (9, .int .i64 (s.ps.length : Nat)), (10, .int .i64 (k : Nat))])
    _ ⟨0, rfl, Nat.zero_le _, by simp, rfl, rfl, rfl, ⟨rfl, rfl, rfl, rfl, rfl, trivial⟩⟩ ?_
  rintro m E S F' w1' ⟨k, rfl, hk, hall, rfl, rfl, rfl, hE⟩
  refine JC.env hE (fun E => ?_)
  with_reducible refine JC.seq ?_
  with_reducible refine JC.region ?_
  refine JL.op (JO.val (y_lss rfl rfl) rfl ?_)
  with_reducible refine JL.nil ?_
  with_reducible refine JQ.seq (JC.seq ?_)
  by_cases hlt : k < s.ps.length
  · have hd : decide ((k : Int) < (s.ps.length : Int)) = true := by simpa using hlt
    refine JC.cond_true (congrArg Value.bool hd) ?_
    obtain ⟨x, hx⟩ : ∃ x, s.ps[k]? = some x := ⟨s.ps[k], by simp [hlt]⟩
    obtain ⟨b, o, hA, hat⟩ := SlF.elem hp pair_len rfl hx
    with_reducible refine JC.skip (JQ.seq (JC.seq (JC.block (JC.seq ?_))))
    with_reducible refine JC.region ?_
    refine JL.op (JO.val (y_move) rfl ?_)
    refine JL.op (JO.val (y_idx (b := b) (o := o) rfl rfl rfl rfl hA rfl hlt) rfl ?_)
    refine JL.op (JO.val (y_lddA rfl rfl hat (by first | rfl | assumption)) rfl ?_)
    refine JL.op (JO.alloc rfl rfl ?_); intro b6
    refine JL.op (JO.val (y_assign) rfl ?_)
    refine JL.op (JO.storeA 1 rfl rfl rfl rfl (by first | rfl | assumption) (by first | rfl | assumption) (by first | rfl | assumption) ?_)
    with_reducible refine JL.nil ?_
    with_reducible refine JQ.seq (JC.seq ?_)
    with_reducible refine JC.region ?_
    refine JL.op (JO.val (y_fieldAddr rfl rfl rfl) rfl ?_)
    refine JL.op (JO.val (y_ld 1 rfl rfl rfl rfl) rfl ?_)
    refine JL.op (JO.val (y_move) rfl ?_)
    refine JL.op (JO.val (y_eqs rfl rfl) rfl ?_)
    with_reducible refine JL.nil ?_
    with_reducible refine JQ.seq ?_
    refine JC.cond rfl (fun hg => ?_) (fun hg => ?_)
    · with_reducible refine JC.seq ?_
      with_reducible refine JC.region ?_
      refine JL.op (JO.val (y_move) rfl ?_)
      refine JL.op (JO.val (y_assign) rfl ?_)
      with_reducible refine JL.nil ?_
      with_reducible refine JQ.seq (JC.ret (JQ.blk_ret (JQ.seq_ret (JQ.loop_ret (JQ.blk_ret (JQ.seq_ret ?_))))))
      refine ret_one rfl ResV.tmp (fun w _ => ?_)
      rw [idx_here hall hx hg]
      rfl
    · with_reducible refine JC.skip (JQ.blk (JQ.seq ?_))
      with_reducible refine JC.region ?_
      refine JL.op (JO.val (y_add rfl rfl (natAdd hk hn)) rfl ?_)
      refine JL.op (JO.val (y_move) rfl ?_)
      with_reducible refine JL.nil ?_
      refine JQ.takeN 1 ?_
      refine JQ.loop (s.ps.length - (k + 1)) ⟨k + 1, rfl, hlt, ?_, rfl, rfl, rfl, ⟨rfl, rfl, rfl, rfl, rfl, trivial⟩⟩ (by omega)
      rw [List.take_add_one, hx, List.all_append, hall]
      simp only [Option.toList_some, List.all_cons, List.all_nil, Bool.and_true, Bool.true_and]
      exact congrArg (! ·) hg
  · have hd : decide ((k : Int) < (s.ps.length : Int)) = false := by simpa using hlt
    refine JC.cond_false (congrArg Value.bool hd) ?_
    obtain rfl : k = s.ps.length := by omega
    with_reducible refine JC.exit (JQ.seq_exit (JQ.loop_exit (JQ.blk_here (JQ.seq (JC.seq ?_)))))
    with_reducible refine JC.region ?_
    refine JL.op (JO.val (y_assign) rfl ?_)
    with_reducible refine JL.nil ?_
    with_reducible refine JQ.seq (JC.ret ?_)
    refine ret_one rfl ResV.tmp (fun w _ => ?_)
    rw [List.take_length] at hall
    rw [idx_none hall]
    rfl
theorem lastR_any (F : Nat → Prop) (cs : List Value) (s : LState) (c : Int) (w : World) (h : RState F w cs s) (hsm : Small s) :
    CallsTo 33 #[.agg cs.toArray, .int .i64 c] w (fun v _ => v = .int .i64 (placeI (idx (fun r => decide (r.client = c)) s.rs))) := by
  (obtain ⟨Ap, cp, Ar, cr, Am, cm, rfl, hp, hr, hm⟩ := h.form; have hn : s.rs.length ≤ 100000 := by (have := hsm.rs; omega))
  obtain ⟨hs, hhs, hrow, hvals⟩ := hr
  have hlen : hs.length = s.rs.length := by rw [← hhs]; simp
  refine CallsTo.enter 21 (fun _ => True) F Tryd.func33 rfl rfl rfl rfl (by intros; first | trivial | assumption) ?_
  with_reducible refine JC.seq ?_
  with_reducible refine JC.region ?_
  refine JL.op (JO.box rfl rfl ?_); intro b2
  refine JL.op (JO.val (y_assign) rfl ?_)
  with_reducible refine JL.nil ?_
  with_reducible refine JQ.seq (JC.seq (JC.seq ?_))
  with_reducible refine JC.region ?_
  refine JL.op (JO.val (y_fieldAddr rfl rfl rfl) rfl ?_)
  refine JL.op (JO.val (y_ld 0 rfl rfl rfl rfl) rfl ?_)
  refine JL.op (JO.val (y_len rfl rfl) rfl ?_)
  refine JL.op (JO.val (y_move) rfl ?_)
  with_reducible refine JL.nil ?_
  with_reducible refine JQ.seq (JC.block ?_)
  refine JC.loop (fun m E S F' w1' => ∃ k : Nat, m = s.rs.length - k ∧ k ≤ s.rs.length ∧ (s.rs.take k).all (fun x => !(fun r => decide (r.client = c)) x) = true ∧ S = [(some b2, 28, [.slice Ap s.ps.length cp, .slice Ar s.rs.length cr, .int .i64 s.ep, .slice Am s.ms.length cm])] ∧ F' = F ∧ w1' = w ∧ Has E [(1, .int .i64 c), (2, .pointer (some ⟨b2, 0, none⟩)), (8, .slice Ar s.rs.length cr), (9, .int .i64 (s.rs.length : Nat)), (10, .int .i64 (k : Nat))])
    _ ⟨0, rfl, Nat.zero_le _, by simp, rfl, rfl, rfl, ⟨rfl, rfl, rfl, rfl, rfl, trivial⟩⟩ ?_
  rintro m E S F' w1' ⟨k, rfl, hk, hall, rfl, rfl, rfl, hE⟩
  refine JC.env hE (fun E => ?_)
  with_reducible refine JC.seq ?_
  with_reducible refine JC.region ?_
  refine JL.op (JO.val (y_lss rfl rfl) rfl ?_)
  with_reducible refine JL.nil ?_
  with_reducible refine JQ.seq (JC.seq ?_)
  by_cases hlt : k < s.rs.length
  · have hd : decide ((k : Int) < (s.rs.length : Int)) = true := by simpa using hlt
    refine JC.cond_true (congrArg Value.bool hd) ?_
    obtain ⟨x, hx⟩ : ∃ x, hs[k]? = some x := ⟨hs[k], by simp [hlen, hlt]⟩
    obtain ⟨b, o, hA, hat⟩ := SlF.elem hrow rcells_len hlen.symm hx
    replace hx : s.rs[k]? = some x.1 := by rw [← hhs]; simp [hx]
    with_reducible refine JC.skip (JQ.seq (JC.seq (JC.block (JC.seq ?_))))
    with_reducible refine JC.region ?_
    refine JL.op (JO.val (y_move) rfl ?_)
    refine JL.op (JO.val (y_idx (b := b) (o := o) rfl rfl rfl rfl hA rfl hlt) rfl ?_)
    refine JL.op (JO.val (y_lddA rfl rfl hat (by first | rfl | assumption)) rfl ?_)
    refine JL.op (JO.alloc rfl rfl ?_); intro b6
    refine JL.op (JO.val (y_assign) rfl ?_)
    refine JL.op (JO.storeA 1 rfl rfl rfl rfl (by first | rfl | assumption) (by first | rfl | assumption) (by first | rfl | assumption) ?_)
    with_reducible refine JL.nil ?_
    with_reducible refine JQ.seq (JC.seq ?_)
    with_reducible refine JC.region ?_
    refine JL.op (JO.val (y_fieldAddr rfl rfl rfl) rfl ?_)
    refine JL.op (JO.val (y_ld 1 rfl rfl rfl rfl) rfl ?_)
    refine JL.op (JO.val (y_move) rfl ?_)
    refine JL.op (JO.val (y_eql rfl rfl) rfl ?_)
    with_reducible refine JL.nil ?_
    with_reducible refine JQ.seq ?_
    refine JC.cond rfl (fun hg => ?_) (fun hg => ?_)
    · with_reducible refine JC.seq ?_
      with_reducible refine JC.region ?_
      refine JL.op (JO.val (y_move) rfl ?_)
      refine JL.op (JO.val (y_assign) rfl ?_)
      with_reducible refine JL.nil ?_
      with_reducible refine JQ.seq (JC.ret (JQ.blk_ret (JQ.seq_ret (JQ.loop_ret (JQ.blk_ret (JQ.seq_ret ?_))))))
      refine ret_one rfl ResV.tmp (fun w _ => ?_)
      rw [idx_here hall hx hg]
      rfl
    · with_reducible refine JC.skip (JQ.blk (JQ.seq ?_))
      with_reducible refine JC.region ?_
      refine JL.op (JO.val (y_add rfl rfl (natAdd hk hn)) rfl ?_)
      refine JL.op (JO.val (y_move) rfl ?_)
      with_reducible refine JL.nil ?_
      refine JQ.takeN 1 ?_
      refine JQ.loop (s.rs.length - (k + 1)) ⟨k + 1, rfl, hlt, ?_, rfl, rfl, rfl, ⟨rfl, rfl, rfl, rfl, rfl, trivial⟩⟩ (by omega)
      rw [List.take_add_one, hx, List.all_append, hall]
      simp only [Option.toList_some, List.all_cons, List.all_nil, Bool.and_true, Bool.true_and]
      exact congrArg (! ·) hg
  · have hd : decide ((k : Int) < (s.rs.length : Int)) = false := by simpa using hlt
    refine JC.cond_false (congrArg Value.bool hd) ?_
    obtain rfl : k = s.rs.length := by omega
    with_reducible refine JC.exit (JQ.seq_exit (JQ.loop_exit (JQ.blk_here (JQ.seq (JC.seq ?_)))))
    with_reducible refine JC.region ?_
    refine JL.op (JO.val (y_assign) rfl ?_)
    with_reducible refine JL.nil ?_
    with_reducible refine JQ.seq (JC.ret ?_)
    refine ret_one rfl ResV.tmp (fun w _ => ?_)
    rw [List.take_length] at hall
    rw [idx_none hall]
    rfl
end Go.Proofs.YtchnnplcpidkiaaDoor
