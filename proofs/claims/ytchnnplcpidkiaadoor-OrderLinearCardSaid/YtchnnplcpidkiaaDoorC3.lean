/- Contracts of slices.BinarySearchFunc at the three element types, with the comparisons that are handed to it; of state.pair, state.last, config.find; no condition but a bound on lengths. -/
import Derived.Test.YtchnnplcpidkiaaDoorC2
namespace Go.Proofs.YtchnnplcpidkiaaDoor
open Go.RowKit
set_option linter.unusedSimpArgs false
set_option linter.unusedVariables false
set_option maxRecDepth 20000

theorem isNaN_str (x : ByteArray) (w : World) : CallsTo 88 #[.string x] w (fun v _ => v = .bool false) := by
  refine CallsTo.enter 6 (fun _ => True) (fun _ => True) Tryd.func88 rfl rfl rfl rfl (by intros; first | trivial | assumption) ?_
  with_reducible refine JC.seq ?_
  with_reducible refine JC.region ?_
  refine JL.op (JO.val (y_assign) rfl ?_)
  with_reducible refine JL.nil ?_
  with_reducible refine JQ.seq (JC.seq ?_)
  with_reducible refine JC.region ?_
  refine JL.op (JO.val (y_move) rfl ?_)
  refine JL.op (JO.val (y_move) rfl ?_)
  refine JL.op (JO.val (y_nes rfl rfl) rfl ?_)
  refine JL.op (JO.val (y_assign) rfl ?_)
  with_reducible refine JL.nil ?_
  with_reducible refine JQ.seq (JC.ret ?_)
  refine ret_one rfl ResV.tmp (fun w _ => ?_)
  exact congrArg Value.bool (by simp)
def cmpS (x y : ByteArray) : Int := if Op.bytesLess x.toList y.toList = true then -1 else if x.toList == y.toList then 0 else 1
theorem cmp_str (x y : ByteArray) (w : World) : CallsTo 69 #[.string x, .string y] w (fun v _ => v = .int .i64 (cmpS x y)) := by
  refine CallsTo.enter 20 (fun _ => True) (fun _ => True) Tryd.func69 rfl rfl rfl rfl (by intros; first | trivial | assumption) ?_
  with_reducible refine JC.seq ?_
  with_reducible refine JC.region ?_
  refine JL.op (JO.val (y_assign) rfl ?_)
  with_reducible refine JL.nil ?_
  with_reducible refine JQ.seq (JC.seq ?_)
  with_reducible refine JC.region ?_
  refine JL.op (JO.val (y_move) rfl ?_)
  refine JL.op (JO.callv (fun wc hc => isNaN_str x wc) rfl rfl rfl ?_)
  refine JL.op (JO.val (y_assign) rfl ?_)
  with_reducible refine JL.nil ?_
  with_reducible refine JQ.seq (JC.seq ?_)
  with_reducible refine JC.region ?_
  refine JL.op (JO.val (y_move) rfl ?_)
  refine JL.op (JO.callv (fun wc hc => isNaN_str y wc) rfl rfl rfl ?_)
  refine JL.op (JO.val (y_assign) rfl ?_)
  with_reducible refine JL.nil ?_
  with_reducible refine JQ.seq (JC.seq (JC.seq ?_))
  with_reducible refine JC.region ?_
  refine JL.op (JO.val (y_move) rfl ?_)
  with_reducible refine JL.nil ?_
  with_reducible refine JQ.seq ?_
  refine JC.cond_false rfl ?_
  with_reducible refine JC.skip (JQ.seq (JC.seq (JC.seq ?_)))
  with_reducible refine JC.region ?_
  refine JL.op (JO.val (y_move) rfl ?_)
  with_reducible refine JL.nil ?_
  with_reducible refine JQ.seq ?_
  refine JC.cond_false rfl ?_
  with_reducible refine JC.skip (JQ.seq (JC.seq (JC.seq ?_)))
  with_reducible refine JC.region ?_
  refine JL.op (JO.val (y_move) rfl ?_)
  refine JL.op (JO.val (y_move) rfl ?_)
  refine JL.op (JO.val (y_lts rfl rfl) rfl ?_)
  with_reducible refine JL.nil ?_
  with_reducible refine JQ.seq ?_
  refine JC.cond rfl (fun h => ?_) (fun h => ?_)
  · with_reducible refine JC.seq ?_
    with_reducible refine JC.region ?_
    refine JL.op (JO.val (y_assign) rfl ?_)
    with_reducible refine JL.nil ?_
    with_reducible refine JQ.seq (JC.ret (JQ.seq_ret ?_))
    refine ret_one rfl ResV.tmp (fun w _ => ?_)
    exact congrArg (Value.int .i64) (by unfold cmpS; rw [if_pos h])
  · with_reducible refine JC.skip (JQ.seq (JC.seq (JC.seq ?_)))
    with_reducible refine JC.region ?_
    refine JL.op (JO.val (y_move) rfl ?_)
    refine JL.op (JO.val (y_move) rfl ?_)
    refine JL.op (JO.val (y_gts rfl rfl) rfl ?_)
    with_reducible refine JL.nil ?_
    with_reducible refine JQ.seq ?_
    refine JC.cond rfl (fun h2 => ?_) (fun h2 => ?_)
    · with_reducible refine JC.seq ?_
      with_reducible refine JC.region ?_
      refine JL.op (JO.val (y_assign) rfl ?_)
      with_reducible refine JL.nil ?_
      with_reducible refine JQ.seq (JC.ret (JQ.seq_ret ?_))
      refine ret_one rfl ResV.tmp (fun w _ => ?_)
      exact congrArg (Value.int .i64) (by unfold cmpS; rw [if_neg (by rw [h]; simp)]; rw [h] at h2; simp only [Bool.false_or] at h2; rw [if_neg (by intro e; rw [e] at h2; cases h2)])
    · with_reducible refine JC.skip (JQ.seq (JC.seq ?_))
      with_reducible refine JC.region ?_
      refine JL.op (JO.val (y_assign) rfl ?_)
      with_reducible refine JL.nil ?_
      with_reducible refine JQ.seq (JC.ret ?_)
      refine ret_one rfl ResV.tmp (fun w _ => ?_)
      exact congrArg (Value.int .i64) (by unfold cmpS; rw [if_neg (by rw [h]; simp)]; rw [h] at h2; simp only [Bool.false_or] at h2; rw [if_pos (by cases hq : (x.toList == y.toList) with | true => rfl | false => rw [hq] at h2; cases h2)])

/-! ### The comparisons -/
theorem cmpf_46 (h : LReply × Option Addr × Nat) (c : Int) (w : World) : CallsTo 46 #[.agg (rcells h).toArray, .int .i64 c] w (fun v _ => v = .int .i64 (cmpI h.1.client c)) := by
  refine CallsTo.enter 9 (fun _ => True) (fun _ => True) Tryd.func46 rfl rfl rfl rfl (by intros; first | trivial | assumption) ?_
  with_reducible refine JC.seq ?_
  with_reducible refine JC.region ?_
  refine JL.op (JO.box rfl rfl ?_); intro b2
  refine JL.op (JO.val (y_assign) rfl ?_)
  with_reducible refine JL.nil ?_
  with_reducible refine JQ.seq (JC.seq ?_)
  with_reducible refine JC.region ?_
  refine JL.op (JO.val (y_fieldAddr rfl rfl rfl) rfl ?_)
  refine JL.op (JO.val (y_ld 0 rfl rfl rfl rfl) rfl ?_)
  refine JL.op (JO.val (y_move) rfl ?_)
  refine JL.op (JO.callv (fun wc hc => cmp_int _ _ wc) rfl rfl rfl ?_)
  refine JL.op (JO.val (y_assign) rfl ?_)
  with_reducible refine JL.nil ?_
  with_reducible refine JQ.seq (JC.ret ?_)
  exact ret_one rfl ResV.tmp (fun w _ => rfl)
theorem cmpf_68 (p : LPair) (c : ByteArray) (w : World) : CallsTo 68 #[.agg p.cells.toArray, .string c] w (fun v _ => v = .int .i64 (cmpS p.k c)) := by
  refine CallsTo.enter 9 (fun _ => True) (fun _ => True) Tryd.func68 rfl rfl rfl rfl (by intros; first | trivial | assumption) ?_
  with_reducible refine JC.seq ?_
  with_reducible refine JC.region ?_
  refine JL.op (JO.box rfl rfl ?_); intro b2
  refine JL.op (JO.val (y_assign) rfl ?_)
  with_reducible refine JL.nil ?_
  with_reducible refine JQ.seq (JC.seq ?_)
  with_reducible refine JC.region ?_
  refine JL.op (JO.val (y_fieldAddr rfl rfl rfl) rfl ?_)
  refine JL.op (JO.val (y_ld 0 rfl rfl rfl rfl) rfl ?_)
  refine JL.op (JO.val (y_move) rfl ?_)
  refine JL.op (JO.callv (fun wc hc => cmp_str _ _ wc) rfl rfl rfl ?_)
  refine JL.op (JO.val (y_assign) rfl ?_)
  with_reducible refine JL.nil ?_
  with_reducible refine JQ.seq (JC.ret ?_)
  exact ret_one rfl ResV.tmp (fun w _ => rfl)
theorem cmpf_93 (m : LMember) (c : Int) (w : World) : CallsTo 93 #[.agg m.cells.toArray, .int .i64 c] w (fun v _ => v = .int .i64 (IntKind.i64.wrap (m.id - c))) := by
  refine CallsTo.enter 9 (fun _ => True) (fun _ => True) Tryd.func93 rfl rfl rfl rfl (by intros; first | trivial | assumption) ?_
  with_reducible refine JC.seq ?_
  with_reducible refine JC.region ?_
  refine JL.op (JO.box rfl rfl ?_); intro b2
  refine JL.op (JO.val (y_assign) rfl ?_)
  with_reducible refine JL.nil ?_
  with_reducible refine JQ.seq (JC.seq ?_)
  with_reducible refine JC.region ?_
  refine JL.op (JO.val (y_fieldAddr rfl rfl rfl) rfl ?_)
  refine JL.op (JO.val (y_ld 0 rfl rfl rfl rfl) rfl ?_)
  refine JL.op (JO.val (y_move) rfl ?_)
  refine JL.op (JO.val (y_sub rfl rfl rfl) rfl ?_)
  refine JL.op (JO.val (y_assign) rfl ?_)
  with_reducible refine JL.nil ?_
  with_reducible refine JQ.seq (JC.ret ?_)
  exact ret_one rfl ResV.tmp (fun w _ => rfl)

/-! ### The search -/
def bsGo (c : Nat → Int) : Nat → Nat → Nat → Nat
  | 0, i, _ => i
  | f + 1, i, j => if i < j then (if c ((i + j) / 2) < 0 then bsGo c f ((i + j) / 2 + 1) j else bsGo c f i ((i + j) / 2)) else i
theorem bsGo_done {c : Nat → Int} {f i j : Nat} (h : ¬ i < j) : bsGo c f i j = i := by
  cases f with
  | zero => rfl
  | succ f => rw [bsGo, if_neg h]
def at0 {α : Type} (c : α → Int) (xs : List α) (k : Nat) : Int := match xs[k]? with | some x => c x | none => 0
def bsI {α : Type} (c : α → Int) (xs : List α) : Nat := bsGo (at0 c xs) xs.length 0 xs.length
def bsB {α : Type} (c : α → Int) (xs : List α) : Bool := decide (bsI c xs < xs.length) && decide (at0 c xs (bsI c xs) = 0)
theorem wrap_in {x : Int} (h1 : -9223372036854775808 ≤ x) (h2 : x ≤ 9223372036854775807) : IntKind.i64.wrap x = x := by
  unfold IntKind.wrap
  simp [IntKind.bits, IntKind.signed]
  omega
theorem wrap_in_u {x : Int} (h1 : 0 ≤ x) (h2 : x ≤ 18446744073709551615) : IntKind.u64.wrap x = x := by
  unfold IntKind.wrap
  simp [IntKind.bits, IntKind.signed]
  omega
theorem half (i j : Nat) : ((i + j : Nat) : Int).fdiv (2 ^ (min (1 : Int).toNat IntKind.u64.bits)) = (((i + j) / 2 : Nat) : Int) := by
  have : (2 : Int) ^ (min (1 : Int).toNat IntKind.u64.bits) = 2 := by decide
  rw [this, Int.fdiv_eq_ediv_of_nonneg _ (by omega)]
  omega
theorem search_45 (F : Nat → Prop) (A : Option Addr) (cap : Nat) (xs : List (LReply × Option Addr × Nat)) (c : Int) (w : World) (h : SlF F w A xs.length cap 4 (xs.flatMap rcells)) (hn : xs.length ≤ 100000) (hwf : ∀ x ∈ xs, True) (hlen : ∀ x ∈ xs, (rcells x).length = 4) :
    CallsTo 45 #[.slice A xs.length cap, .int .i64 c, .func (.func 46) #[] #[]] w (fun v _ => v = .tuple #[.int .i64 (bsI (fun h => cmpI h.1.client c) xs : Nat), .bool (bsB (fun h => cmpI h.1.client c) xs)]) := by
  refine CallsTo.enter 49 (fun _ => True) F Tryd.func45 rfl rfl rfl rfl (by intros; first | trivial | assumption) ?_
  with_reducible refine JC.seq ?_
  with_reducible refine JC.region ?_
  refine JL.op (JO.val (y_assign) rfl ?_)
  refine JL.op (JO.val (y_assign) rfl ?_)
  with_reducible refine JL.nil ?_
  with_reducible refine JQ.seq (JC.seq ?_)
  with_reducible refine JC.region ?_
  refine JL.op (JO.val (y_move) rfl ?_)
  refine JL.op (JO.val (y_len rfl rfl) rfl ?_)
  refine JL.op (JO.val (y_assign) rfl ?_)
  with_reducible refine JL.nil ?_
  with_reducible refine JQ.seq (JC.seq ?_)
  with_reducible refine JC.region ?_
  refine JL.op (JO.val (y_move) rfl ?_)
  refine JL.op (JO.val (y_assign) rfl ?_)
  refine JL.op (JO.val (y_assign) rfl ?_)
  with_reducible refine JL.nil ?_
  with_reducible refine JQ.seq (JC.seq (JC.block ?_))
  refine JC.loop (fun m E S F' w1' => S = [] ∧ F' = F ∧ w1' = w ∧ ∃ i j fuel : Nat, m = j - i ∧ Has E [(0, .slice A xs.length cap), (1, .int .i64 c), (2, .func (.func 46) #[] #[]), (8, .int .i64 (xs.length : Nat)), (9, .int .i64 (i : Nat)), (10, .int .i64 (j : Nat))] ∧ i ≤ j ∧ j ≤ xs.length ∧ j - i ≤ fuel ∧ bsGo (at0 (fun h => cmpI h.1.client c) xs) fuel i j = bsI (fun h => cmpI h.1.client c) xs)
    _ ⟨rfl, rfl, rfl, 0, xs.length, xs.length, rfl, ⟨rfl, rfl, rfl, rfl, rfl, rfl, trivial⟩, Nat.zero_le _, Nat.le_refl _, by omega, rfl⟩ ?_
  rintro m E S F' w1' ⟨rfl, rfl, rfl, i, j, fuel, rfl, hE, hij, hjn, hf, hgo⟩
  refine JC.env hE (fun E => ?_)
  with_reducible refine JC.seq (JC.seq ?_)
  with_reducible refine JC.region ?_
  refine JL.op (JO.val (y_move) rfl ?_)
  refine JL.op (JO.val (y_move) rfl ?_)
  refine JL.op (JO.val (y_lss rfl rfl) rfl ?_)
  with_reducible refine JL.nil ?_
  with_reducible refine JQ.seq ?_
  by_cases hlt : i < j
  · have hd : decide ((i : Int) < (j : Int)) = true := by simpa using hlt
    refine JC.cond_true (congrArg Value.bool hd) ?_
    obtain ⟨x, hx⟩ : ∃ x, xs[(i + j) / 2]? = some x := by
      cases hq : xs[(i + j) / 2]? with
      | none => simp at hq; omega
      | some x => exact ⟨x, rfl⟩
    obtain ⟨b, o, hA, hat⟩ := h.elem hlen rfl hx
    have hc0 : at0 (fun h => cmpI h.1.client c) xs ((i + j) / 2) = (fun h => cmpI h.1.client c) x := by simp [at0, hx]
    with_reducible refine JC.skip (JQ.seq (JC.block (JC.seq ?_)))
    with_reducible refine JC.region ?_
    refine JL.op (JO.val (y_move) rfl ?_)
    refine JL.op (JO.val (y_move) rfl ?_)
    refine JL.op (JO.val (y_add rfl rfl (r := ((i + j : Nat) : Int)) (by rw [Int.natCast_add]; exact wrap_in (by omega) (by omega))) rfl ?_)
    refine JL.op (JO.val (y_conv rfl Tryd.runUnderlying3 Tryd.runUnderlying129 (wrap_in_u (by omega) (by omega))) rfl ?_)
    refine JL.op (JO.val (y_shr rfl rfl (by decide) (half i j)) rfl ?_)
    refine JL.op (JO.val (y_conv rfl Tryd.runUnderlying129 Tryd.runUnderlying3 (wrap_in (by omega) (by omega))) rfl ?_)
    refine JL.op (JO.val (y_assign) rfl ?_)
    with_reducible refine JL.nil ?_
    with_reducible refine JQ.seq (JC.seq ?_)
    with_reducible refine JC.region ?_
    refine JL.op (JO.val (y_move) rfl ?_)
    refine JL.op (JO.val (y_move) rfl ?_)
    refine JL.op (JO.val (y_move) rfl ?_)
    refine JL.op (JO.val (y_idx (b := b) (o := o) rfl rfl rfl rfl hA rfl (by omega)) rfl ?_)
    refine JL.op (JO.val (y_lddA rfl rfl hat (rfl)) rfl ?_)
    refine JL.op (JO.val (y_move) rfl ?_)
    refine JL.op (JO.callv (fun wc hc => cmpf_46 x c wc) rfl rfl rfl ?_)
    refine JL.op (JO.val (y_lss rfl rfl) rfl ?_)
    with_reducible refine JL.nil ?_
    with_reducible refine JQ.seq ?_
    refine JC.cond rfl (fun hlss => ?_) (fun hge => ?_)
    · skip
      with_reducible refine JC.region ?_
      refine JL.op (JO.val (y_move) rfl ?_)
      refine JL.op (JO.val (y_add rfl rfl (r := (((i + j) / 2 + 1 : Nat) : Int)) (by rw [Int.natCast_add]; exact wrap_in (by omega) (by omega))) rfl ?_)
      refine JL.op (JO.val (y_assign) rfl ?_)
      with_reducible refine JL.nil ?_
      with_reducible refine JQ.blk ?_
      cases fuel with
      | zero => omega
      | succ fuel =>
        rw [bsGo, if_pos hlt, if_pos (by rw [hc0]; simpa using hlss)] at hgo
        exact JQ.loop _ ⟨rfl, rfl, rfl, (i + j) / 2 + 1, j, fuel, rfl, ⟨rfl, rfl, rfl, rfl, rfl, rfl, trivial⟩, by omega, by omega, by omega, hgo⟩ (by omega)
    · skip
      with_reducible refine JC.region ?_
      refine JL.op (JO.val (y_move) rfl ?_)
      refine JL.op (JO.val (y_assign) rfl ?_)
      with_reducible refine JL.nil ?_
      with_reducible refine JQ.blk ?_
      cases fuel with
      | zero => omega
      | succ fuel =>
        rw [bsGo, if_pos hlt, if_neg (by rw [hc0]; simpa using hge)] at hgo
        exact JQ.loop _ ⟨rfl, rfl, rfl, i, (i + j) / 2, fuel, rfl, ⟨rfl, rfl, rfl, rfl, rfl, rfl, trivial⟩, by omega, by omega, by omega, hgo⟩ (by omega)
  · have hd : decide ((i : Int) < (j : Int)) = false := by simpa using hlt
    refine JC.cond_false (congrArg Value.bool hd) ?_
    rw [bsGo_done hlt] at hgo
    by_cases hin : i < xs.length
    · have hdi : decide ((i : Int) < (xs.length : Int)) = true := by simpa using hin
      obtain ⟨x, hx⟩ : ∃ x, xs[i]? = some x := ⟨xs[i], by simp [hin]⟩
      obtain ⟨b, o, hA, hat⟩ := h.elem hlen rfl hx
      have hc0 : at0 (fun h => cmpI h.1.client c) xs i = (fun h => cmpI h.1.client c) x := by simp [at0, hx]
      with_reducible refine JC.exit (JQ.seq_exit (JQ.loop_exit (JQ.blk_here (JQ.seq (JC.seq ?_)))))
      with_reducible refine JC.region ?_
      refine JL.op (JO.val (y_move) rfl ?_)
      refine JL.op (JO.val (y_move) rfl ?_)
      refine JL.op (JO.val (y_move) rfl ?_)
      refine JL.op (JO.val (y_lss rfl rfl) rfl ?_)
      refine JL.op (JO.val (y_move) rfl ?_)
      refine JL.op_do rfl rfl (congrArg Value.bool hdi) (JO.val (y_move) rfl ?_)
      refine JL.op_do rfl rfl (congrArg Value.bool hdi) (JO.val (y_move) rfl ?_)
      refine JL.op_do rfl rfl (congrArg Value.bool hdi) (JO.val (y_move) rfl ?_)
      refine JL.op_do rfl rfl (congrArg Value.bool hdi) (JO.val (y_idx (b := b) (o := o) rfl rfl rfl rfl hA rfl hin) rfl ?_)
      refine JL.op_do rfl rfl (congrArg Value.bool hdi) (JO.val (y_lddA rfl rfl hat (rfl)) rfl ?_)
      refine JL.op_do rfl rfl (congrArg Value.bool hdi) (JO.val (y_move) rfl ?_)
      refine JL.op_do rfl rfl (congrArg Value.bool hdi) (JO.callv (fun wc hc => cmpf_46 x c wc) rfl rfl rfl ?_)
      refine JL.op_do rfl rfl (congrArg Value.bool hdi) (JO.val (y_eql rfl rfl) rfl ?_)
      refine JL.op (JO.val (y_pick (congrArg Value.bool hdi)) rfl ?_)
      refine JL.op (JO.val (y_assign) rfl ?_)
      refine JL.op (JO.val (y_assign) rfl ?_)
      with_reducible refine JL.nil ?_
      with_reducible refine JQ.seq (JC.ret ?_)
      refine ret_two rfl ResV.tmp ResV.tmp (fun w _ => ?_)
      show Value.tuple #[.int .i64 (i : Nat), .bool (decide ((fun h => cmpI h.1.client c) x = 0))] = _
      unfold bsB
      rw [← hgo, hc0]
      simp [hin]
    · have hdi : decide ((i : Int) < (xs.length : Int)) = false := by simpa using hin
      with_reducible refine JC.exit (JQ.seq_exit (JQ.loop_exit (JQ.blk_here (JQ.seq (JC.seq ?_)))))
      with_reducible refine JC.region ?_
      refine JL.op (JO.val (y_move) rfl ?_)
      refine JL.op (JO.val (y_move) rfl ?_)
      refine JL.op (JO.val (y_move) rfl ?_)
      refine JL.op (JO.val (y_lss rfl rfl) rfl ?_)
      refine JL.op (JO.val (y_move) rfl ?_)
      refine JL.op_skip rfl rfl (congrArg Value.bool hdi) rfl ?_
      refine JL.op_skip rfl rfl (congrArg Value.bool hdi) rfl ?_
      refine JL.op_skip rfl rfl (congrArg Value.bool hdi) rfl ?_
      refine JL.op_skip rfl rfl (congrArg Value.bool hdi) rfl ?_
      refine JL.op_skip rfl rfl (congrArg Value.bool hdi) rfl ?_
      refine JL.op_skip rfl rfl (congrArg Value.bool hdi) rfl ?_
      refine JL.op_skip rfl rfl (congrArg Value.bool hdi) rfl ?_
      refine JL.op_skip rfl rfl (congrArg Value.bool hdi) rfl ?_
      refine JL.op (JO.val (y_pick (congrArg Value.bool hdi)) rfl ?_)
      refine JL.op (JO.val (y_assign) rfl ?_)
      refine JL.op (JO.val (y_assign) rfl ?_)
      with_reducible refine JL.nil ?_
      with_reducible refine JQ.seq (JC.ret ?_)
      refine ret_two rfl ResV.tmp ResV.tmp (fun w _ => ?_)
      show Value.tuple #[.int .i64 (i : Nat), .bool false] = _
      unfold bsB
      rw [← hgo]
      simp [hin]
theorem search_67 (F : Nat → Prop) (A : Option Addr) (cap : Nat) (xs : List (LPair)) (c : ByteArray) (w : World) (h : SlF F w A xs.length cap 2 (xs.flatMap LPair.cells)) (hn : xs.length ≤ 100000) (hwf : ∀ x ∈ xs, True) (hlen : ∀ x ∈ xs, (LPair.cells x).length = 2) :
    CallsTo 67 #[.slice A xs.length cap, .string c, .func (.func 68) #[] #[]] w (fun v _ => v = .tuple #[.int .i64 (bsI (fun p => cmpS p.k c) xs : Nat), .bool (bsB (fun p => cmpS p.k c) xs)]) := by
  refine CallsTo.enter 49 (fun _ => True) F Tryd.func67 rfl rfl rfl rfl (by intros; first | trivial | assumption) ?_
  with_reducible refine JC.seq ?_
  with_reducible refine JC.region ?_
  refine JL.op (JO.val (y_assign) rfl ?_)
  refine JL.op (JO.val (y_assign) rfl ?_)
  with_reducible refine JL.nil ?_
  with_reducible refine JQ.seq (JC.seq ?_)
  with_reducible refine JC.region ?_
  refine JL.op (JO.val (y_move) rfl ?_)
  refine JL.op (JO.val (y_len rfl rfl) rfl ?_)
  refine JL.op (JO.val (y_assign) rfl ?_)
  with_reducible refine JL.nil ?_
  with_reducible refine JQ.seq (JC.seq ?_)
  with_reducible refine JC.region ?_
  refine JL.op (JO.val (y_move) rfl ?_)
  refine JL.op (JO.val (y_assign) rfl ?_)
  refine JL.op (JO.val (y_assign) rfl ?_)
  with_reducible refine JL.nil ?_
  with_reducible refine JQ.seq (JC.seq (JC.block ?_))
  refine JC.loop (fun m E S F' w1' => S = [] ∧ F' = F ∧ w1' = w ∧ ∃ i j fuel : Nat, m = j - i ∧ Has E [(0, .slice A xs.length cap), (1, .string c), (2, .func (.func 68) #[] #[]), (8, .int .i64 (xs.length : Nat)), (9, .int .i64 (i : Nat)), (10, .int .i64 (j : Nat))] ∧ i ≤ j ∧ j ≤ xs.length ∧ j - i ≤ fuel ∧ bsGo (at0 (fun p => cmpS p.k c) xs) fuel i j = bsI (fun p => cmpS p.k c) xs)
    _ ⟨rfl, rfl, rfl, 0, xs.length, xs.length, rfl, ⟨rfl, rfl, rfl, rfl, rfl, rfl, trivial⟩, Nat.zero_le _, Nat.le_refl _, by omega, rfl⟩ ?_
  rintro m E S F' w1' ⟨rfl, rfl, rfl, i, j, fuel, rfl, hE, hij, hjn, hf, hgo⟩
  refine JC.env hE (fun E => ?_)
  with_reducible refine JC.seq (JC.seq ?_)
  with_reducible refine JC.region ?_
  refine JL.op (JO.val (y_move) rfl ?_)
  refine JL.op (JO.val (y_move) rfl ?_)
  refine JL.op (JO.val (y_lss rfl rfl) rfl ?_)
  with_reducible refine JL.nil ?_
  with_reducible refine JQ.seq ?_
  by_cases hlt : i < j
  · have hd : decide ((i : Int) < (j : Int)) = true := by simpa using hlt
    refine JC.cond_true (congrArg Value.bool hd) ?_
    obtain ⟨x, hx⟩ : ∃ x, xs[(i + j) / 2]? = some x := by
      cases hq : xs[(i + j) / 2]? with
      | none => simp at hq; omega
      | some x => exact ⟨x, rfl⟩
    obtain ⟨b, o, hA, hat⟩ := h.elem hlen rfl hx
    have hc0 : at0 (fun p => cmpS p.k c) xs ((i + j) / 2) = (fun p => cmpS p.k c) x := by simp [at0, hx]
    with_reducible refine JC.skip (JQ.seq (JC.block (JC.seq ?_)))
    with_reducible refine JC.region ?_
    refine JL.op (JO.val (y_move) rfl ?_)
    refine JL.op (JO.val (y_move) rfl ?_)
    refine JL.op (JO.val (y_add rfl rfl (r := ((i + j : Nat) : Int)) (by rw [Int.natCast_add]; exact wrap_in (by omega) (by omega))) rfl ?_)
    refine JL.op (JO.val (y_conv rfl Tryd.runUnderlying3 Tryd.runUnderlying129 (wrap_in_u (by omega) (by omega))) rfl ?_)
    refine JL.op (JO.val (y_shr rfl rfl (by decide) (half i j)) rfl ?_)
    refine JL.op (JO.val (y_conv rfl Tryd.runUnderlying129 Tryd.runUnderlying3 (wrap_in (by omega) (by omega))) rfl ?_)
    refine JL.op (JO.val (y_assign) rfl ?_)
    with_reducible refine JL.nil ?_
    with_reducible refine JQ.seq (JC.seq ?_)
    with_reducible refine JC.region ?_
    refine JL.op (JO.val (y_move) rfl ?_)
    refine JL.op (JO.val (y_move) rfl ?_)
    refine JL.op (JO.val (y_move) rfl ?_)
    refine JL.op (JO.val (y_idx (b := b) (o := o) rfl rfl rfl rfl hA rfl (by omega)) rfl ?_)
    refine JL.op (JO.val (y_lddA rfl rfl hat (rfl)) rfl ?_)
    refine JL.op (JO.val (y_move) rfl ?_)
    refine JL.op (JO.callv (fun wc hc => cmpf_68 x c wc) rfl rfl rfl ?_)
    refine JL.op (JO.val (y_lss rfl rfl) rfl ?_)
    with_reducible refine JL.nil ?_
    with_reducible refine JQ.seq ?_
    refine JC.cond rfl (fun hlss => ?_) (fun hge => ?_)
    · skip
      with_reducible refine JC.region ?_
      refine JL.op (JO.val (y_move) rfl ?_)
      refine JL.op (JO.val (y_add rfl rfl (r := (((i + j) / 2 + 1 : Nat) : Int)) (by rw [Int.natCast_add]; exact wrap_in (by omega) (by omega))) rfl ?_)
      refine JL.op (JO.val (y_assign) rfl ?_)
      with_reducible refine JL.nil ?_
      with_reducible refine JQ.blk ?_
      cases fuel with
      | zero => omega
      | succ fuel =>
        rw [bsGo, if_pos hlt, if_pos (by rw [hc0]; simpa using hlss)] at hgo
        exact JQ.loop _ ⟨rfl, rfl, rfl, (i + j) / 2 + 1, j, fuel, rfl, ⟨rfl, rfl, rfl, rfl, rfl, rfl, trivial⟩, by omega, by omega, by omega, hgo⟩ (by omega)
    · skip
      with_reducible refine JC.region ?_
      refine JL.op (JO.val (y_move) rfl ?_)
      refine JL.op (JO.val (y_assign) rfl ?_)
      with_reducible refine JL.nil ?_
      with_reducible refine JQ.blk ?_
      cases fuel with
      | zero => omega
      | succ fuel =>
        rw [bsGo, if_pos hlt, if_neg (by rw [hc0]; simpa using hge)] at hgo
        exact JQ.loop _ ⟨rfl, rfl, rfl, i, (i + j) / 2, fuel, rfl, ⟨rfl, rfl, rfl, rfl, rfl, rfl, trivial⟩, by omega, by omega, by omega, hgo⟩ (by omega)
  · have hd : decide ((i : Int) < (j : Int)) = false := by simpa using hlt
    refine JC.cond_false (congrArg Value.bool hd) ?_
    rw [bsGo_done hlt] at hgo
    by_cases hin : i < xs.length
    · have hdi : decide ((i : Int) < (xs.length : Int)) = true := by simpa using hin
      obtain ⟨x, hx⟩ : ∃ x, xs[i]? = some x := ⟨xs[i], by simp [hin]⟩
      obtain ⟨b, o, hA, hat⟩ := h.elem hlen rfl hx
      have hc0 : at0 (fun p => cmpS p.k c) xs i = (fun p => cmpS p.k c) x := by simp [at0, hx]
      with_reducible refine JC.exit (JQ.seq_exit (JQ.loop_exit (JQ.blk_here (JQ.seq (JC.seq ?_)))))
      with_reducible refine JC.region ?_
      refine JL.op (JO.val (y_move) rfl ?_)
      refine JL.op (JO.val (y_move) rfl ?_)
      refine JL.op (JO.val (y_move) rfl ?_)
      refine JL.op (JO.val (y_lss rfl rfl) rfl ?_)
      refine JL.op (JO.val (y_move) rfl ?_)
      refine JL.op_do rfl rfl (congrArg Value.bool hdi) (JO.val (y_move) rfl ?_)
      refine JL.op_do rfl rfl (congrArg Value.bool hdi) (JO.val (y_move) rfl ?_)
      refine JL.op_do rfl rfl (congrArg Value.bool hdi) (JO.val (y_move) rfl ?_)
      refine JL.op_do rfl rfl (congrArg Value.bool hdi) (JO.val (y_idx (b := b) (o := o) rfl rfl rfl rfl hA rfl hin) rfl ?_)
      refine JL.op_do rfl rfl (congrArg Value.bool hdi) (JO.val (y_lddA rfl rfl hat (rfl)) rfl ?_)
      refine JL.op_do rfl rfl (congrArg Value.bool hdi) (JO.val (y_move) rfl ?_)
      refine JL.op_do rfl rfl (congrArg Value.bool hdi) (JO.callv (fun wc hc => cmpf_68 x c wc) rfl rfl rfl ?_)
      refine JL.op_do rfl rfl (congrArg Value.bool hdi) (JO.val (y_eql rfl rfl) rfl ?_)
      refine JL.op (JO.val (y_pick (congrArg Value.bool hdi)) rfl ?_)
      refine JL.op (JO.val (y_assign) rfl ?_)
      refine JL.op (JO.val (y_assign) rfl ?_)
      with_reducible refine JL.nil ?_
      with_reducible refine JQ.seq (JC.ret ?_)
      refine ret_two rfl ResV.tmp ResV.tmp (fun w _ => ?_)
      show Value.tuple #[.int .i64 (i : Nat), .bool (decide ((fun p => cmpS p.k c) x = 0))] = _
      unfold bsB
      rw [← hgo, hc0]
      simp [hin]
    · have hdi : decide ((i : Int) < (xs.length : Int)) = false := by simpa using hin
      with_reducible refine JC.exit (JQ.seq_exit (JQ.loop_exit (JQ.blk_here (JQ.seq (JC.seq ?_)))))
      with_reducible refine JC.region ?_
      refine JL.op (JO.val (y_move) rfl ?_)
      refine JL.op (JO.val (y_move) rfl ?_)
      refine JL.op (JO.val (y_move) rfl ?_)
      refine JL.op (JO.val (y_lss rfl rfl) rfl ?_)
      refine JL.op (JO.val (y_move) rfl ?_)
      refine JL.op_skip rfl rfl (congrArg Value.bool hdi) rfl ?_
      refine JL.op_skip rfl rfl (congrArg Value.bool hdi) rfl ?_
      refine JL.op_skip rfl rfl (congrArg Value.bool hdi) rfl ?_
      refine JL.op_skip rfl rfl (congrArg Value.bool hdi) rfl ?_
      refine JL.op_skip rfl rfl (congrArg Value.bool hdi) rfl ?_
      refine JL.op_skip rfl rfl (congrArg Value.bool hdi) rfl ?_
      refine JL.op_skip rfl rfl (congrArg Value.bool hdi) rfl ?_
      refine JL.op_skip rfl rfl (congrArg Value.bool hdi) rfl ?_
      refine JL.op (JO.val (y_pick (congrArg Value.bool hdi)) rfl ?_)
      refine JL.op (JO.val (y_assign) rfl ?_)
      refine JL.op (JO.val (y_assign) rfl ?_)
      with_reducible refine JL.nil ?_
      with_reducible refine JQ.seq (JC.ret ?_)
      refine ret_two rfl ResV.tmp ResV.tmp (fun w _ => ?_)
      show Value.tuple #[.int .i64 (i : Nat), .bool false] = _
      unfold bsB
      rw [← hgo]
      simp [hin]
theorem search_92 (F : Nat → Prop) (A : Option Addr) (cap : Nat) (xs : List (LMember)) (c : Int) (w : World) (h : SlF F w A xs.length cap 34 (xs.flatMap LMember.cells)) (hn : xs.length ≤ 100000) (hwf : ∀ x ∈ xs, x.wf) (hlen : ∀ x ∈ xs, (LMember.cells x).length = 34) :
    CallsTo 92 #[.slice A xs.length cap, .int .i64 c, .func (.func 93) #[] #[]] w (fun v _ => v = .tuple #[.int .i64 (bsI (fun m => IntKind.i64.wrap (m.id - c)) xs : Nat), .bool (bsB (fun m => IntKind.i64.wrap (m.id - c)) xs)]) := by
  refine CallsTo.enter 49 (fun _ => True) F Tryd.func92 rfl rfl rfl rfl (by intros; first | trivial | assumption) ?_
  with_reducible refine JC.seq ?_
  with_reducible refine JC.region ?_
  refine JL.op (JO.val (y_assign) rfl ?_)
  refine JL.op (JO.val (y_assign) rfl ?_)
  with_reducible refine JL.nil ?_
  with_reducible refine JQ.seq (JC.seq ?_)
  with_reducible refine JC.region ?_
  refine JL.op (JO.val (y_move) rfl ?_)
  refine JL.op (JO.val (y_len rfl rfl) rfl ?_)
  refine JL.op (JO.val (y_assign) rfl ?_)
  with_reducible refine JL.nil ?_
  with_reducible refine JQ.seq (JC.seq ?_)
  with_reducible refine JC.region ?_
  refine JL.op (JO.val (y_move) rfl ?_)
  refine JL.op (JO.val (y_assign) rfl ?_)
  refine JL.op (JO.val (y_assign) rfl ?_)
  with_reducible refine JL.nil ?_
  with_reducible refine JQ.seq (JC.seq (JC.block ?_))
  refine JC.loop (fun m E S F' w1' => S = [] ∧ F' = F ∧ w1' = w ∧ ∃ i j fuel : Nat, m = j - i ∧ Has E [(0, .slice A xs.length cap), (1, .int .i64 c), (2, .func (.func 93) #[] #[]), (8, .int .i64 (xs.length : Nat)), (9, .int .i64 (i : Nat)), (10, .int .i64 (j : Nat))] ∧ i ≤ j ∧ j ≤ xs.length ∧ j - i ≤ fuel ∧ bsGo (at0 (fun m => IntKind.i64.wrap (m.id - c)) xs) fuel i j = bsI (fun m => IntKind.i64.wrap (m.id - c)) xs)
    _ ⟨rfl, rfl, rfl, 0, xs.length, xs.length, rfl, ⟨rfl, rfl, rfl, rfl, rfl, rfl, trivial⟩, Nat.zero_le _, Nat.le_refl _, by omega, rfl⟩ ?_
  rintro m E S F' w1' ⟨rfl, rfl, rfl, i, j, fuel, rfl, hE, hij, hjn, hf, hgo⟩
  refine JC.env hE (fun E => ?_)
  with_reducible refine JC.seq (JC.seq ?_)
  with_reducible refine JC.region ?_
  refine JL.op (JO.val (y_move) rfl ?_)
  refine JL.op (JO.val (y_move) rfl ?_)
  refine JL.op (JO.val (y_lss rfl rfl) rfl ?_)
  with_reducible refine JL.nil ?_
  with_reducible refine JQ.seq ?_
  by_cases hlt : i < j
  · have hd : decide ((i : Int) < (j : Int)) = true := by simpa using hlt
    refine JC.cond_true (congrArg Value.bool hd) ?_
    obtain ⟨x, hx⟩ : ∃ x, xs[(i + j) / 2]? = some x := by
      cases hq : xs[(i + j) / 2]? with
      | none => simp at hq; omega
      | some x => exact ⟨x, rfl⟩
    obtain ⟨b, o, hA, hat⟩ := h.elem hlen rfl hx
    have hc0 : at0 (fun m => IntKind.i64.wrap (m.id - c)) xs ((i + j) / 2) = (fun m => IntKind.i64.wrap (m.id - c)) x := by simp [at0, hx]
    with_reducible refine JC.skip (JQ.seq (JC.block (JC.seq ?_)))
    with_reducible refine JC.region ?_
    refine JL.op (JO.val (y_move) rfl ?_)
    refine JL.op (JO.val (y_move) rfl ?_)
    refine JL.op (JO.val (y_add rfl rfl (r := ((i + j : Nat) : Int)) (by rw [Int.natCast_add]; exact wrap_in (by omega) (by omega))) rfl ?_)
    refine JL.op (JO.val (y_conv rfl Tryd.runUnderlying3 Tryd.runUnderlying129 (wrap_in_u (by omega) (by omega))) rfl ?_)
    refine JL.op (JO.val (y_shr rfl rfl (by decide) (half i j)) rfl ?_)
    refine JL.op (JO.val (y_conv rfl Tryd.runUnderlying129 Tryd.runUnderlying3 (wrap_in (by omega) (by omega))) rfl ?_)
    refine JL.op (JO.val (y_assign) rfl ?_)
    with_reducible refine JL.nil ?_
    with_reducible refine JQ.seq (JC.seq ?_)
    with_reducible refine JC.region ?_
    refine JL.op (JO.val (y_move) rfl ?_)
    refine JL.op (JO.val (y_move) rfl ?_)
    refine JL.op (JO.val (y_move) rfl ?_)
    refine JL.op (JO.val (y_idx (b := b) (o := o) rfl rfl rfl rfl hA rfl (by omega)) rfl ?_)
    refine JL.op (JO.val (y_lddA rfl rfl hat (LMember.len_cells (hwf x (List.mem_of_getElem? hx)))) rfl ?_)
    refine JL.op (JO.val (y_move) rfl ?_)
    refine JL.op (JO.callv (fun wc hc => cmpf_93 x c wc) rfl rfl rfl ?_)
    refine JL.op (JO.val (y_lss rfl rfl) rfl ?_)
    with_reducible refine JL.nil ?_
    with_reducible refine JQ.seq ?_
    refine JC.cond rfl (fun hlss => ?_) (fun hge => ?_)
    · skip
      with_reducible refine JC.region ?_
      refine JL.op (JO.val (y_move) rfl ?_)
      refine JL.op (JO.val (y_add rfl rfl (r := (((i + j) / 2 + 1 : Nat) : Int)) (by rw [Int.natCast_add]; exact wrap_in (by omega) (by omega))) rfl ?_)
      refine JL.op (JO.val (y_assign) rfl ?_)
      with_reducible refine JL.nil ?_
      with_reducible refine JQ.blk ?_
      cases fuel with
      | zero => omega
      | succ fuel =>
        rw [bsGo, if_pos hlt, if_pos (by rw [hc0]; simpa using hlss)] at hgo
        exact JQ.loop _ ⟨rfl, rfl, rfl, (i + j) / 2 + 1, j, fuel, rfl, ⟨rfl, rfl, rfl, rfl, rfl, rfl, trivial⟩, by omega, by omega, by omega, hgo⟩ (by omega)
    · skip
      with_reducible refine JC.region ?_
      refine JL.op (JO.val (y_move) rfl ?_)
      refine JL.op (JO.val (y_assign) rfl ?_)
      with_reducible refine JL.nil ?_
      with_reducible refine JQ.blk ?_
      cases fuel with
      | zero => omega
      | succ fuel =>
        rw [bsGo, if_pos hlt, if_neg (by rw [hc0]; simpa using hge)] at hgo
        exact JQ.loop _ ⟨rfl, rfl, rfl, i, (i + j) / 2, fuel, rfl, ⟨rfl, rfl, rfl, rfl, rfl, rfl, trivial⟩, by omega, by omega, by omega, hgo⟩ (by omega)
  · have hd : decide ((i : Int) < (j : Int)) = false := by simpa using hlt
    refine JC.cond_false (congrArg Value.bool hd) ?_
    rw [bsGo_done hlt] at hgo
    by_cases hin : i < xs.length
    · have hdi : decide ((i : Int) < (xs.length : Int)) = true := by simpa using hin
      obtain ⟨x, hx⟩ : ∃ x, xs[i]? = some x := ⟨xs[i], by simp [hin]⟩
      obtain ⟨b, o, hA, hat⟩ := h.elem hlen rfl hx
      have hc0 : at0 (fun m => IntKind.i64.wrap (m.id - c)) xs i = (fun m => IntKind.i64.wrap (m.id - c)) x := by simp [at0, hx]
      with_reducible refine JC.exit (JQ.seq_exit (JQ.loop_exit (JQ.blk_here (JQ.seq (JC.seq ?_)))))
      with_reducible refine JC.region ?_
      refine JL.op (JO.val (y_move) rfl ?_)
      refine JL.op (JO.val (y_move) rfl ?_)
      refine JL.op (JO.val (y_move) rfl ?_)
      refine JL.op (JO.val (y_lss rfl rfl) rfl ?_)
      refine JL.op (JO.val (y_move) rfl ?_)
      refine JL.op_do rfl rfl (congrArg Value.bool hdi) (JO.val (y_move) rfl ?_)
      refine JL.op_do rfl rfl (congrArg Value.bool hdi) (JO.val (y_move) rfl ?_)
      refine JL.op_do rfl rfl (congrArg Value.bool hdi) (JO.val (y_move) rfl ?_)
      refine JL.op_do rfl rfl (congrArg Value.bool hdi) (JO.val (y_idx (b := b) (o := o) rfl rfl rfl rfl hA rfl hin) rfl ?_)
      refine JL.op_do rfl rfl (congrArg Value.bool hdi) (JO.val (y_lddA rfl rfl hat (LMember.len_cells (hwf x (List.mem_of_getElem? hx)))) rfl ?_)
      refine JL.op_do rfl rfl (congrArg Value.bool hdi) (JO.val (y_move) rfl ?_)
      refine JL.op_do rfl rfl (congrArg Value.bool hdi) (JO.callv (fun wc hc => cmpf_93 x c wc) rfl rfl rfl ?_)
      refine JL.op_do rfl rfl (congrArg Value.bool hdi) (JO.val (y_eql rfl rfl) rfl ?_)
      refine JL.op (JO.val (y_pick (congrArg Value.bool hdi)) rfl ?_)
      refine JL.op (JO.val (y_assign) rfl ?_)
      refine JL.op (JO.val (y_assign) rfl ?_)
      with_reducible refine JL.nil ?_
      with_reducible refine JQ.seq (JC.ret ?_)
      refine ret_two rfl ResV.tmp ResV.tmp (fun w _ => ?_)
      show Value.tuple #[.int .i64 (i : Nat), .bool (decide ((fun m => IntKind.i64.wrap (m.id - c)) x = 0))] = _
      unfold bsB
      rw [← hgo, hc0]
      simp [hin]
    · have hdi : decide ((i : Int) < (xs.length : Int)) = false := by simpa using hin
      with_reducible refine JC.exit (JQ.seq_exit (JQ.loop_exit (JQ.blk_here (JQ.seq (JC.seq ?_)))))
      with_reducible refine JC.region ?_
      refine JL.op (JO.val (y_move) rfl ?_)
      refine JL.op (JO.val (y_move) rfl ?_)
      refine JL.op (JO.val (y_move) rfl ?_)
      refine JL.op (JO.val (y_lss rfl rfl) rfl ?_)
      refine JL.op (JO.val (y_move) rfl ?_)
      refine JL.op_skip rfl rfl (congrArg Value.bool hdi) rfl ?_
      refine JL.op_skip rfl rfl (congrArg Value.bool hdi) rfl ?_
      refine JL.op_skip rfl rfl (congrArg Value.bool hdi) rfl ?_
      refine JL.op_skip rfl rfl (congrArg Value.bool hdi) rfl ?_
      refine JL.op_skip rfl rfl (congrArg Value.bool hdi) rfl ?_
      refine JL.op_skip rfl rfl (congrArg Value.bool hdi) rfl ?_
      refine JL.op_skip rfl rfl (congrArg Value.bool hdi) rfl ?_
      refine JL.op_skip rfl rfl (congrArg Value.bool hdi) rfl ?_
      refine JL.op (JO.val (y_pick (congrArg Value.bool hdi)) rfl ?_)
      refine JL.op (JO.val (y_assign) rfl ?_)
      refine JL.op (JO.val (y_assign) rfl ?_)
      with_reducible refine JL.nil ?_
      with_reducible refine JQ.seq (JC.ret ?_)
      refine ret_two rfl ResV.tmp ResV.tmp (fun w _ => ?_)
      show Value.tuple #[.int .i64 (i : Nat), .bool false] = _
      unfold bsB
      rw [← hgo]
      simp [hin]
end Go.Proofs.YtchnnplcpidkiaaDoor
