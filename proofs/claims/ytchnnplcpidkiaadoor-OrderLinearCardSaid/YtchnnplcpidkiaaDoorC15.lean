/- The contract of the reference's Does (layer 10); no condition but bounds on lengths. -/
import Derived.Test.YtchnnplcpidkiaaDoorC14
namespace Go.Proofs.YtchnnplcpidkiaaDoor
open Go.RowKit
set_option linter.unusedSimpArgs false
set_option linter.unusedVariables false
set_option maxRecDepth 20000
set_option maxHeartbeats 16000000

theorem idx_at {α : Type} {q : α → Bool} : ∀ {xs : List α} {i : Nat}, idx q xs = some i → ∃ x, xs[i]? = some x ∧ q x = true
  | [], i, h => by cases h
  | x :: xs, i, h => by
    unfold idx at h
    split at h
    · cases h; exact ⟨x, rfl, by assumption⟩
    · cases hi : idx q xs with
      | none => rw [hi] at h; cases h
      | some j =>
        rw [hi] at h
        cases h
        obtain ⟨y, h1, h2⟩ := idx_at hi
        exact ⟨y, by simpa using h1, h2⟩
theorem place_cases (ps : List LPair) (k : ByteArray) : ∃ pv : Int, placeI (idx (fun p => p.k.toList == k.toList) ps) = pv ∧ ((hasP ps k = false ∧ pv = -1) ∨ (hasP ps k = true ∧ ∃ i p, pv = ((i : Nat) : Int) ∧ ps[i]? = some p ∧ i < ps.length ∧ valOf ps k = p.v)) := by
  cases h : idx (fun p : LPair => p.k.toList == k.toList) ps with
  | none =>
    refine ⟨-1, rfl, .inl ⟨?_, rfl⟩⟩
    cases hh : hasP ps k with
    | false => rfl
    | true => obtain ⟨i, hi⟩ := idx_some.2 hh; rw [h] at hi; cases hi
  | some i =>
    obtain ⟨x, h1, h2⟩ := idx_at h
    exact ⟨(i : Int), rfl, .inr ⟨idx_some.1 ⟨i, h⟩, i, x, rfl, h1, (List.getElem?_eq_some_iff.1 h1).1, by simp [valOf, h, h1]⟩⟩
theorem keepStep {X : Cx} {S : Sto} {F F1 : Nat → Prop} {w w1 w' : World} (hX : X.w0 = w) (hmd : X.md = []) (hc : Cur X S F1 w1 w') : Step F w (fun b => F b ∨ w.heap.size ≤ b) w' := by
  have hb := hc.below
  rw [hX, hmd] at hb
  exact (Step.of_below (F := F) hb.nil).mono (fun _ h => h) (fun _ h => .inl h)
theorem newSl {X : Cx} {S : Sto} {F F1 : Nat → Prop} {w w1 w' : World} {T sz n cap : Nat} {A : Option Addr} {cs : List Value} (hc : Cur X S F1 w1 w') (h : OwnF (fun b => F1 b ∧ w.heap.size ≤ b) w1 T sz A n cap cs) (hz : 0 < sz) : SlF (fun b => F b ∨ w.heap.size ≤ b) w' A n cap sz cs :=
  SlF.step (h.step (hc.step.and _)).slF (Step.weak fun _ hb => .inr hb.2) hz
theorem rowSl {X : Cx} {S : Sto} {F F1 : Nat → Prop} {w w1 w' : World} (hX : X.w0 = w) (hmd : X.md = []) (hc : Cur X S F1 w1 w') {i T sz n cap : Nat} {ob : Option Nat} {cur cs : List Value} (hS : nth S i = some (ob, T, cur)) (hrow : Row ob n cap sz cur) (htk : cur.take (n * sz) = cs) : SlF (fun b => F b ∨ w.heap.size ≤ b) w' (ob.map mkA) n cap sz cs :=
  hrow.slF htk fun b hb => by
    rw [nth_eq] at hS
    have h := hc.own0 hmd _ (List.mem_of_getElem? hS) b hb
    rw [hX] at h
    exact ⟨.inr h.1, h.2⟩
def RDid (F : Nat → Prop) (rs : List LReply) (d : Did) (w : World) (v : Value) (w' : World) : Prop :=
  ∃ cs' Av cv, v = .tuple #[.agg cs'.toArray, .int .i64 d.code, .slice Av d.vals.length cv] ∧ RState (fun b => F b ∨ w.heap.size ≤ b) w' cs' ⟨d.ps, rs, d.ep, d.ms⟩ ∧ RStrs (fun b => F b ∨ w.heap.size ≤ b) w' Av cv d.vals
theorem strs_nil {G : Nat → Prop} {w : World} : RStrs G w none 0 [] := ⟨Nat.le_refl _, by simp [maxLen], rfl, fun _ => ⟨rfl, rfl⟩, fun h => absurd h (by simp)⟩
theorem refdoes_any (F : Nat → Prop) (cs : List Value) (s : LState) (o : LOp) (w : World) (h : RState F w cs s) (hwf : s.wf) (hsm : Small s) (how : o.wf) (htab : Tab F w) :
    CallsTo 34 #[.agg cs.toArray, .agg o.cells.toArray] w (fun v w' => RDid F s.rs (did s.ps s.ep s.ms o) w v w') := by
  have hRS := h
  obtain ⟨Ap, cp, Ar, cr, Am, cm, rfl, hp, hr, hm⟩ := h.form
  have hn1 := hsm.ps
  have hn2 := hsm.ms
  have hkl := LKey.len_cells how.chg.key
  have hgl := LChange.len_cells how.chg
  have hol := LOp.len_cells how
  obtain ⟨pv, hpl, hpv⟩ := place_cases s.ps o.key
  refine CallsTo.enter 182 (fun _ => True) F Tryd.func34 rfl rfl rfl rfl (by intros; first | trivial | assumption) ?_
  with_reducible refine JC.seq ?_
  with_reducible refine JC.region ?_
  refine JL.op (JO.box rfl rfl ?_); intro b2
  refine JL.op (JO.box rfl rfl ?_); intro b3
  refine JL.op (JO.alloc rfl rfl ?_); intro b4
  refine JL.op (JO.val (y_assign) rfl ?_)
  refine JL.op (JO.val (y_assign) rfl ?_)
  with_reducible refine JL.nil ?_
  with_reducible refine JQ.seq (JC.seq ?_)
  with_reducible refine JC.region ?_
  refine JL.op (JO.val (y_ldA 0 rfl rfl rfl rfl) rfl ?_)
  refine JL.op (JO.val (y_fieldAddr rfl rfl rfl) rfl ?_)
  refine JL.op (JO.val (y_ld 1 rfl rfl rfl rfl) rfl ?_)
  refine JL.op (JO.callv (fun wc hc => (hpl ▸ placeP_any _ _ s o.key wc (hRS.step hc.step) hsm)) rfl rfl rfl ?_)
  refine JL.op (JO.val (y_assign) rfl ?_)
  with_reducible refine JL.nil ?_
  with_reducible refine JQ.seq (JC.seq (JC.seq ?_))
  refine JC.cutS [(2, .pointer (some ⟨b2, 0, none⟩)), (3, .pointer (some ⟨b3, 0, none⟩)), (4, .pointer (some ⟨b4, 0, none⟩)), (7, .int .i64 pv), (36, .bool (decide (pv < 0) && (decide (o.kind = 1) || decide (o.kind = 3) || decide (o.kind = 4))))] ?_ (fun E => ?_)
  · with_reducible refine JC.region ?_
    refine JL.op (JO.val (y_move) rfl ?_)
    refine JL.op (JO.val (y_lss rfl rfl) rfl ?_)
    refine JL.op (JO.val (y_move) rfl ?_)
    refine JL.split (d := 22) rfl (fun hg2 => ?_) (fun hg2 => ?_)
    · refine JL.op_do rfl rfl (congrArg Value.bool hg2) (JO.val (y_fieldAddr rfl rfl rfl) rfl ?_)
      refine JL.op_do rfl rfl (congrArg Value.bool hg2) (JO.val (y_ld 1 rfl rfl rfl rfl) rfl ?_)
      refine JL.op_do rfl rfl (congrArg Value.bool hg2) (JO.val (y_eql rfl rfl) rfl ?_)
      refine JL.op_do rfl rfl (congrArg Value.bool hg2) (JO.val (y_move) rfl ?_)
      refine JL.split (d := 26) rfl (fun hg6 => ?_) (fun hg6 => ?_)
      · refine JL.op_skip rfl rfl (congrArg Value.bool hg6) rfl ?_
        refine JL.op_skip rfl rfl (congrArg Value.bool hg6) rfl ?_
        refine JL.op_skip rfl rfl (congrArg Value.bool hg6) rfl ?_
        refine JL.op_do rfl rfl (congrArg Value.bool hg2) (JO.val (y_pick (congrArg Value.bool hg6)) rfl ?_)
        refine JL.op_do rfl rfl (congrArg Value.bool hg2) (JO.val (y_move) rfl ?_)
        refine JL.op_skip rfl rfl rfl rfl ?_
        refine JL.op_skip rfl rfl rfl rfl ?_
        refine JL.op_skip rfl rfl rfl rfl ?_
        refine JL.op_do rfl rfl (congrArg Value.bool hg2) (JO.val (y_pick rfl) rfl ?_)
        refine JL.op (JO.val (y_pick (congrArg Value.bool hg2)) rfl ?_)
        with_reducible refine JL.nil ?_
        (refine JQ.has ⟨rfl, rfl, rfl, rfl, congrArg Value.bool ?_, trivial⟩ (fun _ h => h); (simp_all []; done))
      · refine JL.op_do rfl rfl (congrArg Value.bool hg6) (JO.val (y_fieldAddr rfl rfl rfl) rfl ?_)
        refine JL.op_do rfl rfl (congrArg Value.bool hg6) (JO.val (y_ld 1 rfl rfl rfl rfl) rfl ?_)
        refine JL.op_do rfl rfl (congrArg Value.bool hg6) (JO.val (y_eql rfl rfl) rfl ?_)
        refine JL.op_do rfl rfl (congrArg Value.bool hg2) (JO.val (y_pick (congrArg Value.bool hg6)) rfl ?_)
        refine JL.op_do rfl rfl (congrArg Value.bool hg2) (JO.val (y_move) rfl ?_)
        refine JL.split (d := 31) rfl (fun hg11 => ?_) (fun hg11 => ?_)
        · refine JL.op_skip rfl rfl (congrArg Value.bool hg11) rfl ?_
          refine JL.op_skip rfl rfl (congrArg Value.bool hg11) rfl ?_
          refine JL.op_skip rfl rfl (congrArg Value.bool hg11) rfl ?_
          refine JL.op_do rfl rfl (congrArg Value.bool hg2) (JO.val (y_pick (congrArg Value.bool hg11)) rfl ?_)
          refine JL.op (JO.val (y_pick (congrArg Value.bool hg2)) rfl ?_)
          with_reducible refine JL.nil ?_
          (refine JQ.has ⟨rfl, rfl, rfl, rfl, congrArg Value.bool ?_, trivial⟩ (fun _ h => h); (simp_all []; done))
        · refine JL.op_do rfl rfl (congrArg Value.bool hg11) (JO.val (y_fieldAddr rfl rfl rfl) rfl ?_)
          refine JL.op_do rfl rfl (congrArg Value.bool hg11) (JO.val (y_ld 1 rfl rfl rfl rfl) rfl ?_)
          refine JL.op_do rfl rfl (congrArg Value.bool hg11) (JO.val (y_eql rfl rfl) rfl ?_)
          refine JL.op_do rfl rfl (congrArg Value.bool hg2) (JO.val (y_pick (congrArg Value.bool hg11)) rfl ?_)
          refine JL.op (JO.val (y_pick (congrArg Value.bool hg2)) rfl ?_)
          with_reducible refine JL.nil ?_
          (refine JQ.has ⟨rfl, rfl, rfl, rfl, congrArg Value.bool ?_, trivial⟩ (fun _ h => h); (simp_all []; done))
    · refine JL.op_skip rfl rfl (congrArg Value.bool hg2) rfl ?_
      refine JL.op_skip rfl rfl (congrArg Value.bool hg2) rfl ?_
      refine JL.op_skip rfl rfl (congrArg Value.bool hg2) rfl ?_
      refine JL.op_skip rfl rfl (congrArg Value.bool hg2) rfl ?_
      refine JL.op_skipU rfl rfl rfl rfl ?_
      refine JL.op_skipU rfl rfl rfl rfl ?_
      refine JL.op_skipU rfl rfl rfl rfl ?_
      refine JL.op_skip rfl rfl (congrArg Value.bool hg2) rfl ?_
      refine JL.op_skip rfl rfl (congrArg Value.bool hg2) rfl ?_
      refine JL.op_skipU rfl rfl rfl rfl ?_
      refine JL.op_skipU rfl rfl rfl rfl ?_
      refine JL.op_skipU rfl rfl rfl rfl ?_
      refine JL.op_skip rfl rfl (congrArg Value.bool hg2) rfl ?_
      refine JL.op (JO.val (y_pick (congrArg Value.bool hg2)) rfl ?_)
      with_reducible refine JL.nil ?_
      (refine JQ.has ⟨rfl, rfl, rfl, rfl, congrArg Value.bool ?_, trivial⟩ (fun _ h => h); (rw [Bool.eq_iff_iff]; simp_all []; omega))
  with_reducible refine JQ.seq ?_
  refine JC.cond rfl (fun hg => ?_) (fun hg => ?_)
  · have hh : hasP s.ps o.key = false ∧ (o.kind = 1 ∨ o.kind = 3 ∨ o.kind = 4) := by
      simp only [Bool.and_eq_true, decide_eq_true_eq, Bool.or_eq_true] at hg
      rcases hpv with h1 | ⟨_, i, p, h2, _⟩
      · exact ⟨h1.1, by omega⟩
      · omega
    with_reducible refine JC.seq ?_
    with_reducible refine JC.region ?_
    refine JL.op (JO.val (y_ldA 0 rfl rfl rfl rfl) rfl ?_)
    refine JL.op (JO.storeA 2 rfl rfl rfl rfl (by first | rfl | assumption) (by first | rfl | assumption) (by first | rfl | assumption) ?_)
    refine JL.op (JO.val (y_assign) rfl ?_)
    refine JL.op (JO.val (y_assign) rfl ?_)
    with_reducible refine JL.nil ?_
    with_reducible refine JQ.seq (JC.ret (JQ.seq_ret ?_))
    refine ret_three rfl (ResV.cellA 2 rfl rfl rfl rfl) ResV.tmp ResV.tmp (fun w' hc => ?_)
    rw [show did s.ps s.ep s.ms o = ⟨s.ps, s.ep, s.ms, 7, []⟩ by unfold did; rw [if_pos hh]]
    exact ⟨_, none, 0, rfl, hRS.step (keepStep rfl rfl hc), strs_nil⟩
  have hnot : ¬ (hasP s.ps o.key = false ∧ (o.kind = 1 ∨ o.kind = 3 ∨ o.kind = 4)) := by
    rintro ⟨h1, h2⟩
    rcases hpv with h3 | ⟨h3, _⟩
    · have h4 : (decide (pv < 0) && (decide (o.kind = 1) || decide (o.kind = 3) || decide (o.kind = 4))) = true := by rw [h3.2]; simp only [Bool.and_eq_true, decide_eq_true_eq, Bool.or_eq_true]; omega
      rw [h4] at hg; cases hg
    · rw [h3] at h1; cases h1
  with_reducible refine JC.skip (JQ.seq (JC.seq (JC.seq ?_)))
  with_reducible refine JC.region ?_
  refine JL.op (JO.val (y_fieldAddr rfl rfl rfl) rfl ?_)
  refine JL.op (JO.val (y_ld 1 rfl rfl rfl rfl) rfl ?_)
  with_reducible refine JL.nil ?_
  with_reducible refine JQ.seq (JC.block (JC.seq ?_))
  with_reducible refine JC.region ?_
  refine JL.op (JO.val (y_eql rfl rfl) rfl ?_)
  refine JL.op (JO.val (y_assign) rfl ?_)
  with_reducible refine JL.nil ?_
  with_reducible refine JQ.seq ?_
  refine JC.cond rfl (fun hk1 => ?_) (fun hk1 => ?_)
  · have hk : o.kind = 1 := by simpa using hk1
    obtain ⟨hh, i, y, rfl, hy, hlt, hvo⟩ : hasP s.ps o.key = true ∧ ∃ i p, pv = ((i : Nat) : Int) ∧ s.ps[i]? = some p ∧ i < s.ps.length ∧ valOf s.ps o.key = p.v := by
      rcases hpv with h1 | h1
      · exact absurd ⟨h1.1, by omega⟩ hnot
      · exact h1
    obtain ⟨b, o', hA, hat⟩ := SlF.elem hp pair_len rfl hy
    with_reducible refine JC.seq ?_
    refine JC.held [0] ?_
    refine JH.take 0 rfl (by kernel_rfl) (by kernel_rfl) (by kernel_rfl) (fun _ _ _ => y_ldA 0 rfl rfl rfl rfl) rfl (by repeat (first | exact np_fun | exact np_inv | refine np_seq ?_ | refine np_blk ?_ | refine np_loop ?_)) (⟨rfl, trivial⟩) ?_
    refine JH.take 1 rfl (by kernel_rfl) (by kernel_rfl) (by kernel_rfl) (fun _ _ _ => y_fieldAddr rfl rfl rfl) rfl (by repeat (first | exact np_fun | exact np_inv | refine np_seq ?_ | refine np_blk ?_ | refine np_loop ?_)) (⟨rfl, trivial⟩) ?_
    refine JH.take 2 rfl (by kernel_rfl) (by kernel_rfl) (by kernel_rfl) (fun _ _ _ => y_ld 0 rfl rfl rfl rfl) rfl (by repeat (first | exact np_fun | exact np_inv | refine np_seq ?_ | refine np_blk ?_ | refine np_loop ?_)) (⟨rfl, trivial⟩) ?_
    refine JH.take 3 rfl (by kernel_rfl) (by kernel_rfl) (by kernel_rfl) (fun _ _ _ => y_move) rfl (by repeat (first | exact np_fun | exact np_inv | refine np_seq ?_ | refine np_blk ?_ | refine np_loop ?_)) (⟨rfl, trivial⟩) ?_
    refine JH.take 4 rfl (by kernel_rfl) (by kernel_rfl) (by kernel_rfl) (fun _ _ _ => y_idx (b := b) (o := o') rfl rfl rfl rfl hA rfl hlt) rfl (by repeat (first | exact np_fun | exact np_inv | refine np_seq ?_ | refine np_blk ?_ | refine np_loop ?_)) (⟨rfl, trivial⟩) ?_
    refine JH.take 5 rfl (by kernel_rfl) (by kernel_rfl) (by kernel_rfl) (fun _ _ _ => y_fieldAddr rfl rfl rfl) rfl (by repeat (first | exact np_fun | exact np_inv | refine np_seq ?_ | refine np_blk ?_ | refine np_loop ?_)) (⟨rfl, trivial⟩) ?_
    refine JH.two 6 8 (by kernel_rfl) (JI.op rfl ?_) (JI.op rfl ?_)
    · refine (JO.val (y_ldd rfl rfl (At.cell1 (j := 1) hat rfl)) rfl ?_)
      refine ⟨⟨rfl, trivial⟩, ?_⟩
      refine JH.two 7 8 (by kernel_rfl) (JI.op rfl ?_) (JI.op rfl ?_)
      · refine (JO.build1 rfl rfl rfl (by first | rfl | assumption) rfl rfl ?_); intro b49
        refine ⟨⟨rfl, trivial⟩, ?_⟩
        refine JH.one 8 (by kernel_rfl) (JI.op rfl ?_)
        refine (JO.storeA 2 rfl rfl rfl rfl (by first | rfl | assumption) (by first | rfl | assumption) (by first | rfl | assumption) ?_)
        refine ⟨⟨rfl, trivial⟩, ?_⟩
        refine JH.take 9 rfl (by kernel_rfl) (by kernel_rfl) (by kernel_rfl) (fun _ _ _ => y_assign) rfl (by repeat (first | exact np_fun | exact np_inv | refine np_seq ?_ | refine np_blk ?_ | refine np_loop ?_)) (⟨rfl, trivial⟩) ?_
        refine JH.take 10 rfl (by kernel_rfl) (by kernel_rfl) (by kernel_rfl) (fun _ _ _ => y_assign) rfl (by repeat (first | exact np_fun | exact np_inv | refine np_seq ?_ | refine np_blk ?_ | refine np_loop ?_)) (⟨rfl, trivial⟩) ?_
        refine JH.done (by kernel_rfl) ?_
        with_reducible refine JQ.seq (JC.ret (JQ.blk_ret (JQ.seq_ret ?_)))
        refine ret_three rfl (ResV.cellA 2 rfl rfl rfl rfl) ResV.tmp ResV.tmp (fun w' hc => ?_)
        rw [show did s.ps s.ep s.ms o = ⟨s.ps, s.ep, s.ms, 0, [y.v]⟩ by unfold did; rw [if_neg hnot, if_pos hk, hvo]]
        exact ⟨_, _, _, rfl, hRS.step (keepStep rfl rfl hc), rowSl (i := 3) (ob := some _) (cur := [.string y.v]) rfl rfl hc rfl ⟨rfl, Nat.le_refl _, by simp [maxLen], fun h => by cases h⟩ rfl⟩
      · refine (JO.storeA 2 rfl rfl rfl rfl (by first | rfl | assumption) (by first | rfl | assumption) (by first | rfl | assumption) ?_)
        refine ⟨⟨rfl, trivial⟩, ?_⟩
        refine JH.take 9 rfl (by kernel_rfl) (by kernel_rfl) (by kernel_rfl) (fun _ _ _ => y_assign) rfl (by repeat (first | exact np_fun | exact np_inv | refine np_seq ?_ | refine np_blk ?_ | refine np_loop ?_)) (⟨rfl, trivial⟩) ?_
        refine JH.one 7 (by kernel_rfl) (JI.op rfl ?_)
        refine (JO.build1 rfl rfl rfl (by first | rfl | assumption) rfl rfl ?_); intro b49
        refine ⟨⟨rfl, trivial⟩, ?_⟩
        refine JH.take 10 rfl (by kernel_rfl) (by kernel_rfl) (by kernel_rfl) (fun _ _ _ => y_assign) rfl (by repeat (first | exact np_fun | exact np_inv | refine np_seq ?_ | refine np_blk ?_ | refine np_loop ?_)) (⟨rfl, trivial⟩) ?_
        refine JH.done (by kernel_rfl) ?_
        with_reducible refine JQ.seq (JC.ret (JQ.blk_ret (JQ.seq_ret ?_)))
        refine ret_three rfl (ResV.cellA 2 rfl rfl rfl rfl) ResV.tmp ResV.tmp (fun w' hc => ?_)
        rw [show did s.ps s.ep s.ms o = ⟨s.ps, s.ep, s.ms, 0, [y.v]⟩ by unfold did; rw [if_neg hnot, if_pos hk, hvo]]
        exact ⟨_, _, _, rfl, hRS.step (keepStep rfl rfl hc), rowSl (i := 3) (ob := some _) (cur := [.string y.v]) rfl rfl hc rfl ⟨rfl, Nat.le_refl _, by simp [maxLen], fun h => by cases h⟩ rfl⟩
    · refine (JO.storeA 2 rfl rfl rfl rfl (by first | rfl | assumption) (by first | rfl | assumption) (by first | rfl | assumption) ?_)
      refine ⟨⟨rfl, trivial⟩, ?_⟩
      refine JH.take 9 rfl (by kernel_rfl) (by kernel_rfl) (by kernel_rfl) (fun _ _ _ => y_assign) rfl (by repeat (first | exact np_fun | exact np_inv | refine np_seq ?_ | refine np_blk ?_ | refine np_loop ?_)) (⟨rfl, trivial⟩) ?_
      refine JH.one 6 (by kernel_rfl) (JI.op rfl ?_)
      refine (JO.val (y_ldd rfl rfl (At.cell1 (j := 1) hat rfl)) rfl ?_)
      refine ⟨⟨rfl, trivial⟩, ?_⟩
      refine JH.one 7 (by kernel_rfl) (JI.op rfl ?_)
      refine (JO.build1 rfl rfl rfl (by first | rfl | assumption) rfl rfl ?_); intro b49
      refine ⟨⟨rfl, trivial⟩, ?_⟩
      refine JH.take 10 rfl (by kernel_rfl) (by kernel_rfl) (by kernel_rfl) (fun _ _ _ => y_assign) rfl (by repeat (first | exact np_fun | exact np_inv | refine np_seq ?_ | refine np_blk ?_ | refine np_loop ?_)) (⟨rfl, trivial⟩) ?_
      refine JH.done (by kernel_rfl) ?_
      with_reducible refine JQ.seq (JC.ret (JQ.blk_ret (JQ.seq_ret ?_)))
      refine ret_three rfl (ResV.cellA 2 rfl rfl rfl rfl) ResV.tmp ResV.tmp (fun w' hc => ?_)
      rw [show did s.ps s.ep s.ms o = ⟨s.ps, s.ep, s.ms, 0, [y.v]⟩ by unfold did; rw [if_neg hnot, if_pos hk, hvo]]
      exact ⟨_, _, _, rfl, hRS.step (keepStep rfl rfl hc), rowSl (i := 3) (ob := some _) (cur := [.string y.v]) rfl rfl hc rfl ⟨rfl, Nat.le_refl _, by simp [maxLen], fun h => by cases h⟩ rfl⟩
  with_reducible refine JC.seq ?_
  with_reducible refine JC.region ?_
  refine JL.op (JO.val (y_eql rfl rfl) rfl ?_)
  refine JL.op (JO.val (y_assign) rfl ?_)
  with_reducible refine JL.nil ?_
  with_reducible refine JQ.seq ?_
  refine JC.cond rfl (fun hk2 => ?_) (fun hk2 => ?_)
  · have hk : o.kind = 2 := by simpa using hk2
    with_reducible refine JC.seq (JC.seq ?_)
    refine JC.cutS [(2, .pointer (some ⟨b2, 0, none⟩)), (3, .pointer (some ⟨b3, 0, none⟩)), (4, .pointer (some ⟨b4, 0, none⟩)), (59, .bool (decide (pv < 0) && decide ((s.ps.length : Int) ≥ 256)))] ?_ (fun E => ?_)
    · with_reducible refine JC.region ?_
      refine JL.op (JO.val (y_move) rfl ?_)
      refine JL.op (JO.val (y_lss rfl rfl) rfl ?_)
      refine JL.op (JO.val (y_move) rfl ?_)
      refine JL.split (d := 54) rfl (fun hg2 => ?_) (fun hg2 => ?_)
      · refine JL.op_do rfl rfl (congrArg Value.bool hg2) (JO.val (y_fieldAddr rfl rfl rfl) rfl ?_)
        refine JL.op_do rfl rfl (congrArg Value.bool hg2) (JO.val (y_ld 0 rfl rfl rfl rfl) rfl ?_)
        refine JL.op_do rfl rfl (congrArg Value.bool hg2) (JO.val (y_len rfl rfl) rfl ?_)
        refine JL.op_do rfl rfl (congrArg Value.bool hg2) (JO.val (y_geq rfl rfl) rfl ?_)
        refine JL.op (JO.val (y_pick (congrArg Value.bool hg2)) rfl ?_)
        with_reducible refine JL.nil ?_
        (refine JQ.has ⟨rfl, rfl, rfl, congrArg Value.bool ?_, trivial⟩ (fun _ h => h); (simp_all []; done))
      · refine JL.op_skip rfl rfl (congrArg Value.bool hg2) rfl ?_
        refine JL.op_skip rfl rfl (congrArg Value.bool hg2) rfl ?_
        refine JL.op_skip rfl rfl (congrArg Value.bool hg2) rfl ?_
        refine JL.op_skip rfl rfl (congrArg Value.bool hg2) rfl ?_
        refine JL.op (JO.val (y_pick (congrArg Value.bool hg2)) rfl ?_)
        with_reducible refine JL.nil ?_
        (refine JQ.has ⟨rfl, rfl, rfl, congrArg Value.bool ?_, trivial⟩ (fun _ h => h); (rw [Bool.eq_iff_iff]; simp_all []; omega))
    have hpb : (decide (pv < 0) && decide ((s.ps.length : Int) ≥ 256)) = putB s.ps o.key := by
      unfold putB
      rcases hpv with h1 | ⟨h1, i, p, h2, _⟩
      · rw [h1.1, h1.2]; rfl
      · rw [h1, h2, decide_eq_false (by omega)]; rfl
    rw [hpb]
    with_reducible refine JQ.seq ?_
    refine JC.cond rfl (fun hg2 => ?_) (fun hg2 => ?_)
    · with_reducible refine JC.seq ?_
      with_reducible refine JC.region ?_
      refine JL.op (JO.val (y_ldA 0 rfl rfl rfl rfl) rfl ?_)
      refine JL.op (JO.storeA 2 rfl rfl rfl rfl (by first | rfl | assumption) (by first | rfl | assumption) (by first | rfl | assumption) ?_)
      refine JL.op (JO.val (y_assign) rfl ?_)
      refine JL.op (JO.val (y_assign) rfl ?_)
      with_reducible refine JL.nil ?_
      with_reducible refine JQ.seq (JC.ret (JQ.seq_ret (JQ.blk_ret (JQ.seq_ret ?_))))
      refine ret_three rfl (ResV.cellA 2 rfl rfl rfl rfl) ResV.tmp ResV.tmp (fun w' hc => ?_)
      rw [show did s.ps s.ep s.ms o = ⟨s.ps, s.ep, s.ms, 11, []⟩ by unfold did; rw [if_neg hnot, if_neg (by omega), if_pos hk, hg2]; simp [putPs, hg2]]
      exact ⟨_, _, _, rfl, hRS.step (keepStep rfl rfl hc), strs_nil⟩
    · with_reducible refine JC.skip (JQ.seq ?_)
      with_reducible refine JC.region ?_
      refine JL.op (JO.val (y_fieldAddr rfl rfl rfl) rfl ?_)
      refine JL.op (JO.val (y_ld 0 rfl rfl rfl rfl) rfl ?_)
      refine JL.op (JO.val (y_fieldAddr rfl rfl rfl) rfl ?_)
      refine JL.op (JO.val (y_ld 1 rfl rfl rfl rfl) rfl ?_)
      refine JL.op (JO.val (y_fieldAddr rfl rfl rfl) rfl ?_)
      refine JL.op (JO.val (y_ld 1 rfl rfl rfl rfl) rfl ?_)
      refine JL.op (JO.val (y_build rfl rfl (⟨_, _, _, rfl, rfl, rfl, rfl, ⟨_, _, _, rfl, rfl, rfl, rfl, rfl⟩⟩)) rfl ?_)
      refine JL.op (JO.call _ (fun wc hc => withP_any _ Ap cp s.ps ⟨o.key, o.val⟩ wc (hp.step hc.step) (by omega)) rfl rfl rfl ?_)
      rintro wc v wn hst hsz hfr hbl hst0 ⟨A2, c2, rfl, hown⟩
      refine JL.op (JO.val (y_fieldAddr rfl rfl rfl) rfl ?_)
      refine JL.op (JO.store1 0 rfl rfl rfl rfl rfl rfl rfl ?_)
      with_reducible refine JL.nil ?_
      with_reducible refine JQ.blk (JQ.seq (JC.seq ?_))
      with_reducible refine JC.region ?_
      refine JL.op (JO.val (y_ldA 0 rfl rfl rfl rfl) rfl ?_)
      refine JL.op (JO.storeA 2 rfl rfl rfl rfl (by first | rfl | assumption) (by first | rfl | assumption) (by first | rfl | assumption) ?_)
      refine JL.op (JO.val (y_assign) rfl ?_)
      refine JL.op (JO.val (y_assign) rfl ?_)
      with_reducible refine JL.nil ?_
      with_reducible refine JQ.seq (JC.ret ?_)
      refine ret_three rfl (ResV.cellA 2 rfl rfl rfl rfl) ResV.tmp ResV.tmp (fun w' hc => ?_)
      rw [show did s.ps s.ep s.ms o = ⟨withP ⟨o.key, o.val⟩ s.ps, s.ep, s.ms, 0, []⟩ by unfold did; rw [if_neg hnot, if_neg (by omega), if_pos hk, hg2]; simp [putPs, hg2]]
      exact ⟨_, _, _, rfl, ⟨A2, c2, Ar, cr, Am, cm, rfl, newSl hc (hown.weak fun b hb => ⟨hfr b hb, Nat.le_trans hsz hb⟩) (by omega), hr.step (keepStep rfl rfl hc), hm.step (keepStep rfl rfl hc)⟩, strs_nil⟩
  with_reducible refine JC.seq ?_
  with_reducible refine JC.region ?_
  refine JL.op (JO.val (y_eql rfl rfl) rfl ?_)
  refine JL.op (JO.val (y_assign) rfl ?_)
  with_reducible refine JL.nil ?_
  with_reducible refine JQ.seq ?_
  refine JC.cond rfl (fun hk3 => ?_) (fun hk3 => ?_)
  · have hk : o.kind = 3 := by simpa using hk3
    with_reducible refine JC.region ?_
    refine JL.op (JO.val (y_fieldAddr rfl rfl rfl) rfl ?_)
    refine JL.op (JO.val (y_ld 0 rfl rfl rfl rfl) rfl ?_)
    refine JL.op (JO.val (y_fieldAddr rfl rfl rfl) rfl ?_)
    refine JL.op (JO.val (y_ld 1 rfl rfl rfl rfl) rfl ?_)
    refine JL.op (JO.call _ (fun wc hc => withoutP_any _ Ap cp s.ps o.key wc (hp.step hc.step) (by omega) (fun _ _ => trivial) pair_len) rfl rfl rfl ?_)
    rintro wc v wn hst hsz hfr hbl hst0 ⟨A2, c2, rfl, hown⟩
    refine JL.op (JO.val (y_fieldAddr rfl rfl rfl) rfl ?_)
    refine JL.op (JO.store1 0 rfl rfl rfl rfl rfl rfl rfl ?_)
    with_reducible refine JL.nil ?_
    with_reducible refine JQ.blk (JQ.seq (JC.seq ?_))
    with_reducible refine JC.region ?_
    refine JL.op (JO.val (y_ldA 0 rfl rfl rfl rfl) rfl ?_)
    refine JL.op (JO.storeA 2 rfl rfl rfl rfl (by first | rfl | assumption) (by first | rfl | assumption) (by first | rfl | assumption) ?_)
    refine JL.op (JO.val (y_assign) rfl ?_)
    refine JL.op (JO.val (y_assign) rfl ?_)
    with_reducible refine JL.nil ?_
    with_reducible refine JQ.seq (JC.ret ?_)
    refine ret_three rfl (ResV.cellA 2 rfl rfl rfl rfl) ResV.tmp ResV.tmp (fun w' hc => ?_)
    rw [show did s.ps s.ep s.ms o = ⟨s.ps.filter (fun p => !(p.k.toList == o.key.toList)), s.ep, s.ms, 0, []⟩ by unfold did; rw [if_neg hnot, if_neg (by omega), if_neg (by omega), if_pos hk]]
    exact ⟨_, _, _, rfl, ⟨A2, c2, Ar, cr, Am, cm, rfl, newSl hc (hown.weak fun b hb => ⟨hfr b hb, Nat.le_trans hsz hb⟩) (by omega), hr.step (keepStep rfl rfl hc), hm.step (keepStep rfl rfl hc)⟩, strs_nil⟩
  with_reducible refine JC.seq ?_
  with_reducible refine JC.region ?_
  refine JL.op (JO.val (y_eql rfl rfl) rfl ?_)
  refine JL.op (JO.val (y_assign) rfl ?_)
  with_reducible refine JL.nil ?_
  with_reducible refine JQ.seq ?_
  refine JC.cond rfl (fun hk4 => ?_) (fun hk4 => ?_)
  · have hk : o.kind = 4 := by simpa using hk4
    obtain ⟨hh, i, y, rfl, hy, hlt, hvo⟩ : hasP s.ps o.key = true ∧ ∃ i p, pv = ((i : Nat) : Int) ∧ s.ps[i]? = some p ∧ i < s.ps.length ∧ valOf s.ps o.key = p.v := by
      rcases hpv with h1 | h1
      · exact absurd ⟨h1.1, by omega⟩ hnot
      · exact h1
    obtain ⟨b, o', hA, hat⟩ := SlF.elem hp pair_len rfl hy
    with_reducible refine JC.seq (JC.seq ?_)
    refine JC.quiet (by kernel_rfl) ?_
    first | refine JT.val (y_fieldAddr rfl rfl rfl) rfl ?_
    refine JT.val (y_ld 0 rfl rfl rfl rfl) rfl ?_
    first | refine JT.val (y_move) rfl ?_
    refine JT.val (y_idx (b := b) (o := o') rfl rfl rfl rfl hA rfl hlt) rfl ?_
    first | refine JT.val (y_fieldAddr rfl rfl rfl) rfl ?_
    refine JT.val (y_ldd rfl rfl (At.cell1 (j := 1) hat rfl)) rfl ?_
    first | refine JT.val (y_fieldAddr rfl rfl rfl) rfl ?_
    refine JT.val (y_ld 1 rfl rfl rfl rfl) rfl ?_
    first | refine JT.val (y_nes rfl rfl) rfl ?_
    refine JT.nil ?_
    with_reducible refine JQ.seq ?_
    refine JC.cond rfl (fun hg2 => ?_) (fun hg2 => ?_)
    · have hne2 : (y.v.toList == o.old.toList) = false := by simpa using hg2
      with_reducible refine JC.seq ?_
      refine JC.held [0] ?_
      refine JH.take 0 rfl (by kernel_rfl) (by kernel_rfl) (by kernel_rfl) (fun _ _ _ => y_ldA 0 rfl rfl rfl rfl) rfl (by repeat (first | exact np_fun | exact np_inv | refine np_seq ?_ | refine np_blk ?_ | refine np_loop ?_)) (⟨rfl, trivial⟩) ?_
      refine JH.take 1 rfl (by kernel_rfl) (by kernel_rfl) (by kernel_rfl) (fun _ _ _ => y_fieldAddr rfl rfl rfl) rfl (by repeat (first | exact np_fun | exact np_inv | refine np_seq ?_ | refine np_blk ?_ | refine np_loop ?_)) (⟨rfl, trivial⟩) ?_
      refine JH.take 2 rfl (by kernel_rfl) (by kernel_rfl) (by kernel_rfl) (fun _ _ _ => y_ld 0 rfl rfl rfl rfl) rfl (by repeat (first | exact np_fun | exact np_inv | refine np_seq ?_ | refine np_blk ?_ | refine np_loop ?_)) (⟨rfl, trivial⟩) ?_
      refine JH.take 3 rfl (by kernel_rfl) (by kernel_rfl) (by kernel_rfl) (fun _ _ _ => y_move) rfl (by repeat (first | exact np_fun | exact np_inv | refine np_seq ?_ | refine np_blk ?_ | refine np_loop ?_)) (⟨rfl, trivial⟩) ?_
      refine JH.take 4 rfl (by kernel_rfl) (by kernel_rfl) (by kernel_rfl) (fun _ _ _ => y_idx (b := b) (o := o') rfl rfl rfl rfl hA rfl hlt) rfl (by repeat (first | exact np_fun | exact np_inv | refine np_seq ?_ | refine np_blk ?_ | refine np_loop ?_)) (⟨rfl, trivial⟩) ?_
      refine JH.take 5 rfl (by kernel_rfl) (by kernel_rfl) (by kernel_rfl) (fun _ _ _ => y_fieldAddr rfl rfl rfl) rfl (by repeat (first | exact np_fun | exact np_inv | refine np_seq ?_ | refine np_blk ?_ | refine np_loop ?_)) (⟨rfl, trivial⟩) ?_
      refine JH.two 6 8 (by kernel_rfl) (JI.op rfl ?_) (JI.op rfl ?_)
      · refine (JO.val (y_ldd rfl rfl (At.cell1 (j := 1) hat rfl)) rfl ?_)
        refine ⟨⟨rfl, trivial⟩, ?_⟩
        refine JH.two 7 8 (by kernel_rfl) (JI.op rfl ?_) (JI.op rfl ?_)
        · refine (JO.build1 rfl rfl rfl (by first | rfl | assumption) rfl rfl ?_); intro b96
          refine ⟨⟨rfl, trivial⟩, ?_⟩
          refine JH.one 8 (by kernel_rfl) (JI.op rfl ?_)
          refine (JO.storeA 2 rfl rfl rfl rfl (by first | rfl | assumption) (by first | rfl | assumption) (by first | rfl | assumption) ?_)
          refine ⟨⟨rfl, trivial⟩, ?_⟩
          refine JH.take 9 rfl (by kernel_rfl) (by kernel_rfl) (by kernel_rfl) (fun _ _ _ => y_assign) rfl (by repeat (first | exact np_fun | exact np_inv | refine np_seq ?_ | refine np_blk ?_ | refine np_loop ?_)) (⟨rfl, trivial⟩) ?_
          refine JH.take 10 rfl (by kernel_rfl) (by kernel_rfl) (by kernel_rfl) (fun _ _ _ => y_assign) rfl (by repeat (first | exact np_fun | exact np_inv | refine np_seq ?_ | refine np_blk ?_ | refine np_loop ?_)) (⟨rfl, trivial⟩) ?_
          refine JH.done (by kernel_rfl) ?_
          with_reducible refine JQ.seq (JC.ret (JQ.seq_ret (JQ.blk_ret (JQ.seq_ret ?_))))
          refine ret_three rfl (ResV.cellA 2 rfl rfl rfl rfl) ResV.tmp ResV.tmp (fun w' hc => ?_)
          rw [show did s.ps s.ep s.ms o = ⟨s.ps, s.ep, s.ms, 9, [y.v]⟩ by unfold did; rw [if_neg hnot, if_neg (by omega), if_neg (by omega), if_neg (by omega), if_pos hk, hvo, if_neg (by rw [hne2]; simp)]]
          exact ⟨_, _, _, rfl, hRS.step (keepStep rfl rfl hc), rowSl (i := 3) (ob := some _) (cur := [.string y.v]) rfl rfl hc rfl ⟨rfl, Nat.le_refl _, by simp [maxLen], fun h => by cases h⟩ rfl⟩
        · refine (JO.storeA 2 rfl rfl rfl rfl (by first | rfl | assumption) (by first | rfl | assumption) (by first | rfl | assumption) ?_)
          refine ⟨⟨rfl, trivial⟩, ?_⟩
          refine JH.take 9 rfl (by kernel_rfl) (by kernel_rfl) (by kernel_rfl) (fun _ _ _ => y_assign) rfl (by repeat (first | exact np_fun | exact np_inv | refine np_seq ?_ | refine np_blk ?_ | refine np_loop ?_)) (⟨rfl, trivial⟩) ?_
          refine JH.one 7 (by kernel_rfl) (JI.op rfl ?_)
          refine (JO.build1 rfl rfl rfl (by first | rfl | assumption) rfl rfl ?_); intro b96
          refine ⟨⟨rfl, trivial⟩, ?_⟩
          refine JH.take 10 rfl (by kernel_rfl) (by kernel_rfl) (by kernel_rfl) (fun _ _ _ => y_assign) rfl (by repeat (first | exact np_fun | exact np_inv | refine np_seq ?_ | refine np_blk ?_ | refine np_loop ?_)) (⟨rfl, trivial⟩) ?_
          refine JH.done (by kernel_rfl) ?_
          with_reducible refine JQ.seq (JC.ret (JQ.seq_ret (JQ.blk_ret (JQ.seq_ret ?_))))
          refine ret_three rfl (ResV.cellA 2 rfl rfl rfl rfl) ResV.tmp ResV.tmp (fun w' hc => ?_)
          rw [show did s.ps s.ep s.ms o = ⟨s.ps, s.ep, s.ms, 9, [y.v]⟩ by unfold did; rw [if_neg hnot, if_neg (by omega), if_neg (by omega), if_neg (by omega), if_pos hk, hvo, if_neg (by rw [hne2]; simp)]]
          exact ⟨_, _, _, rfl, hRS.step (keepStep rfl rfl hc), rowSl (i := 3) (ob := some _) (cur := [.string y.v]) rfl rfl hc rfl ⟨rfl, Nat.le_refl _, by simp [maxLen], fun h => by cases h⟩ rfl⟩
      · refine (JO.storeA 2 rfl rfl rfl rfl (by first | rfl | assumption) (by first | rfl | assumption) (by first | rfl | assumption) ?_)
        refine ⟨⟨rfl, trivial⟩, ?_⟩
        refine JH.take 9 rfl (by kernel_rfl) (by kernel_rfl) (by kernel_rfl) (fun _ _ _ => y_assign) rfl (by repeat (first | exact np_fun | exact np_inv | refine np_seq ?_ | refine np_blk ?_ | refine np_loop ?_)) (⟨rfl, trivial⟩) ?_
        refine JH.one 6 (by kernel_rfl) (JI.op rfl ?_)
        refine (JO.val (y_ldd rfl rfl (At.cell1 (j := 1) hat rfl)) rfl ?_)
        refine ⟨⟨rfl, trivial⟩, ?_⟩
        refine JH.one 7 (by kernel_rfl) (JI.op rfl ?_)
        refine (JO.build1 rfl rfl rfl (by first | rfl | assumption) rfl rfl ?_); intro b96
        refine ⟨⟨rfl, trivial⟩, ?_⟩
        refine JH.take 10 rfl (by kernel_rfl) (by kernel_rfl) (by kernel_rfl) (fun _ _ _ => y_assign) rfl (by repeat (first | exact np_fun | exact np_inv | refine np_seq ?_ | refine np_blk ?_ | refine np_loop ?_)) (⟨rfl, trivial⟩) ?_
        refine JH.done (by kernel_rfl) ?_
        with_reducible refine JQ.seq (JC.ret (JQ.seq_ret (JQ.blk_ret (JQ.seq_ret ?_))))
        refine ret_three rfl (ResV.cellA 2 rfl rfl rfl rfl) ResV.tmp ResV.tmp (fun w' hc => ?_)
        rw [show did s.ps s.ep s.ms o = ⟨s.ps, s.ep, s.ms, 9, [y.v]⟩ by unfold did; rw [if_neg hnot, if_neg (by omega), if_neg (by omega), if_neg (by omega), if_pos hk, hvo, if_neg (by rw [hne2]; simp)]]
        exact ⟨_, _, _, rfl, hRS.step (keepStep rfl rfl hc), rowSl (i := 3) (ob := some _) (cur := [.string y.v]) rfl rfl hc rfl ⟨rfl, Nat.le_refl _, by simp [maxLen], fun h => by cases h⟩ rfl⟩
    · have hne2 : (y.v.toList == o.old.toList) = true := by simpa using hg2
      with_reducible refine JC.skip (JQ.seq ?_)
      with_reducible refine JC.region ?_
      refine JL.op (JO.val (y_fieldAddr rfl rfl rfl) rfl ?_)
      refine JL.op (JO.val (y_ld 0 rfl rfl rfl rfl) rfl ?_)
      refine JL.op (JO.val (y_fieldAddr rfl rfl rfl) rfl ?_)
      refine JL.op (JO.val (y_ld 1 rfl rfl rfl rfl) rfl ?_)
      refine JL.op (JO.val (y_fieldAddr rfl rfl rfl) rfl ?_)
      refine JL.op (JO.val (y_ld 1 rfl rfl rfl rfl) rfl ?_)
      refine JL.op (JO.val (y_build rfl rfl (⟨_, _, _, rfl, rfl, rfl, rfl, ⟨_, _, _, rfl, rfl, rfl, rfl, rfl⟩⟩)) rfl ?_)
      refine JL.op (JO.call _ (fun wc hc => withP_any _ Ap cp s.ps ⟨o.key, o.val⟩ wc (hp.step hc.step) (by omega)) rfl rfl rfl ?_)
      rintro wc v wn hst hsz hfr hbl hst0 ⟨A2, c2, rfl, hown⟩
      refine JL.op (JO.val (y_fieldAddr rfl rfl rfl) rfl ?_)
      refine JL.op (JO.store1 0 rfl rfl rfl rfl rfl rfl rfl ?_)
      with_reducible refine JL.nil ?_
      with_reducible refine JQ.blk (JQ.seq (JC.seq ?_))
      with_reducible refine JC.region ?_
      refine JL.op (JO.val (y_ldA 0 rfl rfl rfl rfl) rfl ?_)
      refine JL.op (JO.storeA 2 rfl rfl rfl rfl (by first | rfl | assumption) (by first | rfl | assumption) (by first | rfl | assumption) ?_)
      refine JL.op (JO.val (y_assign) rfl ?_)
      refine JL.op (JO.val (y_assign) rfl ?_)
      with_reducible refine JL.nil ?_
      with_reducible refine JQ.seq (JC.ret ?_)
      refine ret_three rfl (ResV.cellA 2 rfl rfl rfl rfl) ResV.tmp ResV.tmp (fun w' hc => ?_)
      rw [show did s.ps s.ep s.ms o = ⟨withP ⟨o.key, o.val⟩ s.ps, s.ep, s.ms, 0, []⟩ by unfold did; rw [if_neg hnot, if_neg (by omega), if_neg (by omega), if_neg (by omega), if_pos hk, hvo, if_pos hne2]]
      exact ⟨_, _, _, rfl, ⟨A2, c2, Ar, cr, Am, cm, rfl, newSl hc (hown.weak fun b hb => ⟨hfr b hb, Nat.le_trans hsz hb⟩) (by omega), hr.step (keepStep rfl rfl hc), hm.step (keepStep rfl rfl hc)⟩, strs_nil⟩
  with_reducible refine JC.seq ?_
  with_reducible refine JC.region ?_
  refine JL.op (JO.val (y_eql rfl rfl) rfl ?_)
  refine JL.op (JO.val (y_assign) rfl ?_)
  with_reducible refine JL.nil ?_
  with_reducible refine JQ.seq ?_
  refine JC.cond rfl (fun hk5 => ?_) (fun hk5 => ?_)
  · have hk : o.kind = 5 := by simpa using hk5
    with_reducible refine JC.seq ?_
    with_reducible refine JC.region ?_
    refine JL.op (JO.val (y_assign) rfl ?_)
    with_reducible refine JL.nil ?_
    with_reducible refine JQ.seq (JC.seq (JC.seq ?_))
    with_reducible refine JC.region ?_
    refine JL.op (JO.val (y_fieldAddr rfl rfl rfl) rfl ?_)
    refine JL.op (JO.val (y_ld 0 rfl rfl rfl rfl) rfl ?_)
    refine JL.op (JO.val (y_len rfl rfl) rfl ?_)
    refine JL.op (JO.val (y_move) rfl ?_)
    with_reducible refine JL.nil ?_
    with_reducible refine JQ.seq (JC.block ?_)
    refine JC.addNone 9 ?_
    refine JC.loop (fun m E S F' w1' => ∃ k ob cap' vcur out, m = s.ps.length - k ∧ k ≤ s.ps.length ∧ out.length ≤ k ∧ out = ((s.ps.take k).filter (fun p => hasPre p.k o.key)).map (·.k) ∧ Row ob out.length cap' 1 vcur ∧ vcur.take (out.length * 1) = out.flatMap sstr ∧ S = [(some b2, 28, [.slice Ap s.ps.length cp, .slice Ar s.rs.length cr, .int .i64 s.ep, .slice Am s.ms.length cm]), (some b3, 39, o.cells), (some b4, 28, [.slice none 0 0, .slice none 0 0, .int .i64 0, .slice none 0 0]), (ob, 9, vcur)] ∧ F' = F ∧ w1' = w ∧
        Has E [(2, .pointer (some ⟨b2, 0, none⟩)), (3, .pointer (some ⟨b3, 0, none⟩)), (4, .pointer (some ⟨b4, 0, none⟩)), (8, .slice (ob.map mkA) out.length cap'), (109, .slice Ap s.ps.length cp), (110, .int .i64 (s.ps.length : Nat)), (111, .int .i64 (k : Nat))])
      _ ⟨0, none, 0, [], [], rfl, Nat.zero_le _, Nat.zero_le _, rfl, Row.none _, rfl, rfl, rfl, rfl, ⟨rfl, rfl, rfl, rfl, rfl, rfl, rfl, trivial⟩⟩ ?_
    rintro m E S F' w1' ⟨k, ob, cap', vcur, out, rfl, hkk, hol', hout, hvrow, hvtk, rfl, rfl, rfl, hE⟩
    refine JC.env hE (fun E => ?_)
    with_reducible refine JC.seq ?_
    with_reducible refine JC.region ?_
    refine JL.op (JO.val (y_lss rfl rfl) rfl ?_)
    with_reducible refine JL.nil ?_
    with_reducible refine JQ.seq (JC.seq ?_)
    by_cases hlt : k < s.ps.length
    · have hd : decide ((k : Int) < (s.ps.length : Int)) = true := by simpa using hlt
      refine JC.cond_true (congrArg Value.bool hd) ?_
      obtain ⟨x, hx⟩ : ∃ x, s.ps[k]? = some x := ⟨s.ps[k], by simp [hlt]⟩
      obtain ⟨b, o', hA, hat⟩ := SlF.elem hp pair_len rfl hx
      have hks := keep_snoc (p := fun p : LPair => hasPre p.k o.key) hx
      have hxl : x.cells.length = 2 := rfl
      have hx1 : allOne x.cells = true := rfl
      with_reducible refine JC.skip (JQ.seq (JC.seq (JC.block (JC.seq ?_))))
      with_reducible refine JC.region ?_
      refine JL.op (JO.val (y_idx (b := b) (o := o') rfl rfl rfl rfl hA rfl hlt) rfl ?_)
      refine JL.op (JO.val (y_lddA rfl rfl hat (by first | rfl | assumption)) rfl ?_)
      refine JL.op (JO.alloc rfl rfl ?_); intro b10
      refine JL.op (JO.storeA 4 rfl rfl rfl rfl (by first | rfl | assumption) (by first | rfl | assumption) (by first | rfl | assumption) ?_)
      with_reducible refine JL.nil ?_
      with_reducible refine JQ.seq (JC.seq ?_)
      refine JC.cutS [(2, .pointer (some ⟨b2, 0, none⟩)), (3, .pointer (some ⟨b3, 0, none⟩)), (4, .pointer (some ⟨b4, 0, none⟩)), (8, .slice (ob.map mkA) out.length cap'), (10, .pointer (some ⟨b10, 0, none⟩)), (109, .slice Ap s.ps.length cp), (110, .int .i64 (s.ps.length : Nat)), (111, .int .i64 (k : Nat)), (132, .bool (hasPre x.k o.key))] ?_ (fun E => ?_)
      · refine JC.quiet (by kernel_rfl) ?_
        refine JT.val (y_fieldAddr rfl rfl rfl) rfl ?_
        refine JT.val (y_ld 4 rfl rfl rfl rfl) rfl ?_
        refine JT.val (y_lens rfl rfl) rfl ?_
        refine JT.val (y_fieldAddr rfl rfl rfl) rfl ?_
        refine JT.val (y_ld 1 rfl rfl rfl rfl) rfl ?_
        refine JT.val (y_lens rfl rfl) rfl ?_
        refine JT.val (y_geq rfl rfl) rfl ?_
        refine JT.val (y_move) rfl ?_
        refine JT.split (d := 122) rfl (fun hg7 => ?_) (fun hg7 => ?_)
        · refine JT.val_do rfl rfl (congrArg Value.bool hg7) (y_fieldAddr rfl rfl rfl) rfl ?_
          refine JT.val_do rfl rfl (congrArg Value.bool hg7) (y_ld 4 rfl rfl rfl rfl) rfl ?_
          refine JT.val_do rfl rfl (congrArg Value.bool hg7) (y_fieldAddr rfl rfl rfl) rfl ?_
          refine JT.val_do rfl rfl (congrArg Value.bool hg7) (y_ld 1 rfl rfl rfl rfl) rfl ?_
          refine JT.val_do rfl rfl (congrArg Value.bool hg7) (y_lens rfl rfl) rfl ?_
          refine JT.val_do rfl rfl (congrArg Value.bool hg7) (y_head rfl rfl rfl (by simp only [decide_eq_true_eq] at hg7; omega)) rfl ?_
          refine JT.val_do rfl rfl (congrArg Value.bool hg7) (y_fieldAddr rfl rfl rfl) rfl ?_
          refine JT.val_do rfl rfl (congrArg Value.bool hg7) (y_ld 1 rfl rfl rfl rfl) rfl ?_
          refine JT.val_do rfl rfl (congrArg Value.bool hg7) (y_eqs rfl rfl) rfl ?_
          refine JT.val (y_pick (congrArg Value.bool hg7)) rfl ?_
          refine JT.nil ?_
          (refine JQ.has ⟨rfl, rfl, rfl, rfl, rfl, rfl, rfl, rfl, congrArg Value.bool ?_, trivial⟩ (fun _ h => h); (simp_all [hasPre]; done))
        · refine JT.skip rfl rfl (congrArg Value.bool hg7) rfl ?_
          refine JT.skip rfl rfl (congrArg Value.bool hg7) rfl ?_
          refine JT.skip rfl rfl (congrArg Value.bool hg7) rfl ?_
          refine JT.skip rfl rfl (congrArg Value.bool hg7) rfl ?_
          refine JT.skip rfl rfl (congrArg Value.bool hg7) rfl ?_
          refine JT.skip rfl rfl (congrArg Value.bool hg7) rfl ?_
          refine JT.skip rfl rfl (congrArg Value.bool hg7) rfl ?_
          refine JT.skip rfl rfl (congrArg Value.bool hg7) rfl ?_
          refine JT.skip rfl rfl (congrArg Value.bool hg7) rfl ?_
          refine JT.val (y_pick (congrArg Value.bool hg7)) rfl ?_
          refine JT.nil ?_
          (refine JQ.has ⟨rfl, rfl, rfl, rfl, rfl, rfl, rfl, rfl, congrArg Value.bool ?_, trivial⟩ (fun _ h => h); (rw [Bool.eq_iff_iff]; simp_all [hasPre]; omega))
      with_reducible refine JQ.seq ?_
      refine JC.cond rfl (fun hg => ?_) (fun hg => ?_)
      · rw [if_pos hg] at hks
        with_reducible refine JC.region ?_
        refine JL.op (JO.val (y_move) rfl ?_)
        refine JL.op (JO.val (y_fieldAddr rfl rfl rfl) rfl ?_)
        refine JL.op (JO.val (y_ld 4 rfl rfl rfl rfl) rfl ?_)
        refine JL.op (JO.build1 rfl rfl rfl (by first | rfl | assumption) rfl rfl ?_); intro b136
        refine JL.op (JO.append 3 (ob := ob) (sstr x.k) rfl rfl rfl rfl rfl rfl rfl hvrow rfl (fun h => by cases h) (fun w2 hc => hc.src (i := 5) rfl) (sstr_one _) (room_max (by omega)) (by omega) ?_)
        intro ob' cap'' cur' hrow' htk' _
        refine JL.op (JO.val (y_assign) rfl ?_)
        with_reducible refine JL.nil ?_
        with_reducible refine JQ.blk (JQ.seq ?_)
        with_reducible refine JC.region ?_
        refine JL.op (JO.val (y_add rfl rfl (natAdd hkk (by omega))) rfl ?_)
        refine JL.op (JO.val (y_move) rfl ?_)
        with_reducible refine JL.nil ?_
        refine JQ.takeN 4 ?_
        refine JQ.loop (s.ps.length - (k + 1)) ⟨k + 1, ob', cap'', cur', out ++ [x.k], rfl, hlt, by simp; omega, by rw [hks, hout]; simp, ?_, ?_, rfl, rfl, rfl, ⟨rfl, rfl, rfl, ?_, rfl, rfl, rfl, trivial⟩⟩ (by omega)
        · rw [List.length_append]; exact hrow'
        · rw [List.length_append]; exact cur_snoc hvtk htk'
        · rw [List.length_append]; rfl
      · rw [if_neg (by rw [hg]; simp), List.append_nil] at hks
        with_reducible refine JC.skip (JQ.blk (JQ.seq ?_))
        with_reducible refine JC.region ?_
        refine JL.op (JO.val (y_add rfl rfl (natAdd hkk (by omega))) rfl ?_)
        refine JL.op (JO.val (y_move) rfl ?_)
        with_reducible refine JL.nil ?_
        refine JQ.takeN 4 ?_
        exact JQ.loop (s.ps.length - (k + 1)) ⟨k + 1, ob, cap', vcur, out, rfl, hlt, by omega, by rw [hks, hout], hvrow, hvtk, rfl, rfl, rfl, ⟨rfl, rfl, rfl, rfl, rfl, rfl, rfl, trivial⟩⟩ (by omega)
    · have hd : decide ((k : Int) < (s.ps.length : Int)) = false := by simpa using hlt
      refine JC.cond_false (congrArg Value.bool hd) ?_
      obtain rfl : k = s.ps.length := by omega
      rw [List.take_length] at hout
      with_reducible refine JC.exit (JQ.seq_exit (JQ.loop_exit (JQ.blk_here (JQ.seq (JC.seq ?_)))))
      with_reducible refine JC.region ?_
      refine JL.op (JO.val (y_ldA 0 rfl rfl rfl rfl) rfl ?_)
      refine JL.op (JO.val (y_move) rfl ?_)
      refine JL.op (JO.storeA 2 rfl rfl rfl rfl (by first | rfl | assumption) (by first | rfl | assumption) (by first | rfl | assumption) ?_)
      refine JL.op (JO.val (y_assign) rfl ?_)
      refine JL.op (JO.val (y_assign) rfl ?_)
      with_reducible refine JL.nil ?_
      with_reducible refine JQ.seq (JC.ret (JQ.blk_ret (JQ.seq_ret ?_)))
      refine ret_three rfl (ResV.cellA 2 rfl rfl rfl rfl) ResV.tmp ResV.tmp (fun w' hc => ?_)
      rw [show did s.ps s.ep s.ms o = ⟨s.ps, s.ep, s.ms, 0, out⟩ by unfold did; rw [if_neg hnot, if_neg (by omega), if_neg (by omega), if_neg (by omega), if_neg (by omega), if_pos hk, hout]]
      exact ⟨_, _, _, rfl, hRS.step (keepStep rfl rfl hc), rowSl (i := 3) rfl rfl hc rfl hvrow hvtk⟩
  with_reducible refine JC.seq ?_
  with_reducible refine JC.region ?_
  refine JL.op (JO.val (y_eql rfl rfl) rfl ?_)
  refine JL.op (JO.val (y_assign) rfl ?_)
  with_reducible refine JL.nil ?_
  with_reducible refine JQ.seq ?_
  refine JC.cond rfl (fun hk6 => ?_) (fun hk6 => ?_)
  · have hk : o.kind = 6 := by simpa using hk6
    with_reducible refine JC.seq ?_
    with_reducible refine JC.region ?_
    refine JL.op (JO.val (y_fieldAddr rfl rfl rfl) rfl ?_)
    refine JL.op (JO.val (y_fieldAddr rfl rfl rfl) rfl ?_)
    refine JL.op (JO.val (y_ld 0 rfl rfl rfl rfl) rfl ?_)
    refine JL.op (JO.callv (fun wc hc => itoa_any _ s.ep hwf.ep wc (htab.step hc.step)) rfl rfl rfl ?_)
    refine JL.op (JO.build1 rfl rfl rfl (by first | rfl | assumption) rfl rfl ?_); intro b147
    refine JL.op (JO.val (y_assign) rfl ?_)
    with_reducible refine JL.nil ?_
    with_reducible refine JQ.seq (JC.seq (JC.seq ?_))
    with_reducible refine JC.region ?_
    refine JL.op (JO.val (y_fieldAddr rfl rfl rfl) rfl ?_)
    refine JL.op (JO.val (y_fieldAddr rfl rfl rfl) rfl ?_)
    refine JL.op (JO.val (y_ld 0 rfl rfl rfl rfl) rfl ?_)
    refine JL.op (JO.val (y_len rfl rfl) rfl ?_)
    refine JL.op (JO.val (y_move) rfl ?_)
    with_reducible refine JL.nil ?_
    with_reducible refine JQ.seq (JC.block ?_)
    refine JC.loop (fun m E S F' w1' => ∃ k ob cap' vcur out, m = s.ms.length - k ∧ k ≤ s.ms.length ∧ out.length = k + 1 ∧ out = itoaB s.ep :: (s.ms.take k).map (fun m => itoaB m.id) ∧ Row ob out.length cap' 1 vcur ∧ vcur.take (out.length * 1) = out.flatMap sstr ∧ S = [(some b2, 28, [.slice Ap s.ps.length cp, .slice Ar s.rs.length cr, .int .i64 s.ep, .slice Am s.ms.length cm]), (some b3, 39, o.cells), (some b4, 28, [.slice none 0 0, .slice none 0 0, .int .i64 0, .slice none 0 0]), (ob, 9, vcur)] ∧ F' = F ∧ w1' = w ∧
        Has E [(2, .pointer (some ⟨b2, 0, none⟩)), (3, .pointer (some ⟨b3, 0, none⟩)), (4, .pointer (some ⟨b4, 0, none⟩)), (11, .slice (ob.map mkA) out.length cap'), (150, .slice Am s.ms.length cm), (151, .int .i64 (s.ms.length : Nat)), (152, .int .i64 (k : Nat))])
      _ ⟨0, some b147, 1, [.string (itoaB s.ep)], [itoaB s.ep], rfl, Nat.zero_le _, rfl, rfl, ⟨rfl, Nat.le_refl _, by simp [maxLen], fun h => by cases h⟩, rfl, rfl, rfl, rfl, ⟨rfl, rfl, rfl, rfl, rfl, rfl, rfl, trivial⟩⟩ ?_
    rintro m E S F' w1' ⟨k, ob, cap', vcur, out, rfl, hkk, hol', hout, hvrow, hvtk, rfl, rfl, rfl, hE⟩
    refine JC.env hE (fun E => ?_)
    with_reducible refine JC.seq ?_
    with_reducible refine JC.region ?_
    refine JL.op (JO.val (y_lss rfl rfl) rfl ?_)
    with_reducible refine JL.nil ?_
    with_reducible refine JQ.seq (JC.seq ?_)
    by_cases hlt : k < s.ms.length
    · have hd : decide ((k : Int) < (s.ms.length : Int)) = true := by simpa using hlt
      refine JC.cond_true (congrArg Value.bool hd) ?_
      obtain ⟨x, hx⟩ : ∃ x, s.ms[k]? = some x := ⟨s.ms[k], by simp [hlt]⟩
      have hxw := hwf.ms x (List.mem_of_getElem? hx)
      have hxl := LMember.len_cells hxw
      have hx1 := LMember.all1 hxw
      obtain ⟨b, o', hA, hat⟩ := SlF.elem hm (fun m hm => LMember.len_cells (hwf.ms m hm)) rfl hx
      with_reducible refine JC.skip (JQ.seq (JC.seq (JC.block (JC.seq ?_))))
      with_reducible refine JC.region ?_
      refine JL.op (JO.val (y_idx (b := b) (o := o') rfl rfl rfl rfl hA rfl hlt) rfl ?_)
      refine JL.op (JO.val (y_lddA rfl rfl hat (by first | rfl | assumption)) rfl ?_)
      refine JL.op (JO.alloc rfl rfl ?_); intro b13
      refine JL.op (JO.storeA 4 rfl rfl rfl rfl (by first | rfl | assumption) (by first | rfl | assumption) (by first | rfl | assumption) ?_)
      with_reducible refine JL.nil ?_
      with_reducible refine JQ.seq ?_
      with_reducible refine JC.region ?_
      refine JL.op (JO.val (y_move) rfl ?_)
      refine JL.op (JO.val (y_fieldAddr rfl rfl rfl) rfl ?_)
      refine JL.op (JO.val (y_ld 4 rfl rfl rfl rfl) rfl ?_)
      refine JL.op (JO.callv (fun wc hc => itoa_any _ x.id hxw.id wc (htab.step hc.step)) rfl rfl rfl ?_)
      refine JL.op (JO.build1 rfl rfl rfl (by first | rfl | assumption) rfl rfl ?_); intro b160
      refine JL.op (JO.append 3 (ob := ob) (sstr (itoaB x.id)) rfl rfl rfl rfl rfl rfl rfl hvrow rfl (fun h => by cases h) (fun w2 hc => hc.src (i := 5) rfl) (sstr_one _) (room_max (by omega)) (by omega) ?_)
      intro ob' cap'' cur' hrow' htk' _
      refine JL.op (JO.val (y_assign) rfl ?_)
      with_reducible refine JL.nil ?_
      with_reducible refine JQ.blk (JQ.seq ?_)
      with_reducible refine JC.region ?_
      refine JL.op (JO.val (y_add rfl rfl (natAdd hkk (by omega))) rfl ?_)
      refine JL.op (JO.val (y_move) rfl ?_)
      with_reducible refine JL.nil ?_
      refine JQ.takeN 4 ?_
      refine JQ.loop (s.ms.length - (k + 1)) ⟨k + 1, ob', cap'', cur', out ++ [itoaB x.id], rfl, hlt, by simp; omega, by rw [hout, List.take_add_one, hx]; simp, ?_, ?_, rfl, rfl, rfl, ⟨rfl, rfl, rfl, ?_, rfl, rfl, rfl, trivial⟩⟩ (by omega)
      · rw [List.length_append]; exact hrow'
      · rw [List.length_append]; exact cur_snoc hvtk htk'
      · rw [List.length_append]; rfl
    · have hd : decide ((k : Int) < (s.ms.length : Int)) = false := by simpa using hlt
      refine JC.cond_false (congrArg Value.bool hd) ?_
      obtain rfl : k = s.ms.length := by omega
      rw [List.take_length] at hout
      with_reducible refine JC.exit (JQ.seq_exit (JQ.loop_exit (JQ.blk_here (JQ.seq (JC.seq ?_)))))
      with_reducible refine JC.region ?_
      refine JL.op (JO.val (y_ldA 0 rfl rfl rfl rfl) rfl ?_)
      refine JL.op (JO.val (y_move) rfl ?_)
      refine JL.op (JO.storeA 2 rfl rfl rfl rfl (by first | rfl | assumption) (by first | rfl | assumption) (by first | rfl | assumption) ?_)
      refine JL.op (JO.val (y_assign) rfl ?_)
      refine JL.op (JO.val (y_assign) rfl ?_)
      with_reducible refine JL.nil ?_
      with_reducible refine JQ.seq (JC.ret (JQ.blk_ret (JQ.seq_ret ?_)))
      refine ret_three rfl (ResV.cellA 2 rfl rfl rfl rfl) ResV.tmp ResV.tmp (fun w' hc => ?_)
      rw [show did s.ps s.ep s.ms o = ⟨s.ps, s.ep, s.ms, 0, out⟩ by unfold did; rw [if_neg hnot, if_neg (by omega), if_neg (by omega), if_neg (by omega), if_neg (by omega), if_neg (by omega), if_pos hk, hout]]
      exact ⟨_, _, _, rfl, hRS.step (keepStep rfl rfl hc), rowSl (i := 3) rfl rfl hc rfl hvrow hvtk⟩
  with_reducible refine JC.seq ?_
  with_reducible refine JC.region ?_
  refine JL.op (JO.val (y_eql rfl rfl) rfl ?_)
  refine JL.op (JO.val (y_assign) rfl ?_)
  with_reducible refine JL.nil ?_
  with_reducible refine JQ.seq ?_
  refine JC.cond rfl (fun hk7 => ?_) (fun hk7 => ?_)
  · have hk : o.kind = 7 := by simpa using hk7
    with_reducible refine JC.seq ?_
    with_reducible refine JC.region ?_
    refine JL.op (JO.val (y_fieldAddr rfl rfl rfl) rfl ?_)
    refine JL.op (JO.val (y_ldP 0 rfl rfl rfl rfl rfl) rfl ?_)
    refine JL.op (JO.val (y_fieldAddr rfl rfl rfl) rfl ?_)
    refine JL.op (JO.val (y_ldP 1 (vs := o.chg.cells) rfl rfl rfl (List.take_of_length_le (by show o.chg.cells.length ≤ 36; omega)) (by rw [hol]; rfl)) rfl ?_)
    refine JL.op (JO.call _ (fun wc hc => ref8_apply _ s.ep Am cm s.ms o.chg wc (hm.step hc.step) hn2 hwf.ms how.chg) rfl rfl rfl ?_)
    rintro wc v wn hst hsz hfr hbl hst0 ⟨Ac, cc, rfl, hown⟩
    refine JL.op (JO.val (y_move) rfl ?_)
    refine JL.op (JO.val (y_extract rfl rfl) rfl ?_)
    refine JL.op (JO.val (y_extract rfl rfl) rfl ?_)
    refine JL.op (JO.alloc rfl rfl ?_); intro b14
    refine JL.op (JO.storeA 3 rfl rfl rfl rfl (by first | rfl | assumption) (by first | rfl | assumption) (by first | rfl | assumption) ?_)
    refine JL.op (JO.val (y_assign) rfl ?_)
    with_reducible refine JL.nil ?_
    with_reducible refine JQ.seq (JC.seq (JC.seq ?_))
    with_reducible refine JC.region ?_
    refine JL.op (JO.val (y_move) rfl ?_)
    refine JL.op (JO.val (y_neq rfl rfl) rfl ?_)
    with_reducible refine JL.nil ?_
    with_reducible refine JQ.seq ?_
    refine JC.cond rfl (fun hg2 => ?_) (fun hg2 => ?_)
    · have hcode : chgCode s.ep s.ms o.chg ≠ 0 := by simpa using hg2
      with_reducible refine JC.seq ?_
      with_reducible refine JC.region ?_
      refine JL.op (JO.val (y_ldA 0 rfl rfl rfl rfl) rfl ?_)
      refine JL.op (JO.val (y_move) rfl ?_)
      refine JL.op (JO.storeA 2 rfl rfl rfl rfl (by first | rfl | assumption) (by first | rfl | assumption) (by first | rfl | assumption) ?_)
      refine JL.op (JO.val (y_assign) rfl ?_)
      refine JL.op (JO.val (y_assign) rfl ?_)
      with_reducible refine JL.nil ?_
      with_reducible refine JQ.seq (JC.ret (JQ.seq_ret (JQ.blk_ret (JQ.seq_ret ?_))))
      refine ret_three rfl (ResV.cellA 2 rfl rfl rfl rfl) ResV.tmp ResV.tmp (fun w' hc => ?_)
      rw [show did s.ps s.ep s.ms o = ⟨s.ps, s.ep, s.ms, chgCode s.ep s.ms o.chg, []⟩ by unfold did; rw [if_neg hnot, if_neg (by omega), if_neg (by omega), if_neg (by omega), if_neg (by omega), if_neg (by omega), if_neg (by omega), if_pos hk, if_neg hcode]]
      exact ⟨_, _, _, rfl, hRS.step (keepStep rfl rfl hc), strs_nil⟩
    · have hcode : chgCode s.ep s.ms o.chg = 0 := by simpa using hg2
      with_reducible refine JC.skip (JQ.seq ?_)
      with_reducible refine JC.region ?_
      refine JL.op (JO.val (y_ldA 3 rfl rfl rfl rfl) rfl ?_)
      refine JL.op (JO.val (y_fieldAddr rfl rfl rfl) rfl ?_)
      refine JL.op (JO.store 0 (vs := [.int .i64 (chgRes s.ep s.ms o.chg).1, .slice Ac (chgRes s.ep s.ms o.chg).2.length cc]) rfl rfl rfl rfl rfl rfl rfl rfl ?_)
      with_reducible refine JL.nil ?_
      with_reducible refine JQ.blk (JQ.seq (JC.seq ?_))
      with_reducible refine JC.region ?_
      refine JL.op (JO.val (y_ldA 0 rfl rfl rfl rfl) rfl ?_)
      refine JL.op (JO.storeA 2 rfl rfl rfl rfl (by first | rfl | assumption) (by first | rfl | assumption) (by first | rfl | assumption) ?_)
      refine JL.op (JO.val (y_assign) rfl ?_)
      refine JL.op (JO.val (y_assign) rfl ?_)
      with_reducible refine JL.nil ?_
      with_reducible refine JQ.seq (JC.ret ?_)
      refine ret_three rfl (ResV.cellA 2 rfl rfl rfl rfl) ResV.tmp ResV.tmp (fun w' hc => ?_)
      rw [show did s.ps s.ep s.ms o = ⟨s.ps, (chgRes s.ep s.ms o.chg).1, (chgRes s.ep s.ms o.chg).2, 0, []⟩ by unfold did; rw [if_neg hnot, if_neg (by omega), if_neg (by omega), if_neg (by omega), if_neg (by omega), if_neg (by omega), if_neg (by omega), if_pos hk, if_pos hcode]]
      exact ⟨_, _, _, rfl, ⟨Ap, cp, Ar, cr, Ac, cc, rfl, hp.step (keepStep rfl rfl hc), hr.step (keepStep rfl rfl hc), newSl hc (hown.weak fun b hb => ⟨hfr b hb, Nat.le_trans hsz hb⟩) (by omega)⟩, strs_nil⟩
  · simp only [decide_eq_false_iff_not] at hk1 hk2 hk3 hk4 hk5 hk6 hk7
    with_reducible refine JC.skip (JQ.blk (JQ.seq (JC.seq ?_)))
    with_reducible refine JC.region ?_
    refine JL.op (JO.val (y_ldA 0 rfl rfl rfl rfl) rfl ?_)
    refine JL.op (JO.storeA 2 rfl rfl rfl rfl (by first | rfl | assumption) (by first | rfl | assumption) (by first | rfl | assumption) ?_)
    refine JL.op (JO.val (y_assign) rfl ?_)
    refine JL.op (JO.val (y_assign) rfl ?_)
    with_reducible refine JL.nil ?_
    with_reducible refine JQ.seq (JC.ret ?_)
    refine ret_three rfl (ResV.cellA 2 rfl rfl rfl rfl) ResV.tmp ResV.tmp (fun w' hc => ?_)
    rw [show did s.ps s.ep s.ms o = ⟨s.ps, s.ep, s.ms, 0, []⟩ by unfold did; rw [if_neg hnot, if_neg (by omega), if_neg (by omega), if_neg (by omega), if_neg (by omega), if_neg (by omega), if_neg (by omega), if_neg (by omega)]]
    exact ⟨_, _, _, rfl, hRS.step (keepStep rfl rfl hc), strs_nil⟩
end Go.Proofs.YtchnnplcpidkiaaDoor
