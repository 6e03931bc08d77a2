/- The contract of the reference's Apply (layer 10); no condition but bounds on lengths. -/
import Derived.Test.YtchnnplcpidkiaaDoorC18
namespace Go.Proofs.YtchnnplcpidkiaaDoor
open Go.RowKit
set_option linter.unusedSimpArgs false
set_option linter.unusedVariables false
set_option maxRecDepth 20000
set_option maxHeartbeats 16000000

def RApR (F : Nat → Prop) (s : LState) (q : LReq) (w : World) (v : Value) (w' : World) : Prop :=
  ∃ cs' ra, v = .tuple #[.agg cs'.toArray, .agg ra.toArray] ∧ RState (fun b => F b ∨ w.heap.size ≤ b) w' cs' (applyD s q).1 ∧ RReply (fun b => F b ∨ w.heap.size ≤ b) w' ra (applyD s q).2
theorem goW_map {α β : Type} (g : α → β) {stop keep : β → Bool} {x : α} : ∀ {l : List α} {done : Bool}, (goW (fun a => stop (g a)) (fun a => keep (g a)) x l done).map g = goW stop keep (g x) (l.map g) done
  | [], done => by cases done <;> simp [goW]
  | y :: l, done => by
    simp only [goW, List.map_append, List.map_cons, goW_map g (l := l)]
    congr 1
    · split <;> simp
    · congr 1
      split <;> simp
theorem refapply_any (F : Nat → Prop) (cs : List Value) (s : LState) (q : LReq) (w : World) (h : RState F w cs s) (hwf : s.wf) (hsm : Small s) (hq : q.wf) (htab : Tab F w) :
    CallsTo 10 #[.agg cs.toArray, .agg q.cells.toArray] w (fun v w' => RApR F s q w v w') := by
  have hRS := h
  have hql := LReq.len_cells hq
  have hol := LOp.len_cells hq.op
  obtain ⟨Ap, cp, Ar, cr, Am, cm, rfl, hp, hr, hm⟩ := h.form
  obtain ⟨hs, hhs, hrow, hvals⟩ := hr
  have hlen : hs.length = s.rs.length := by rw [← hhs]; simp
  obtain ⟨pv, hpl, hpv⟩ : ∃ pv : Int, placeI (idx (fun r : LReply => decide (r.client = q.client)) s.rs) = pv ∧ ((idx (fun r : LReply => decide (r.client = q.client)) s.rs = none ∧ pv = -1) ∨ (∃ i, idx (fun r : LReply => decide (r.client = q.client)) s.rs = some i ∧ pv = ((i : Nat) : Int))) := by
    cases hi : idx (fun r : LReply => decide (r.client = q.client)) s.rs with
    | none => exact ⟨-1, rfl, .inl ⟨rfl, rfl⟩⟩
    | some i => exact ⟨(i : Int), rfl, .inr ⟨i, rfl, rfl⟩⟩
  have hfound : decide (pv ≥ 0) = true → ∃ i x1 A1 c1 b o, pv = ((i : Nat) : Int) ∧ idx (fun r : LReply => decide (r.client = q.client)) s.rs = some i ∧ hs[i]? = some (x1, A1, c1) ∧ s.rs[i]? = some x1 ∧ Ar = some ⟨b, o, none⟩ ∧ At F w b (o + i * 4) (rcells (x1, A1, c1)) ∧ i < s.rs.length := fun hpos => by
    rcases hpv with h1 | ⟨i, h1, h2⟩
    · rw [h1.2] at hpos; exact absurd hpos (by decide)
    · obtain ⟨r, hx, _⟩ := idx_at h1
      obtain ⟨⟨x1, A1, c1⟩, hx1, rfl⟩ := map_at hhs hx
      obtain ⟨b, o, hA, hat⟩ := SlF.elem hrow rcells_len hlen.symm hx1
      exact ⟨i, x1, A1, c1, b, o, h2, h1, hx1, hx, hA, hat, (List.getElem?_eq_some_iff.1 hx).1⟩
  refine CallsTo.enter 112 F F Tryd.func10 rfl rfl rfl rfl (by intros; first | trivial | assumption) ?_
  with_reducible refine JC.seq ?_
  with_reducible refine JC.region ?_
  refine JL.op (JO.box rfl rfl ?_); intro b2
  refine JL.op (JO.box rfl rfl ?_); intro b3
  refine JL.op (JO.alloc rfl rfl ?_); intro b4
  refine JL.op (JO.alloc rfl rfl ?_); intro b5
  with_reducible refine JL.nil ?_
  with_reducible refine JQ.seq (JC.seq ?_)
  with_reducible refine JC.region ?_
  refine JL.op (JO.val (y_fieldAddr rfl rfl rfl) rfl ?_)
  refine JL.op (JO.val (y_ld 1 rfl rfl rfl rfl) rfl ?_)
  refine JL.op (JO.val (y_fieldAddr rfl rfl rfl) rfl ?_)
  refine JL.op (JO.val (y_ld 1 rfl rfl rfl rfl) rfl ?_)
  refine JL.op (JO.val (y_build rfl rfl (⟨_, _, _, rfl, rfl, rfl, rfl, ⟨_, _, _, rfl, rfl, rfl, rfl, rfl⟩⟩)) rfl ?_)
  refine JL.op (JO.alloc rfl rfl ?_); intro b6
  refine JL.op (JO.storeA 4 rfl rfl rfl rfl (by first | rfl | assumption) (by first | rfl | assumption) (by first | rfl | assumption) ?_)
  with_reducible refine JL.nil ?_
  with_reducible refine JQ.seq (JC.seq (JC.seq ?_))
  with_reducible refine JC.region ?_
  refine JL.op (JO.val (y_ldA 1 rfl rfl rfl (by first | rfl | assumption)) rfl ?_)
  refine JL.op (JO.callv (fun wc hc => good9_any q hq wc) rfl rfl rfl ?_)
  refine JL.op (JO.val (y_not rfl) rfl ?_)
  with_reducible refine JL.nil ?_
  with_reducible refine JQ.seq ?_
  refine JC.cond (b := !goodB q) rfl (fun hg => ?_) (fun hg => ?_)
  · have had : applyD s q = (s, ⟨q.client, q.num, 1, []⟩) := by unfold applyD; rw [if_pos (by simpa using hg)]
    with_reducible refine JC.seq ?_
    with_reducible refine JC.region ?_
    refine JL.op (JO.val (y_fieldAddr rfl rfl rfl) rfl ?_)
    refine JL.op (JO.store1 4 rfl rfl rfl rfl rfl rfl rfl ?_)
    with_reducible refine JL.nil ?_
    with_reducible refine JQ.seq (JC.seq ?_)
    refine JC.held [0, 4] ?_
    refine JH.take 0 rfl (by kernel_rfl) (by kernel_rfl) (by kernel_rfl) (fun _ _ _ => y_ldA 0 rfl rfl rfl rfl) rfl (by repeat (first | exact np_fun | exact np_inv | refine np_seq ?_ | refine np_blk ?_ | refine np_loop ?_)) (⟨rfl, rfl, trivial⟩) ?_
    refine JH.take 1 rfl (by kernel_rfl) (by kernel_rfl) (by kernel_rfl) (fun _ _ _ => y_ldA 4 rfl rfl rfl rfl) rfl (by repeat (first | exact np_fun | exact np_inv | refine np_seq ?_ | refine np_blk ?_ | refine np_loop ?_)) (⟨rfl, rfl, trivial⟩) ?_
    refine JH.one 2 (by kernel_rfl) (JI.op rfl ?_)
    refine (JO.storeA 2 rfl rfl rfl rfl (by first | rfl | assumption) (by first | rfl | assumption) (by first | rfl | assumption) ?_)
    refine ⟨⟨rfl, rfl, trivial⟩, ?_⟩
    refine JH.one 3 (by kernel_rfl) (JI.op rfl ?_)
    refine (JO.storeA 3 rfl rfl rfl rfl (by first | rfl | assumption) (by first | rfl | assumption) (by first | rfl | assumption) ?_)
    refine ⟨⟨rfl, rfl, trivial⟩, ?_⟩
    refine JH.done (by kernel_rfl) ?_
    with_reducible refine JQ.seq (JC.ret (JQ.seq_ret ?_))
    refine ret_two rfl (ResV.cellA 2 rfl rfl rfl rfl) (ResV.cellA 3 rfl rfl rfl rfl) (fun w' hc => ?_)
    exact ⟨_, _, rfl, had ▸ hRS.step (keepStep rfl rfl hc), had ▸ ⟨none, 0, rfl, strs_nil⟩⟩
  have hgood : goodB q = true := by simpa using hg
  with_reducible refine JC.skip (JQ.seq (JC.seq ?_))
  with_reducible refine JC.region ?_
  refine JL.op (JO.val (y_ldA 0 rfl rfl rfl rfl) rfl ?_)
  refine JL.op (JO.val (y_fieldAddr rfl rfl rfl) rfl ?_)
  refine JL.op (JO.val (y_ld 1 rfl rfl rfl rfl) rfl ?_)
  refine JL.op (JO.callv (fun wc hc => (hpl ▸ lastR_any _ _ s q.client wc (hRS.step hc.step) hsm)) rfl rfl rfl ?_)
  refine JL.op (JO.val (y_assign) rfl ?_)
  with_reducible refine JL.nil ?_
  with_reducible refine JQ.seq (JC.seq (JC.seq ?_))
  refine JC.cutS [(2, .pointer (some ⟨b2, 0, none⟩)), (3, .pointer (some ⟨b3, 0, none⟩)), (4, .pointer (some ⟨b4, 0, none⟩)), (5, .pointer (some ⟨b5, 0, none⟩)), (6, .pointer (some ⟨b6, 0, none⟩)), (7, .int .i64 pv), (39, .bool (decide (pv ≥ 0) && decide (((s.rs[pv.toNat]?).map (·.num)).getD 0 = q.num)))] ?_ (fun E => ?_)
  · refine JC.quiet (by kernel_rfl) ?_
    refine JT.val (y_move) rfl ?_
    refine JT.val (y_geq rfl rfl) rfl ?_
    refine JT.val (y_move) rfl ?_
    refine JT.split (d := 29) rfl (fun hg2 => ?_) (fun hg2 => ?_)
    · refine JT.val_do rfl rfl (congrArg Value.bool hg2) (y_fieldAddr rfl rfl rfl) rfl ?_
      refine JT.val_do rfl rfl (congrArg Value.bool hg2) (y_ld 0 rfl rfl rfl rfl) rfl ?_
      refine JT.val_do rfl rfl (congrArg Value.bool hg2) (y_move) rfl ?_
      obtain ⟨i, x1, A1, c1, b, o, hpe, hi, hx1, hx, hA, hat, hlt⟩ := hfound hg2
      refine JT.val_do rfl rfl (congrArg Value.bool hg2) (y_idx (b := b) (o := o) (j := i) rfl rfl rfl rfl hA hpe hlt) rfl ?_
      refine JT.val_do rfl rfl (congrArg Value.bool hg2) (y_fieldAddr rfl rfl rfl) rfl ?_
      refine JT.val_do rfl rfl (congrArg Value.bool hg2) (y_ldd rfl rfl (At.cell1 (j := 1) hat rfl)) rfl ?_
      refine JT.val_do rfl rfl (congrArg Value.bool hg2) (y_fieldAddr rfl rfl rfl) rfl ?_
      refine JT.val_do rfl rfl (congrArg Value.bool hg2) (y_ld 1 rfl rfl rfl rfl) rfl ?_
      refine JT.val_do rfl rfl (congrArg Value.bool hg2) (y_eql rfl rfl) rfl ?_
      refine JT.val (y_pick (congrArg Value.bool hg2)) rfl ?_
      refine JT.nil ?_
      exact JQ.has ⟨rfl, rfl, rfl, rfl, rfl, rfl, congrArg Value.bool (by rw [hg2, hpe, Int.toNat_natCast, hx]; simp), trivial⟩ (fun _ h => h)
    · refine JT.skip rfl rfl (congrArg Value.bool hg2) rfl ?_
      refine JT.skip rfl rfl (congrArg Value.bool hg2) rfl ?_
      refine JT.skip rfl rfl (congrArg Value.bool hg2) rfl ?_
      refine JT.skip rfl rfl (congrArg Value.bool hg2) rfl ?_
      refine JT.skip rfl rfl (congrArg Value.bool hg2) rfl ?_
      refine JT.skip rfl rfl (congrArg Value.bool hg2) rfl ?_
      refine JT.skip rfl rfl (congrArg Value.bool hg2) rfl ?_
      refine JT.skip rfl rfl (congrArg Value.bool hg2) rfl ?_
      refine JT.skip rfl rfl (congrArg Value.bool hg2) rfl ?_
      refine JT.val (y_pick (congrArg Value.bool hg2)) rfl ?_
      refine JT.nil ?_
      exact JQ.has ⟨rfl, rfl, rfl, rfl, rfl, rfl, congrArg Value.bool (by rw [hg2]; simp), trivial⟩ (fun _ h => h)
  with_reducible refine JQ.seq ?_
  refine JC.cond rfl (fun hg2 => ?_) (fun hg2 => ?_)
  · simp only [Bool.and_eq_true] at hg2
    obtain ⟨i, x1, A1, c1, b, o, rfl, hi, hx1, hx, hA, hat, hlt⟩ := hfound hg2.1
    have hnum : x1.num = q.num := by have := hg2.2; rw [Int.toNat_natCast, hx] at this; simpa using this
    have had : applyD s q = (s, x1) := by unfold applyD; rw [if_neg (by rw [hgood]; simp), hi]; simp only [hx]; rw [if_pos hnum.symm]
    with_reducible refine JC.seq ?_
    refine JC.held [0] ?_
    refine JH.take 0 rfl (by kernel_rfl) (by kernel_rfl) (by kernel_rfl) (fun _ _ _ => y_ldA 0 rfl rfl rfl rfl) rfl (by repeat (first | exact np_fun | exact np_inv | refine np_seq ?_ | refine np_blk ?_ | refine np_loop ?_)) (⟨rfl, trivial⟩) ?_
    refine JH.take 1 rfl (by kernel_rfl) (by kernel_rfl) (by kernel_rfl) (fun _ _ _ => y_fieldAddr rfl rfl rfl) rfl (by repeat (first | exact np_fun | exact np_inv | refine np_seq ?_ | refine np_blk ?_ | refine np_loop ?_)) (⟨rfl, trivial⟩) ?_
    refine JH.take 2 rfl (by kernel_rfl) (by kernel_rfl) (by kernel_rfl) (fun _ _ _ => y_ld 0 rfl rfl rfl rfl) rfl (by repeat (first | exact np_fun | exact np_inv | refine np_seq ?_ | refine np_blk ?_ | refine np_loop ?_)) (⟨rfl, trivial⟩) ?_
    refine JH.take 3 rfl (by kernel_rfl) (by kernel_rfl) (by kernel_rfl) (fun _ _ _ => y_move) rfl (by repeat (first | exact np_fun | exact np_inv | refine np_seq ?_ | refine np_blk ?_ | refine np_loop ?_)) (⟨rfl, trivial⟩) ?_
    refine JH.take 4 rfl (by kernel_rfl) (by kernel_rfl) (by kernel_rfl) (fun _ _ _ => y_idx (b := b) (o := o) (j := i) rfl rfl rfl rfl hA rfl hlt) rfl (by repeat (first | exact np_fun | exact np_inv | refine np_seq ?_ | refine np_blk ?_ | refine np_loop ?_)) (⟨rfl, trivial⟩) ?_
    refine JH.two 5 6 (by kernel_rfl) (JI.op rfl ?_) (JI.op rfl ?_)
    · refine (JO.val (y_lddA rfl rfl hat rfl) rfl ?_)
      refine ⟨⟨rfl, trivial⟩, ?_⟩
      refine JH.one 6 (by kernel_rfl) (JI.op rfl ?_)
      refine (JO.storeA 2 rfl rfl rfl rfl (by first | rfl | assumption) (by first | rfl | assumption) (by first | rfl | assumption) ?_)
      refine ⟨⟨rfl, trivial⟩, ?_⟩
      refine JH.one 7 (by kernel_rfl) (JI.op rfl ?_)
      refine (JO.storeA 3 rfl rfl rfl rfl (by first | rfl | assumption) (by first | rfl | assumption) (by first | rfl | assumption) ?_)
      refine ⟨⟨rfl, trivial⟩, ?_⟩
      refine JH.done (by kernel_rfl) ?_
      with_reducible refine JQ.seq (JC.ret (JQ.seq_ret ?_))
      refine ret_two rfl (ResV.cellA 2 rfl rfl rfl rfl) (ResV.cellA 3 rfl rfl rfl rfl) (fun w' hc => ?_)
      exact ⟨_, _, rfl, had ▸ hRS.step (keepStep rfl rfl hc), had ▸ ⟨A1, c1, rfl, RStrs.step (hvals _ (List.mem_of_getElem? hx1)) (keepStep rfl rfl hc)⟩⟩
    · refine (JO.storeA 2 rfl rfl rfl rfl (by first | rfl | assumption) (by first | rfl | assumption) (by first | rfl | assumption) ?_)
      refine ⟨⟨rfl, trivial⟩, ?_⟩
      refine JH.one 5 (by kernel_rfl) (JI.op rfl ?_)
      refine (JO.val (y_lddA rfl rfl hat rfl) rfl ?_)
      refine ⟨⟨rfl, trivial⟩, ?_⟩
      refine JH.one 7 (by kernel_rfl) (JI.op rfl ?_)
      refine (JO.storeA 3 rfl rfl rfl rfl (by first | rfl | assumption) (by first | rfl | assumption) (by first | rfl | assumption) ?_)
      refine ⟨⟨rfl, trivial⟩, ?_⟩
      refine JH.done (by kernel_rfl) ?_
      with_reducible refine JQ.seq (JC.ret (JQ.seq_ret ?_))
      refine ret_two rfl (ResV.cellA 2 rfl rfl rfl rfl) (ResV.cellA 3 rfl rfl rfl rfl) (fun w' hc => ?_)
      exact ⟨_, _, rfl, had ▸ hRS.step (keepStep rfl rfl hc), had ▸ ⟨A1, c1, rfl, RStrs.step (hvals _ (List.mem_of_getElem? hx1)) (keepStep rfl rfl hc)⟩⟩
  with_reducible refine JC.skip (JQ.seq (JC.seq (JC.seq ?_)))
  refine JC.cutS [(2, .pointer (some ⟨b2, 0, none⟩)), (3, .pointer (some ⟨b3, 0, none⟩)), (4, .pointer (some ⟨b4, 0, none⟩)), (5, .pointer (some ⟨b5, 0, none⟩)), (6, .pointer (some ⟨b6, 0, none⟩)), (7, .int .i64 pv), (58, .bool (decide (pv ≥ 0) && decide (((s.rs[pv.toNat]?).map (·.num)).getD 0 > q.num)))] ?_ (fun E => ?_)
  · refine JC.quiet (by kernel_rfl) ?_
    refine JT.val (y_move) rfl ?_
    refine JT.val (y_geq rfl rfl) rfl ?_
    refine JT.val (y_move) rfl ?_
    refine JT.split (d := 48) rfl (fun hg2 => ?_) (fun hg2 => ?_)
    · refine JT.val_do rfl rfl (congrArg Value.bool hg2) (y_fieldAddr rfl rfl rfl) rfl ?_
      refine JT.val_do rfl rfl (congrArg Value.bool hg2) (y_ld 0 rfl rfl rfl rfl) rfl ?_
      refine JT.val_do rfl rfl (congrArg Value.bool hg2) (y_move) rfl ?_
      obtain ⟨i, x1, A1, c1, b, o, hpe, hi, hx1, hx, hA, hat, hlt⟩ := hfound ‹decide (pv ≥ 0) = true›
      refine JT.val_do rfl rfl (congrArg Value.bool hg2) (y_idx (b := b) (o := o) (j := i) rfl rfl rfl rfl hA hpe hlt) rfl ?_
      refine JT.val_do rfl rfl (congrArg Value.bool hg2) (y_fieldAddr rfl rfl rfl) rfl ?_
      refine JT.val_do rfl rfl (congrArg Value.bool hg2) (y_ldd rfl rfl (At.cell1 (j := 1) hat rfl)) rfl ?_
      refine JT.val_do rfl rfl (congrArg Value.bool hg2) (y_fieldAddr rfl rfl rfl) rfl ?_
      refine JT.val_do rfl rfl (congrArg Value.bool hg2) (y_ld 1 rfl rfl rfl rfl) rfl ?_
      refine JT.val_do rfl rfl (congrArg Value.bool hg2) (y_gtr rfl rfl) rfl ?_
      refine JT.val (y_pick (congrArg Value.bool hg2)) rfl ?_
      refine JT.nil ?_
      exact JQ.has ⟨rfl, rfl, rfl, rfl, rfl, rfl, congrArg Value.bool (by rw [‹decide (pv ≥ 0) = true›, hpe, Int.toNat_natCast, hx]; simp), trivial⟩ (fun _ h => h)
    · refine JT.skip rfl rfl (congrArg Value.bool hg2) rfl ?_
      refine JT.skip rfl rfl (congrArg Value.bool hg2) rfl ?_
      refine JT.skip rfl rfl (congrArg Value.bool hg2) rfl ?_
      refine JT.skip rfl rfl (congrArg Value.bool hg2) rfl ?_
      refine JT.skip rfl rfl (congrArg Value.bool hg2) rfl ?_
      refine JT.skip rfl rfl (congrArg Value.bool hg2) rfl ?_
      refine JT.skip rfl rfl (congrArg Value.bool hg2) rfl ?_
      refine JT.skip rfl rfl (congrArg Value.bool hg2) rfl ?_
      refine JT.skip rfl rfl (congrArg Value.bool hg2) rfl ?_
      refine JT.val (y_pick (congrArg Value.bool hg2)) rfl ?_
      refine JT.nil ?_
      exact JQ.has ⟨rfl, rfl, rfl, rfl, rfl, rfl, congrArg Value.bool (by rw [‹decide (pv ≥ 0) = false›]; simp), trivial⟩ (fun _ h => h)
  with_reducible refine JQ.seq ?_
  refine JC.cond rfl (fun hg3 => ?_) (fun hg3 => ?_)
  · simp only [Bool.and_eq_true] at hg3
    obtain ⟨i, x1, A1, c1, b, o, rfl, hi, hx1, hx, hA, hat, hlt⟩ := hfound hg3.1
    have hnum : x1.num > q.num := by have := hg3.2; rw [Int.toNat_natCast, hx] at this; simpa using this
    have had : applyD s q = (s, ⟨q.client, q.num, 8, []⟩) := by unfold applyD; rw [if_neg (by rw [hgood]; simp), hi]; simp only [hx]; rw [if_neg (by omega), if_pos (by omega)]
    with_reducible refine JC.seq ?_
    with_reducible refine JC.region ?_
    refine JL.op (JO.val (y_fieldAddr rfl rfl rfl) rfl ?_)
    refine JL.op (JO.store1 4 rfl rfl rfl rfl rfl rfl rfl ?_)
    with_reducible refine JL.nil ?_
    with_reducible refine JQ.seq (JC.seq ?_)
    refine JC.held [0, 4] ?_
    refine JH.take 0 rfl (by kernel_rfl) (by kernel_rfl) (by kernel_rfl) (fun _ _ _ => y_ldA 0 rfl rfl rfl rfl) rfl (by repeat (first | exact np_fun | exact np_inv | refine np_seq ?_ | refine np_blk ?_ | refine np_loop ?_)) (⟨rfl, rfl, trivial⟩) ?_
    refine JH.take 1 rfl (by kernel_rfl) (by kernel_rfl) (by kernel_rfl) (fun _ _ _ => y_ldA 4 rfl rfl rfl rfl) rfl (by repeat (first | exact np_fun | exact np_inv | refine np_seq ?_ | refine np_blk ?_ | refine np_loop ?_)) (⟨rfl, rfl, trivial⟩) ?_
    refine JH.one 2 (by kernel_rfl) (JI.op rfl ?_)
    refine (JO.storeA 2 rfl rfl rfl rfl (by first | rfl | assumption) (by first | rfl | assumption) (by first | rfl | assumption) ?_)
    refine ⟨⟨rfl, rfl, trivial⟩, ?_⟩
    refine JH.one 3 (by kernel_rfl) (JI.op rfl ?_)
    refine (JO.storeA 3 rfl rfl rfl rfl (by first | rfl | assumption) (by first | rfl | assumption) (by first | rfl | assumption) ?_)
    refine ⟨⟨rfl, rfl, trivial⟩, ?_⟩
    refine JH.done (by kernel_rfl) ?_
    with_reducible refine JQ.seq (JC.ret (JQ.seq_ret ?_))
    refine ret_two rfl (ResV.cellA 2 rfl rfl rfl rfl) (ResV.cellA 3 rfl rfl rfl rfl) (fun w' hc => ?_)
    exact ⟨_, _, rfl, had ▸ hRS.step (keepStep rfl rfl hc), had ▸ ⟨none, 0, rfl, strs_nil⟩⟩
  have had : applyD s q = doneD s q := by
    unfold applyD
    rw [if_neg (by rw [hgood]; simp)]
    rcases hpv with h1 | ⟨i, h1, h2⟩
    · rw [h1.1]
    · obtain ⟨r, hx, _⟩ := idx_at h1
      rw [h1]
      simp only [hx]
      rw [h2, Int.toNat_natCast, hx] at hg2 hg3
      simp at hg2 hg3
      rw [if_neg (by omega), if_neg (by omega)]
  with_reducible refine JC.skip (JQ.seq (JC.seq ?_))
  with_reducible refine JC.region ?_
  refine JL.op (JO.val (y_ldA 0 rfl rfl rfl rfl) rfl ?_)
  refine JL.op (JO.val (y_fieldAddr rfl rfl rfl) rfl ?_)
  refine JL.op (JO.val (y_ldP 1 (vs := q.op.cells) rfl rfl rfl (List.take_of_length_le (by show q.op.cells.length ≤ 40; omega)) (by rw [hql]; rfl)) rfl ?_)
  refine JL.op (JO.call _ (fun wc hc => refdoes_any _ _ s q.op wc (hRS.step hc.step) hwf hsm hq.op (htab.step hc.step)) rfl rfl rfl ?_)
  rintro wc v wn hst hsz hfr hbl hst0 ⟨cs', Av, cv, rfl, hRS2, hrv⟩
  obtain ⟨Bp, dp, Br, dr, Bm, dm, rfl, hp2, hr2, hm2⟩ := hRS2.form
  replace hp2 := hp2.step (Step.weak (fun b hb => Or.elim hb id (hfr b)))
  replace hr2 := hr2.step (Step.weak (fun b hb => Or.elim hb id (hfr b)))
  replace hm2 := hm2.step (Step.weak (fun b hb => Or.elim hb id (hfr b)))
  replace hrv := hrv.step (Step.weak (fun b hb => Or.elim hb id (hfr b)))
  refine JL.op (JO.val (y_move) rfl ?_)
  refine JL.op (JO.val (y_extract rfl rfl) rfl ?_)
  refine JL.op (JO.val (y_extract rfl rfl) rfl ?_)
  refine JL.op (JO.val (y_extract rfl rfl) rfl ?_)
  refine JL.op (JO.storeA 0 rfl rfl rfl rfl (by first | rfl | assumption) (by first | rfl | assumption) (by first | rfl | assumption) ?_)
  refine JL.op (JO.val (y_fieldAddr rfl rfl rfl) rfl ?_)
  refine JL.op (JO.store1 4 rfl rfl rfl rfl rfl rfl rfl ?_)
  refine JL.op (JO.val (y_fieldAddr rfl rfl rfl) rfl ?_)
  refine JL.op (JO.store1 4 rfl rfl rfl rfl rfl rfl rfl ?_)
  with_reducible refine JL.nil ?_
  with_reducible refine JQ.seq (JC.seq ?_)
  with_reducible refine JC.region ?_
  refine JL.op (JO.val (y_assign) rfl ?_)
  with_reducible refine JL.nil ?_
  with_reducible refine JQ.seq (JC.seq ?_)
  with_reducible refine JC.region ?_
  refine JL.op (JO.val (y_assign) rfl ?_)
  with_reducible refine JL.nil ?_
  with_reducible refine JQ.seq (JC.seq (JC.seq ?_))
  with_reducible refine JC.region ?_
  refine JL.op (JO.val (y_fieldAddr rfl rfl rfl) rfl ?_)
  refine JL.op (JO.val (y_ld 0 rfl rfl rfl rfl) rfl ?_)
  refine JL.op (JO.val (y_len rfl rfl) rfl ?_)
  refine JL.op (JO.val (y_move) rfl ?_)
  with_reducible refine JL.nil ?_
  obtain ⟨hs2, hhs2, hrow2, hvals2⟩ := hr2
  have hlen2 : hs2.length = s.rs.length := by rw [← hhs2]; simp
  have hn2 := hsm.rs
  refine JQ.env (S := [(some b2, 28, [.slice Bp (did s.ps s.ep s.ms q.op).ps.length dp, .slice Br s.rs.length dr, .int .i64 (did s.ps s.ep s.ms q.op).ep, .slice Bm (did s.ps s.ep s.ms q.op).ms.length dm]), (some b3, 41, q.cells), (some b4, 28, [.slice none 0 0, .slice none 0 0, .int .i64 0, .slice none 0 0]), (some b5, 45, [.int .i64 0, .int .i64 0, .int .i64 0, .slice none 0 0]), (some b6, 45, rcells (⟨q.client, q.num, (did s.ps s.ep s.ms q.op).code, (did s.ps s.ep s.ms q.op).vals⟩, Av, cv))]) (l := [(2, .pointer (some ⟨b2, 0, none⟩)), (3, .pointer (some ⟨b3, 0, none⟩)), (4, .pointer (some ⟨b4, 0, none⟩)), (5, .pointer (some ⟨b5, 0, none⟩)), (6, .pointer (some ⟨b6, 0, none⟩)), (8, .slice none 0 0), (9, .bool false), (73, .slice Br s.rs.length dr), (74, .int .i64 (s.rs.length : Nat)), (75, .int .i64 0)]) ⟨rfl, rfl, rfl, rfl, rfl, rfl, rfl, rfl, rfl, rfl, trivial⟩ (fun E => ?_)
  with_reducible refine JQ.seq (JC.block ?_)
  refine JC.addNone 45 ?_
  refine JC.loop (fun m E S F' w1' => ∃ k ob cap' cur done out, m = hs2.length - k ∧ k ≤ hs2.length ∧ out.length ≤ 2 * k ∧ out ++ goW (fun h : LReply × Option Addr × Nat => decide (h.1.client ≥ q.client)) (fun h : LReply × Option Addr × Nat => decide (h.1.client ≠ q.client)) (⟨q.client, q.num, (did s.ps s.ep s.ms q.op).code, (did s.ps s.ep s.ms q.op).vals⟩, Av, cv) (hs2.drop k) done = goW (fun h : LReply × Option Addr × Nat => decide (h.1.client ≥ q.client)) (fun h : LReply × Option Addr × Nat => decide (h.1.client ≠ q.client)) (⟨q.client, q.num, (did s.ps s.ep s.ms q.op).code, (did s.ps s.ep s.ms q.op).vals⟩, Av, cv) hs2 false ∧ Row ob out.length cap' 4 cur ∧ cur.take (out.length * 4) = out.flatMap rcells ∧ S = [(some b2, 28, [.slice Bp (did s.ps s.ep s.ms q.op).ps.length dp, .slice Br s.rs.length dr, .int .i64 (did s.ps s.ep s.ms q.op).ep, .slice Bm (did s.ps s.ep s.ms q.op).ms.length dm]), (some b3, 41, q.cells), (some b4, 28, [.slice none 0 0, .slice none 0 0, .int .i64 0, .slice none 0 0]), (some b5, 45, [.int .i64 0, .int .i64 0, .int .i64 0, .slice none 0 0]), (some b6, 45, rcells (⟨q.client, q.num, (did s.ps s.ep s.ms q.op).code, (did s.ps s.ep s.ms q.op).vals⟩, Av, cv)), (ob, 45, cur)] ∧ F' = _ ∧ w1' = wn ∧
      Has E [(2, .pointer (some ⟨b2, 0, none⟩)), (3, .pointer (some ⟨b3, 0, none⟩)), (4, .pointer (some ⟨b4, 0, none⟩)), (5, .pointer (some ⟨b5, 0, none⟩)), (6, .pointer (some ⟨b6, 0, none⟩)), (8, .slice (ob.map mkA) out.length cap'), (9, .bool done), (73, .slice Br s.rs.length dr), (74, .int .i64 (s.rs.length : Nat)), (75, .int .i64 (k : Nat))])
    _ ⟨0, none, 0, [], false, [], rfl, Nat.zero_le _, Nat.zero_le _, rfl, Row.none _, rfl, rfl, rfl, rfl, ⟨rfl, rfl, rfl, rfl, rfl, rfl, rfl, rfl, rfl, rfl, trivial⟩⟩ ?_
  rintro m E S F' w1' ⟨k, ob, cap', cur, done, out, rfl, hk, hol', hout, hrow', htk', rfl, hF', hw', hE⟩
  have hrowX := hrow2
  rw [← hw', ← hF'] at hrowX
  refine JC.env hE (fun E => ?_)
  with_reducible refine JC.seq ?_
  with_reducible refine JC.region ?_
  refine JL.op (JO.val (y_lss rfl rfl) rfl ?_)
  with_reducible refine JL.nil ?_
  with_reducible refine JQ.seq (JC.seq ?_)
  by_cases hlt : k < s.rs.length
  · have hd : decide ((k : Int) < (s.rs.length : Int)) = true := by simpa using hlt
    refine JC.cond_true (congrArg Value.bool hd) ?_
    obtain ⟨y, hy⟩ : ∃ y, hs2[k]? = some y := ⟨hs2[k]'(by omega), List.getElem?_eq_getElem (by omega)⟩
    rw [goW_at hy] at hout
    obtain ⟨b, o, hA, hat⟩ := SlF.elem hrowX rcells_len hlen2.symm hy
    have hy1 : allOne (rcells y) = true := rfl
    have hx1 : allOne (rcells (⟨q.client, q.num, (did s.ps s.ep s.ms q.op).code, (did s.ps s.ep s.ms q.op).vals⟩, Av, cv)) = true := rfl
    with_reducible refine JC.skip (JQ.seq (JC.seq (JC.block (JC.seq ?_))))
    with_reducible refine JC.region ?_
    refine JL.op (JO.val (y_idx (b := b) (o := o) rfl rfl rfl rfl hA rfl hlt) rfl ?_)
    refine JL.op (JO.val (y_lddA rfl rfl hat rfl) rfl ?_)
    refine JL.op (JO.alloc rfl rfl ?_); intro b11
    refine JL.op (JO.storeA 6 rfl rfl rfl rfl (by first | rfl | assumption) (by first | rfl | assumption) (by first | rfl | assumption) ?_)
    with_reducible refine JL.nil ?_
    with_reducible refine JQ.seq (JC.seq (JC.seq ?_))
    refine JC.cutS [(2, .pointer (some ⟨b2, 0, none⟩)), (3, .pointer (some ⟨b3, 0, none⟩)), (4, .pointer (some ⟨b4, 0, none⟩)), (5, .pointer (some ⟨b5, 0, none⟩)), (6, .pointer (some ⟨b6, 0, none⟩)), (8, .slice (ob.map mkA) out.length cap'), (9, .bool done), (11, .pointer (some ⟨b11, 0, none⟩)), (73, .slice Br s.rs.length dr), (74, .int .i64 (s.rs.length : Nat)), (75, .int .i64 (k : Nat)), (87, .bool (!done && decide (y.1.client ≥ q.client)))] ?_ (fun E => ?_)
    · with_reducible refine JC.region ?_
      refine JL.op (JO.val (y_move) rfl ?_)
      refine JL.op (JO.val (y_not rfl) rfl ?_)
      refine JL.op (JO.val (y_move) rfl ?_)
      refine JL.split (d := 81) rfl (fun hg2 => ?_) (fun hg2 => ?_)
      · refine JL.op_do rfl rfl (congrArg Value.bool hg2) (JO.val (y_fieldAddr rfl rfl rfl) rfl ?_)
        refine JL.op_do rfl rfl (congrArg Value.bool hg2) (JO.val (y_ld 6 rfl rfl rfl rfl) rfl ?_)
        refine JL.op_do rfl rfl (congrArg Value.bool hg2) (JO.val (y_fieldAddr rfl rfl rfl) rfl ?_)
        refine JL.op_do rfl rfl (congrArg Value.bool hg2) (JO.val (y_ld 4 rfl rfl rfl rfl) rfl ?_)
        refine JL.op_do rfl rfl (congrArg Value.bool hg2) (JO.val (y_geq rfl rfl) rfl ?_)
        refine JL.op (JO.val (y_pick (congrArg Value.bool hg2)) rfl ?_)
        with_reducible refine JL.nil ?_
        (refine JQ.has ⟨rfl, rfl, rfl, rfl, rfl, rfl, rfl, rfl, rfl, rfl, rfl, congrArg Value.bool ?_, trivial⟩ (fun _ h => h); (simp_all []; done))
      · refine JL.op_skip rfl rfl (congrArg Value.bool hg2) rfl ?_
        refine JL.op_skip rfl rfl (congrArg Value.bool hg2) rfl ?_
        refine JL.op_skip rfl rfl (congrArg Value.bool hg2) rfl ?_
        refine JL.op_skip rfl rfl (congrArg Value.bool hg2) rfl ?_
        refine JL.op_skip rfl rfl (congrArg Value.bool hg2) rfl ?_
        refine JL.op (JO.val (y_pick (congrArg Value.bool hg2)) rfl ?_)
        with_reducible refine JL.nil ?_
        (refine JQ.has ⟨rfl, rfl, rfl, rfl, rfl, rfl, rfl, rfl, rfl, rfl, rfl, congrArg Value.bool ?_, trivial⟩ (fun _ h => h); (simp_all []; done))
    with_reducible refine JQ.seq ?_
    refine JC.cutI (fun E S F2 w2 => ∃ ob2 cap2 cur2 out2, out2 = out ++ (if !done && decide (y.1.client ≥ q.client) then [(⟨q.client, q.num, (did s.ps s.ep s.ms q.op).code, (did s.ps s.ep s.ms q.op).vals⟩, Av, cv)] else []) ∧ out2.length ≤ 2 * k + 1 ∧ Row ob2 out2.length cap2 4 cur2 ∧ cur2.take (out2.length * 4) = out2.flatMap rcells ∧ S = [(some b2, 28, [.slice Bp (did s.ps s.ep s.ms q.op).ps.length dp, .slice Br s.rs.length dr, .int .i64 (did s.ps s.ep s.ms q.op).ep, .slice Bm (did s.ps s.ep s.ms q.op).ms.length dm]), (some b3, 41, q.cells), (some b4, 28, [.slice none 0 0, .slice none 0 0, .int .i64 0, .slice none 0 0]), (some b5, 45, [.int .i64 0, .int .i64 0, .int .i64 0, .slice none 0 0]), (some b6, 45, rcells (⟨q.client, q.num, (did s.ps s.ep s.ms q.op).code, (did s.ps s.ep s.ms q.op).vals⟩, Av, cv)), (ob2, 45, cur2), (some b11, 45, rcells y)] ∧ F2 = F' ∧ w2 = w1' ∧
      Has E [(2, .pointer (some ⟨b2, 0, none⟩)), (3, .pointer (some ⟨b3, 0, none⟩)), (4, .pointer (some ⟨b4, 0, none⟩)), (5, .pointer (some ⟨b5, 0, none⟩)), (6, .pointer (some ⟨b6, 0, none⟩)), (8, .slice (ob2.map mkA) out2.length cap2), (9, .bool (done || decide (y.1.client ≥ q.client))), (11, .pointer (some ⟨b11, 0, none⟩)), (73, .slice Br s.rs.length dr), (74, .int .i64 (s.rs.length : Nat)), (75, .int .i64 (k : Nat))]) ?_ ?_
    · refine JC.cond rfl (fun hg => ?_) (fun hg => ?_)
      · with_reducible refine JC.seq ?_
        with_reducible refine JC.region ?_
        refine JL.op (JO.val (y_move) rfl ?_)
        refine JL.op (JO.val (y_ldA 4 rfl rfl rfl rfl) rfl ?_)
        refine JL.op (JO.build1 rfl rfl rfl (by first | rfl | assumption) rfl rfl ?_); intro b90
        refine JL.op (JO.append 5 (ob := ob) (rcells (⟨q.client, q.num, (did s.ps s.ep s.ms q.op).code, (did s.ps s.ep s.ms q.op).vals⟩, Av, cv)) rfl rfl rfl rfl rfl rfl rfl hrow' (by first | rfl | omega) (fun h => by cases h) (fun w2 hc => hc.src (i := 7) rfl) (allOne_mem hx1) (room_max2 (by omega)) (by omega) ?_)
        intro ob2 cap2 cur2 hrow3 htk3 _
        refine JL.op (JO.val (y_assign) rfl ?_)
        with_reducible refine JL.nil ?_
        with_reducible refine JQ.seq ?_
        with_reducible refine JC.region ?_
        refine JL.op (JO.val (y_assign) rfl ?_)
        with_reducible refine JL.nil ?_
        refine JQ.takeN 7 (JQ.inv ⟨ob2, cap2, cur2, out ++ [(⟨q.client, q.num, (did s.ps s.ep s.ms q.op).code, (did s.ps s.ep s.ms q.op).vals⟩, Av, cv)], by rw [if_pos hg], by simp; omega, ?_, ?_, rfl, rfl, rfl, ⟨rfl, rfl, rfl, rfl, rfl, ?_, ?_, rfl, rfl, rfl, rfl, trivial⟩⟩)
        · rw [List.length_append]; exact hrow3
        · rw [List.length_append]; exact cur_snoc htk' htk3
        · rw [List.length_append]; rfl
        · exact congrArg Value.bool (by revert hg; cases done <;> simp)
      · with_reducible refine JC.skip ?_
        refine JQ.inv ⟨ob, cap', cur, out, by rw [if_neg (by rw [hg]; simp), List.append_nil], by omega, hrow', htk', rfl, rfl, rfl, ⟨rfl, rfl, rfl, rfl, rfl, rfl, ?_, rfl, rfl, rfl, rfl, trivial⟩⟩
        exact congrArg Value.bool (by revert hg; cases done <;> simp)
    · rintro E S F2 w2 ⟨ob2, cap2, cur2, out2, ho2, hol2, hrow3, htk3, rfl, rfl, rfl, hE⟩
      rw [← List.append_assoc, ← ho2] at hout
      refine JQ.env hE (fun E => ?_)
      clear hrow' htk'
      with_reducible refine JQ.seq (JC.seq ?_)
      with_reducible refine JC.region ?_
      refine JL.op (JO.val (y_fieldAddr rfl rfl rfl) rfl ?_)
      refine JL.op (JO.val (y_ld 6 rfl rfl rfl rfl) rfl ?_)
      refine JL.op (JO.val (y_fieldAddr rfl rfl rfl) rfl ?_)
      refine JL.op (JO.val (y_ld 4 rfl rfl rfl rfl) rfl ?_)
      refine JL.op (JO.val (y_neq rfl rfl) rfl ?_)
      with_reducible refine JL.nil ?_
      with_reducible refine JQ.seq ?_
      refine JC.cond rfl (fun hg => ?_) (fun hg => ?_)
      · rw [if_pos hg] at hout
        with_reducible refine JC.region ?_
        refine JL.op (JO.val (y_move) rfl ?_)
        refine JL.op (JO.val (y_ldA 6 rfl rfl rfl rfl) rfl ?_)
        refine JL.op (JO.build1 rfl rfl rfl (by first | rfl | assumption) rfl rfl ?_); intro b99
        refine JL.op (JO.append 5 (ob := ob2) (rcells y) rfl rfl rfl rfl rfl rfl rfl hrow3 (by first | rfl | omega) (fun h => by cases h) (fun w2 hc => hc.src (i := 7) rfl) (allOne_mem hy1) (room_max2 (by omega)) (by omega) ?_)
        intro ob' cap'' cur' hrow4 htk4 _
        refine JL.op (JO.val (y_assign) rfl ?_)
        with_reducible refine JL.nil ?_
        with_reducible refine JQ.blk (JQ.seq ?_)
        with_reducible refine JC.region ?_
        refine JL.op (JO.val (y_add rfl rfl (natAdd (hlen2 ▸ hk) (by omega))) rfl ?_)
        refine JL.op (JO.val (y_move) rfl ?_)
        with_reducible refine JL.nil ?_
        refine JQ.takeN 6 ?_
        refine JQ.loop (hs2.length - (k + 1)) ⟨k + 1, ob', cap'', cur', _, out2 ++ [y], rfl, by omega, by simp; omega, by rw [← hout]; simp only [List.append_assoc], ?_, ?_, rfl, hF', hw', ⟨rfl, rfl, rfl, rfl, rfl, ?_, rfl, rfl, rfl, rfl, trivial⟩⟩ (by omega)
        · rw [List.length_append]; exact hrow4
        · rw [List.length_append]; exact cur_snoc htk3 htk4
        · rw [List.length_append]; rfl
      · rw [if_neg (by rw [hg]; simp), List.nil_append] at hout
        with_reducible refine JC.skip (JQ.blk (JQ.seq ?_))
        with_reducible refine JC.region ?_
        refine JL.op (JO.val (y_add rfl rfl (natAdd (hlen2 ▸ hk) (by omega))) rfl ?_)
        refine JL.op (JO.val (y_move) rfl ?_)
        with_reducible refine JL.nil ?_
        refine JQ.takeN 6 ?_
        refine JQ.loop (hs2.length - (k + 1)) ⟨k + 1, ob2, cap2, cur2, _, out2, rfl, by omega, by omega, hout, hrow3, htk3, rfl, hF', hw', ⟨rfl, rfl, rfl, rfl, rfl, rfl, rfl, rfl, rfl, rfl, trivial⟩⟩ (by omega)
  · have hd : decide ((k : Int) < (s.rs.length : Int)) = false := by simpa using hlt
    refine JC.cond_false (congrArg Value.bool hd) ?_
    obtain rfl : k = hs2.length := by omega
    rw [List.drop_length] at hout
    have hx1 : allOne (rcells (⟨q.client, q.num, (did s.ps s.ep s.ms q.op).code, (did s.ps s.ep s.ms q.op).vals⟩, Av, cv)) = true := rfl
    with_reducible refine JC.exit (JQ.seq_exit (JQ.loop_exit (JQ.blk_here (JQ.seq (JC.seq (JC.seq ?_))))))
    with_reducible refine JC.region ?_
    refine JL.op (JO.val (y_move) rfl ?_)
    refine JL.op (JO.val (y_not rfl) rfl ?_)
    with_reducible refine JL.nil ?_
    with_reducible refine JQ.seq ?_
    refine JC.cutI (fun E S F2 w2 => ∃ ob2 cap2 cur2 out2, out2 = goW (fun h : LReply × Option Addr × Nat => decide (h.1.client ≥ q.client)) (fun h : LReply × Option Addr × Nat => decide (h.1.client ≠ q.client)) (⟨q.client, q.num, (did s.ps s.ep s.ms q.op).code, (did s.ps s.ep s.ms q.op).vals⟩, Av, cv) hs2 false ∧ Row ob2 out2.length cap2 4 cur2 ∧ cur2.take (out2.length * 4) = out2.flatMap rcells ∧ S = [(some b2, 28, [.slice Bp (did s.ps s.ep s.ms q.op).ps.length dp, .slice Br s.rs.length dr, .int .i64 (did s.ps s.ep s.ms q.op).ep, .slice Bm (did s.ps s.ep s.ms q.op).ms.length dm]), (some b3, 41, q.cells), (some b4, 28, [.slice none 0 0, .slice none 0 0, .int .i64 0, .slice none 0 0]), (some b5, 45, [.int .i64 0, .int .i64 0, .int .i64 0, .slice none 0 0]), (some b6, 45, rcells (⟨q.client, q.num, (did s.ps s.ep s.ms q.op).code, (did s.ps s.ep s.ms q.op).vals⟩, Av, cv)), (ob2, 45, cur2)] ∧ F2 = F' ∧ w2 = w1' ∧
      Has E [(2, .pointer (some ⟨b2, 0, none⟩)), (3, .pointer (some ⟨b3, 0, none⟩)), (4, .pointer (some ⟨b4, 0, none⟩)), (5, .pointer (some ⟨b5, 0, none⟩)), (6, .pointer (some ⟨b6, 0, none⟩)), (8, .slice (ob2.map mkA) out2.length cap2)]) ?_ ?_
    · refine JC.cond rfl (fun hg => ?_) (fun hg => ?_)
      · have hg' : done = false := by simpa using hg
        subst hg'
        with_reducible refine JC.region ?_
        refine JL.op (JO.val (y_move) rfl ?_)
        refine JL.op (JO.val (y_ldA 4 rfl rfl rfl rfl) rfl ?_)
        refine JL.op (JO.build1 rfl rfl rfl (by first | rfl | assumption) rfl rfl ?_); intro b106
        refine JL.op (JO.append 5 (ob := ob) (rcells (⟨q.client, q.num, (did s.ps s.ep s.ms q.op).code, (did s.ps s.ep s.ms q.op).vals⟩, Av, cv)) rfl rfl rfl rfl rfl rfl rfl hrow' (by first | rfl | omega) (fun h => by cases h) (fun w2 hc => hc.src (i := 6) rfl) (allOne_mem hx1) (room_max2 (by omega)) (by omega) ?_)
        intro ob2 cap2 cur2 hrow3 htk3 _
        refine JL.op (JO.val (y_assign) rfl ?_)
        with_reducible refine JL.nil ?_
        refine JQ.takeN 6 (JQ.inv ⟨ob2, cap2, cur2, out ++ [(⟨q.client, q.num, (did s.ps s.ep s.ms q.op).code, (did s.ps s.ep s.ms q.op).vals⟩, Av, cv)], hout, ?_, ?_, rfl, rfl, rfl, ⟨rfl, rfl, rfl, rfl, rfl, ?_, trivial⟩⟩)
        · rw [List.length_append]; exact hrow3
        · rw [List.length_append]; exact cur_snoc htk' htk3
        · rw [List.length_append]; rfl
      · have hg' : done = true := by simpa using hg
        subst hg'
        with_reducible refine JC.skip ?_
        refine JQ.inv ⟨ob, cap', cur, out, by rw [← hout]; exact (List.append_nil _).symm, hrow', htk', rfl, rfl, rfl, ⟨rfl, rfl, rfl, rfl, rfl, rfl, trivial⟩⟩
    · rintro E S F2 w2 ⟨ob2, cap2, cur2, out2, ho2, hrow3, htk3, rfl, rfl, rfl, hE⟩
      have hmap : out2.map (·.1) = withR ⟨q.client, q.num, (did s.ps s.ep s.ms q.op).code, (did s.ps s.ep s.ms q.op).vals⟩ s.rs := by
        rw [ho2, ← hhs2]
        exact goW_map (fun h : LReply × Option Addr × Nat => h.1) (stop := fun r : LReply => decide (r.client ≥ q.client)) (keep := fun r : LReply => decide (r.client ≠ q.client))
      have hl : out2.length = (withR ⟨q.client, q.num, (did s.ps s.ep s.ms q.op).code, (did s.ps s.ep s.ms q.op).vals⟩ s.rs).length := by rw [← hmap, List.length_map]
      have hout2 : ∀ h ∈ out2, h = (⟨q.client, q.num, (did s.ps s.ep s.ms q.op).code, (did s.ps s.ep s.ms q.op).vals⟩, Av, cv) ∨ h ∈ hs2 := fun h hh => goW_mem (ho2 ▸ hh)
      rw [hl] at hE hrow3 htk3
      rw [← hF', ← hw'] at hp2 hm2 hrv hvals2
      refine JQ.env hE (fun E => ?_)
      clear hrow' htk' hrowX hrow2
      with_reducible refine JQ.seq (JC.seq ?_)
      with_reducible refine JC.region ?_
      refine JL.op (JO.val (y_move) rfl ?_)
      refine JL.op (JO.val (y_fieldAddr rfl rfl rfl) rfl ?_)
      refine JL.op (JO.store1 0 rfl rfl rfl rfl rfl rfl rfl ?_)
      with_reducible refine JL.nil ?_
      with_reducible refine JQ.seq (JC.seq ?_)
      refine JC.held [0, 4, 5] ?_
      refine JH.take 0 rfl (by kernel_rfl) (by kernel_rfl) (by kernel_rfl) (fun _ _ _ => y_ldA 0 rfl rfl rfl rfl) rfl (by repeat (first | exact np_fun | exact np_inv | refine np_seq ?_ | refine np_blk ?_ | refine np_loop ?_)) (⟨rfl, rfl, rfl, trivial⟩) ?_
      refine JH.take 1 rfl (by kernel_rfl) (by kernel_rfl) (by kernel_rfl) (fun _ _ _ => y_ldA 4 rfl rfl rfl rfl) rfl (by repeat (first | exact np_fun | exact np_inv | refine np_seq ?_ | refine np_blk ?_ | refine np_loop ?_)) (⟨rfl, rfl, rfl, trivial⟩) ?_
      refine JH.one 2 (by kernel_rfl) (JI.op rfl ?_)
      refine (JO.storeA 2 rfl rfl rfl rfl (by first | rfl | assumption) (by first | rfl | assumption) (by first | rfl | assumption) ?_)
      refine ⟨⟨rfl, rfl, rfl, trivial⟩, ?_⟩
      refine JH.one 3 (by kernel_rfl) (JI.op rfl ?_)
      refine (JO.storeA 3 rfl rfl rfl rfl (by first | rfl | assumption) (by first | rfl | assumption) (by first | rfl | assumption) ?_)
      refine ⟨⟨rfl, rfl, rfl, trivial⟩, ?_⟩
      refine JH.done (by kernel_rfl) ?_
      with_reducible refine JQ.seq (JC.ret ?_)
      refine ret_two rfl (ResV.cellA 2 rfl rfl rfl rfl) (ResV.cellA 3 rfl rfl rfl rfl) (fun w' hc => ?_)
      have hk1 : Step F2 w2 (fun b => F b ∨ w.heap.size ≤ b) w' := hc.step.mono (fun _ h => h) (fun _ h => h.1)
      unfold RApR; rw [had]
      exact ⟨_, _, rfl, ⟨_, _, _, _, _, _, rfl, hp2.step hk1, ⟨out2, hmap, rowSl rfl rfl hc (i := 5) rfl hrow3 htk3, fun h hh => (hout2 h hh).elim (fun e => e ▸ hrv.step hk1) (fun e => (hvals2 h e).step hk1)⟩, hm2.step hk1⟩, ⟨Av, cv, rfl, hrv.step hk1⟩⟩
end Go.Proofs.YtchnnplcpidkiaaDoor
