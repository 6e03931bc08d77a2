/- The contracts of Get, of the law's own 'four' and 'alive'; no condition. -/
import Derived.Test.YtchnnplcpidkiaaDoorC20
namespace Go.Proofs.YtchnnplcpidkiaaDoor
open Go.RowKit
set_option linter.unusedSimpArgs false
set_option linter.unusedVariables false
set_option maxRecDepth 20000
set_option maxHeartbeats 16000000

theorem get_any (F : Nat → Prop) (cs : List Value) (s : LState) (k : ByteArray) (w : World) (h : RState F w cs s) (hn : s.ps.length ≤ 100000) (ho : OrdP s.ps) :
    CallsTo 22 #[.agg cs.toArray, .string k] w (fun v _ => v = .tuple #[.string (valOf s.ps k), .bool (hasP s.ps k)]) := by
  have hRS := h
  obtain ⟨Ap, cp, Ar, cr, Am, cm, rfl, hp, hr, hm⟩ := h.form
  have hB : bsB (fun p : LPair => cmpS p.k k) s.ps = hasP s.ps k := bsB_has ho
  refine CallsTo.enter 22 (fun _ => True) F Tryd.func22 rfl rfl rfl rfl (by intros; first | trivial | assumption) ?_
  with_reducible refine JC.seq ?_
  with_reducible refine JC.region ?_
  refine JL.op (JO.box rfl rfl ?_); intro b2
  refine JL.op (JO.val (y_assign) rfl ?_)
  refine JL.op (JO.val (y_assign) rfl ?_)
  with_reducible refine JL.nil ?_
  with_reducible refine JQ.seq (JC.seq ?_)
  with_reducible refine JC.region ?_
  refine JL.op (JO.val (y_ldA 0 rfl rfl rfl rfl) rfl ?_)
  refine JL.op (JO.val (y_move) rfl ?_)
  refine JL.op (JO.callv (fun wc hc => pairs_any _ Ap cp _ _ _ s.ps k wc (hp.step hc.step) hn) rfl rfl rfl ?_)
  refine JL.op (JO.val (y_move) rfl ?_)
  refine JL.op (JO.val (y_extract rfl rfl) rfl ?_)
  refine JL.op (JO.val (y_extract rfl rfl) rfl ?_)
  refine JL.op (JO.val (y_assign) rfl ?_)
  refine JL.op (JO.val (y_assign) rfl ?_)
  with_reducible refine JL.nil ?_
  with_reducible refine JQ.seq (JC.seq (JC.seq ?_))
  with_reducible refine JC.region ?_
  refine JL.op (JO.val (y_move) rfl ?_)
  refine JL.op (JO.val (y_not rfl) rfl ?_)
  with_reducible refine JL.nil ?_
  with_reducible refine JQ.seq ?_
  refine JC.cond (b := !hasP s.ps k) (congrArg Value.bool (by rw [hB])) (fun hg => ?_) (fun hg => ?_)
  · have hh : hasP s.ps k = false := by simpa using hg
    have hv : valOf s.ps k = ⟨#[]⟩ := by
      unfold valOf
      have : idx (fun p : LPair => p.k.toList == k.toList) s.ps = none := by
        cases hi : idx (fun p : LPair => p.k.toList == k.toList) s.ps with
        | none => rfl
        | some i =>
          obtain ⟨p, hp1, hp2⟩ := idx_at hi
          exfalso
          have : hasP s.ps k = true := List.any_eq_true.2 ⟨p, List.mem_of_getElem? hp1, hp2⟩
          rw [hh] at this; cases this
      rw [this]
    with_reducible refine JC.seq ?_
    with_reducible refine JC.region ?_
    refine JL.op (JO.val (y_assign) rfl ?_)
    refine JL.op (JO.val (y_assign) rfl ?_)
    with_reducible refine JL.nil ?_
    with_reducible refine JQ.seq (JC.ret (JQ.seq_ret ?_))
    rw [hh, hv]
    exact ret_two rfl ResV.tmp ResV.tmp (fun w' hc => rfl)
  · have hh : hasP s.ps k = true := by simpa using hg
    obtain ⟨y, hy, hyk, hlt⟩ := has_here ho hh
    have hv := valOf_here ho hh hy
    obtain ⟨b, o, hA, hat⟩ := SlF.elem hp pair_len rfl hy
    with_reducible refine JC.skip (JQ.seq (JC.seq ?_))
    with_reducible refine JC.region ?_
    refine JL.op (JO.val (y_fieldAddr rfl rfl rfl) rfl ?_)
    refine JL.op (JO.val (y_ld 0 rfl rfl rfl rfl) rfl ?_)
    refine JL.op (JO.val (y_move) rfl ?_)
    refine JL.op (JO.val (y_idx (b := b) (o := o) (j := bsI (cK k) s.ps) rfl rfl rfl rfl hA rfl hlt) rfl ?_)
    refine JL.op (JO.val (y_fieldAddr rfl rfl rfl) rfl ?_)
    refine JL.op (JO.val (y_ldd rfl rfl (At.cell1 (j := 1) hat rfl)) rfl ?_)
    refine JL.op (JO.val (y_assign) rfl ?_)
    refine JL.op (JO.val (y_assign) rfl ?_)
    with_reducible refine JL.nil ?_
    with_reducible refine JQ.seq (JC.ret ?_)
    rw [hh, hv]
    exact ret_two rfl ResV.tmp ResV.tmp (fun w' hc => rfl)
def zkey : LKey := ⟨List.replicate 32 (.int .u8 0), 0⟩
def mm (i : Int) : LMember := ⟨i, zkey⟩
theorem zkey_wf : zkey.wf := ⟨rfl, fun v hv => ⟨0, List.eq_of_mem_replicate hv, by omega, by omega⟩, by unfold I64; decide⟩
theorem mm_wf {i : Int} (h : I64 i) : (mm i).wf := ⟨h, zkey_wf⟩
theorem four_any (w : World) : CallsTo 21 #[] w (fun v w' => ∃ A, v = .agg #[.int .i64 0, .slice A 4 4] ∧ OwnF (fun b => w.heap.size ≤ b) w' 55 34 A 4 4 ([mm 1, mm 2, mm 3, mm 4].flatMap LMember.cells)) := by
  refine CallsTo.enter 7 (fun _ => True) (fun _ => True) Tryd.func21 rfl rfl rfl rfl (by intros; first | trivial | assumption) ?_
  with_reducible refine JC.seq ?_
  with_reducible refine JC.region ?_
  refine JL.op (JO.alloc rfl rfl ?_); intro b0
  with_reducible refine JL.nil ?_
  with_reducible refine JQ.seq (JC.seq ?_)
  with_reducible refine JC.region ?_
  refine JL.op (JO.val (y_build rfl rfl (⟨_, _, _, rfl, rfl, rfl, rfl, rfl⟩)) rfl ?_)
  refine JL.op (JO.val (y_build rfl rfl (⟨_, _, _, rfl, rfl, rfl, rfl, rfl⟩)) rfl ?_)
  refine JL.op (JO.val (y_build rfl rfl (⟨_, _, _, rfl, rfl, rfl, rfl, rfl⟩)) rfl ?_)
  refine JL.op (JO.val (y_build rfl rfl (⟨_, _, _, rfl, rfl, rfl, rfl, rfl⟩)) rfl ?_)
  refine JL.op (JO.buildN rfl rfl (⟨_, _, rfl, rfl, rfl, rfl, ⟨_, _, rfl, rfl, rfl, rfl, ⟨_, _, rfl, rfl, rfl, rfl, ⟨_, _, rfl, rfl, rfl, rfl, rfl⟩⟩⟩⟩) rfl rfl rfl ?_); intro b5
  refine JL.op (JO.val (y_build rfl rfl (⟨_, _, _, rfl, rfl, rfl, rfl, rfl⟩)) rfl ?_)
  refine JL.op (JO.storeA 0 rfl rfl rfl rfl (by first | rfl | assumption) (by first | rfl | assumption) (by first | rfl | assumption) ?_)
  with_reducible refine JL.nil ?_
  with_reducible refine JQ.seq (JC.ret ?_)
  refine ret_one rfl (ResV.cellA 0 rfl rfl rfl rfl) (fun w' hc => ?_)
  exact ⟨_, rfl, some b5, [mm 1, mm 2, mm 3, mm 4].flatMap LMember.cells, rfl, ⟨rfl, Nat.le_refl _, by decide, fun h => by cases h⟩, rfl, fun b hb => hc.own0 rfl (some b5, 55, [mm 1, mm 2, mm 3, mm 4].flatMap LMember.cells) (List.mem_of_getElem? (i := 1) rfl) b hb⟩
def chg0 : LChange := ⟨0, 0, 0, zkey⟩
def aq1 : LReq := ⟨1, 1, ⟨2, ⟨#[97]⟩, ⟨#[49]⟩, ⟨#[]⟩, chg0⟩⟩
def aq2 : LReq := ⟨2, 1, ⟨4, ⟨#[97]⟩, ⟨#[50]⟩, ⟨#[48]⟩, chg0⟩⟩
def as0 : LState := ⟨[], [], 0, [mm 1, mm 2, mm 3, mm 4]⟩
theorem tl1 (x : UInt8) : (⟨#[x]⟩ : ByteArray).toList = [x] := ByteArray.toList_mk [x]
theorem tl0 : (⟨#[]⟩ : ByteArray).toList = [] := ByteArray.toList_mk []
theorem as1 : applyD as0 aq1 = (⟨[⟨⟨#[97]⟩, ⟨#[49]⟩⟩], [⟨1, 1, 0, []⟩], 0, [mm 1, mm 2, mm 3, mm 4]⟩, ⟨1, 1, 0, []⟩) := by
  have hg : goodB aq1 = true := rfl
  have hd : did [] 0 [mm 1, mm 2, mm 3, mm 4] aq1.op = ⟨[⟨⟨#[97]⟩, ⟨#[49]⟩⟩], 0, [mm 1, mm 2, mm 3, mm 4], 0, []⟩ := by
    unfold did
    rw [if_neg (by simp [aq1]), if_neg (by simp [aq1]), if_pos (show aq1.op.kind = 2 from rfl)]
    rfl
  unfold applyD
  rw [if_neg (by rw [hg]; simp)]
  show doneD as0 aq1 = _
  unfold doneD
  rw [show did as0.ps as0.ep as0.ms aq1.op = _ from hd]
  rfl
theorem as2 : applyD ⟨[⟨⟨#[97]⟩, ⟨#[49]⟩⟩], [⟨1, 1, 0, []⟩], 0, [mm 1, mm 2, mm 3, mm 4]⟩ aq2 = (⟨[⟨⟨#[97]⟩, ⟨#[49]⟩⟩], [⟨1, 1, 0, []⟩, ⟨2, 1, 9, [⟨#[49]⟩]⟩], 0, [mm 1, mm 2, mm 3, mm 4]⟩, ⟨2, 1, 9, [⟨#[49]⟩]⟩) := by
  have hg : goodB aq2 = true := rfl
  have hh : hasP [⟨⟨#[97]⟩, ⟨#[49]⟩⟩] aq2.op.key = true := by simp [hasP, aq2]
  have hv : valOf [⟨⟨#[97]⟩, ⟨#[49]⟩⟩] aq2.op.key = ⟨#[49]⟩ := by simp [valOf, idx, aq2]
  have hd : did [⟨⟨#[97]⟩, ⟨#[49]⟩⟩] 0 [mm 1, mm 2, mm 3, mm 4] aq2.op = ⟨[⟨⟨#[97]⟩, ⟨#[49]⟩⟩], 0, [mm 1, mm 2, mm 3, mm 4], 9, [⟨#[49]⟩]⟩ := by
    unfold did
    rw [hh, hv, if_neg (by simp), if_neg (by simp [aq2]), if_neg (by simp [aq2]), if_neg (by simp [aq2]), if_pos (show aq2.op.kind = 4 from rfl), if_neg (by rw [tl1]; simp [aq2, tl1])]
  unfold applyD
  rw [if_neg (by rw [hg]; simp)]
  have hi : idx (fun r : LReply => decide (r.client = aq2.client)) [⟨1, 1, 0, []⟩] = none := rfl
  simp only [hi]
  unfold doneD
  rw [hd]
  rfl
theorem as_all : allD as0 [aq1, aq2] = ⟨[⟨⟨#[97]⟩, ⟨#[49]⟩⟩], [⟨1, 1, 0, []⟩, ⟨2, 1, 9, [⟨#[49]⟩]⟩], 0, [mm 1, mm 2, mm 3, mm 4]⟩ ∧ allR as0 [aq1, aq2] = [⟨1, 1, 0, []⟩, ⟨2, 1, 9, [⟨#[49]⟩]⟩] := by
  simp only [allD, allR, as1, as2, and_self]
theorem aq_wf : ∀ q ∈ [aq1, aq2], q.wf := by
  have hz : I64 0 := by unfold I64; decide
  have h1 : I64 1 := by unfold I64; decide
  have h2 : I64 2 := by unfold I64; decide
  have h4 : I64 4 := by unfold I64; decide
  have hc : chg0.wf := ⟨hz, hz, hz, zkey_wf⟩
  have hs : ∀ x : UInt8, (⟨#[x]⟩ : ByteArray).size ≤ strMax := fun x => by show 1 ≤ strMax; decide
  have hs0 : (⟨#[]⟩ : ByteArray).size ≤ strMax := Nat.zero_le _
  intro q hq
  rcases List.mem_cons.1 hq with rfl | hq
  · exact ⟨h1, h1, h2, hs _, hs _, hs0, hc⟩
  · rw [List.mem_singleton.1 hq]
    exact ⟨h2, h1, h4, hs _, hs _, hs _, hc⟩
theorem as_fit : Fit 0 as0 := by
  refine ⟨⟨fun p hp => (by cases hp), fun r hr => (by cases hr), (by unfold I64; decide), fun m hm => ?_⟩, ⟨by decide, by decide, by decide, fun r hr => (by cases hr)⟩, List.Pairwise.nil, List.Pairwise.nil⟩
  have : ∀ i ∈ [(1 : Int), 2, 3, 4], m = mm i → m.wf := fun i hi e => by
    rw [e]
    simp only [List.mem_cons, List.not_mem_nil, or_false] at hi
    exact mm_wf (by unfold I64; omega)
  simp only [as0, List.mem_cons, List.not_mem_nil, or_false] at hm
  rcases hm with h | h | h | h
  · exact this 1 (by simp) h
  · exact this 2 (by simp) h
  · exact this 3 (by simp) h
  · exact this 4 (by simp) h
theorem map_two {α β : Type} {f : α → β} {x y : β} : ∀ {hs : List α}, hs.map f = [x, y] → ∃ h0 h1, hs = [h0, h1] ∧ f h0 = x ∧ f h1 = y
  | [], h => by simp at h
  | [a], h => by simp at h
  | [a, b], h => by simp at h; exact ⟨a, b, rfl, h.1, h.2⟩
  | a :: b :: c :: l, h => by simp at h
theorem alive_any (F : Nat → Prop) (w : World) (htab : Tab F w) : CallsTo 7 #[] w (fun v _ => v = .bool true) := by
  refine CallsTo.enter 45 (fun _ => True) F Tryd.func7 rfl rfl rfl rfl (by intros; first | trivial | assumption) ?_
  with_reducible refine JC.seq ?_
  with_reducible refine JC.region ?_
  refine JL.op (JO.val (y_assign) rfl ?_)
  with_reducible refine JL.nil ?_
  with_reducible refine JQ.seq (JC.seq ?_)
  with_reducible refine JC.region ?_
  refine JL.op (JO.call _ (fun wc hc => four_any wc) rfl rfl rfl ?_)
  rintro wc v wn hst hsz hfr hbl hst0 ⟨A4, rfl, ho4⟩
  replace htab := htab.step hst
  refine JL.op (JO.call _ (fun wc hc => new_any (fun b => True) 0 A4 4 4 _ wc (SlF.step ((ho4.weak hfr).slF) (hc.step.mono (fun _ h => h) (fun _ _ => trivial)) (by omega)) (fun u hu => by obtain ⟨m, hm, hu⟩ := List.mem_flatMap.1 hu; exact LMember.one (as_fit.wf.ms m hm) u hu) (by omega)) rfl rfl rfl ?_)
  rintro wc2 v wn2 hst2 hsz2 hfr2 hbl2 hst02 ⟨vm, rfl, hfm⟩
  replace htab := htab.step hst2
  obtain ⟨Am, cm, rfl, hom⟩ := hfm.own
  refine JL.op (JO.val (y_build rfl rfl (⟨_, _, _, rfl, rfl, rfl, rfl, ⟨_, _, _, rfl, rfl, rfl, rfl, ⟨_, _, _, rfl, rfl, rfl, rfl, rfl⟩⟩⟩)) rfl ?_)
  refine JL.op (JO.val (y_build rfl rfl (⟨_, _, _, rfl, rfl, rfl, rfl, ⟨_, _, _, rfl, rfl, rfl, rfl, ⟨_, _, _, rfl, rfl, rfl, rfl, rfl⟩⟩⟩)) rfl ?_)
  refine JL.op (JO.val (y_build rfl rfl (⟨_, _, _, rfl, rfl, rfl, rfl, ⟨_, _, _, rfl, rfl, rfl, rfl, ⟨_, _, _, rfl, rfl, rfl, rfl, ⟨_, _, _, rfl, rfl, rfl, rfl, rfl⟩⟩⟩⟩)) rfl ?_)
  refine JL.op (JO.val (y_build rfl rfl (⟨_, _, _, rfl, rfl, rfl, rfl, ⟨_, _, _, rfl, rfl, rfl, rfl, ⟨_, _, _, rfl, rfl, rfl, rfl, rfl⟩⟩⟩)) rfl ?_)
  refine JL.op (JO.buildN rfl rfl (⟨_, _, rfl, rfl, rfl, rfl, ⟨_, _, rfl, rfl, rfl, rfl, rfl⟩⟩) rfl rfl rfl ?_); intro b12
  refine JL.op (JO.call _ (fun wc hc => all_any (fun b => True) _ as0 _ _ [aq1, aq2] wc ⟨none, 0, none, 0, Am, cm, rfl, ⟨Nat.le_refl _, by decide, rfl, fun _ => ⟨rfl, rfl⟩, fun h => absurd h (by decide)⟩, ⟨[], rfl, ⟨Nat.le_refl _, by decide, rfl, fun _ => ⟨rfl, rfl⟩, fun h => absurd h (by decide)⟩, fun x hx => (by cases hx)⟩, SlF.step ((hom.weak hfr2).slF) (hc.step.mono (fun _ h => h) (fun _ _ => trivial)) (by omega)⟩ (SlF.step (rowSl (F := fun _ => True) (n := 2) (cap := 2) (sz := 42) (cs := [aq1, aq2].flatMap LReq.cells) rfl rfl hc (i := 0) rfl ⟨rfl, Nat.le_refl _, by decide, fun h => by cases h⟩ rfl) (Step.weak fun _ _ => trivial) (by omega)) as_fit aq_wf (by decide) ((htab.step hc.step).step (Step.weak fun _ _ => trivial))) rfl rfl rfl ?_)
  rintro wc3 v wn3 hst3 hsz3 hfr3 hbl3 hst03 ⟨cs3, A3, c3, hs, rfl, hos, hmap, hov⟩
  rw [as_all.1] at hos
  rw [as_all.2] at hmap
  obtain ⟨hl4, hl1⟩ := hos.four
  refine JL.op (JO.val (y_move) rfl ?_)
  refine JL.op (JO.val (y_extract rfl rfl) rfl ?_)
  refine JL.op (JO.val (y_extract rfl rfl) rfl ?_)
  refine JL.op (JO.alloc rfl rfl ?_); intro b1
  refine JL.op (JO.storeA 1 rfl rfl rfl rfl (by first | rfl | assumption) (by first | rfl | assumption) (by first | rfl | assumption) ?_)
  refine JL.op (JO.val (y_assign) rfl ?_)
  with_reducible refine JL.nil ?_
  obtain ⟨h0, h1, rfl, e0, e1⟩ := map_two hmap
  replace hos := hos.weak (fun b hb => hfr3 b hb)
  replace hov := (hov.weak (fun b hb => hfr3 b hb)).slF
  with_reducible refine JQ.seq (JC.seq ?_)
  with_reducible refine JC.region ?_
  refine JL.op (JO.val (y_ldA 1 rfl rfl rfl hl4) rfl ?_)
  refine JL.op (JO.callv (fun wc hc => get_any _ _ _ ⟨#[97]⟩ wc (hos.reads.step hc.step) (by decide) (List.pairwise_singleton _ _)) rfl rfl rfl ?_)
  refine JL.op (JO.val (y_move) rfl ?_)
  refine JL.op (JO.val (y_extract rfl rfl) rfl ?_)
  refine JL.op (JO.val (y_extract rfl rfl) rfl ?_)
  refine JL.op (JO.val (y_assign) rfl ?_)
  refine JL.op (JO.val (y_assign) rfl ?_)
  with_reducible refine JL.nil ?_
  obtain ⟨bA, oA, hA3, hat0⟩ := SlF.elem hov rcells_len rfl (i := 0) rfl
  obtain ⟨bB, oB, hB3, hat1⟩ := SlF.elem hov rcells_len rfl (i := 1) rfl
  have hc0 : At _ wn3 bA (oA + 0 * 4 + 2) [.int .i64 0] := At.cell1 (j := 2) hat0 (by show some (Value.int .i64 h0.1.code) = _; rw [e0])
  have hc1 : At _ wn3 bB (oB + 1 * 4 + 2) [.int .i64 9] := At.cell1 (j := 2) hat1 (by show some (Value.int .i64 h1.1.code) = _; rw [e1])
  have hg1 : hasP [⟨⟨#[97]⟩, ⟨#[49]⟩⟩] ⟨#[97]⟩ = true := by simp [hasP]
  have hg2 : valOf [⟨⟨#[97]⟩, ⟨#[49]⟩⟩] ⟨#[97]⟩ = ⟨#[49]⟩ := by simp [valOf, idx]
  rw [hg1, hg2]
  with_reducible refine JQ.seq (JC.seq ?_)
  with_reducible refine JC.region ?_
  refine JL.op (JO.val (y_move) rfl ?_)
  refine JL.op (JO.val (y_len rfl rfl) rfl ?_)
  refine JL.op (JO.val (y_eql rfl rfl) rfl ?_)
  refine JL.op (JO.val (y_move) rfl ?_)
  refine JL.op_do rfl rfl rfl (JO.val (y_move) rfl ?_)
  refine JL.op_do rfl rfl rfl (JO.val (y_idx (b := bA) (o := oA) (j := 0) rfl rfl rfl rfl hA3 rfl (by decide)) rfl ?_)
  refine JL.op_do rfl rfl rfl (JO.val (y_fieldAddr rfl rfl rfl) rfl ?_)
  refine JL.op_do rfl rfl rfl (JO.val (y_ldd rfl rfl hc0) rfl ?_)
  refine JL.op_do rfl rfl rfl (JO.val (y_eql rfl rfl) rfl ?_)
  refine JL.op (JO.val (y_pick rfl) rfl ?_)
  refine JL.op (JO.val (y_move) rfl ?_)
  refine JL.op_do rfl rfl rfl (JO.val (y_move) rfl ?_)
  refine JL.op_do rfl rfl rfl (JO.val (y_idx (b := bB) (o := oB) (j := 1) rfl rfl rfl rfl hB3 rfl (by decide)) rfl ?_)
  refine JL.op_do rfl rfl rfl (JO.val (y_fieldAddr rfl rfl rfl) rfl ?_)
  refine JL.op_do rfl rfl rfl (JO.val (y_ldd rfl rfl hc1) rfl ?_)
  refine JL.op_do rfl rfl rfl (JO.val (y_eql rfl rfl) rfl ?_)
  refine JL.op (JO.val (y_pick rfl) rfl ?_)
  refine JL.op (JO.val (y_move) rfl ?_)
  refine JL.op_do rfl rfl rfl (JO.val (y_move) rfl ?_)
  refine JL.op (JO.val (y_pick rfl) rfl ?_)
  refine JL.op (JO.val (y_move) rfl ?_)
  refine JL.op_do rfl rfl rfl (JO.val (y_move) rfl ?_)
  refine JL.op_do rfl rfl rfl (JO.val (y_eqs rfl rfl) rfl ?_)
  refine JL.op (JO.val (y_pick rfl) rfl ?_)
  refine JL.op (JO.val (y_assign) rfl ?_)
  with_reducible refine JL.nil ?_
  with_reducible refine JQ.seq (JC.ret ?_)
  exact ret_one rfl ResV.tmp (fun w' hc => congrArg Value.bool (by simp [tl1]))
end Go.Proofs.YtchnnplcpidkiaaDoor
