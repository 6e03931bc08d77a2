/- Contracts of config.Good and the references' Right, Good, Without, With; no condition but bounds on lengths. -/
import Derived.Test.YtchnnplcpidkiaaDoorC6
namespace Go.Proofs.YtchnnplcpidkiaaDoor
open Go.RowKit
set_option linter.unusedSimpArgs false
set_option linter.unusedVariables false
set_option maxRecDepth 20000

theorem right8_any (m : LMember) (hm : m.wf) (w : World) : CallsTo 81 #[.agg m.cells.toArray] w (fun v _ => v = .bool (rightB m)) := by
  refine CallsTo.enter 23 (fun _ => True) (fun _ => True) Tryd.func81 rfl rfl rfl rfl (by intros; first | trivial | assumption) ?_
  with_reducible refine JC.seq ?_
  with_reducible refine JC.region ?_
  refine JL.op (JO.box rfl rfl ?_); intro b1
  refine JL.op (JO.val (y_assign) rfl ?_)
  with_reducible refine JL.nil ?_
  with_reducible refine JQ.seq (JC.seq ?_)
  refine JC.cutS [(2, .bool (rightB m))] ?_ (fun E => ?_)
  · with_reducible refine JC.region ?_
    refine JL.op (JO.val (y_fieldAddr rfl rfl rfl) rfl ?_)
    refine JL.op (JO.val (y_ld 0 rfl rfl rfl rfl) rfl ?_)
    refine JL.op (JO.val (y_gtr rfl rfl) rfl ?_)
    refine JL.op (JO.val (y_move) rfl ?_)
    refine JL.split (d := 6) rfl (fun hg3 => ?_) (fun hg3 => ?_)
    · refine JL.op_do rfl rfl (congrArg Value.bool hg3) (JO.val (y_fieldAddr rfl rfl rfl) rfl ?_)
      refine JL.op_do rfl rfl (congrArg Value.bool hg3) (JO.val (y_ld 0 rfl rfl rfl rfl) rfl ?_)
      refine JL.op_do rfl rfl (congrArg Value.bool hg3) (JO.val (y_lss rfl rfl) rfl ?_)
      refine JL.op (JO.val (y_pick (congrArg Value.bool hg3)) rfl ?_)
      refine JL.op (JO.val (y_move) rfl ?_)
      refine JL.split (d := 11) rfl (fun hg8 => ?_) (fun hg8 => ?_)
      · refine JL.op_do rfl rfl (congrArg Value.bool hg8) (JO.val (y_fieldAddr rfl rfl rfl) rfl ?_)
        refine JL.op_do rfl rfl (congrArg Value.bool hg8) (JO.val (y_fieldAddr rfl rfl rfl) rfl ?_)
        refine JL.op_do rfl rfl (congrArg Value.bool hg8) (JO.val (y_ld 0 rfl rfl rfl (LMember.nth33 hm)) rfl ?_)
        refine JL.op_do rfl rfl (congrArg Value.bool hg8) (JO.val (y_geq rfl rfl) rfl ?_)
        refine JL.op (JO.val (y_pick (congrArg Value.bool hg8)) rfl ?_)
        refine JL.op (JO.val (y_move) rfl ?_)
        refine JL.split (d := 17) rfl (fun hg14 => ?_) (fun hg14 => ?_)
        · refine JL.op_do rfl rfl (congrArg Value.bool hg14) (JO.val (y_fieldAddr rfl rfl rfl) rfl ?_)
          refine JL.op_do rfl rfl (congrArg Value.bool hg14) (JO.val (y_fieldAddr rfl rfl rfl) rfl ?_)
          refine JL.op_do rfl rfl (congrArg Value.bool hg14) (JO.val (y_ld 0 rfl rfl rfl (LMember.nth33 hm)) rfl ?_)
          refine JL.op_do rfl rfl (congrArg Value.bool hg14) (JO.val (y_lss rfl rfl) rfl ?_)
          refine JL.op (JO.val (y_pick (congrArg Value.bool hg14)) rfl ?_)
          refine JL.op (JO.val (y_assign) rfl ?_)
          with_reducible refine JL.nil ?_
          (refine JQ.has ⟨congrArg Value.bool ?_, trivial⟩ (fun _ h => h); (rw [Bool.eq_iff_iff]; simp_all [rightB]; omega))
        · refine JL.op_skip rfl rfl (congrArg Value.bool hg14) rfl ?_
          refine JL.op_skip rfl rfl (congrArg Value.bool hg14) rfl ?_
          refine JL.op_skip rfl rfl (congrArg Value.bool hg14) rfl ?_
          refine JL.op_skip rfl rfl (congrArg Value.bool hg14) rfl ?_
          refine JL.op (JO.val (y_pick (congrArg Value.bool hg14)) rfl ?_)
          refine JL.op (JO.val (y_assign) rfl ?_)
          with_reducible refine JL.nil ?_
          (refine JQ.has ⟨congrArg Value.bool ?_, trivial⟩ (fun _ h => h); (rw [Bool.eq_iff_iff]; simp_all [rightB]; omega))
      · refine JL.op_skip rfl rfl (congrArg Value.bool hg8) rfl ?_
        refine JL.op_skip rfl rfl (congrArg Value.bool hg8) rfl ?_
        refine JL.op_skip rfl rfl (congrArg Value.bool hg8) rfl ?_
        refine JL.op_skip rfl rfl (congrArg Value.bool hg8) rfl ?_
        refine JL.op (JO.val (y_pick (congrArg Value.bool hg8)) rfl ?_)
        refine JL.op (JO.val (y_move) rfl ?_)
        refine JL.op_skip rfl rfl rfl rfl ?_
        refine JL.op_skip rfl rfl rfl rfl ?_
        refine JL.op_skip rfl rfl rfl rfl ?_
        refine JL.op_skip rfl rfl rfl rfl ?_
        refine JL.op (JO.val (y_pick rfl) rfl ?_)
        refine JL.op (JO.val (y_assign) rfl ?_)
        with_reducible refine JL.nil ?_
        (refine JQ.has ⟨congrArg Value.bool ?_, trivial⟩ (fun _ h => h); (rw [Bool.eq_iff_iff]; simp_all [rightB]; omega))
    · refine JL.op_skip rfl rfl (congrArg Value.bool hg3) rfl ?_
      refine JL.op_skip rfl rfl (congrArg Value.bool hg3) rfl ?_
      refine JL.op_skip rfl rfl (congrArg Value.bool hg3) rfl ?_
      refine JL.op (JO.val (y_pick (congrArg Value.bool hg3)) rfl ?_)
      refine JL.op (JO.val (y_move) rfl ?_)
      refine JL.op_skip rfl rfl rfl rfl ?_
      refine JL.op_skip rfl rfl rfl rfl ?_
      refine JL.op_skip rfl rfl rfl rfl ?_
      refine JL.op_skip rfl rfl rfl rfl ?_
      refine JL.op (JO.val (y_pick rfl) rfl ?_)
      refine JL.op (JO.val (y_move) rfl ?_)
      refine JL.op_skip rfl rfl rfl rfl ?_
      refine JL.op_skip rfl rfl rfl rfl ?_
      refine JL.op_skip rfl rfl rfl rfl ?_
      refine JL.op_skip rfl rfl rfl rfl ?_
      refine JL.op (JO.val (y_pick rfl) rfl ?_)
      refine JL.op (JO.val (y_assign) rfl ?_)
      with_reducible refine JL.nil ?_
      (refine JQ.has ⟨congrArg Value.bool ?_, trivial⟩ (fun _ h => h); (rw [Bool.eq_iff_iff]; simp_all [rightB]; omega))
  with_reducible refine JQ.seq (JC.ret ?_)
  exact ret_one rfl ResV.tmp (fun w _ => rfl)

/-- Does the member at i fit, and stand behind the one ahead of it? -/
def okAt (ms : List LMember) (i : Nat) : Bool := match ms[i]? with
  | some m => rightB m && (decide (i = 0) || match ms[i - 1]? with | some p => decide (p.id < m.id) | none => true)
  | none => true
def cfgOut (ep : Int) (ms : List LMember) : Bool := decide (ep < 0) || decide (ep > 1073741824) || decide (ms.length = 0) || decide (ms.length > 10)
def cfgGood (ep : Int) (ms : List LMember) : Bool := !cfgOut ep ms && (List.range ms.length).all (okAt ms)
theorem range_snoc {k : Nat} {p : Nat → Bool} (h : (List.range k).all p = true) (h1 : p k = true) : (List.range (k + 1)).all p = true := by
  rw [List.range_succ, List.all_append, h]; simp [h1]
theorem range_false {k n : Nat} {p : Nat → Bool} (h : k < n) (h1 : p k = false) : (List.range n).all p = false := by
  rw [List.all_eq_false]; exact ⟨k, by simpa using h, by simp [h1]⟩
theorem cfg_good74 (F : Nat → Prop) (ep : Int) (A : Option Addr) (cap : Nat) (ms : List LMember) (w : World) (h : RMems F w A cap ms) (hn : ms.length ≤ 100000) (hwf : ∀ m ∈ ms, m.wf) :
    CallsTo 74 #[.agg [.int .i64 ep, .slice A ms.length cap].toArray] w (fun v _ => v = .bool (cfgGood ep ms)) := by
  refine CallsTo.enter 53 (fun _ => True) F Tryd.func74 rfl rfl rfl rfl (by intros; first | trivial | assumption) ?_
  with_reducible refine JC.seq ?_
  with_reducible refine JC.region ?_
  refine JL.op (JO.box rfl rfl ?_); intro b1
  refine JL.op (JO.val (y_assign) rfl ?_)
  with_reducible refine JL.nil ?_
  with_reducible refine JQ.seq (JC.seq (JC.seq ?_))
  refine JC.cutS [(1, .pointer (some ⟨b1, 0, none⟩)), (24, .bool (cfgOut ep ms))] ?_ (fun E => ?_)
  · with_reducible refine JC.region ?_
    refine JL.op (JO.val (y_fieldAddr rfl rfl rfl) rfl ?_)
    refine JL.op (JO.val (y_ld 0 rfl rfl rfl rfl) rfl ?_)
    refine JL.op (JO.val (y_lss rfl rfl) rfl ?_)
    refine JL.op (JO.val (y_move) rfl ?_)
    refine JL.split (d := 8) rfl (fun hg3 => ?_) (fun hg3 => ?_)
    · refine JL.op_skip rfl rfl (congrArg Value.bool hg3) rfl ?_
      refine JL.op_skip rfl rfl (congrArg Value.bool hg3) rfl ?_
      refine JL.op_skip rfl rfl (congrArg Value.bool hg3) rfl ?_
      refine JL.op (JO.val (y_pick (congrArg Value.bool hg3)) rfl ?_)
      refine JL.op (JO.val (y_move) rfl ?_)
      refine JL.op_skip rfl rfl rfl rfl ?_
      refine JL.op_skip rfl rfl rfl rfl ?_
      refine JL.op_skip rfl rfl rfl rfl ?_
      refine JL.op_skip rfl rfl rfl rfl ?_
      refine JL.op (JO.val (y_pick rfl) rfl ?_)
      refine JL.op (JO.val (y_move) rfl ?_)
      refine JL.op_skip rfl rfl rfl rfl ?_
      refine JL.op_skip rfl rfl rfl rfl ?_
      refine JL.op_skip rfl rfl rfl rfl ?_
      refine JL.op_skip rfl rfl rfl rfl ?_
      refine JL.op (JO.val (y_pick rfl) rfl ?_)
      with_reducible refine JL.nil ?_
      (refine JQ.has ⟨rfl, congrArg Value.bool ?_, trivial⟩ (fun _ h => h); (simp_all [cfgOut]; done))
    · refine JL.op_do rfl rfl (congrArg Value.bool hg3) (JO.val (y_fieldAddr rfl rfl rfl) rfl ?_)
      refine JL.op_do rfl rfl (congrArg Value.bool hg3) (JO.val (y_ld 0 rfl rfl rfl rfl) rfl ?_)
      refine JL.op_do rfl rfl (congrArg Value.bool hg3) (JO.val (y_gtr rfl rfl) rfl ?_)
      refine JL.op (JO.val (y_pick (congrArg Value.bool hg3)) rfl ?_)
      refine JL.op (JO.val (y_move) rfl ?_)
      refine JL.split (d := 13) rfl (fun hg8 => ?_) (fun hg8 => ?_)
      · refine JL.op_skip rfl rfl (congrArg Value.bool hg8) rfl ?_
        refine JL.op_skip rfl rfl (congrArg Value.bool hg8) rfl ?_
        refine JL.op_skip rfl rfl (congrArg Value.bool hg8) rfl ?_
        refine JL.op_skip rfl rfl (congrArg Value.bool hg8) rfl ?_
        refine JL.op (JO.val (y_pick (congrArg Value.bool hg8)) rfl ?_)
        refine JL.op (JO.val (y_move) rfl ?_)
        refine JL.op_skip rfl rfl rfl rfl ?_
        refine JL.op_skip rfl rfl rfl rfl ?_
        refine JL.op_skip rfl rfl rfl rfl ?_
        refine JL.op_skip rfl rfl rfl rfl ?_
        refine JL.op (JO.val (y_pick rfl) rfl ?_)
        with_reducible refine JL.nil ?_
        (refine JQ.has ⟨rfl, congrArg Value.bool ?_, trivial⟩ (fun _ h => h); (simp_all [cfgOut]; done))
      · refine JL.op_do rfl rfl (congrArg Value.bool hg8) (JO.val (y_fieldAddr rfl rfl rfl) rfl ?_)
        refine JL.op_do rfl rfl (congrArg Value.bool hg8) (JO.val (y_ld 0 rfl rfl rfl rfl) rfl ?_)
        refine JL.op_do rfl rfl (congrArg Value.bool hg8) (JO.val (y_len rfl rfl) rfl ?_)
        refine JL.op_do rfl rfl (congrArg Value.bool hg8) (JO.val (y_eql rfl rfl) rfl ?_)
        refine JL.op (JO.val (y_pick (congrArg Value.bool hg8)) rfl ?_)
        refine JL.op (JO.val (y_move) rfl ?_)
        refine JL.split (d := 19) rfl (fun hg14 => ?_) (fun hg14 => ?_)
        · refine JL.op_skip rfl rfl (congrArg Value.bool hg14) rfl ?_
          refine JL.op_skip rfl rfl (congrArg Value.bool hg14) rfl ?_
          refine JL.op_skip rfl rfl (congrArg Value.bool hg14) rfl ?_
          refine JL.op_skip rfl rfl (congrArg Value.bool hg14) rfl ?_
          refine JL.op (JO.val (y_pick (congrArg Value.bool hg14)) rfl ?_)
          with_reducible refine JL.nil ?_
          (refine JQ.has ⟨rfl, congrArg Value.bool ?_, trivial⟩ (fun _ h => h); (simp_all [cfgOut]; done))
        · refine JL.op_do rfl rfl (congrArg Value.bool hg14) (JO.val (y_fieldAddr rfl rfl rfl) rfl ?_)
          refine JL.op_do rfl rfl (congrArg Value.bool hg14) (JO.val (y_ld 0 rfl rfl rfl rfl) rfl ?_)
          refine JL.op_do rfl rfl (congrArg Value.bool hg14) (JO.val (y_len rfl rfl) rfl ?_)
          refine JL.op_do rfl rfl (congrArg Value.bool hg14) (JO.val (y_gtr rfl rfl) rfl ?_)
          refine JL.op (JO.val (y_pick (congrArg Value.bool hg14)) rfl ?_)
          with_reducible refine JL.nil ?_
          (refine JQ.has ⟨rfl, congrArg Value.bool ?_, trivial⟩ (fun _ h => h); (rw [Bool.eq_iff_iff]; simp_all [cfgOut]; omega))
  with_reducible refine JQ.seq ?_
  refine JC.cond rfl (fun hg => ?_) (fun hg => ?_)
  · with_reducible refine JC.seq ?_
    with_reducible refine JC.region ?_
    refine JL.op (JO.val (y_assign) rfl ?_)
    with_reducible refine JL.nil ?_
    with_reducible refine JQ.seq (JC.ret (JQ.seq_ret ?_))
    refine ret_one rfl ResV.tmp (fun w _ => ?_)
    exact congrArg Value.bool (by simp [cfgGood, hg])
  with_reducible refine JC.skip (JQ.seq (JC.seq (JC.seq ?_)))
  with_reducible refine JC.region ?_
  refine JL.op (JO.val (y_fieldAddr rfl rfl rfl) rfl ?_)
  refine JL.op (JO.val (y_ld 0 rfl rfl rfl rfl) rfl ?_)
  refine JL.op (JO.val (y_len rfl rfl) rfl ?_)
  refine JL.op (JO.val (y_move) rfl ?_)
  with_reducible refine JL.nil ?_
  with_reducible refine JQ.seq (JC.block ?_)
  refine JC.loop (fun m E S F' w1' => ∃ k : Nat, m = ms.length - k ∧ k ≤ ms.length ∧ (List.range k).all (okAt ms) = true ∧ S = [(some b1, 26, [.int .i64 ep, .slice A ms.length cap])] ∧ F' = F ∧ w1' = w ∧ Has E [(1, .pointer (some ⟨b1, 0, none⟩)), (26, .slice A ms.length cap), (27, .int .i64 (ms.length : Nat)), (28, .int .i64 (k : Nat))])
    _ ⟨0, rfl, Nat.zero_le _, by simp, rfl, rfl, rfl, ⟨rfl, rfl, rfl, rfl, trivial⟩⟩ ?_
  rintro m E S F' w1' ⟨k, rfl, hk, hall, rfl, rfl, rfl, hE⟩
  refine JC.env hE (fun E => ?_)
  with_reducible refine JC.seq ?_
  with_reducible refine JC.region ?_
  refine JL.op (JO.val (y_lss rfl rfl) rfl ?_)
  with_reducible refine JL.nil ?_
  with_reducible refine JQ.seq (JC.seq ?_)
  by_cases hlt : k < ms.length
  · have hd : decide ((k : Int) < (ms.length : Int)) = true := by simpa using hlt
    refine JC.cond_true (congrArg Value.bool hd) ?_
    obtain ⟨x, hx⟩ : ∃ x, ms[k]? = some x := ⟨ms[k], by simp [hlt]⟩
    have hxw := hwf x (List.mem_of_getElem? hx)
    have hxl := LMember.len_cells hxw
    have hx1 := LMember.all1 hxw
    obtain ⟨b, o, hA, hat⟩ := SlF.elem h (fun m hm => LMember.len_cells (hwf m hm)) rfl hx
    with_reducible refine JC.skip (JQ.seq (JC.seq (JC.block (JC.seq ?_))))
    with_reducible refine JC.region ?_
    refine JL.op (JO.val (y_move) rfl ?_)
    refine JL.op (JO.val (y_idx (b := b) (o := o) rfl rfl rfl rfl hA rfl hlt) rfl ?_)
    refine JL.op (JO.val (y_lddA rfl rfl hat (by first | rfl | assumption)) rfl ?_)
    refine JL.op (JO.alloc rfl rfl ?_); intro b4
    refine JL.op (JO.val (y_assign) rfl ?_)
    refine JL.op (JO.storeA 1 rfl rfl rfl rfl (by first | rfl | assumption) (by first | rfl | assumption) (by first | rfl | assumption) ?_)
    with_reducible refine JL.nil ?_
    obtain ⟨y, hy⟩ : ∃ y, ms[k - 1]? = some y := ⟨ms[k - 1]'(by omega), List.getElem?_eq_getElem (by omega)⟩
    obtain ⟨b', o', hA', hat'⟩ := SlF.elem h (fun m hm => LMember.len_cells (hwf m hm)) rfl hy
    with_reducible refine JQ.seq (JC.seq ?_)
    refine JC.cutS [(1, .pointer (some ⟨b1, 0, none⟩)), (26, .slice A ms.length cap), (27, .int .i64 (ms.length : Nat)), (28, .int .i64 (k : Nat)), (51, .bool (!okAt ms k))] ?_ (fun E => ?_)
    · refine JC.quiet (by kernel_rfl) ?_
      refine JT.val (y_ldA 1 rfl rfl rfl (by first | rfl | assumption)) rfl ?_
      refine JT.callv (fun wc hc => right_any x hxw wc) rfl rfl rfl ⟨_, Tryd.func75, rfl, rfl⟩ ?_
      refine JT.val (y_not rfl) rfl ?_
      refine JT.val (y_move) rfl ?_
      refine JT.split (d := 36) rfl (fun hg3 => ?_) (fun hg3 => ?_)
      · refine JT.skip rfl rfl (congrArg Value.bool hg3) rfl ?_
        refine JT.skip rfl rfl (congrArg Value.bool hg3) rfl ?_
        refine JT.skip rfl rfl (congrArg Value.bool hg3) rfl ?_
        refine JT.skipU rfl rfl rfl rfl ?_
        refine JT.skipU rfl rfl rfl rfl ?_
        refine JT.skipU rfl rfl rfl rfl ?_
        refine JT.skipU rfl rfl rfl rfl ?_
        refine JT.skipU rfl rfl rfl rfl ?_
        refine JT.skipU rfl rfl rfl rfl ?_
        refine JT.skipU rfl rfl rfl rfl ?_
        refine JT.skipU rfl rfl rfl rfl ?_
        refine JT.skipU rfl rfl rfl rfl ?_
        refine JT.skipU rfl rfl rfl rfl ?_
        refine JT.skip rfl rfl (congrArg Value.bool hg3) rfl ?_
        refine JT.val (y_pick (congrArg Value.bool hg3)) rfl ?_
        refine JT.nil ?_
        (refine JQ.has ⟨rfl, rfl, rfl, rfl, congrArg Value.bool ?_, trivial⟩ (fun _ h => h); (simp_all [okAt]; done))
      · refine JT.val_do rfl rfl (congrArg Value.bool hg3) (y_move) rfl ?_
        refine JT.val_do rfl rfl (congrArg Value.bool hg3) (y_gtr rfl rfl) rfl ?_
        refine JT.val_do rfl rfl (congrArg Value.bool hg3) (y_move) rfl ?_
        refine JT.split (d := 39) rfl (fun hg6 => ?_) (fun hg6 => ?_)
        · refine JT.val_do rfl rfl (congrArg Value.bool hg6) (y_fieldAddr rfl rfl rfl) rfl ?_
          refine JT.val_do rfl rfl (congrArg Value.bool hg6) (y_ld 0 rfl rfl rfl rfl) rfl ?_
          refine JT.val_do rfl rfl (congrArg Value.bool hg6) (y_move) rfl ?_
          refine JT.val_do rfl rfl (congrArg Value.bool hg6) (y_sub rfl rfl (natSub (by simpa using hg6) hk hn)) rfl ?_
          refine JT.val_do rfl rfl (congrArg Value.bool hg6) (y_idx (b := b') (o := o') rfl rfl rfl rfl hA' rfl (by omega)) rfl ?_
          refine JT.val_do rfl rfl (congrArg Value.bool hg6) (y_fieldAddr rfl rfl rfl) rfl ?_
          refine JT.val_do rfl rfl (congrArg Value.bool hg6) (y_ldd rfl rfl (At.cell1 (j := 0) hat' rfl)) rfl ?_
          refine JT.val_do rfl rfl (congrArg Value.bool hg6) (y_fieldAddr rfl rfl rfl) rfl ?_
          refine JT.val_do rfl rfl (congrArg Value.bool hg6) (y_ld 1 rfl rfl rfl rfl) rfl ?_
          refine JT.val_do rfl rfl (congrArg Value.bool hg6) (y_geq rfl rfl) rfl ?_
          refine JT.val_do rfl rfl (congrArg Value.bool hg3) (y_pick (congrArg Value.bool hg6)) rfl ?_
          refine JT.val (y_pick (congrArg Value.bool hg3)) rfl ?_
          refine JT.nil ?_
          (refine JQ.has ⟨rfl, rfl, rfl, rfl, congrArg Value.bool ?_, trivial⟩ (fun _ h => h); (rw [Bool.eq_iff_iff]; simp_all [okAt]; omega))
        · refine JT.skip rfl rfl (congrArg Value.bool hg6) rfl ?_
          refine JT.skip rfl rfl (congrArg Value.bool hg6) rfl ?_
          refine JT.skip rfl rfl (congrArg Value.bool hg6) rfl ?_
          refine JT.skip rfl rfl (congrArg Value.bool hg6) rfl ?_
          refine JT.skip rfl rfl (congrArg Value.bool hg6) rfl ?_
          refine JT.skip rfl rfl (congrArg Value.bool hg6) rfl ?_
          refine JT.skip rfl rfl (congrArg Value.bool hg6) rfl ?_
          refine JT.skip rfl rfl (congrArg Value.bool hg6) rfl ?_
          refine JT.skip rfl rfl (congrArg Value.bool hg6) rfl ?_
          refine JT.skip rfl rfl (congrArg Value.bool hg6) rfl ?_
          refine JT.val_do rfl rfl (congrArg Value.bool hg3) (y_pick (congrArg Value.bool hg6)) rfl ?_
          refine JT.val (y_pick (congrArg Value.bool hg3)) rfl ?_
          refine JT.nil ?_
          (refine JQ.has ⟨rfl, rfl, rfl, rfl, congrArg Value.bool ?_, trivial⟩ (fun _ h => h); (simp_all [okAt]; done))
    with_reducible refine JQ.seq ?_
    refine JC.cond rfl (fun hg2 => ?_) (fun hg2 => ?_)
    · with_reducible refine JC.seq ?_
      with_reducible refine JC.region ?_
      refine JL.op (JO.val (y_assign) rfl ?_)
      with_reducible refine JL.nil ?_
      with_reducible refine JQ.seq (JC.ret (JQ.blk_ret (JQ.seq_ret (JQ.loop_ret (JQ.blk_ret (JQ.seq_ret ?_))))))
      refine ret_one rfl ResV.tmp (fun w _ => ?_)
      exact congrArg Value.bool (by unfold cfgGood; rw [range_false hlt (by simpa using hg2)]; simp)
    · with_reducible refine JC.skip (JQ.blk (JQ.seq ?_))
      with_reducible refine JC.region ?_
      refine JL.op (JO.val (y_add rfl rfl (natAdd hk hn)) rfl ?_)
      refine JL.op (JO.val (y_move) rfl ?_)
      with_reducible refine JL.nil ?_
      refine JQ.takeN 1 ?_
      refine JQ.loop (ms.length - (k + 1)) ⟨k + 1, rfl, hlt, range_snoc hall (by simpa using hg2), rfl, rfl, rfl, ⟨rfl, rfl, rfl, rfl, trivial⟩⟩ (by omega)
  · have hd : decide ((k : Int) < (ms.length : Int)) = false := by simpa using hlt
    refine JC.cond_false (congrArg Value.bool hd) ?_
    obtain rfl : k = ms.length := by omega
    with_reducible refine JC.exit (JQ.seq_exit (JQ.loop_exit (JQ.blk_here (JQ.seq (JC.seq ?_)))))
    with_reducible refine JC.region ?_
    refine JL.op (JO.val (y_assign) rfl ?_)
    with_reducible refine JL.nil ?_
    with_reducible refine JQ.seq (JC.ret ?_)
    refine ret_one rfl ResV.tmp (fun w _ => ?_)
    exact congrArg Value.bool (by unfold cfgGood; rw [hall, hg]; rfl)
theorem cfg_good80 (F : Nat → Prop) (ep : Int) (A : Option Addr) (cap : Nat) (ms : List LMember) (w : World) (h : RMems F w A cap ms) (hn : ms.length ≤ 100000) (hwf : ∀ m ∈ ms, m.wf) :
    CallsTo 80 #[.agg [.int .i64 ep, .slice A ms.length cap].toArray] w (fun v _ => v = .bool (cfgGood ep ms)) := by
  refine CallsTo.enter 51 (fun _ => True) F Tryd.func80 rfl rfl rfl rfl (by intros; first | trivial | assumption) ?_
  with_reducible refine JC.seq ?_
  with_reducible refine JC.region ?_
  refine JL.op (JO.box rfl rfl ?_); intro b1
  refine JL.op (JO.val (y_assign) rfl ?_)
  with_reducible refine JL.nil ?_
  with_reducible refine JQ.seq (JC.seq ?_)
  with_reducible refine JC.region ?_
  refine JL.op (JO.val (y_fieldAddr rfl rfl rfl) rfl ?_)
  refine JL.op (JO.val (y_ld 0 rfl rfl rfl rfl) rfl ?_)
  refine JL.op (JO.val (y_len rfl rfl) rfl ?_)
  refine JL.op (JO.val (y_assign) rfl ?_)
  with_reducible refine JL.nil ?_
  with_reducible refine JQ.seq (JC.seq (JC.seq ?_))
  refine JC.cutS [(1, .pointer (some ⟨b1, 0, none⟩)), (24, .bool (cfgOut ep ms))] ?_ (fun E => ?_)
  · with_reducible refine JC.region ?_
    refine JL.op (JO.val (y_fieldAddr rfl rfl rfl) rfl ?_)
    refine JL.op (JO.val (y_ld 0 rfl rfl rfl rfl) rfl ?_)
    refine JL.op (JO.val (y_lss rfl rfl) rfl ?_)
    refine JL.op (JO.val (y_move) rfl ?_)
    refine JL.split (d := 12) rfl (fun hg3 => ?_) (fun hg3 => ?_)
    · refine JL.op_skip rfl rfl (congrArg Value.bool hg3) rfl ?_
      refine JL.op_skip rfl rfl (congrArg Value.bool hg3) rfl ?_
      refine JL.op_skip rfl rfl (congrArg Value.bool hg3) rfl ?_
      refine JL.op (JO.val (y_pick (congrArg Value.bool hg3)) rfl ?_)
      refine JL.op (JO.val (y_move) rfl ?_)
      refine JL.op_skip rfl rfl rfl rfl ?_
      refine JL.op_skip rfl rfl rfl rfl ?_
      refine JL.op (JO.val (y_pick rfl) rfl ?_)
      refine JL.op (JO.val (y_move) rfl ?_)
      refine JL.op_skip rfl rfl rfl rfl ?_
      refine JL.op_skip rfl rfl rfl rfl ?_
      refine JL.op (JO.val (y_pick rfl) rfl ?_)
      with_reducible refine JL.nil ?_
      (refine JQ.has ⟨rfl, congrArg Value.bool ?_, trivial⟩ (fun _ h => h); (simp_all [cfgOut]; done))
    · refine JL.op_do rfl rfl (congrArg Value.bool hg3) (JO.val (y_fieldAddr rfl rfl rfl) rfl ?_)
      refine JL.op_do rfl rfl (congrArg Value.bool hg3) (JO.val (y_ld 0 rfl rfl rfl rfl) rfl ?_)
      refine JL.op_do rfl rfl (congrArg Value.bool hg3) (JO.val (y_gtr rfl rfl) rfl ?_)
      refine JL.op (JO.val (y_pick (congrArg Value.bool hg3)) rfl ?_)
      refine JL.op (JO.val (y_move) rfl ?_)
      refine JL.split (d := 17) rfl (fun hg8 => ?_) (fun hg8 => ?_)
      · refine JL.op_skip rfl rfl (congrArg Value.bool hg8) rfl ?_
        refine JL.op_skip rfl rfl (congrArg Value.bool hg8) rfl ?_
        refine JL.op (JO.val (y_pick (congrArg Value.bool hg8)) rfl ?_)
        refine JL.op (JO.val (y_move) rfl ?_)
        refine JL.op_skip rfl rfl rfl rfl ?_
        refine JL.op_skip rfl rfl rfl rfl ?_
        refine JL.op (JO.val (y_pick rfl) rfl ?_)
        with_reducible refine JL.nil ?_
        (refine JQ.has ⟨rfl, congrArg Value.bool ?_, trivial⟩ (fun _ h => h); (simp_all [cfgOut]; done))
      · refine JL.op_do rfl rfl (congrArg Value.bool hg8) (JO.val (y_move) rfl ?_)
        refine JL.op_do rfl rfl (congrArg Value.bool hg8) (JO.val (y_lss rfl rfl) rfl ?_)
        refine JL.op (JO.val (y_pick (congrArg Value.bool hg8)) rfl ?_)
        refine JL.op (JO.val (y_move) rfl ?_)
        refine JL.split (d := 21) rfl (fun hg12 => ?_) (fun hg12 => ?_)
        · refine JL.op_skip rfl rfl (congrArg Value.bool hg12) rfl ?_
          refine JL.op_skip rfl rfl (congrArg Value.bool hg12) rfl ?_
          refine JL.op (JO.val (y_pick (congrArg Value.bool hg12)) rfl ?_)
          with_reducible refine JL.nil ?_
          (refine JQ.has ⟨rfl, congrArg Value.bool ?_, trivial⟩ (fun _ h => h); (rw [Bool.eq_iff_iff]; simp only [cfgOut, decide_eq_true_eq, decide_eq_false_iff_not, Bool.or_eq_true, Bool.and_eq_true, Bool.or_eq_false_iff, Bool.and_eq_false_iff, Bool.not_eq_true, Bool.false_eq_true, true_iff, false_iff, iff_true, iff_false] at *; omega))
        · refine JL.op_do rfl rfl (congrArg Value.bool hg12) (JO.val (y_move) rfl ?_)
          refine JL.op_do rfl rfl (congrArg Value.bool hg12) (JO.val (y_gtr rfl rfl) rfl ?_)
          refine JL.op (JO.val (y_pick (congrArg Value.bool hg12)) rfl ?_)
          with_reducible refine JL.nil ?_
          (refine JQ.has ⟨rfl, congrArg Value.bool ?_, trivial⟩ (fun _ h => h); (rw [Bool.eq_iff_iff]; simp only [cfgOut, decide_eq_true_eq, decide_eq_false_iff_not, Bool.or_eq_true, Bool.and_eq_true, Bool.or_eq_false_iff, Bool.and_eq_false_iff, Bool.not_eq_true, Bool.false_eq_true, true_iff, false_iff, iff_true, iff_false] at *; omega))
  with_reducible refine JQ.seq ?_
  refine JC.cond rfl (fun hg => ?_) (fun hg => ?_)
  · with_reducible refine JC.seq ?_
    with_reducible refine JC.region ?_
    refine JL.op (JO.val (y_assign) rfl ?_)
    with_reducible refine JL.nil ?_
    with_reducible refine JQ.seq (JC.ret (JQ.seq_ret ?_))
    refine ret_one rfl ResV.tmp (fun w _ => ?_)
    exact congrArg Value.bool (by simp [cfgGood, hg])
  with_reducible refine JC.skip (JQ.seq (JC.seq (JC.seq ?_)))
  with_reducible refine JC.region ?_
  refine JL.op (JO.val (y_fieldAddr rfl rfl rfl) rfl ?_)
  refine JL.op (JO.val (y_ld 0 rfl rfl rfl rfl) rfl ?_)
  refine JL.op (JO.val (y_len rfl rfl) rfl ?_)
  refine JL.op (JO.val (y_move) rfl ?_)
  with_reducible refine JL.nil ?_
  with_reducible refine JQ.seq (JC.block ?_)
  refine JC.loop (fun m E S F' w1' => ∃ k : Nat, m = ms.length - k ∧ k ≤ ms.length ∧ (List.range k).all (okAt ms) = true ∧ S = [(some b1, 26, [.int .i64 ep, .slice A ms.length cap])] ∧ F' = F ∧ w1' = w ∧ Has E [(1, .pointer (some ⟨b1, 0, none⟩)), (26, .slice A ms.length cap), (27, .int .i64 (ms.length : Nat)), (28, .int .i64 (k : Nat))])
    _ ⟨0, rfl, Nat.zero_le _, by simp, rfl, rfl, rfl, ⟨rfl, rfl, rfl, rfl, trivial⟩⟩ ?_
  rintro m E S F' w1' ⟨k, rfl, hk, hall, rfl, rfl, rfl, hE⟩
  refine JC.env hE (fun E => ?_)
  with_reducible refine JC.seq ?_
  with_reducible refine JC.region ?_
  refine JL.op (JO.val (y_lss rfl rfl) rfl ?_)
  with_reducible refine JL.nil ?_
  with_reducible refine JQ.seq (JC.seq ?_)
  by_cases hlt : k < ms.length
  · have hd : decide ((k : Int) < (ms.length : Int)) = true := by simpa using hlt
    refine JC.cond_true (congrArg Value.bool hd) ?_
    obtain ⟨x, hx⟩ : ∃ x, ms[k]? = some x := ⟨ms[k], by simp [hlt]⟩
    have hxw := hwf x (List.mem_of_getElem? hx)
    have hxl := LMember.len_cells hxw
    have hx1 := LMember.all1 hxw
    obtain ⟨b, o, hA, hat⟩ := SlF.elem h (fun m hm => LMember.len_cells (hwf m hm)) rfl hx
    with_reducible refine JC.skip (JQ.seq (JC.seq (JC.block (JC.seq ?_))))
    with_reducible refine JC.region ?_
    refine JL.op (JO.val (y_move) rfl ?_)
    refine JL.op (JO.val (y_idx (b := b) (o := o) rfl rfl rfl rfl hA rfl hlt) rfl ?_)
    refine JL.op (JO.val (y_lddA rfl rfl hat (by first | rfl | assumption)) rfl ?_)
    refine JL.op (JO.alloc rfl rfl ?_); intro b5
    refine JL.op (JO.val (y_assign) rfl ?_)
    refine JL.op (JO.storeA 1 rfl rfl rfl rfl (by first | rfl | assumption) (by first | rfl | assumption) (by first | rfl | assumption) ?_)
    with_reducible refine JL.nil ?_
    with_reducible refine JQ.seq (JC.seq (JC.seq ?_))
    with_reducible refine JC.region ?_
    refine JL.op (JO.val (y_ldA 1 rfl rfl rfl (by first | rfl | assumption)) rfl ?_)
    refine JL.op (JO.callv (fun wc hc => right8_any x hxw wc) rfl rfl rfl ?_)
    refine JL.op (JO.val (y_not rfl) rfl ?_)
    with_reducible refine JL.nil ?_
    with_reducible refine JQ.seq ?_
    refine JC.cond rfl (fun hr0 => ?_) (fun hr0 => ?_)
    · with_reducible refine JC.seq ?_
      with_reducible refine JC.region ?_
      refine JL.op (JO.val (y_assign) rfl ?_)
      with_reducible refine JL.nil ?_
      with_reducible refine JQ.seq (JC.ret (JQ.seq_ret (JQ.blk_ret (JQ.seq_ret (JQ.loop_ret (JQ.blk_ret (JQ.seq_ret ?_)))))))
      refine ret_one rfl ResV.tmp (fun w _ => ?_)
      exact congrArg Value.bool (by unfold cfgGood; rw [range_false hlt (by simp at hr0; simp [okAt, hx, hr0])]; simp)
    with_reducible refine JC.skip (JQ.seq (JC.seq ?_))
    obtain ⟨y, hy⟩ : ∃ y, ms[k - 1]? = some y := ⟨ms[k - 1]'(by omega), List.getElem?_eq_getElem (by omega)⟩
    obtain ⟨b', o', hA', hat'⟩ := SlF.elem h (fun m hm => LMember.len_cells (hwf m hm)) rfl hy
    refine JC.cutS [(1, .pointer (some ⟨b1, 0, none⟩)), (26, .slice A ms.length cap), (27, .int .i64 (ms.length : Nat)), (28, .int .i64 (k : Nat)), (49, .bool (!okAt ms k))] ?_ (fun E => ?_)
    · refine JC.quiet (by kernel_rfl) ?_
      refine JT.val (y_move) rfl ?_
      refine JT.val (y_gtr rfl rfl) rfl ?_
      refine JT.val (y_move) rfl ?_
      refine JT.split (d := 38) rfl (fun hg2 => ?_) (fun hg2 => ?_)
      · refine JT.val_do rfl rfl (congrArg Value.bool hg2) (y_fieldAddr rfl rfl rfl) rfl ?_
        refine JT.val_do rfl rfl (congrArg Value.bool hg2) (y_ld 1 rfl rfl rfl rfl) rfl ?_
        refine JT.val_do rfl rfl (congrArg Value.bool hg2) (y_fieldAddr rfl rfl rfl) rfl ?_
        refine JT.val_do rfl rfl (congrArg Value.bool hg2) (y_ld 0 rfl rfl rfl rfl) rfl ?_
        refine JT.val_do rfl rfl (congrArg Value.bool hg2) (y_move) rfl ?_
        refine JT.val_do rfl rfl (congrArg Value.bool hg2) (y_sub rfl rfl (natSub (by simpa using hg2) hk hn)) rfl ?_
        refine JT.val_do rfl rfl (congrArg Value.bool hg2) (y_idx (b := b') (o := o') rfl rfl rfl rfl hA' rfl (by omega)) rfl ?_
        refine JT.val_do rfl rfl (congrArg Value.bool hg2) (y_fieldAddr rfl rfl rfl) rfl ?_
        refine JT.val_do rfl rfl (congrArg Value.bool hg2) (y_ldd rfl rfl (At.cell1 (j := 0) hat' rfl)) rfl ?_
        refine JT.val_do rfl rfl (congrArg Value.bool hg2) (y_leq rfl rfl) rfl ?_
        refine JT.val (y_pick (congrArg Value.bool hg2)) rfl ?_
        refine JT.nil ?_
        (refine JQ.has ⟨rfl, rfl, rfl, rfl, congrArg Value.bool ?_, trivial⟩ (fun _ h => h); (rw [Bool.eq_iff_iff]; simp_all [okAt]; omega))
      · refine JT.skip rfl rfl (congrArg Value.bool hg2) rfl ?_
        refine JT.skip rfl rfl (congrArg Value.bool hg2) rfl ?_
        refine JT.skip rfl rfl (congrArg Value.bool hg2) rfl ?_
        refine JT.skip rfl rfl (congrArg Value.bool hg2) rfl ?_
        refine JT.skip rfl rfl (congrArg Value.bool hg2) rfl ?_
        refine JT.skip rfl rfl (congrArg Value.bool hg2) rfl ?_
        refine JT.skip rfl rfl (congrArg Value.bool hg2) rfl ?_
        refine JT.skip rfl rfl (congrArg Value.bool hg2) rfl ?_
        refine JT.skip rfl rfl (congrArg Value.bool hg2) rfl ?_
        refine JT.skip rfl rfl (congrArg Value.bool hg2) rfl ?_
        refine JT.val (y_pick (congrArg Value.bool hg2)) rfl ?_
        refine JT.nil ?_
        (refine JQ.has ⟨rfl, rfl, rfl, rfl, congrArg Value.bool ?_, trivial⟩ (fun _ h => h); (simp_all [okAt]; done))
    with_reducible refine JQ.seq ?_
    refine JC.cond rfl (fun hg2 => ?_) (fun hg2 => ?_)
    · with_reducible refine JC.seq ?_
      with_reducible refine JC.region ?_
      refine JL.op (JO.val (y_assign) rfl ?_)
      with_reducible refine JL.nil ?_
      with_reducible refine JQ.seq (JC.ret (JQ.blk_ret (JQ.seq_ret (JQ.loop_ret (JQ.blk_ret (JQ.seq_ret ?_))))))
      refine ret_one rfl ResV.tmp (fun w _ => ?_)
      exact congrArg Value.bool (by unfold cfgGood; rw [range_false hlt (by simpa using hg2)]; simp)
    · with_reducible refine JC.skip (JQ.blk (JQ.seq ?_))
      with_reducible refine JC.region ?_
      refine JL.op (JO.val (y_add rfl rfl (natAdd hk hn)) rfl ?_)
      refine JL.op (JO.val (y_move) rfl ?_)
      with_reducible refine JL.nil ?_
      refine JQ.takeN 1 ?_
      refine JQ.loop (ms.length - (k + 1)) ⟨k + 1, rfl, hlt, range_snoc hall (by simpa using hg2), rfl, rfl, rfl, ⟨rfl, rfl, rfl, rfl, trivial⟩⟩ (by omega)
  · have hd : decide ((k : Int) < (ms.length : Int)) = false := by simpa using hlt
    refine JC.cond_false (congrArg Value.bool hd) ?_
    obtain rfl : k = ms.length := by omega
    with_reducible refine JC.exit (JQ.seq_exit (JQ.loop_exit (JQ.blk_here (JQ.seq (JC.seq ?_)))))
    with_reducible refine JC.region ?_
    refine JL.op (JO.val (y_assign) rfl ?_)
    with_reducible refine JL.nil ?_
    with_reducible refine JQ.seq (JC.ret ?_)
    refine ret_one rfl ResV.tmp (fun w _ => ?_)
    exact congrArg Value.bool (by unfold cfgGood; rw [hall, hg]; rfl)

/-! ### Lists with, and without one -/
theorem keep_snoc {α : Type} {p : α → Bool} {xs : List α} {k : Nat} {x : α} (h : xs[k]? = some x) : (xs.take (k + 1)).filter p = (xs.take k).filter p ++ (if p x then [x] else []) := by
  rw [List.take_add_one, h, List.filter_append]
  cases hp : p x <;> simp [hp]
theorem withoutM_any (F : Nat → Prop) (A : Option Addr) (cap : Nat) (ms : List LMember) (c : Int) (w : World) (h : SlF F w A ms.length cap 34 (ms.flatMap LMember.cells)) (hn : ms.length ≤ 100000) (hwf : ∀ m ∈ ms, m.wf) (hlen : ∀ x ∈ ms, (LMember.cells x).length = 34) :
    CallsTo 83 #[.slice A ms.length cap, .int .i64 c] w (fun v w' => ∃ A' cap', v = .slice A' (ms.filter (fun m : LMember => decide (m.id ≠ c))).length cap' ∧ OwnF (fun b => w.heap.size ≤ b) w' 55 34 A' (ms.filter (fun m : LMember => decide (m.id ≠ c))).length cap' ((ms.filter (fun m : LMember => decide (m.id ≠ c))).flatMap LMember.cells)) := by
  refine CallsTo.enter 24 (fun _ => True) F Tryd.func83 rfl rfl rfl rfl (by intros; first | trivial | assumption) ?_
  with_reducible refine JC.seq ?_
  with_reducible refine JC.region ?_
  refine JL.op (JO.val (y_assign) rfl ?_)
  with_reducible refine JL.nil ?_
  with_reducible refine JQ.seq (JC.seq ?_)
  with_reducible refine JC.region ?_
  refine JL.op (JO.val (y_assign) rfl ?_)
  with_reducible refine JL.nil ?_
  with_reducible refine JQ.seq (JC.seq (JC.seq ?_))
  with_reducible refine JC.region ?_
  refine JL.op (JO.val (y_move) rfl ?_)
  refine JL.op (JO.val (y_len rfl rfl) rfl ?_)
  refine JL.op (JO.val (y_move) rfl ?_)
  with_reducible refine JL.nil ?_
  with_reducible refine JQ.seq (JC.block ?_)
  refine JC.addNone 55 ?_
  refine JC.loop (fun m E S F' w1' => ∃ k ob cap' cur, m = ms.length - k ∧ k ≤ ms.length ∧ Row ob ((ms.take k).filter (fun m : LMember => decide (m.id ≠ c))).length cap' 34 cur ∧ cur.take (((ms.take k).filter (fun m : LMember => decide (m.id ≠ c))).length * 34) = ((ms.take k).filter (fun m : LMember => decide (m.id ≠ c))).flatMap LMember.cells ∧ S = [(ob, 55, cur)] ∧ F' = F ∧ w1' = w ∧
      Has E [(1, .int .i64 c), (5, .slice (ob.map mkA) ((ms.take k).filter (fun m : LMember => decide (m.id ≠ c))).length cap'), (8, .slice A ms.length cap), (9, .int .i64 (ms.length : Nat)), (10, .int .i64 (k : Nat))])
    _ ⟨0, none, 0, [], rfl, Nat.zero_le _, Row.none _, rfl, rfl, rfl, rfl, ⟨rfl, rfl, rfl, rfl, rfl, trivial⟩⟩ ?_
  rintro m E S F' w1' ⟨k, ob, cap', cur, rfl, hk, hrow, htk, rfl, rfl, rfl, hE⟩
  refine JC.env hE (fun E => ?_)
  with_reducible refine JC.seq ?_
  with_reducible refine JC.region ?_
  refine JL.op (JO.val (y_lss rfl rfl) rfl ?_)
  with_reducible refine JL.nil ?_
  with_reducible refine JQ.seq (JC.seq ?_)
  by_cases hlt : k < ms.length
  · have hd : decide ((k : Int) < (ms.length : Int)) = true := by simpa using hlt
    refine JC.cond_true (congrArg Value.bool hd) ?_
    obtain ⟨x, hx⟩ : ∃ x, ms[k]? = some x := ⟨ms[k], by simp [hlt]⟩
    have hxl := LMember.len_cells (hwf x (List.mem_of_getElem? hx))
    have hx1 := LMember.all1 (hwf x (List.mem_of_getElem? hx))
    have hks := keep_snoc (p := fun m : LMember => decide (m.id ≠ c)) hx
    have hfl : ((ms.take k).filter (fun m : LMember => decide (m.id ≠ c))).length ≤ ms.length := Nat.le_trans (List.length_filter_le _ _) (by simp; omega)
    obtain ⟨b, o, hA, hat⟩ := h.elem hlen rfl hx
    with_reducible refine JC.skip (JQ.seq (JC.seq (JC.block (JC.seq ?_))))
    with_reducible refine JC.region ?_
    refine JL.op (JO.val (y_idx (b := b) (o := o) rfl rfl rfl rfl hA rfl hlt) rfl ?_)
    refine JL.op (JO.val (y_lddA rfl rfl hat (by first | rfl | assumption)) rfl ?_)
    refine JL.op (JO.alloc rfl rfl ?_); intro b7
    refine JL.op (JO.storeA 1 rfl rfl rfl rfl (by first | rfl | assumption) (by first | rfl | assumption) (by first | rfl | assumption) ?_)
    with_reducible refine JL.nil ?_
    with_reducible refine JQ.seq (JC.seq ?_)
    with_reducible refine JC.region ?_
    refine JL.op (JO.val (y_fieldAddr rfl rfl rfl) rfl ?_)
    refine JL.op (JO.val (y_ld 1 rfl rfl rfl rfl) rfl ?_)
    refine JL.op (JO.val (y_move) rfl ?_)
    refine JL.op (JO.val (y_neq rfl rfl) rfl ?_)
    with_reducible refine JL.nil ?_
    with_reducible refine JQ.seq ?_
    refine JC.cond rfl (fun hg => ?_) (fun hg => ?_)
    · skip
      with_reducible refine JC.region ?_
      refine JL.op (JO.val (y_move) rfl ?_)
      refine JL.op (JO.val (y_ldA 1 rfl rfl rfl (by first | rfl | assumption)) rfl ?_)
      refine JL.op (JO.build1 rfl rfl rfl (by first | rfl | assumption) rfl rfl ?_); intro b20
      refine JL.op (JO.append 0 (ob := ob) (LMember.cells x) rfl rfl rfl rfl rfl rfl rfl hrow (by first | rfl | omega) (fun h => by cases h) (fun w2 hc => hc.src (i := 2) rfl) (allOne_mem hx1) (room_max (by omega)) (by omega) ?_)
      intro ob' cap'' cur' hrow' htk' _
      refine JL.op (JO.val (y_assign) rfl ?_)
      with_reducible refine JL.nil ?_
      with_reducible refine JQ.blk (JQ.seq ?_)
      with_reducible refine JC.region ?_
      refine JL.op (JO.val (y_add rfl rfl (natAdd hk hn)) rfl ?_)
      refine JL.op (JO.val (y_move) rfl ?_)
      with_reducible refine JL.nil ?_
      refine JQ.takeN 1 ?_
      rw [if_pos hg] at hks
      have hl : ((ms.take (k + 1)).filter (fun m : LMember => decide (m.id ≠ c))).length = ((ms.take k).filter (fun m : LMember => decide (m.id ≠ c))).length + 1 := by rw [hks]; simp
      refine JQ.loop (ms.length - (k + 1)) ⟨k + 1, ob', cap'', cur', rfl, hlt, ?_, ?_, rfl, rfl, rfl, ⟨rfl, ?_, rfl, rfl, rfl, trivial⟩⟩ (by omega)
      · rw [hl]; exact hrow'
      · rw [hl, hks]; exact cur_snoc htk htk'
      · rw [hl]; rfl
    · with_reducible refine JC.skip (JQ.blk (JQ.seq ?_))
      with_reducible refine JC.region ?_
      refine JL.op (JO.val (y_add rfl rfl (natAdd hk hn)) rfl ?_)
      refine JL.op (JO.val (y_move) rfl ?_)
      with_reducible refine JL.nil ?_
      refine JQ.takeN 1 ?_
      rw [if_neg (by rw [hg]; simp), List.append_nil] at hks
      refine JQ.loop (ms.length - (k + 1)) ⟨k + 1, ob, cap', cur, rfl, hlt, ?_, ?_, rfl, rfl, rfl, ⟨rfl, ?_, rfl, rfl, rfl, trivial⟩⟩ (by omega)
      · rw [hks]; exact hrow
      · rw [hks]; exact htk
      · rw [hks]; rfl
  · have hd : decide ((k : Int) < (ms.length : Int)) = false := by simpa using hlt
    refine JC.cond_false (congrArg Value.bool hd) ?_
    obtain rfl : k = ms.length := by omega
    rw [List.take_length] at hrow htk ⊢
    with_reducible refine JC.exit (JQ.seq_exit (JQ.loop_exit (JQ.blk_here (JQ.seq (JC.seq ?_)))))
    with_reducible refine JC.region ?_
    refine JL.op (JO.val (y_move) rfl ?_)
    refine JL.op (JO.val (y_assign) rfl ?_)
    with_reducible refine JL.nil ?_
    with_reducible refine JQ.seq (JC.ret ?_)
    exact ret_one rfl ResV.tmp (fun w' hc => ⟨_, _, rfl, ob, cur, rfl, hrow, htk, fun b hb => hc.own0 rfl (ob, 55, cur) (by simp) b hb⟩)
theorem withoutP_any (F : Nat → Prop) (A : Option Addr) (cap : Nat) (ms : List LPair) (c : ByteArray) (w : World) (h : SlF F w A ms.length cap 2 (ms.flatMap LPair.cells)) (hn : ms.length ≤ 100000) (hwf : ∀ m ∈ ms, True) (hlen : ∀ x ∈ ms, (LPair.cells x).length = 2) :
    CallsTo 57 #[.slice A ms.length cap, .string c] w (fun v w' => ∃ A' cap', v = .slice A' (ms.filter (fun p : LPair => !(p.k.toList == c.toList))).length cap' ∧ OwnF (fun b => w.heap.size ≤ b) w' 53 2 A' (ms.filter (fun p : LPair => !(p.k.toList == c.toList))).length cap' ((ms.filter (fun p : LPair => !(p.k.toList == c.toList))).flatMap LPair.cells)) := by
  refine CallsTo.enter 24 (fun _ => True) F Tryd.func57 rfl rfl rfl rfl (by intros; first | trivial | assumption) ?_
  with_reducible refine JC.seq ?_
  with_reducible refine JC.region ?_
  refine JL.op (JO.val (y_assign) rfl ?_)
  with_reducible refine JL.nil ?_
  with_reducible refine JQ.seq (JC.seq ?_)
  with_reducible refine JC.region ?_
  refine JL.op (JO.val (y_assign) rfl ?_)
  with_reducible refine JL.nil ?_
  with_reducible refine JQ.seq (JC.seq (JC.seq ?_))
  with_reducible refine JC.region ?_
  refine JL.op (JO.val (y_move) rfl ?_)
  refine JL.op (JO.val (y_len rfl rfl) rfl ?_)
  refine JL.op (JO.val (y_move) rfl ?_)
  with_reducible refine JL.nil ?_
  with_reducible refine JQ.seq (JC.block ?_)
  refine JC.addNone 53 ?_
  refine JC.loop (fun m E S F' w1' => ∃ k ob cap' cur, m = ms.length - k ∧ k ≤ ms.length ∧ Row ob ((ms.take k).filter (fun p : LPair => !(p.k.toList == c.toList))).length cap' 2 cur ∧ cur.take (((ms.take k).filter (fun p : LPair => !(p.k.toList == c.toList))).length * 2) = ((ms.take k).filter (fun p : LPair => !(p.k.toList == c.toList))).flatMap LPair.cells ∧ S = [(ob, 53, cur)] ∧ F' = F ∧ w1' = w ∧
      Has E [(1, .string c), (5, .slice (ob.map mkA) ((ms.take k).filter (fun p : LPair => !(p.k.toList == c.toList))).length cap'), (8, .slice A ms.length cap), (9, .int .i64 (ms.length : Nat)), (10, .int .i64 (k : Nat))])
    _ ⟨0, none, 0, [], rfl, Nat.zero_le _, Row.none _, rfl, rfl, rfl, rfl, ⟨rfl, rfl, rfl, rfl, rfl, trivial⟩⟩ ?_
  rintro m E S F' w1' ⟨k, ob, cap', cur, rfl, hk, hrow, htk, rfl, rfl, rfl, hE⟩
  refine JC.env hE (fun E => ?_)
  with_reducible refine JC.seq ?_
  with_reducible refine JC.region ?_
  refine JL.op (JO.val (y_lss rfl rfl) rfl ?_)
  with_reducible refine JL.nil ?_
  with_reducible refine JQ.seq (JC.seq ?_)
  by_cases hlt : k < ms.length
  · have hd : decide ((k : Int) < (ms.length : Int)) = true := by simpa using hlt
    refine JC.cond_true (congrArg Value.bool hd) ?_
    obtain ⟨x, hx⟩ : ∃ x, ms[k]? = some x := ⟨ms[k], by simp [hlt]⟩
    have hxl := (rfl : x.cells.length = 2)
    have hx1 := (rfl : allOne x.cells = true)
    have hks := keep_snoc (p := fun p : LPair => !(p.k.toList == c.toList)) hx
    have hfl : ((ms.take k).filter (fun p : LPair => !(p.k.toList == c.toList))).length ≤ ms.length := Nat.le_trans (List.length_filter_le _ _) (by simp; omega)
    obtain ⟨b, o, hA, hat⟩ := h.elem hlen rfl hx
    with_reducible refine JC.skip (JQ.seq (JC.seq (JC.block (JC.seq ?_))))
    with_reducible refine JC.region ?_
    refine JL.op (JO.val (y_idx (b := b) (o := o) rfl rfl rfl rfl hA rfl hlt) rfl ?_)
    refine JL.op (JO.val (y_lddA rfl rfl hat (by first | rfl | assumption)) rfl ?_)
    refine JL.op (JO.alloc rfl rfl ?_); intro b7
    refine JL.op (JO.storeA 1 rfl rfl rfl rfl (by first | rfl | assumption) (by first | rfl | assumption) (by first | rfl | assumption) ?_)
    with_reducible refine JL.nil ?_
    with_reducible refine JQ.seq (JC.seq ?_)
    with_reducible refine JC.region ?_
    refine JL.op (JO.val (y_fieldAddr rfl rfl rfl) rfl ?_)
    refine JL.op (JO.val (y_ld 1 rfl rfl rfl rfl) rfl ?_)
    refine JL.op (JO.val (y_move) rfl ?_)
    refine JL.op (JO.val (y_nes rfl rfl) rfl ?_)
    with_reducible refine JL.nil ?_
    with_reducible refine JQ.seq ?_
    refine JC.cond rfl (fun hg => ?_) (fun hg => ?_)
    · skip
      with_reducible refine JC.region ?_
      refine JL.op (JO.val (y_move) rfl ?_)
      refine JL.op (JO.val (y_ldA 1 rfl rfl rfl rfl) rfl ?_)
      refine JL.op (JO.build1 rfl rfl rfl (by first | rfl | assumption) rfl rfl ?_); intro b20
      refine JL.op (JO.append 0 (ob := ob) (LPair.cells x) rfl rfl rfl rfl rfl rfl rfl hrow (by first | rfl | omega) (fun h => by cases h) (fun w2 hc => hc.src (i := 2) rfl) (allOne_mem hx1) (room_max (by omega)) (by omega) ?_)
      intro ob' cap'' cur' hrow' htk' _
      refine JL.op (JO.val (y_assign) rfl ?_)
      with_reducible refine JL.nil ?_
      with_reducible refine JQ.blk (JQ.seq ?_)
      with_reducible refine JC.region ?_
      refine JL.op (JO.val (y_add rfl rfl (natAdd hk hn)) rfl ?_)
      refine JL.op (JO.val (y_move) rfl ?_)
      with_reducible refine JL.nil ?_
      refine JQ.takeN 1 ?_
      rw [if_pos hg] at hks
      have hl : ((ms.take (k + 1)).filter (fun p : LPair => !(p.k.toList == c.toList))).length = ((ms.take k).filter (fun p : LPair => !(p.k.toList == c.toList))).length + 1 := by rw [hks]; simp
      refine JQ.loop (ms.length - (k + 1)) ⟨k + 1, ob', cap'', cur', rfl, hlt, ?_, ?_, rfl, rfl, rfl, ⟨rfl, ?_, rfl, rfl, rfl, trivial⟩⟩ (by omega)
      · rw [hl]; exact hrow'
      · rw [hl, hks]; exact cur_snoc htk htk'
      · rw [hl]; rfl
    · with_reducible refine JC.skip (JQ.blk (JQ.seq ?_))
      with_reducible refine JC.region ?_
      refine JL.op (JO.val (y_add rfl rfl (natAdd hk hn)) rfl ?_)
      refine JL.op (JO.val (y_move) rfl ?_)
      with_reducible refine JL.nil ?_
      refine JQ.takeN 1 ?_
      rw [if_neg (by rw [hg]; simp), List.append_nil] at hks
      refine JQ.loop (ms.length - (k + 1)) ⟨k + 1, ob, cap', cur, rfl, hlt, ?_, ?_, rfl, rfl, rfl, ⟨rfl, ?_, rfl, rfl, rfl, trivial⟩⟩ (by omega)
      · rw [hks]; exact hrow
      · rw [hks]; exact htk
      · rw [hks]; rfl
  · have hd : decide ((k : Int) < (ms.length : Int)) = false := by simpa using hlt
    refine JC.cond_false (congrArg Value.bool hd) ?_
    obtain rfl : k = ms.length := by omega
    rw [List.take_length] at hrow htk ⊢
    with_reducible refine JC.exit (JQ.seq_exit (JQ.loop_exit (JQ.blk_here (JQ.seq (JC.seq ?_)))))
    with_reducible refine JC.region ?_
    refine JL.op (JO.val (y_move) rfl ?_)
    refine JL.op (JO.val (y_assign) rfl ?_)
    with_reducible refine JL.nil ?_
    with_reducible refine JQ.seq (JC.ret ?_)
    exact ret_one rfl ResV.tmp (fun w' hc => ⟨_, _, rfl, ob, cur, rfl, hrow, htk, fun b hb => hc.own0 rfl (ob, 53, cur) (by simp) b hb⟩)
end Go.Proofs.YtchnnplcpidkiaaDoor
