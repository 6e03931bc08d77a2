/- Changes of a configuration: what they make, as data; the contract of the reference's Apply (layer 8); no condition but bounds on lengths. -/
import Derived.Test.YtchnnplcpidkiaaDoorP1
namespace Go.Proofs.YtchnnplcpidkiaaDoor
open Go.RowKit
set_option linter.unusedSimpArgs false
set_option linter.unusedVariables false
set_option maxRecDepth 20000
set_option maxHeartbeats 1000000

def chgM (x : LChange) : LMember := ⟨if x.kind = 3 then x.new else x.id, x.key⟩
def hasM (ms : List LMember) (id : Int) : Bool := ms.any (fun m => decide (m.id = id))
def chgBad1 (ep : Int) (ms : List LMember) (x : LChange) : Bool := !cfgGood ep ms || decide (ep = 1073741824) || decide (x.kind < 1) || decide (x.kind > 4)
def chgBad2 (x : LChange) : Bool := decide (x.kind ≠ 2) && !rightB (chgM x)
def chgBad3 (ms : List LMember) (x : LChange) : Bool := decide (x.kind ≠ 1) && !hasM ms x.id
def chgBad4 (ms : List LMember) (x : LChange) : Bool := (decide (x.kind = 1) || decide (x.kind = 3)) && hasM ms (chgM x).id
def chgBad5 (ms : List LMember) (x : LChange) : Bool := decide (x.kind = 1) && decide ((ms.length : Int) = 10)
def chgBad6 (ms : List LMember) (x : LChange) : Bool := decide (x.kind = 2) && decide ((ms.length : Int) = 1)
def chgOut (ms : List LMember) (x : LChange) : List LMember := if x.kind ≠ 1 then ms.filter (fun m => decide (m.id ≠ x.id)) else ms
def chgList (ms : List LMember) (x : LChange) : List LMember := if x.kind ≠ 2 then withM (chgM x) (chgOut ms x) else chgOut ms x
def chgCode (ep : Int) (ms : List LMember) (x : LChange) : Int :=
  if chgBad1 ep ms x = true then 1 else if chgBad2 x = true then 1 else if chgBad3 ms x = true then 7 else if chgBad4 ms x = true then 9 else if chgBad5 ms x = true then 11 else if chgBad6 ms x = true then 10 else 0
def chgRes (ep : Int) (ms : List LMember) (x : LChange) : Int × List LMember := if chgCode ep ms x = 0 then (ep + 1, chgList ms x) else (0, [])
/-- What a change answers, and where it lies. -/
def ChgR (ep : Int) (ms : List LMember) (x : LChange) (w : World) (v : Value) (w' : World) : Prop :=
  ∃ A' cap', v = .tuple #[.agg [.int .i64 (chgRes ep ms x).1, .slice A' (chgRes ep ms x).2.length cap'].toArray, .int .i64 (chgCode ep ms x)] ∧ OwnF (fun b => w.heap.size ≤ b) w' 55 34 A' (chgRes ep ms x).2.length cap' ((chgRes ep ms x).2.flatMap LMember.cells)
theorem chg_fail {ep : Int} {ms : List LMember} {x : LChange} {w w' : World} {code : Int} (h : chgCode ep ms x = code) (hne : code ≠ 0) : ChgR ep ms x w (.tuple #[.agg [.int .i64 0, .slice none 0 0].toArray, .int .i64 code]) w' := by
  have h1 : chgRes ep ms x = (0, []) := by unfold chgRes; rw [if_neg (by rw [h]; exact hne)]
  exact ⟨none, 0, by rw [h1, h]; rfl, none, [], rfl, by rw [h1]; exact Row.none _, by rw [h1]; rfl, fun b hb => by cases hb⟩
theorem chg_fine {ep : Int} {ms : List LMember} {x : LChange} {w w' : World} {ob : Option Nat} {cap' : Nat} {cur : List Value} (h : chgCode ep ms x = 0) (hrow : Row ob (chgList ms x).length cap' 34 cur) (htk : cur.take ((chgList ms x).length * 34) = (chgList ms x).flatMap LMember.cells) (hb : ∀ b, ob = some b → w.heap.size ≤ b ∧ w'.heap[b]? = some (.cells cur.toArray 55 (0, 0))) :
    ChgR ep ms x w (.tuple #[.agg [.int .i64 (ep + 1), .slice (ob.map mkA) (chgList ms x).length cap'].toArray, .int .i64 0]) w' := by
  have h1 : chgRes ep ms x = (ep + 1, chgList ms x) := by unfold chgRes; rw [if_pos h]
  exact ⟨ob.map mkA, cap', by rw [h1, h], ob, cur, rfl, by rw [h1]; exact hrow, by rw [h1]; exact htk, hb⟩
theorem placeI_lt {q : LMember → Bool} {ms : List LMember} : decide (placeI (idx q ms) < 0) = !(ms.any q) := by
  cases h : idx q ms with
  | none =>
    have : ms.any q = false := by
      cases hq : ms.any q with
      | false => rfl
      | true => obtain ⟨i, hi⟩ := idx_some.2 hq; rw [h] at hi; cases hi
    rw [this]; rfl
  | some i =>
    rw [(idx_some.1 ⟨i, h⟩ : ms.any q = true)]
    show decide ((i : Int) < 0) = false
    simp
theorem placeI_ge {q : LMember → Bool} {ms : List LMember} : decide (placeI (idx q ms) ≥ 0) = ms.any q := by
  have h := placeI_lt (q := q) (ms := ms)
  have h2 : decide (placeI (idx q ms) ≥ 0) = !decide (placeI (idx q ms) < 0) := by
    rw [← decide_not]; congr 1; exact propext ⟨fun h => by omega, fun h => by omega⟩
  rw [h2, h, Bool.not_not]
section
variable {X : Cx} {E : Env} {S : Sto} {F : Nat → Prop} {w1 : World}
variable {d : Option Tmp} {t : TypeId} {pos : String} {af : Array Edge} {g : Option (Nat × Bool)}
/-- A member that is built. -/
theorem y_mem {x y : Operand} {id : Int} {k : LKey} (hk : k.wf) (hx : ev E x = .int .i64 id) (hy : ev E y = .agg k.cells.toArray) : Yields X ⟨d, .build 55 #[(0, x), (1, y)], t, pos, af, g⟩ E S F w1 (.agg (LMember.cells ⟨id, k⟩).toArray) := by
  have hl := LKey.len_cells hk
  have hz : ∃ z : List Value, tyr 55 = some (true, 34, 48, z) ∧ z.length = 34 := ⟨_, rfl, rfl⟩
  obtain ⟨z, hr, hzl⟩ := hz
  refine y_build (pl := [(0, 1), (1, 33)]) rfl hr ⟨0, 1, [.int .i64 id], rfl, by rw [hx]; rfl, rfl, by rw [hzl]; rfl, 1, 33, k.cells, rfl, by rw [hy]; rfl, hl, ?_, ?_⟩
  · have : (splice z 0 [.int .i64 id]).length = 34 := by simp [splice, hzl]
    rw [this]; rfl
  · have h2 : (splice z 0 [.int .i64 id]) = .int .i64 id :: z.drop 1 := by simp [splice]
    rw [h2]
    show splice _ 1 _ = _
    simp [splice, LMember.cells, hl]
    exact hzl ▸ (Nat.le_refl _)
end
theorem chgM_wf {x : LChange} (h : x.wf) : (chgM x).wf := ⟨by unfold chgM; simp only; split; exact h.new; exact h.id, h.key⟩
theorem ref8_apply (F : Nat → Prop) (ep : Int) (A : Option Addr) (cap : Nat) (ms : List LMember) (x : LChange) (w : World) (h : RMems F w A cap ms) (hn : ms.length ≤ 10000) (hwf : ∀ m ∈ ms, m.wf) (hx : x.wf) :
    CallsTo 58 #[.agg [.int .i64 ep, .slice A ms.length cap].toArray, .agg x.cells.toArray] w (fun v w' => ChgR ep ms x w v w') := by
  have hkl := LKey.len_cells hx.key
  have hxl := LChange.len_cells hx
  have hmw := chgM_wf hx
  have hml := LMember.len_cells hmw
  have hm1 := LMember.all1 hmw
  have hxm1 : allOne (LMember.cells ⟨x.id, x.key⟩) = true := LMember.all1 ⟨hx.id, hx.key⟩
  have hxml : (LMember.cells ⟨x.id, x.key⟩).length = 34 := LMember.len_cells ⟨hx.id, hx.key⟩
  refine CallsTo.enter 117 (fun _ => True) F Tryd.func58 rfl rfl rfl rfl (by intros; first | trivial | assumption) ?_
  with_reducible refine JC.seq ?_
  with_reducible refine JC.region ?_
  refine JL.op (JO.box rfl rfl ?_); intro b2
  refine JL.op (JO.box rfl rfl ?_); intro b3
  refine JL.op (JO.alloc rfl rfl ?_); intro b4
  refine JL.op (JO.val (y_assign) rfl ?_)
  with_reducible refine JL.nil ?_
  with_reducible refine JQ.seq (JC.seq ?_)
  with_reducible refine JC.region ?_
  refine JL.op (JO.alloc rfl rfl ?_); intro b6
  with_reducible refine JL.nil ?_
  with_reducible refine JQ.seq (JC.seq (JC.seq ?_))
  refine JC.cutS [(2, .pointer (some ⟨b2, 0, none⟩)), (3, .pointer (some ⟨b3, 0, none⟩)), (4, .pointer (some ⟨b4, 0, none⟩)), (6, .pointer (some ⟨b6, 0, none⟩)), (26, .bool (chgBad1 ep ms x))] ?_ (fun E => ?_)
  · with_reducible refine JC.region ?_
    refine JL.op (JO.val (y_ldA 0 rfl rfl rfl rfl) rfl ?_)
    refine JL.op (JO.callv (fun wc hc => cfg_good80 _ ep A cap ms wc (h.step hc.step) (by omega) hwf) rfl rfl rfl ?_)
    refine JL.op (JO.val (y_not rfl) rfl ?_)
    refine JL.op (JO.val (y_move) rfl ?_)
    refine JL.split (d := 12) rfl (fun hg3 => ?_) (fun hg3 => ?_)
    · refine JL.op_skip rfl rfl (congrArg Value.bool hg3) rfl ?_
      refine JL.op_skip rfl rfl (congrArg Value.bool hg3) rfl ?_
      refine JL.op_skip rfl rfl (congrArg Value.bool hg3) rfl ?_
      refine JL.op (JO.val (y_pick (congrArg Value.bool hg3)) rfl ?_)
      refine JL.op (JO.val (y_move) rfl ?_)
      refine JL.op_skip rfl rfl rfl rfl ?_
      refine JL.op_skip rfl rfl rfl rfl ?_
      refine JL.op_skip rfl rfl rfl rfl ?_
      refine JL.op (JO.val (y_pick rfl) rfl ?_)
      refine JL.op (JO.val (y_move) rfl ?_)
      refine JL.op_skip rfl rfl rfl rfl ?_
      refine JL.op_skip rfl rfl rfl rfl ?_
      refine JL.op_skip rfl rfl rfl rfl ?_
      refine JL.op (JO.val (y_pick rfl) rfl ?_)
      with_reducible refine JL.nil ?_
      (refine JQ.has ⟨rfl, rfl, rfl, rfl, congrArg Value.bool ?_, trivial⟩ (fun _ h => h); (simp_all [chgBad1]; done))
    · refine JL.op_do rfl rfl (congrArg Value.bool hg3) (JO.val (y_fieldAddr rfl rfl rfl) rfl ?_)
      refine JL.op_do rfl rfl (congrArg Value.bool hg3) (JO.val (y_ld 0 rfl rfl rfl rfl) rfl ?_)
      refine JL.op_do rfl rfl (congrArg Value.bool hg3) (JO.val (y_eql rfl rfl) rfl ?_)
      refine JL.op (JO.val (y_pick (congrArg Value.bool hg3)) rfl ?_)
      refine JL.op (JO.val (y_move) rfl ?_)
      refine JL.split (d := 17) rfl (fun hg8 => ?_) (fun hg8 => ?_)
      · refine JL.op_skip rfl rfl (congrArg Value.bool hg8) rfl ?_
        refine JL.op_skip rfl rfl (congrArg Value.bool hg8) rfl ?_
        refine JL.op_skip rfl rfl (congrArg Value.bool hg8) rfl ?_
        refine JL.op (JO.val (y_pick (congrArg Value.bool hg8)) rfl ?_)
        refine JL.op (JO.val (y_move) rfl ?_)
        refine JL.op_skip rfl rfl rfl rfl ?_
        refine JL.op_skip rfl rfl rfl rfl ?_
        refine JL.op_skip rfl rfl rfl rfl ?_
        refine JL.op (JO.val (y_pick rfl) rfl ?_)
        with_reducible refine JL.nil ?_
        (refine JQ.has ⟨rfl, rfl, rfl, rfl, congrArg Value.bool ?_, trivial⟩ (fun _ h => h); (simp_all [chgBad1]; done))
      · refine JL.op_do rfl rfl (congrArg Value.bool hg8) (JO.val (y_fieldAddr rfl rfl rfl) rfl ?_)
        refine JL.op_do rfl rfl (congrArg Value.bool hg8) (JO.val (y_ld 1 rfl rfl rfl rfl) rfl ?_)
        refine JL.op_do rfl rfl (congrArg Value.bool hg8) (JO.val (y_lss rfl rfl) rfl ?_)
        refine JL.op (JO.val (y_pick (congrArg Value.bool hg8)) rfl ?_)
        refine JL.op (JO.val (y_move) rfl ?_)
        refine JL.split (d := 22) rfl (fun hg13 => ?_) (fun hg13 => ?_)
        · refine JL.op_skip rfl rfl (congrArg Value.bool hg13) rfl ?_
          refine JL.op_skip rfl rfl (congrArg Value.bool hg13) rfl ?_
          refine JL.op_skip rfl rfl (congrArg Value.bool hg13) rfl ?_
          refine JL.op (JO.val (y_pick (congrArg Value.bool hg13)) rfl ?_)
          with_reducible refine JL.nil ?_
          (refine JQ.has ⟨rfl, rfl, rfl, rfl, congrArg Value.bool ?_, trivial⟩ (fun _ h => h); (simp_all [chgBad1]; done))
        · refine JL.op_do rfl rfl (congrArg Value.bool hg13) (JO.val (y_fieldAddr rfl rfl rfl) rfl ?_)
          refine JL.op_do rfl rfl (congrArg Value.bool hg13) (JO.val (y_ld 1 rfl rfl rfl rfl) rfl ?_)
          refine JL.op_do rfl rfl (congrArg Value.bool hg13) (JO.val (y_gtr rfl rfl) rfl ?_)
          refine JL.op (JO.val (y_pick (congrArg Value.bool hg13)) rfl ?_)
          with_reducible refine JL.nil ?_
          (refine JQ.has ⟨rfl, rfl, rfl, rfl, congrArg Value.bool ?_, trivial⟩ (fun _ h => h); (rw [Bool.eq_iff_iff]; simp_all [chgBad1]; omega))
  with_reducible refine JQ.seq ?_
  refine JC.cond rfl (fun hg1 => ?_) (fun hg1 => ?_)
  · with_reducible refine JC.seq ?_
    with_reducible refine JC.region ?_
    refine JL.op (JO.val (y_ldA 3 rfl rfl rfl rfl) rfl ?_)
    refine JL.op (JO.storeA 2 rfl rfl rfl rfl (by first | rfl | assumption) (by first | rfl | assumption) (by first | rfl | assumption) ?_)
    refine JL.op (JO.val (y_assign) rfl ?_)
    with_reducible refine JL.nil ?_
    with_reducible refine JQ.seq (JC.ret (JQ.seq_ret ?_))
    exact ret_two rfl (ResV.cellA 2 rfl rfl rfl rfl) ResV.tmp (fun w hc => chg_fail (by simp [chgCode, hg1]) (by decide))
  with_reducible refine JC.skip (JQ.seq (JC.seq ?_))
  with_reducible refine JC.region ?_
  refine JL.op (JO.val (y_fieldAddr rfl rfl rfl) rfl ?_)
  refine JL.op (JO.val (y_ld 1 rfl rfl rfl rfl) rfl ?_)
  refine JL.op (JO.val (y_fieldAddr rfl rfl rfl) rfl ?_)
  refine JL.op (JO.val (y_ldP 1 (vs := x.key.cells) rfl rfl rfl (List.take_of_length_le (by show x.key.cells.length ≤ 33; omega)) (by rw [hxl]; rfl)) rfl ?_)
  refine JL.op (JO.val (y_mem hx.key rfl rfl) rfl ?_)
  refine JL.op (JO.alloc rfl rfl ?_); intro b7
  refine JL.op (JO.storeA 4 rfl rfl rfl rfl (by first | rfl | assumption) (by first | rfl | assumption) (by first | rfl | assumption) ?_)
  with_reducible refine JL.nil ?_
  with_reducible refine JQ.seq (JC.seq (JC.seq ?_))
  with_reducible refine JC.region ?_
  refine JL.op (JO.val (y_fieldAddr rfl rfl rfl) rfl ?_)
  refine JL.op (JO.val (y_ld 1 rfl rfl rfl rfl) rfl ?_)
  refine JL.op (JO.val (y_eql rfl rfl) rfl ?_)
  with_reducible refine JL.nil ?_
  with_reducible refine JQ.seq ?_
  refine JC.cutI (fun E S F2 w2 => S = [(some b2, 26, [.int .i64 ep, .slice A ms.length cap]), (some b3, 37, x.cells), (some b4, 26, [.int .i64 0, .slice none 0 0]), (some b6, 26, [.int .i64 0, .slice none 0 0]), (some b7, 55, (chgM x).cells)] ∧ F2 = F ∧ w2 = w ∧ Has E [(2, .pointer (some ⟨b2, 0, none⟩)), (3, .pointer (some ⟨b3, 0, none⟩)), (4, .pointer (some ⟨b4, 0, none⟩)), (6, .pointer (some ⟨b6, 0, none⟩)), (7, .pointer (some ⟨b7, 0, none⟩))]) ?_ ?_
  · refine JC.cond rfl (fun hg => ?_) (fun hg => ?_)
    · have hm : chgM x = ⟨x.new, x.key⟩ := by simp at hg; simp [chgM, hg]
      with_reducible refine JC.region ?_
      refine JL.op (JO.val (y_fieldAddr rfl rfl rfl) rfl ?_)
      refine JL.op (JO.val (y_ld 1 rfl rfl rfl rfl) rfl ?_)
      refine JL.op (JO.val (y_fieldAddr rfl rfl rfl) rfl ?_)
      refine JL.op (JO.store1 4 rfl rfl rfl rfl rfl rfl rfl ?_)
      with_reducible refine JL.nil ?_
      refine JQ.inv ⟨?_, rfl, rfl, ⟨rfl, rfl, rfl, rfl, rfl, trivial⟩⟩
      rw [hm]; rfl
    · have hm : chgM x = ⟨x.id, x.key⟩ := by simp at hg; simp [chgM, hg]
      with_reducible refine JC.skip ?_
      refine JQ.inv ⟨?_, rfl, rfl, ⟨rfl, rfl, rfl, rfl, rfl, trivial⟩⟩
      rw [hm]; rfl
  rintro E S F2 w2 ⟨rfl, rfl, rfl, hE⟩
  refine JQ.env hE (fun E => ?_)
  with_reducible refine JQ.seq (JC.seq (JC.seq ?_))
  refine JC.cutS [(2, .pointer (some ⟨b2, 0, none⟩)), (3, .pointer (some ⟨b3, 0, none⟩)), (4, .pointer (some ⟨b4, 0, none⟩)), (6, .pointer (some ⟨b6, 0, none⟩)), (7, .pointer (some ⟨b7, 0, none⟩)), (46, .bool (chgBad2 x))] ?_ (fun E => ?_)
  · with_reducible refine JC.region ?_
    refine JL.op (JO.val (y_fieldAddr rfl rfl rfl) rfl ?_)
    refine JL.op (JO.val (y_ld 1 rfl rfl rfl rfl) rfl ?_)
    refine JL.op (JO.val (y_neq rfl rfl) rfl ?_)
    refine JL.op (JO.val (y_move) rfl ?_)
    refine JL.split (d := 42) rfl (fun hg3 => ?_) (fun hg3 => ?_)
    · refine JL.op_do rfl rfl (congrArg Value.bool hg3) (JO.val (y_ldA 4 rfl rfl rfl (by first | rfl | assumption)) rfl ?_)
      refine JL.op_do rfl rfl (congrArg Value.bool hg3) (JO.callv (fun wc hc => right8_any (chgM x) hmw wc) rfl rfl rfl ?_)
      refine JL.op_do rfl rfl (congrArg Value.bool hg3) (JO.val (y_not rfl) rfl ?_)
      refine JL.op (JO.val (y_pick (congrArg Value.bool hg3)) rfl ?_)
      with_reducible refine JL.nil ?_
      (refine JQ.has ⟨rfl, rfl, rfl, rfl, rfl, congrArg Value.bool ?_, trivial⟩ (fun _ h => h); (simp_all [chgBad2]; done))
    · refine JL.op_skip rfl rfl (congrArg Value.bool hg3) rfl ?_
      refine JL.op_skip rfl rfl (congrArg Value.bool hg3) rfl ?_
      refine JL.op_skip rfl rfl (congrArg Value.bool hg3) rfl ?_
      refine JL.op (JO.val (y_pick (congrArg Value.bool hg3)) rfl ?_)
      with_reducible refine JL.nil ?_
      (refine JQ.has ⟨rfl, rfl, rfl, rfl, rfl, congrArg Value.bool ?_, trivial⟩ (fun _ h => h); (simp_all [chgBad2]; done))
  with_reducible refine JQ.seq ?_
  refine JC.cond rfl (fun hg2 => ?_) (fun hg2 => ?_)
  · with_reducible refine JC.seq ?_
    with_reducible refine JC.region ?_
    refine JL.op (JO.val (y_ldA 3 rfl rfl rfl rfl) rfl ?_)
    refine JL.op (JO.storeA 2 rfl rfl rfl rfl (by first | rfl | assumption) (by first | rfl | assumption) (by first | rfl | assumption) ?_)
    refine JL.op (JO.val (y_assign) rfl ?_)
    with_reducible refine JL.nil ?_
    with_reducible refine JQ.seq (JC.ret (JQ.seq_ret ?_))
    exact ret_two rfl (ResV.cellA 2 rfl rfl rfl rfl) ResV.tmp (fun w hc => chg_fail (by simp [chgCode, hg1, hg2]) (by decide))
  with_reducible refine JC.skip (JQ.seq (JC.seq (JC.seq ?_)))
  refine JC.cutS [(2, .pointer (some ⟨b2, 0, none⟩)), (3, .pointer (some ⟨b3, 0, none⟩)), (4, .pointer (some ⟨b4, 0, none⟩)), (6, .pointer (some ⟨b6, 0, none⟩)), (7, .pointer (some ⟨b7, 0, none⟩)), (57, .bool (chgBad3 ms x))] ?_ (fun E => ?_)
  · with_reducible refine JC.region ?_
    refine JL.op (JO.val (y_fieldAddr rfl rfl rfl) rfl ?_)
    refine JL.op (JO.val (y_ld 1 rfl rfl rfl rfl) rfl ?_)
    refine JL.op (JO.val (y_neq rfl rfl) rfl ?_)
    refine JL.op (JO.val (y_move) rfl ?_)
    refine JL.split (d := 51) rfl (fun hg3 => ?_) (fun hg3 => ?_)
    · refine JL.op_do rfl rfl (congrArg Value.bool hg3) (JO.val (y_ldA 0 rfl rfl rfl rfl) rfl ?_)
      refine JL.op_do rfl rfl (congrArg Value.bool hg3) (JO.val (y_fieldAddr rfl rfl rfl) rfl ?_)
      refine JL.op_do rfl rfl (congrArg Value.bool hg3) (JO.val (y_ld 1 rfl rfl rfl rfl) rfl ?_)
      refine JL.op_do rfl rfl (congrArg Value.bool hg3) (JO.callv (fun wc hc => placeM_any _ ep A cap ms x.id wc (h.step hc.step) (by omega) hwf) rfl rfl rfl ?_)
      refine JL.op_do rfl rfl (congrArg Value.bool hg3) (JO.val (y_lss rfl rfl) rfl ?_)
      refine JL.op (JO.val (y_pick (congrArg Value.bool hg3)) rfl ?_)
      with_reducible refine JL.nil ?_
      (refine JQ.has ⟨rfl, rfl, rfl, rfl, rfl, congrArg Value.bool ?_, trivial⟩ (fun _ h => h); (simp_all [chgBad3, hasM, placeI_lt]; done))
    · refine JL.op_skip rfl rfl (congrArg Value.bool hg3) rfl ?_
      refine JL.op_skip rfl rfl (congrArg Value.bool hg3) rfl ?_
      refine JL.op_skip rfl rfl (congrArg Value.bool hg3) rfl ?_
      refine JL.op_skip rfl rfl (congrArg Value.bool hg3) rfl ?_
      refine JL.op_skip rfl rfl (congrArg Value.bool hg3) rfl ?_
      refine JL.op (JO.val (y_pick (congrArg Value.bool hg3)) rfl ?_)
      with_reducible refine JL.nil ?_
      (refine JQ.has ⟨rfl, rfl, rfl, rfl, rfl, congrArg Value.bool ?_, trivial⟩ (fun _ h => h); (simp_all [chgBad3, hasM, placeI_lt]; done))
  with_reducible refine JQ.seq ?_
  refine JC.cond rfl (fun hg3 => ?_) (fun hg3 => ?_)
  · with_reducible refine JC.seq ?_
    with_reducible refine JC.region ?_
    refine JL.op (JO.val (y_ldA 3 rfl rfl rfl rfl) rfl ?_)
    refine JL.op (JO.storeA 2 rfl rfl rfl rfl (by first | rfl | assumption) (by first | rfl | assumption) (by first | rfl | assumption) ?_)
    refine JL.op (JO.val (y_assign) rfl ?_)
    with_reducible refine JL.nil ?_
    with_reducible refine JQ.seq (JC.ret (JQ.seq_ret ?_))
    exact ret_two rfl (ResV.cellA 2 rfl rfl rfl rfl) ResV.tmp (fun w hc => chg_fail (by simp [chgCode, hg1, hg2, hg3]) (by decide))
  with_reducible refine JC.skip (JQ.seq (JC.seq (JC.seq ?_)))
  refine JC.cutS [(2, .pointer (some ⟨b2, 0, none⟩)), (3, .pointer (some ⟨b3, 0, none⟩)), (4, .pointer (some ⟨b4, 0, none⟩)), (6, .pointer (some ⟨b6, 0, none⟩)), (7, .pointer (some ⟨b7, 0, none⟩)), (73, .bool (chgBad4 ms x))] ?_ (fun E => ?_)
  · with_reducible refine JC.region ?_
    refine JL.op (JO.val (y_fieldAddr rfl rfl rfl) rfl ?_)
    refine JL.op (JO.val (y_ld 1 rfl rfl rfl rfl) rfl ?_)
    refine JL.op (JO.val (y_eql rfl rfl) rfl ?_)
    refine JL.op (JO.val (y_move) rfl ?_)
    refine JL.split (d := 62) rfl (fun hg3 => ?_) (fun hg3 => ?_)
    · refine JL.op_skip rfl rfl (congrArg Value.bool hg3) rfl ?_
      refine JL.op_skip rfl rfl (congrArg Value.bool hg3) rfl ?_
      refine JL.op_skip rfl rfl (congrArg Value.bool hg3) rfl ?_
      refine JL.op (JO.val (y_pick (congrArg Value.bool hg3)) rfl ?_)
      refine JL.op (JO.val (y_move) rfl ?_)
      refine JL.op_do rfl rfl rfl (JO.val (y_ldA 0 rfl rfl rfl rfl) rfl ?_)
      refine JL.op_do rfl rfl rfl (JO.val (y_fieldAddr rfl rfl rfl) rfl ?_)
      refine JL.op_do rfl rfl rfl (JO.val (y_ld 4 rfl rfl rfl rfl) rfl ?_)
      refine JL.op_do rfl rfl rfl (JO.callv (fun wc hc => placeM_any _ ep A cap ms (chgM x).id wc (h.step hc.step) (by omega) hwf) rfl rfl rfl ?_)
      refine JL.op_do rfl rfl rfl (JO.val (y_geq rfl rfl) rfl ?_)
      refine JL.op (JO.val (y_pick rfl) rfl ?_)
      with_reducible refine JL.nil ?_
      (refine JQ.has ⟨rfl, rfl, rfl, rfl, rfl, congrArg Value.bool ?_, trivial⟩ (fun _ h => h); (simp_all [chgBad4, hasM, placeI_ge]; done))
    · refine JL.op_do rfl rfl (congrArg Value.bool hg3) (JO.val (y_fieldAddr rfl rfl rfl) rfl ?_)
      refine JL.op_do rfl rfl (congrArg Value.bool hg3) (JO.val (y_ld 1 rfl rfl rfl rfl) rfl ?_)
      refine JL.op_do rfl rfl (congrArg Value.bool hg3) (JO.val (y_eql rfl rfl) rfl ?_)
      refine JL.op (JO.val (y_pick (congrArg Value.bool hg3)) rfl ?_)
      refine JL.op (JO.val (y_move) rfl ?_)
      refine JL.split (d := 67) rfl (fun hg8 => ?_) (fun hg8 => ?_)
      · refine JL.op_do rfl rfl (congrArg Value.bool hg8) (JO.val (y_ldA 0 rfl rfl rfl rfl) rfl ?_)
        refine JL.op_do rfl rfl (congrArg Value.bool hg8) (JO.val (y_fieldAddr rfl rfl rfl) rfl ?_)
        refine JL.op_do rfl rfl (congrArg Value.bool hg8) (JO.val (y_ld 4 rfl rfl rfl rfl) rfl ?_)
        refine JL.op_do rfl rfl (congrArg Value.bool hg8) (JO.callv (fun wc hc => placeM_any _ ep A cap ms (chgM x).id wc (h.step hc.step) (by omega) hwf) rfl rfl rfl ?_)
        refine JL.op_do rfl rfl (congrArg Value.bool hg8) (JO.val (y_geq rfl rfl) rfl ?_)
        refine JL.op (JO.val (y_pick (congrArg Value.bool hg8)) rfl ?_)
        with_reducible refine JL.nil ?_
        (refine JQ.has ⟨rfl, rfl, rfl, rfl, rfl, congrArg Value.bool ?_, trivial⟩ (fun _ h => h); (simp_all [chgBad4, hasM, placeI_ge]; done))
      · refine JL.op_skip rfl rfl (congrArg Value.bool hg8) rfl ?_
        refine JL.op_skip rfl rfl (congrArg Value.bool hg8) rfl ?_
        refine JL.op_skip rfl rfl (congrArg Value.bool hg8) rfl ?_
        refine JL.op_skip rfl rfl (congrArg Value.bool hg8) rfl ?_
        refine JL.op_skip rfl rfl (congrArg Value.bool hg8) rfl ?_
        refine JL.op (JO.val (y_pick (congrArg Value.bool hg8)) rfl ?_)
        with_reducible refine JL.nil ?_
        (refine JQ.has ⟨rfl, rfl, rfl, rfl, rfl, congrArg Value.bool ?_, trivial⟩ (fun _ h => h); (simp_all [chgBad4, hasM, placeI_ge]; done))
  with_reducible refine JQ.seq ?_
  refine JC.cond rfl (fun hg4 => ?_) (fun hg4 => ?_)
  · with_reducible refine JC.seq ?_
    with_reducible refine JC.region ?_
    refine JL.op (JO.val (y_ldA 3 rfl rfl rfl rfl) rfl ?_)
    refine JL.op (JO.storeA 2 rfl rfl rfl rfl (by first | rfl | assumption) (by first | rfl | assumption) (by first | rfl | assumption) ?_)
    refine JL.op (JO.val (y_assign) rfl ?_)
    with_reducible refine JL.nil ?_
    with_reducible refine JQ.seq (JC.ret (JQ.seq_ret ?_))
    exact ret_two rfl (ResV.cellA 2 rfl rfl rfl rfl) ResV.tmp (fun w hc => chg_fail (by simp [chgCode, hg1, hg2, hg3, hg4]) (by decide))
  with_reducible refine JC.skip (JQ.seq (JC.seq (JC.seq ?_)))
  refine JC.cutS [(2, .pointer (some ⟨b2, 0, none⟩)), (3, .pointer (some ⟨b3, 0, none⟩)), (4, .pointer (some ⟨b4, 0, none⟩)), (6, .pointer (some ⟨b6, 0, none⟩)), (7, .pointer (some ⟨b7, 0, none⟩)), (83, .bool (chgBad5 ms x))] ?_ (fun E => ?_)
  · with_reducible refine JC.region ?_
    refine JL.op (JO.val (y_fieldAddr rfl rfl rfl) rfl ?_)
    refine JL.op (JO.val (y_ld 1 rfl rfl rfl rfl) rfl ?_)
    refine JL.op (JO.val (y_eql rfl rfl) rfl ?_)
    refine JL.op (JO.val (y_move) rfl ?_)
    refine JL.split (d := 78) rfl (fun hg3 => ?_) (fun hg3 => ?_)
    · refine JL.op_do rfl rfl (congrArg Value.bool hg3) (JO.val (y_fieldAddr rfl rfl rfl) rfl ?_)
      refine JL.op_do rfl rfl (congrArg Value.bool hg3) (JO.val (y_ld 0 rfl rfl rfl rfl) rfl ?_)
      refine JL.op_do rfl rfl (congrArg Value.bool hg3) (JO.val (y_len rfl rfl) rfl ?_)
      refine JL.op_do rfl rfl (congrArg Value.bool hg3) (JO.val (y_eql rfl rfl) rfl ?_)
      refine JL.op (JO.val (y_pick (congrArg Value.bool hg3)) rfl ?_)
      with_reducible refine JL.nil ?_
      (refine JQ.has ⟨rfl, rfl, rfl, rfl, rfl, congrArg Value.bool ?_, trivial⟩ (fun _ h => h); (simp_all [chgBad5]; done))
    · refine JL.op_skip rfl rfl (congrArg Value.bool hg3) rfl ?_
      refine JL.op_skip rfl rfl (congrArg Value.bool hg3) rfl ?_
      refine JL.op_skip rfl rfl (congrArg Value.bool hg3) rfl ?_
      refine JL.op_skip rfl rfl (congrArg Value.bool hg3) rfl ?_
      refine JL.op (JO.val (y_pick (congrArg Value.bool hg3)) rfl ?_)
      with_reducible refine JL.nil ?_
      (refine JQ.has ⟨rfl, rfl, rfl, rfl, rfl, congrArg Value.bool ?_, trivial⟩ (fun _ h => h); (simp_all [chgBad5]; done))
  with_reducible refine JQ.seq ?_
  refine JC.cond rfl (fun hg5 => ?_) (fun hg5 => ?_)
  · with_reducible refine JC.seq ?_
    with_reducible refine JC.region ?_
    refine JL.op (JO.val (y_ldA 3 rfl rfl rfl rfl) rfl ?_)
    refine JL.op (JO.storeA 2 rfl rfl rfl rfl (by first | rfl | assumption) (by first | rfl | assumption) (by first | rfl | assumption) ?_)
    refine JL.op (JO.val (y_assign) rfl ?_)
    with_reducible refine JL.nil ?_
    with_reducible refine JQ.seq (JC.ret (JQ.seq_ret ?_))
    exact ret_two rfl (ResV.cellA 2 rfl rfl rfl rfl) ResV.tmp (fun w hc => chg_fail (by simp [chgCode, hg1, hg2, hg3, hg4, hg5]) (by decide))
  with_reducible refine JC.skip (JQ.seq (JC.seq (JC.seq ?_)))
  refine JC.cutS [(2, .pointer (some ⟨b2, 0, none⟩)), (3, .pointer (some ⟨b3, 0, none⟩)), (4, .pointer (some ⟨b4, 0, none⟩)), (6, .pointer (some ⟨b6, 0, none⟩)), (7, .pointer (some ⟨b7, 0, none⟩)), (93, .bool (chgBad6 ms x))] ?_ (fun E => ?_)
  · with_reducible refine JC.region ?_
    refine JL.op (JO.val (y_fieldAddr rfl rfl rfl) rfl ?_)
    refine JL.op (JO.val (y_ld 1 rfl rfl rfl rfl) rfl ?_)
    refine JL.op (JO.val (y_eql rfl rfl) rfl ?_)
    refine JL.op (JO.val (y_move) rfl ?_)
    refine JL.split (d := 88) rfl (fun hg3 => ?_) (fun hg3 => ?_)
    · refine JL.op_do rfl rfl (congrArg Value.bool hg3) (JO.val (y_fieldAddr rfl rfl rfl) rfl ?_)
      refine JL.op_do rfl rfl (congrArg Value.bool hg3) (JO.val (y_ld 0 rfl rfl rfl rfl) rfl ?_)
      refine JL.op_do rfl rfl (congrArg Value.bool hg3) (JO.val (y_len rfl rfl) rfl ?_)
      refine JL.op_do rfl rfl (congrArg Value.bool hg3) (JO.val (y_eql rfl rfl) rfl ?_)
      refine JL.op (JO.val (y_pick (congrArg Value.bool hg3)) rfl ?_)
      with_reducible refine JL.nil ?_
      (refine JQ.has ⟨rfl, rfl, rfl, rfl, rfl, congrArg Value.bool ?_, trivial⟩ (fun _ h => h); (simp_all [chgBad6]; done))
    · refine JL.op_skip rfl rfl (congrArg Value.bool hg3) rfl ?_
      refine JL.op_skip rfl rfl (congrArg Value.bool hg3) rfl ?_
      refine JL.op_skip rfl rfl (congrArg Value.bool hg3) rfl ?_
      refine JL.op_skip rfl rfl (congrArg Value.bool hg3) rfl ?_
      refine JL.op (JO.val (y_pick (congrArg Value.bool hg3)) rfl ?_)
      with_reducible refine JL.nil ?_
      (refine JQ.has ⟨rfl, rfl, rfl, rfl, rfl, congrArg Value.bool ?_, trivial⟩ (fun _ h => h); (simp_all [chgBad6]; done))
  with_reducible refine JQ.seq ?_
  refine JC.cond rfl (fun hg6 => ?_) (fun hg6 => ?_)
  · with_reducible refine JC.seq ?_
    with_reducible refine JC.region ?_
    refine JL.op (JO.val (y_ldA 3 rfl rfl rfl rfl) rfl ?_)
    refine JL.op (JO.storeA 2 rfl rfl rfl rfl (by first | rfl | assumption) (by first | rfl | assumption) (by first | rfl | assumption) ?_)
    refine JL.op (JO.val (y_assign) rfl ?_)
    with_reducible refine JL.nil ?_
    with_reducible refine JQ.seq (JC.ret (JQ.seq_ret ?_))
    exact ret_two rfl (ResV.cellA 2 rfl rfl rfl rfl) ResV.tmp (fun w hc => chg_fail (by simp [chgCode, hg1, hg2, hg3, hg4, hg5, hg6]) (by decide))
  have hcode : chgCode ep ms x = 0 := by simp [chgCode, hg1, hg2, hg3, hg4, hg5, hg6]
  have hep : 0 ≤ ep ∧ ep ≤ 1073741824 := by simp [chgBad1, cfgGood, cfgOut] at hg1; omega
  with_reducible refine JC.skip (JQ.seq (JC.seq ?_))
  with_reducible refine JC.region ?_
  refine JL.op (JO.val (y_fieldAddr rfl rfl rfl) rfl ?_)
  refine JL.op (JO.val (y_ld 0 rfl rfl rfl rfl) rfl ?_)
  refine JL.op (JO.val (y_assign) rfl ?_)
  with_reducible refine JL.nil ?_
  with_reducible refine JQ.seq (JC.seq (JC.seq ?_))
  with_reducible refine JC.region ?_
  refine JL.op (JO.val (y_fieldAddr rfl rfl rfl) rfl ?_)
  refine JL.op (JO.val (y_ld 1 rfl rfl rfl rfl) rfl ?_)
  refine JL.op (JO.val (y_neq rfl rfl) rfl ?_)
  with_reducible refine JL.nil ?_
  with_reducible refine JQ.seq ?_
  refine JC.cutI (fun E S F3 w3 => ∃ A3 cap3, RMems F3 w3 A3 cap3 (chgOut ms x) ∧ Step F2 w2 F3 w3 ∧ w2.heap.size ≤ w3.heap.size ∧ S = [(some b2, 26, [.int .i64 ep, .slice A ms.length cap]), (some b3, 37, x.cells), (some b4, 26, [.int .i64 0, .slice none 0 0]), (some b6, 26, [.int .i64 0, .slice none 0 0]), (some b7, 55, (chgM x).cells)] ∧ Has E [(2, .pointer (some ⟨b2, 0, none⟩)), (3, .pointer (some ⟨b3, 0, none⟩)), (4, .pointer (some ⟨b4, 0, none⟩)), (7, .pointer (some ⟨b7, 0, none⟩)), (8, .slice A3 (chgOut ms x).length cap3)]) ?_ ?_
  · refine JC.cond rfl (fun hg => ?_) (fun hg => ?_)
    · have ho : chgOut ms x = ms.filter (fun m => decide (m.id ≠ x.id)) := by unfold chgOut; rw [if_pos (by simpa using hg)]
      rw [ho]
      with_reducible refine JC.region ?_
      refine JL.op (JO.val (y_move) rfl ?_)
      refine JL.op (JO.val (y_fieldAddr rfl rfl rfl) rfl ?_)
      refine JL.op (JO.val (y_ld 1 rfl rfl rfl rfl) rfl ?_)
      refine JL.op (JO.call _ (fun wc hc => withoutM_any _ A cap ms x.id wc (SlF.step h hc.step (by omega)) (by omega) hwf (fun m hm => LMember.len_cells (hwf m hm))) rfl rfl rfl ?_)
      rintro wc v wn hst hsz hfr hbl hst0 ⟨A3, cap3, rfl, hown⟩
      refine JL.op (JO.val (y_assign) rfl ?_)
      with_reducible refine JL.nil ?_
      exact JQ.inv ⟨A3, cap3, SlF.step hown.slF (Step.weak (fun b hb => hfr b hb)) (by omega), hst, Nat.le_trans hsz hbl.size, rfl, ⟨rfl, rfl, rfl, rfl, rfl, trivial⟩⟩
    · have ho : chgOut ms x = ms := by unfold chgOut; rw [if_neg (by simpa using hg)]
      rw [ho]
      with_reducible refine JC.skip ?_
      exact JQ.inv ⟨A, cap, h, Step.weak fun _ h => h, Nat.le_refl _, rfl, ⟨rfl, rfl, rfl, rfl, rfl, trivial⟩⟩
  rintro E S F3 w3 ⟨A3, cap3, h3, hst3, hsz3, rfl, hE⟩
  refine JQ.env hE (fun E => ?_)
  have hol : (chgOut ms x).length ≤ 10000 := by
    unfold chgOut
    split
    · exact Nat.le_trans (List.length_filter_le _ _) hn
    · exact hn
  have how : ∀ m ∈ chgOut ms x, m.wf := fun m hm => by
    unfold chgOut at hm
    split at hm
    · exact hwf m ((List.mem_filter.1 hm).1)
    · exact hwf m hm
  with_reducible refine JQ.seq (JC.seq (JC.seq ?_))
  with_reducible refine JC.region ?_
  refine JL.op (JO.val (y_fieldAddr rfl rfl rfl) rfl ?_)
  refine JL.op (JO.val (y_ld 1 rfl rfl rfl rfl) rfl ?_)
  refine JL.op (JO.val (y_neq rfl rfl) rfl ?_)
  with_reducible refine JL.nil ?_
  with_reducible refine JQ.seq ?_
  refine JC.cutI (fun E S F4 w4 => ∃ A4 cap4, RMems F4 w4 A4 cap4 (chgList ms x) ∧ S = [(some b2, 26, [.int .i64 ep, .slice A ms.length cap]), (some b3, 37, x.cells), (some b4, 26, [.int .i64 0, .slice none 0 0]), (some b6, 26, [.int .i64 0, .slice none 0 0]), (some b7, 55, (chgM x).cells)] ∧ Has E [(2, .pointer (some ⟨b2, 0, none⟩)), (3, .pointer (some ⟨b3, 0, none⟩)), (4, .pointer (some ⟨b4, 0, none⟩)), (7, .pointer (some ⟨b7, 0, none⟩)), (8, .slice A4 (chgList ms x).length cap4)]) ?_ ?_
  · refine JC.cond rfl (fun hg => ?_) (fun hg => ?_)
    · have ho : chgList ms x = withM (chgM x) (chgOut ms x) := by unfold chgList; rw [if_pos (by simpa using hg)]
      rw [ho]
      with_reducible refine JC.region ?_
      refine JL.op (JO.val (y_move) rfl ?_)
      refine JL.op (JO.val (y_ldA 4 rfl rfl rfl (by first | rfl | assumption)) rfl ?_)
      refine JL.op (JO.call _ (fun wc hc => withM_any _ A3 cap3 (chgOut ms x) (chgM x) wc (SlF.step h3 hc.step (by omega)) (by omega) how hmw) rfl rfl rfl ?_)
      rintro wc v wn hst hsz hfr hbl hst0 ⟨A4, cap4, rfl, hown⟩
      refine JL.op (JO.val (y_assign) rfl ?_)
      with_reducible refine JL.nil ?_
      exact JQ.inv ⟨A4, cap4, SlF.step hown.slF (Step.weak (fun b hb => hfr b hb)) (by omega), rfl, ⟨rfl, rfl, rfl, rfl, rfl, trivial⟩⟩
    · have ho : chgList ms x = chgOut ms x := by unfold chgList; rw [if_neg (by simpa using hg)]
      rw [ho]
      with_reducible refine JC.skip ?_
      exact JQ.inv ⟨A3, cap3, h3, rfl, ⟨rfl, rfl, rfl, rfl, rfl, trivial⟩⟩
  rintro E S F4 w4 ⟨A4, cap4, h4, rfl, hE⟩
  refine JQ.env hE (fun E => ?_)
  have hll : (chgList ms x).length ≤ 20001 := by
    unfold chgList
    split
    · unfold withM
      have := goW_len (stop := fun m : LMember => decide (m.id > (chgM x).id)) (keep := fun _ => true) (x := chgM x) (l := chgOut ms x) (done := false)
      omega
    · omega
  have hlw : ∀ m ∈ chgList ms x, m.wf := fun m hm => by
    unfold chgList at hm
    split at hm
    · rcases goW_mem hm with h | h
      · subst h; exact hmw
      · exact how m h
    · exact how m hm
  with_reducible refine JQ.seq (JC.seq ?_)
  refine JC.held [0] ?_
  refine JH.take 0 rfl (by kernel_rfl) (by kernel_rfl) (by kernel_rfl) (fun _ _ _ => y_fieldAddr rfl rfl rfl) rfl (by repeat (first | exact np_fun | refine np_seq ?_ | refine np_blk ?_ | refine np_loop ?_)) (⟨rfl, trivial⟩) ?_
  refine JH.take 1 rfl (by kernel_rfl) (by kernel_rfl) (by kernel_rfl) (fun _ _ _ => y_ld 0 rfl rfl rfl rfl) rfl (by repeat (first | exact np_fun | refine np_seq ?_ | refine np_blk ?_ | refine np_loop ?_)) (⟨rfl, trivial⟩) ?_
  refine JH.take 2 rfl (by kernel_rfl) (by kernel_rfl) (by kernel_rfl) (fun _ _ _ => y_add (r := ep + 1) rfl rfl (wrap_in (by omega) (by omega))) rfl (by repeat (first | exact np_fun | refine np_seq ?_ | refine np_blk ?_ | refine np_loop ?_)) (⟨rfl, trivial⟩) ?_
  refine JH.take 4 rfl (by kernel_rfl) (by kernel_rfl) (by kernel_rfl) (fun _ _ _ => y_move) rfl (by repeat (first | exact np_fun | refine np_seq ?_ | refine np_blk ?_ | refine np_loop ?_)) (⟨rfl, trivial⟩) ?_
  refine JH.one 3 (by kernel_rfl) (JI.op rfl ?_)
  refine (JO.build0 rfl rfl rfl ?_); intro b113
  refine ⟨⟨rfl, trivial⟩, ?_⟩
  refine JH.one 5 (by kernel_rfl) (JI.op rfl ?_)
  refine (JO.append 5 (ob := some _) (n := 0) (cap := 0) ((chgList ms x).flatMap LMember.cells) rfl rfl rfl rfl rfl rfl rfl ⟨rfl, Nat.le_refl _, by simp [maxLen], fun h => by cases h⟩ h4.len (fun he => (h4.nil he).1) (fun w2 hc => hc.srcF h4) (flatMap_one fun m hm => LMember.one (hlw m hm)) (by unfold maxLen; omega) (by omega) ?_)
  intro ob' cap' cur' hrow htk _
  rw [Nat.zero_add (chgList ms x).length] at hrow htk ⊢
  refine ⟨⟨rfl, trivial⟩, ?_⟩
  refine JH.take 6 rfl (by kernel_rfl) (by kernel_rfl) (by kernel_rfl) (fun _ _ _ => y_build rfl rfl (⟨_, _, _, rfl, rfl, rfl, rfl, ⟨_, _, _, rfl, rfl, rfl, rfl, rfl⟩⟩)) rfl (by repeat (first | exact np_fun | refine np_seq ?_ | refine np_blk ?_ | refine np_loop ?_)) (⟨rfl, trivial⟩) ?_
  refine JH.one 7 (by kernel_rfl) (JI.op rfl ?_)
  refine (JO.storeA 2 rfl rfl rfl rfl (by first | rfl | assumption) (by first | rfl | assumption) (by first | rfl | assumption) ?_)
  refine ⟨⟨rfl, trivial⟩, ?_⟩
  refine JH.take 8 rfl (by kernel_rfl) (by kernel_rfl) (by kernel_rfl) (fun _ _ _ => y_assign) rfl (by repeat (first | exact np_fun | refine np_seq ?_ | refine np_blk ?_ | refine np_loop ?_)) (⟨rfl, trivial⟩) ?_
  refine JH.done (by kernel_rfl) ?_
  with_reducible refine JQ.seq (JC.ret ?_)
  refine ret_two rfl (ResV.cellA 2 rfl rfl rfl rfl) ResV.tmp (fun w hc => ?_)
  refine chg_fine (w' := w) (cur := cur') hcode hrow (by simpa using htk) (fun b hb => hc.own0 rfl (ob', 55, cur') (by simp [sset]) b hb)
end Go.Proofs.YtchnnplcpidkiaaDoor
