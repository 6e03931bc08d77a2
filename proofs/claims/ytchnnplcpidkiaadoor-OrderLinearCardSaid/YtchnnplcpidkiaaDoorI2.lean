/- Contract of slices.Delete (one element), which changes a row of its caller; no condition but bounds on lengths. -/
import Derived.Test.YtchnnplcpidkiaaDoorI1
namespace Go.Proofs.YtchnnplcpidkiaaDoor
open Go.RowKit
set_option linter.unusedSimpArgs false
set_option linter.unusedVariables false
set_option maxRecDepth 20000
set_option maxHeartbeats 1000000

theorem del_cells {R P D N : List Value} (hk : P.length + D.length + N.length ≤ R.length) (hP : R.take P.length = P) {n : Nat} (hn : n = P.length + N.length) {o : Nat} (ho : o = P.length) : (splice R o N).take n = P ++ N ∧ (splice R o N).length = R.length := by
  subst ho hn
  obtain ⟨N0, N1, Z, rfl, h1, h2⟩ := row_cut (R := R) (P := P) (v := N) (N := []) (k := 0) (by simp; omega) hP
  rw [splice_mid P N0 (N1 ++ Z) N h1.symm]
  constructor
  · rw [← List.append_assoc, List.take_left' (by simp)]
  · simp; omega
theorem delete_49 (b i m cap : Nat) (cur P D N : List Value) (w : World) (hrow : Row (some b) (i + 1 + m) cap 2 cur) (hP : P.length = i * 2) (hD : D.length = 2) (hN : N.length = m * 2) (htk : cur.take ((i + 1 + m) * 2) = P ++ D ++ N) (hn : i + 1 + m ≤ 100000) (hob : w.heap[b]? = some (.cells cur.toArray 53 (0, 0))) (hN1 : allOne N = true) :
    CallsM [b] 49 #[.slice (some ⟨b, 0, none⟩) (i + 1 + m) cap, .int .i64 (i : Nat), .int .i64 ((i + 1 : Nat) : Int)] w (fun v w' => ∃ cur', v = .slice (some ⟨b, 0, none⟩) (i + m) cap ∧ Row (some b) (i + m) cap 2 cur' ∧ cur'.take ((i + m) * 2) = P ++ N ∧ w'.heap[b]? = some (.cells cur'.toArray 53 (0, 0))) := by
  have hS0 : ∀ e ∈ ([(some b, 53, cur)] : Sto), ∀ b', e.1 = some b' → b' ∈ [b] ∧ w.heap[b']? = some (.cells e.2.2.toArray e.2.1 (0, 0)) := fun e he b' hb => by
    simp only [List.mem_cons, List.not_mem_nil, or_false] at he
    subst he
    simp only [Option.some.injEq] at hb
    subst hb
    exact ⟨by simp, hob⟩
  have hnd : (blks ([(some b, 53, cur)] : Sto)).Nodup := by simp [blks]
  refine CallsM.enter [b] [(some b, 53, cur)] 33 (fun _ => True) (fun _ => False) Tryd.func49 rfl rfl rfl rfl hS0 hnd (fun _ _ h => h.elim) ?_
  have hle := hrow.le
  have hmx := hrow.max
  have hcl := hrow.len
  have hPD : (P ++ D).length = (i + 1) * 2 := by rw [List.length_append, hP, hD]; exact (two i 2).symm
  have h3 : (i + 1 + m) * 2 = P.length + D.length + N.length := by rw [hP, hD, hN, Nat.add_right_comm]; exact three i m 2
  have hb1 : (i + 1 + m) * 2 ≤ cap * 2 := Nat.mul_le_mul_right 2 hle
  have ha1 : P.length + D.length + N.length ≤ cur.length := by rw [hcl, ← h3]; exact hb1
  have htk2 : cur.take ((i + 1 + m) * 2) = P ++ (D ++ N) := by rw [htk, List.append_assoc]
  have hf := del_cells ha1 (by rw [← hP] at *; exact take_head htk2 rfl) (n := (i + m) * 2) (by rw [hP, hN, Nat.add_mul]) (o := i * 2) hP.symm
  have hf1 := hf.1
  have hf2 := hf.2
  with_reducible refine JC.seq ?_
  with_reducible refine JC.region ?_
  refine JL.op (JO.val (y_assign) rfl ?_)
  with_reducible refine JL.nil ?_
  with_reducible refine JQ.seq (JC.seq ?_)
  with_reducible refine JC.region ?_
  refine JL.op (JO.val (y_move) rfl ?_)
  refine JL.op (JO.val (y_move) rfl ?_)
  refine JL.op (JO.val (y_move) rfl ?_)
  refine JL.op (JO.val (y_move) rfl ?_)
  refine JL.op (JO.val (y_len rfl rfl) rfl ?_)
  refine JL.op (JO.val (y_sl (lv := i) (hv := i + 1) (mv := i + 1 + m) rfl rfl rfl ⟨_, rfl⟩ ⟨_, rfl⟩ ⟨_, rfl⟩ rfl (by omega) (by omega) (by omega) rfl) rfl ?_)
  with_reducible refine JL.nil ?_
  with_reducible refine JQ.seq (JC.seq (JC.seq ?_))
  with_reducible refine JC.region ?_
  refine JL.op (JO.val (y_move) rfl ?_)
  refine JL.op (JO.val (y_move) rfl ?_)
  refine JL.op (JO.val (y_eql rfl rfl) rfl ?_)
  with_reducible refine JL.nil ?_
  with_reducible refine JQ.seq ?_
  refine JC.cond_false (congrArg Value.bool (by simp; omega)) ?_
  with_reducible refine JC.skip (JQ.seq (JC.seq ?_))
  with_reducible refine JC.region ?_
  refine JL.op (JO.val (y_move) rfl ?_)
  refine JL.op (JO.val (y_len rfl rfl) rfl ?_)
  refine JL.op (JO.val (y_assign) rfl ?_)
  with_reducible refine JL.nil ?_
  with_reducible refine JQ.seq (JC.seq ?_)
  refine JC.held [] ?_
  refine JH.take 0 rfl (by kernel_rfl) (by kernel_rfl) (by kernel_rfl) (fun _ _ _ => y_move) rfl (by repeat (first | exact np_fun | refine np_seq ?_ | refine np_blk ?_ | refine np_loop ?_)) (trivial) ?_
  refine JH.take 1 rfl (by kernel_rfl) (by kernel_rfl) (by kernel_rfl) (fun _ _ _ => y_move) rfl (by repeat (first | exact np_fun | refine np_seq ?_ | refine np_blk ?_ | refine np_loop ?_)) (trivial) ?_
  refine JH.take 2 rfl (by kernel_rfl) (by kernel_rfl) (by kernel_rfl) (fun _ _ _ => y_sl (lv := 0) (hv := i) (mv := cap) rfl rfl rfl rfl ⟨_, rfl⟩ rfl rfl (by omega) (by omega) (by omega) cutV0) rfl (by repeat (first | exact np_fun | refine np_seq ?_ | refine np_blk ?_ | refine np_loop ?_)) (trivial) ?_
  refine JH.take 3 rfl (by kernel_rfl) (by kernel_rfl) (by kernel_rfl) (fun _ _ _ => y_move) rfl (by repeat (first | exact np_fun | refine np_seq ?_ | refine np_blk ?_ | refine np_loop ?_)) (trivial) ?_
  refine JH.take 4 rfl (by kernel_rfl) (by kernel_rfl) (by kernel_rfl) (fun _ _ _ => y_move) rfl (by repeat (first | exact np_fun | refine np_seq ?_ | refine np_blk ?_ | refine np_loop ?_)) (trivial) ?_
  refine JH.take 5 rfl (by kernel_rfl) (by kernel_rfl) (by kernel_rfl) (fun _ _ _ => y_sl (lv := i + 1) (hv := i + 1 + m) (mv := cap) rfl rfl rfl ⟨_, rfl⟩ rfl rfl rfl (by omega) (by omega) (by omega) rfl) rfl (by repeat (first | exact np_fun | refine np_seq ?_ | refine np_blk ?_ | refine np_loop ?_)) (trivial) ?_
  refine JH.one 6 (by kernel_rfl) (JI.op rfl ?_)
  refine (JO.appendIn 0 (m := i + 1 + m - (i + 1)) N rfl rfl rfl rfl rfl rfl hcl (by omega) (by rw [hN, Nat.add_sub_cancel_left]) (fun h => ?_) (fun w2 hc => ?_) (allOne_mem hN1) ?_)
  · split at h <;> cases h
  · split
    · intro ad had j u hj
      have hm0 : m = 0 := by omega
      rw [hm0, Nat.zero_mul] at hN
      rw [List.eq_nil_of_length_eq_zero hN] at hj
      simp at hj
    · intro ad had
      refine hc.srcAt (i := 0) (o := (i + 1) * 2) rfl (part_at htk hPD.symm) ad ?_
      rw [← had]
      show _ = some (Addr.add ⟨b, 0, none⟩ _)
      rw [add_lit, Nat.zero_add]
  rw [show i + (i + 1 + m - (i + 1)) = i + m by omega]
  refine ⟨trivial, ?_⟩
  refine JH.take 7 rfl (by kernel_rfl) (by kernel_rfl) (by kernel_rfl) (fun _ _ _ => y_assign) rfl (by repeat (first | exact np_fun | refine np_seq ?_ | refine np_blk ?_ | refine np_loop ?_)) (trivial) ?_
  refine JH.done (by kernel_rfl) ?_
  with_reducible refine JQ.seq (JC.seq ?_)
  with_reducible refine JC.region ?_
  refine JL.op (JO.val (y_move) rfl ?_)
  refine JL.op (JO.val (y_move) rfl ?_)
  refine JL.op (JO.val (y_len rfl rfl) rfl ?_)
  refine JL.op (JO.val (y_move) rfl ?_)
  refine JL.op (JO.val (y_sl (lv := i + m) (hv := i + 1 + m) (mv := cap) rfl rfl rfl ⟨_, rfl⟩ ⟨_, rfl⟩ rfl rfl (by omega) (by omega) (by omega) (cutV (by omega))) rfl ?_)
  refine JL.op (JO.clear 0 rfl rfl rfl rfl rfl ?_ ?_)
  · rw [hf2, hcl, show i + 1 + m - (i + m) = 1 by omega, Nat.one_mul, ← two]; exact Nat.mul_le_mul_right 2 (by omega)
  intro cur' hl' ht'
  with_reducible refine JL.nil ?_
  with_reducible refine JQ.seq (JC.seq ?_)
  with_reducible refine JC.region ?_
  refine JL.op (JO.val (y_move) rfl ?_)
  refine JL.op (JO.val (y_assign) rfl ?_)
  with_reducible refine JL.nil ?_
  with_reducible refine JQ.seq (JC.ret ?_)
  refine ret_one rfl ResV.tmp (fun w' hc => ⟨cur', rfl, ⟨hl'.trans (hf2.trans hcl), by omega, hmx, fun h => by cases h⟩, ht'.trans hf1, ?_⟩)
  exact (hc.own (some b, 53, cur') (by simp [sset]) b rfl).2
theorem delete_77 (b i m cap : Nat) (cur P D N : List Value) (w : World) (hrow : Row (some b) (i + 1 + m) cap 34 cur) (hP : P.length = i * 34) (hD : D.length = 34) (hN : N.length = m * 34) (htk : cur.take ((i + 1 + m) * 34) = P ++ D ++ N) (hn : i + 1 + m ≤ 100000) (hob : w.heap[b]? = some (.cells cur.toArray 55 (0, 0))) (hN1 : allOne N = true) :
    CallsM [b] 77 #[.slice (some ⟨b, 0, none⟩) (i + 1 + m) cap, .int .i64 (i : Nat), .int .i64 ((i + 1 : Nat) : Int)] w (fun v w' => ∃ cur', v = .slice (some ⟨b, 0, none⟩) (i + m) cap ∧ Row (some b) (i + m) cap 34 cur' ∧ cur'.take ((i + m) * 34) = P ++ N ∧ w'.heap[b]? = some (.cells cur'.toArray 55 (0, 0))) := by
  have hS0 : ∀ e ∈ ([(some b, 55, cur)] : Sto), ∀ b', e.1 = some b' → b' ∈ [b] ∧ w.heap[b']? = some (.cells e.2.2.toArray e.2.1 (0, 0)) := fun e he b' hb => by
    simp only [List.mem_cons, List.not_mem_nil, or_false] at he
    subst he
    simp only [Option.some.injEq] at hb
    subst hb
    exact ⟨by simp, hob⟩
  have hnd : (blks ([(some b, 55, cur)] : Sto)).Nodup := by simp [blks]
  refine CallsM.enter [b] [(some b, 55, cur)] 33 (fun _ => True) (fun _ => False) Tryd.func77 rfl rfl rfl rfl hS0 hnd (fun _ _ h => h.elim) ?_
  have hle := hrow.le
  have hmx := hrow.max
  have hcl := hrow.len
  have hPD : (P ++ D).length = (i + 1) * 34 := by rw [List.length_append, hP, hD]; exact (two i 34).symm
  have h3 : (i + 1 + m) * 34 = P.length + D.length + N.length := by rw [hP, hD, hN, Nat.add_right_comm]; exact three i m 34
  have hb1 : (i + 1 + m) * 34 ≤ cap * 34 := Nat.mul_le_mul_right 34 hle
  have ha1 : P.length + D.length + N.length ≤ cur.length := by rw [hcl, ← h3]; exact hb1
  have htk2 : cur.take ((i + 1 + m) * 34) = P ++ (D ++ N) := by rw [htk, List.append_assoc]
  have hf := del_cells ha1 (by rw [← hP] at *; exact take_head htk2 rfl) (n := (i + m) * 34) (by rw [hP, hN, Nat.add_mul]) (o := i * 34) hP.symm
  have hf1 := hf.1
  have hf2 := hf.2
  with_reducible refine JC.seq ?_
  with_reducible refine JC.region ?_
  refine JL.op (JO.val (y_assign) rfl ?_)
  with_reducible refine JL.nil ?_
  with_reducible refine JQ.seq (JC.seq ?_)
  with_reducible refine JC.region ?_
  refine JL.op (JO.val (y_move) rfl ?_)
  refine JL.op (JO.val (y_move) rfl ?_)
  refine JL.op (JO.val (y_move) rfl ?_)
  refine JL.op (JO.val (y_move) rfl ?_)
  refine JL.op (JO.val (y_len rfl rfl) rfl ?_)
  refine JL.op (JO.val (y_sl (lv := i) (hv := i + 1) (mv := i + 1 + m) rfl rfl rfl ⟨_, rfl⟩ ⟨_, rfl⟩ ⟨_, rfl⟩ rfl (by omega) (by omega) (by omega) rfl) rfl ?_)
  with_reducible refine JL.nil ?_
  with_reducible refine JQ.seq (JC.seq (JC.seq ?_))
  with_reducible refine JC.region ?_
  refine JL.op (JO.val (y_move) rfl ?_)
  refine JL.op (JO.val (y_move) rfl ?_)
  refine JL.op (JO.val (y_eql rfl rfl) rfl ?_)
  with_reducible refine JL.nil ?_
  with_reducible refine JQ.seq ?_
  refine JC.cond_false (congrArg Value.bool (by simp; omega)) ?_
  with_reducible refine JC.skip (JQ.seq (JC.seq ?_))
  with_reducible refine JC.region ?_
  refine JL.op (JO.val (y_move) rfl ?_)
  refine JL.op (JO.val (y_len rfl rfl) rfl ?_)
  refine JL.op (JO.val (y_assign) rfl ?_)
  with_reducible refine JL.nil ?_
  with_reducible refine JQ.seq (JC.seq ?_)
  refine JC.held [] ?_
  refine JH.take 0 rfl (by kernel_rfl) (by kernel_rfl) (by kernel_rfl) (fun _ _ _ => y_move) rfl (by repeat (first | exact np_fun | refine np_seq ?_ | refine np_blk ?_ | refine np_loop ?_)) (trivial) ?_
  refine JH.take 1 rfl (by kernel_rfl) (by kernel_rfl) (by kernel_rfl) (fun _ _ _ => y_move) rfl (by repeat (first | exact np_fun | refine np_seq ?_ | refine np_blk ?_ | refine np_loop ?_)) (trivial) ?_
  refine JH.take 2 rfl (by kernel_rfl) (by kernel_rfl) (by kernel_rfl) (fun _ _ _ => y_sl (lv := 0) (hv := i) (mv := cap) rfl rfl rfl rfl ⟨_, rfl⟩ rfl rfl (by omega) (by omega) (by omega) cutV0) rfl (by repeat (first | exact np_fun | refine np_seq ?_ | refine np_blk ?_ | refine np_loop ?_)) (trivial) ?_
  refine JH.take 3 rfl (by kernel_rfl) (by kernel_rfl) (by kernel_rfl) (fun _ _ _ => y_move) rfl (by repeat (first | exact np_fun | refine np_seq ?_ | refine np_blk ?_ | refine np_loop ?_)) (trivial) ?_
  refine JH.take 4 rfl (by kernel_rfl) (by kernel_rfl) (by kernel_rfl) (fun _ _ _ => y_move) rfl (by repeat (first | exact np_fun | refine np_seq ?_ | refine np_blk ?_ | refine np_loop ?_)) (trivial) ?_
  refine JH.take 5 rfl (by kernel_rfl) (by kernel_rfl) (by kernel_rfl) (fun _ _ _ => y_sl (lv := i + 1) (hv := i + 1 + m) (mv := cap) rfl rfl rfl ⟨_, rfl⟩ rfl rfl rfl (by omega) (by omega) (by omega) rfl) rfl (by repeat (first | exact np_fun | refine np_seq ?_ | refine np_blk ?_ | refine np_loop ?_)) (trivial) ?_
  refine JH.one 6 (by kernel_rfl) (JI.op rfl ?_)
  refine (JO.appendIn 0 (m := i + 1 + m - (i + 1)) N rfl rfl rfl rfl rfl rfl hcl (by omega) (by rw [hN, Nat.add_sub_cancel_left]) (fun h => ?_) (fun w2 hc => ?_) (allOne_mem hN1) ?_)
  · split at h <;> cases h
  · split
    · intro ad had j u hj
      have hm0 : m = 0 := by omega
      rw [hm0, Nat.zero_mul] at hN
      rw [List.eq_nil_of_length_eq_zero hN] at hj
      simp at hj
    · intro ad had
      refine hc.srcAt (i := 0) (o := (i + 1) * 34) rfl (part_at htk hPD.symm) ad ?_
      rw [← had]
      show _ = some (Addr.add ⟨b, 0, none⟩ _)
      rw [add_lit, Nat.zero_add]
  rw [show i + (i + 1 + m - (i + 1)) = i + m by omega]
  refine ⟨trivial, ?_⟩
  refine JH.take 7 rfl (by kernel_rfl) (by kernel_rfl) (by kernel_rfl) (fun _ _ _ => y_assign) rfl (by repeat (first | exact np_fun | refine np_seq ?_ | refine np_blk ?_ | refine np_loop ?_)) (trivial) ?_
  refine JH.done (by kernel_rfl) ?_
  with_reducible refine JQ.seq (JC.seq ?_)
  with_reducible refine JC.region ?_
  refine JL.op (JO.val (y_move) rfl ?_)
  refine JL.op (JO.val (y_move) rfl ?_)
  refine JL.op (JO.val (y_len rfl rfl) rfl ?_)
  refine JL.op (JO.val (y_move) rfl ?_)
  refine JL.op (JO.val (y_sl (lv := i + m) (hv := i + 1 + m) (mv := cap) rfl rfl rfl ⟨_, rfl⟩ ⟨_, rfl⟩ rfl rfl (by omega) (by omega) (by omega) (cutV (by omega))) rfl ?_)
  refine JL.op (JO.clear 0 rfl rfl rfl rfl rfl ?_ ?_)
  · rw [hf2, hcl, show i + 1 + m - (i + m) = 1 by omega, Nat.one_mul, ← two]; exact Nat.mul_le_mul_right 34 (by omega)
  intro cur' hl' ht'
  with_reducible refine JL.nil ?_
  with_reducible refine JQ.seq (JC.seq ?_)
  with_reducible refine JC.region ?_
  refine JL.op (JO.val (y_move) rfl ?_)
  refine JL.op (JO.val (y_assign) rfl ?_)
  with_reducible refine JL.nil ?_
  with_reducible refine JQ.seq (JC.ret ?_)
  refine ret_one rfl ResV.tmp (fun w' hc => ⟨cur', rfl, ⟨hl'.trans (hf2.trans hcl), by omega, hmx, fun h => by cases h⟩, ht'.trans hf1, ?_⟩)
  exact (hc.own (some b, 55, cur') (by simp [sset]) b rfl).2
theorem delete_65 (b i m cap : Nat) (cur P D N : List Value) (w : World) (hrow : Row (some b) (i + 1 + m) cap 48 cur) (hP : P.length = i * 48) (hD : D.length = 48) (hN : N.length = m * 48) (htk : cur.take ((i + 1 + m) * 48) = P ++ D ++ N) (hn : i + 1 + m ≤ 100000) (hob : w.heap[b]? = some (.cells cur.toArray 90 (0, 0))) (hN1 : allOne N = true) :
    CallsM [b] 65 #[.slice (some ⟨b, 0, none⟩) (i + 1 + m) cap, .int .i64 (i : Nat), .int .i64 ((i + 1 : Nat) : Int)] w (fun v w' => ∃ cur', v = .slice (some ⟨b, 0, none⟩) (i + m) cap ∧ Row (some b) (i + m) cap 48 cur' ∧ cur'.take ((i + m) * 48) = P ++ N ∧ w'.heap[b]? = some (.cells cur'.toArray 90 (0, 0))) := by
  have hS0 : ∀ e ∈ ([(some b, 90, cur)] : Sto), ∀ b', e.1 = some b' → b' ∈ [b] ∧ w.heap[b']? = some (.cells e.2.2.toArray e.2.1 (0, 0)) := fun e he b' hb => by
    simp only [List.mem_cons, List.not_mem_nil, or_false] at he
    subst he
    simp only [Option.some.injEq] at hb
    subst hb
    exact ⟨by simp, hob⟩
  have hnd : (blks ([(some b, 90, cur)] : Sto)).Nodup := by simp [blks]
  refine CallsM.enter [b] [(some b, 90, cur)] 33 (fun _ => True) (fun _ => False) Tryd.func65 rfl rfl rfl rfl hS0 hnd (fun _ _ h => h.elim) ?_
  have hle := hrow.le
  have hmx := hrow.max
  have hcl := hrow.len
  have hPD : (P ++ D).length = (i + 1) * 48 := by rw [List.length_append, hP, hD]; exact (two i 48).symm
  have h3 : (i + 1 + m) * 48 = P.length + D.length + N.length := by rw [hP, hD, hN, Nat.add_right_comm]; exact three i m 48
  have hb1 : (i + 1 + m) * 48 ≤ cap * 48 := Nat.mul_le_mul_right 48 hle
  have ha1 : P.length + D.length + N.length ≤ cur.length := by rw [hcl, ← h3]; exact hb1
  have htk2 : cur.take ((i + 1 + m) * 48) = P ++ (D ++ N) := by rw [htk, List.append_assoc]
  have hf := del_cells ha1 (by rw [← hP] at *; exact take_head htk2 rfl) (n := (i + m) * 48) (by rw [hP, hN, Nat.add_mul]) (o := i * 48) hP.symm
  have hf1 := hf.1
  have hf2 := hf.2
  with_reducible refine JC.seq ?_
  with_reducible refine JC.region ?_
  refine JL.op (JO.val (y_assign) rfl ?_)
  with_reducible refine JL.nil ?_
  with_reducible refine JQ.seq (JC.seq ?_)
  with_reducible refine JC.region ?_
  refine JL.op (JO.val (y_move) rfl ?_)
  refine JL.op (JO.val (y_move) rfl ?_)
  refine JL.op (JO.val (y_move) rfl ?_)
  refine JL.op (JO.val (y_move) rfl ?_)
  refine JL.op (JO.val (y_len rfl rfl) rfl ?_)
  refine JL.op (JO.val (y_sl (lv := i) (hv := i + 1) (mv := i + 1 + m) rfl rfl rfl ⟨_, rfl⟩ ⟨_, rfl⟩ ⟨_, rfl⟩ rfl (by omega) (by omega) (by omega) rfl) rfl ?_)
  with_reducible refine JL.nil ?_
  with_reducible refine JQ.seq (JC.seq (JC.seq ?_))
  with_reducible refine JC.region ?_
  refine JL.op (JO.val (y_move) rfl ?_)
  refine JL.op (JO.val (y_move) rfl ?_)
  refine JL.op (JO.val (y_eql rfl rfl) rfl ?_)
  with_reducible refine JL.nil ?_
  with_reducible refine JQ.seq ?_
  refine JC.cond_false (congrArg Value.bool (by simp; omega)) ?_
  with_reducible refine JC.skip (JQ.seq (JC.seq ?_))
  with_reducible refine JC.region ?_
  refine JL.op (JO.val (y_move) rfl ?_)
  refine JL.op (JO.val (y_len rfl rfl) rfl ?_)
  refine JL.op (JO.val (y_assign) rfl ?_)
  with_reducible refine JL.nil ?_
  with_reducible refine JQ.seq (JC.seq ?_)
  refine JC.held [] ?_
  refine JH.take 0 rfl (by kernel_rfl) (by kernel_rfl) (by kernel_rfl) (fun _ _ _ => y_move) rfl (by repeat (first | exact np_fun | refine np_seq ?_ | refine np_blk ?_ | refine np_loop ?_)) (trivial) ?_
  refine JH.take 1 rfl (by kernel_rfl) (by kernel_rfl) (by kernel_rfl) (fun _ _ _ => y_move) rfl (by repeat (first | exact np_fun | refine np_seq ?_ | refine np_blk ?_ | refine np_loop ?_)) (trivial) ?_
  refine JH.take 2 rfl (by kernel_rfl) (by kernel_rfl) (by kernel_rfl) (fun _ _ _ => y_sl (lv := 0) (hv := i) (mv := cap) rfl rfl rfl rfl ⟨_, rfl⟩ rfl rfl (by omega) (by omega) (by omega) cutV0) rfl (by repeat (first | exact np_fun | refine np_seq ?_ | refine np_blk ?_ | refine np_loop ?_)) (trivial) ?_
  refine JH.take 3 rfl (by kernel_rfl) (by kernel_rfl) (by kernel_rfl) (fun _ _ _ => y_move) rfl (by repeat (first | exact np_fun | refine np_seq ?_ | refine np_blk ?_ | refine np_loop ?_)) (trivial) ?_
  refine JH.take 4 rfl (by kernel_rfl) (by kernel_rfl) (by kernel_rfl) (fun _ _ _ => y_move) rfl (by repeat (first | exact np_fun | refine np_seq ?_ | refine np_blk ?_ | refine np_loop ?_)) (trivial) ?_
  refine JH.take 5 rfl (by kernel_rfl) (by kernel_rfl) (by kernel_rfl) (fun _ _ _ => y_sl (lv := i + 1) (hv := i + 1 + m) (mv := cap) rfl rfl rfl ⟨_, rfl⟩ rfl rfl rfl (by omega) (by omega) (by omega) rfl) rfl (by repeat (first | exact np_fun | refine np_seq ?_ | refine np_blk ?_ | refine np_loop ?_)) (trivial) ?_
  refine JH.one 6 (by kernel_rfl) (JI.op rfl ?_)
  refine (JO.appendIn 0 (m := i + 1 + m - (i + 1)) N rfl rfl rfl rfl rfl rfl hcl (by omega) (by rw [hN, Nat.add_sub_cancel_left]) (fun h => ?_) (fun w2 hc => ?_) (allOne_mem hN1) ?_)
  · split at h <;> cases h
  · split
    · intro ad had j u hj
      have hm0 : m = 0 := by omega
      rw [hm0, Nat.zero_mul] at hN
      rw [List.eq_nil_of_length_eq_zero hN] at hj
      simp at hj
    · intro ad had
      refine hc.srcAt (i := 0) (o := (i + 1) * 48) rfl (part_at htk hPD.symm) ad ?_
      rw [← had]
      show _ = some (Addr.add ⟨b, 0, none⟩ _)
      rw [add_lit, Nat.zero_add]
  rw [show i + (i + 1 + m - (i + 1)) = i + m by omega]
  refine ⟨trivial, ?_⟩
  refine JH.take 7 rfl (by kernel_rfl) (by kernel_rfl) (by kernel_rfl) (fun _ _ _ => y_assign) rfl (by repeat (first | exact np_fun | refine np_seq ?_ | refine np_blk ?_ | refine np_loop ?_)) (trivial) ?_
  refine JH.done (by kernel_rfl) ?_
  with_reducible refine JQ.seq (JC.seq ?_)
  with_reducible refine JC.region ?_
  refine JL.op (JO.val (y_move) rfl ?_)
  refine JL.op (JO.val (y_move) rfl ?_)
  refine JL.op (JO.val (y_len rfl rfl) rfl ?_)
  refine JL.op (JO.val (y_move) rfl ?_)
  refine JL.op (JO.val (y_sl (lv := i + m) (hv := i + 1 + m) (mv := cap) rfl rfl rfl ⟨_, rfl⟩ ⟨_, rfl⟩ rfl rfl (by omega) (by omega) (by omega) (cutV (by omega))) rfl ?_)
  refine JL.op (JO.clear 0 rfl rfl rfl rfl rfl ?_ ?_)
  · rw [hf2, hcl, show i + 1 + m - (i + m) = 1 by omega, Nat.one_mul, ← two]; exact Nat.mul_le_mul_right 48 (by omega)
  intro cur' hl' ht'
  with_reducible refine JL.nil ?_
  with_reducible refine JQ.seq (JC.seq ?_)
  with_reducible refine JC.region ?_
  refine JL.op (JO.val (y_move) rfl ?_)
  refine JL.op (JO.val (y_assign) rfl ?_)
  with_reducible refine JL.nil ?_
  with_reducible refine JQ.seq (JC.ret ?_)
  refine ret_one rfl ResV.tmp (fun w' hc => ⟨cur', rfl, ⟨hl'.trans (hf2.trans hcl), by omega, hmx, fun h => by cases h⟩, ht'.trans hf1, ?_⟩)
  exact (hc.own (some b, 90, cur') (by simp [sset]) b rfl).2
end Go.Proofs.YtchnnplcpidkiaaDoor
