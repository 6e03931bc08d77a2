/- Contracts of slices.Insert (one element) and slices.Delete (one element), which change a row of their caller; no condition but bounds on lengths. -/
import Derived.Test.YtchnnplcpidkiaaDoorC8
namespace Go.Proofs.YtchnnplcpidkiaaDoor
open Go.RowKit
set_option linter.unusedSimpArgs false
set_option linter.unusedVariables false
set_option maxRecDepth 20000
set_option maxHeartbeats 1000000

theorem three (i m k : Nat) : (i + m + 1) * k = i * k + k + m * k := by rw [Nat.add_mul, Nat.add_mul, Nat.one_mul]; omega
theorem two (i k : Nat) : (i + 1) * k = i * k + k := by rw [Nat.add_mul, Nat.one_mul]
theorem q_a (i m : Nat) : 1 = Nat.min 1 (i + (m + 1) - i) := by show _ = min _ _; omega
theorem q_b (i m : Nat) : m = Nat.min (i + m - i) (i + (m + 1) - (i + 1)) := by show _ = min _ _; omega
theorem q_c (i m : Nat) : m = Nat.min (i + m + 1 - i) (i + m + 1 - (i + 1)) := by show _ = min _ _; omega
theorem q_d (i m : Nat) : 1 = Nat.min 1 (i + m + 1 - i) := by show _ = min _ _; omega
theorem fitA {a p v n c c' : Nat} (h : a = p + v) (h2 : p + v + n ≤ c) (h3 : c' = c) : a + n ≤ c' := by omega
theorem fitB {a p v n c c' : Nat} (h : p = a) (h2 : p + v + n ≤ c) (h3 : c' = c) : a + v ≤ c' := by omega
theorem splice_len {R v : List Value} {o : Nat} (h : o + v.length ≤ R.length) : (splice R o v).length = R.length := by simp [splice]; omega
theorem splice_mid (A B C B' : List Value) (h : B'.length = B.length) : splice (A ++ (B ++ C)) A.length B' = A ++ (B' ++ C) := by
  simp [splice, h]
/-- A row, cut in four. -/
theorem row_cut {R P v N : List Value} {k : Nat} (hk : P.length + v.length + N.length ≤ R.length) (hP : R.take P.length = P) : ∃ V0 N0 Z, R = P ++ (V0 ++ (N0 ++ Z)) ∧ V0.length = v.length ∧ N0.length = N.length :=
  ⟨(R.drop P.length).take v.length, ((R.drop P.length).drop v.length).take N.length, ((R.drop P.length).drop v.length).drop N.length, by
    rw [List.take_append_drop, List.take_append_drop]
    conv => lhs; rw [← List.take_append_drop P.length R, hP], by simp; omega, by simp; omega⟩
theorem ins_cells1 {R P v N : List Value} (hk : P.length + v.length + N.length ≤ R.length) (hP : R.take P.length = P) {n : Nat} (hn : n = P.length + v.length + N.length) {o : Nat} (ho : o = P.length + v.length) {o' : Nat} (ho' : o' = P.length) : (splice (splice R o' v) o N).take n = P ++ v ++ N ∧ (splice (splice R o' v) o N).length = R.length := by
  obtain ⟨V0, N0, Z, rfl, h1, h2⟩ := row_cut (k := 0) hk hP
  subst ho ho' hn
  rw [splice_mid P V0 (N0 ++ Z) v h1.symm, ← List.append_assoc P v, show P.length + v.length = (P ++ v).length by simp, splice_mid (P ++ v) N0 Z N h2.symm]
  constructor
  · rw [← List.append_assoc, List.take_left' (by simp; omega)]
  · simp; omega
theorem ins_cells2 {R P v N : List Value} (hk : P.length + v.length + N.length ≤ R.length) (hP : R.take P.length = P) {n : Nat} (hn : n = P.length + v.length + N.length) {o : Nat} (ho : o = P.length + v.length) {o' : Nat} (ho' : o' = P.length) : (splice (splice R o N) o' v).take n = P ++ v ++ N ∧ (splice (splice R o N) o' v).length = R.length := by
  obtain ⟨V0, N0, Z, rfl, h1, h2⟩ := row_cut (k := 0) hk hP
  subst ho ho' hn
  rw [← List.append_assoc P V0, show P.length + v.length = (P ++ V0).length by simp [h1], splice_mid (P ++ V0) N0 Z N h2.symm, List.append_assoc, splice_mid P V0 (N ++ Z) v h1.symm]
  constructor
  · rw [← List.append_assoc, ← List.append_assoc, List.take_left' (by simp; omega)]
  · simp; omega
theorem cutV {b lv hv mv sz : Nat} (h : lv < mv) : Value.slice (if mv = lv then some (⟨b, 0, none⟩ : Addr) else (some (⟨b, 0, none⟩ : Addr)).map (·.add (lv * sz))) (hv - lv) (mv - lv) = .slice (some ⟨b, lv * sz, none⟩) (hv - lv) (mv - lv) := by
  rw [if_neg (by omega)]; show Value.slice (some (Addr.add ⟨b, 0, none⟩ _)) _ _ = _; rw [add_lit, Nat.zero_add]
theorem cutV0 {b hv mv sz : Nat} : Value.slice (if mv = 0 then some (⟨b, 0, none⟩ : Addr) else (some (⟨b, 0, none⟩ : Addr)).map (·.add (0 * sz))) (hv - 0) (mv - 0) = .slice (some ⟨b, 0, none⟩) hv mv := by
  split <;> simp [Addr.add]
theorem Cur.srcAt {X : Cx} {S : Sto} {F : Nat → Prop} {w1 w : World} (hc : Cur X S F w1 w) {i b T o : Nat} {cs news : List Value} (hS : nth S i = some (some b, T, cs)) (hnews : ∀ (j : Nat) (u : Value), news[j]? = some u → cs[o + j]? = some u) : ∀ ad, some (⟨b, o, none⟩ : Addr) = some ad → ∀ (j : Nat) u, news[j]? = some u → w.cell? (ad.add j) = some u := fun ad had j u hj => by
  cases had
  have := hc.cell hS (o + j)
  rw [add_lit]
  exact this.trans (hnews j u hj)
theorem part_at {cur P N : List Value} {n o : Nat} (htk : cur.take n = P ++ N) (ho : o = P.length) : ∀ (j : Nat) (u : Value), N[j]? = some u → cur[o + j]? = some u := fun j u hj => by
  subst ho
  have h1 : (cur.take n)[P.length + j]? = some u := by rw [htk, List.getElem?_append_right (by omega)]; simpa using hj
  rw [List.getElem?_take] at h1
  split at h1
  · exact h1
  · cases h1
theorem take_head {cur P N : List Value} {n o : Nat} (htk : cur.take n = P ++ N) (ho : o = P.length) : cur.take o = P := by
  subst ho
  have h1 : (cur.take n).take P.length = P := by rw [htk]; simp
  rw [List.take_take] at h1
  have h2 : P.length ≤ n := by have := congrArg List.length htk; simp at this; omega
  rwa [Nat.min_eq_left h2] at h1
theorem insert_71 (ob : Option Nat) (bv i m cap : Nat) (cur vs P N : List Value) (w : World) (hrow : Row ob (i + m) cap 2 cur) (hP : P.length = i * 2) (hN : N.length = m * 2) (htk : cur.take ((i + m) * 2) = P ++ N) (hn : i + m ≤ 100000) (hob : ∀ b, ob = some b → w.heap[b]? = some (.cells cur.toArray 53 (0, 0))) (hbv : w.heap[bv]? = some (.cells vs.toArray 53 (0, 0))) (hne : ob ≠ some bv) (hvl : vs.length = 2) (h1 : allOne vs = true) (hN1 : allOne N = true) :
    CallsM (ob.toList ++ [bv]) 71 #[.slice (ob.map mkA) (i + m) cap, .int .i64 (i : Nat), .slice (some ⟨bv, 0, none⟩) 1 1] w (fun v w' => ∃ ob' cap' cur', v = .slice (ob'.map mkA) (i + m + 1) cap' ∧ Row ob' (i + m + 1) cap' 2 cur' ∧ cur'.take ((i + m + 1) * 2) = P ++ vs ++ N ∧ (∀ b, ob' = some b → (ob = some b ∨ w.heap.size ≤ b) ∧ w'.heap[b]? = some (.cells cur'.toArray 53 (0, 0)))) := by
  have hS0 : ∀ e ∈ ([(ob, 53, cur), (some bv, 53, vs)] : Sto), ∀ b, e.1 = some b → b ∈ ob.toList ++ [bv] ∧ w.heap[b]? = some (.cells e.2.2.toArray e.2.1 (0, 0)) := fun e he b hb => by
    simp only [List.mem_cons, List.not_mem_nil, or_false] at he
    rcases he with rfl | rfl
    · simp only at hb; exact ⟨by simp [hb], hob b hb⟩
    · simp only [Option.some.injEq] at hb; subst hb; exact ⟨by simp, hbv⟩
  have hnd : (blks ([(ob, 53, cur), (some bv, 53, vs)] : Sto)).Nodup := by
    cases ob with
    | none => simp [blks]
    | some b => simp [blks]; intro h; exact hne (by rw [h])
  refine CallsM.enter (ob.toList ++ [bv]) [(ob, 53, cur), (some bv, 53, vs)] 95 (fun _ => True) (fun _ => False) Tryd.func71 rfl rfl rfl rfl hS0 hnd (fun _ _ h => h.elim) ?_
  have hle := hrow.le
  have hmx := hrow.max
  have hcl := hrow.len
  with_reducible refine JC.seq ?_
  with_reducible refine JC.region ?_
  refine JL.op (JO.val (y_assign) rfl ?_)
  with_reducible refine JL.nil ?_
  with_reducible refine JQ.seq (JC.seq ?_)
  with_reducible refine JC.region ?_
  refine JL.op (JO.val (y_move) rfl ?_)
  refine JL.op (JO.val (y_move) rfl ?_)
  refine JL.op (JO.val (y_sl (lv := i) (hv := i + m) (mv := cap) rfl rfl rfl ⟨_, rfl⟩ rfl rfl rfl (by omega) (by omega) (by omega) rfl) rfl ?_)
  with_reducible refine JL.nil ?_
  with_reducible refine JQ.seq (JC.seq ?_)
  with_reducible refine JC.region ?_
  refine JL.op (JO.val (y_move) rfl ?_)
  refine JL.op (JO.val (y_len rfl rfl) rfl ?_)
  refine JL.op (JO.val (y_assign) rfl ?_)
  with_reducible refine JL.nil ?_
  with_reducible refine JQ.seq (JC.seq (JC.seq ?_))
  with_reducible refine JC.region ?_
  refine JL.op (JO.val (y_move) rfl ?_)
  refine JL.op (JO.val (y_eql rfl rfl) rfl ?_)
  with_reducible refine JL.nil ?_
  with_reducible refine JQ.seq ?_
  refine JC.cond_false rfl ?_
  with_reducible refine JC.skip (JQ.seq (JC.seq ?_))
  with_reducible refine JC.region ?_
  refine JL.op (JO.val (y_move) rfl ?_)
  refine JL.op (JO.val (y_len rfl rfl) rfl ?_)
  refine JL.op (JO.val (y_assign) rfl ?_)
  with_reducible refine JL.nil ?_
  with_reducible refine JQ.seq (JC.seq (JC.seq ?_))
  with_reducible refine JC.region ?_
  refine JL.op (JO.val (y_move) rfl ?_)
  refine JL.op (JO.val (y_move) rfl ?_)
  refine JL.op (JO.val (y_eql rfl rfl) rfl ?_)
  with_reducible refine JL.nil ?_
  with_reducible refine JQ.seq ?_
  refine JC.cond rfl (fun hg => ?_) (fun hg => ?_)
  · have hm0 : m = 0 := by simp only [decide_eq_true_eq] at hg; omega
    subst hm0
    have hN0 : N = [] := List.eq_nil_of_length_eq_zero (by simpa using hN)
    subst hN0
    with_reducible refine JC.seq ?_
    with_reducible refine JC.region ?_
    refine JL.op (JO.val (y_move) rfl ?_)
    refine JL.op (JO.val (y_move) rfl ?_)
    refine JL.op (JO.append 0 (ob := ob) (m := 1) vs rfl rfl rfl rfl rfl rfl rfl hrow (by omega) (fun h => by cases h) (fun w2 hc => hc.src (i := 1) rfl) (allOne_mem h1) (room_max (by omega)) (by omega) ?_)
    intro ob' cap'' cur' hrow' htk' _
    refine JL.op (JO.val (y_assign) rfl ?_)
    with_reducible refine JL.nil ?_
    with_reducible refine JQ.seq (JC.ret (JQ.seq_ret ?_))
    refine ret_one rfl ResV.tmp (fun w' hc => ⟨ob', cap'', cur', rfl, hrow', ?_, fun b hb => ?_⟩)
    · rw [htk', List.append_nil]; rw [List.append_nil] at htk; rw [← htk]
    · have h2 := hc.own (ob', 53, cur') (by simp [sset]) b hb
      refine ⟨?_, h2.2⟩
      rcases h2.1 with h3 | h3
      · exact .inr h3
      · simp only [List.mem_append, Option.mem_toList, Option.mem_def, List.mem_singleton] at h3
        rcases h3 with h3 | h3
        · exact .inl h3
        · subst h3
          subst hb
          have := hc.nodup
          simp [blks, sset] at this
  have hm : 0 < m := by simp only [decide_eq_false_iff_not] at hg; omega
  obtain ⟨b, rfl⟩ : ∃ b, ob = some b := by
    cases ob with
    | none => have := (hrow.nil rfl).1; omega
    | some b => exact ⟨b, rfl⟩
  have htp := take_head htk hP.symm
  with_reducible refine JC.skip (JQ.seq (JC.seq (JC.seq ?_)))
  with_reducible refine JC.region ?_
  refine JL.op (JO.val (y_move) rfl ?_)
  refine JL.op (JO.val (y_move) rfl ?_)
  refine JL.op (JO.val (y_add (r := ((i + m + 1 : Nat) : Int)) rfl rfl (by rw [wrap_in (by omega) (by omega)]; omega)) rfl ?_)
  refine JL.op (JO.val (y_move) rfl ?_)
  refine JL.op (JO.val (y_cap rfl rfl) rfl ?_)
  refine JL.op (JO.val (y_gtr rfl rfl) rfl ?_)
  with_reducible refine JL.nil ?_
  with_reducible refine JQ.seq ?_
  refine JC.cond rfl (fun hg2 => ?_) (fun hg2 => ?_)
  · have hg2' : cap < i + m + 1 := by simp only [decide_eq_true_eq] at hg2; omega
    with_reducible refine JC.seq ?_
    with_reducible refine JC.region ?_
    refine JL.op (JO.val (y_move) rfl ?_)
    refine JL.op (JO.val (y_move) rfl ?_)
    refine JL.op (JO.val (y_sl (lv := 0) (hv := i) (mv := cap) rfl rfl rfl rfl ⟨_, rfl⟩ rfl rfl (by omega) (by omega) (by omega) cutV0) rfl ?_)
    refine JL.op (JO.val (y_move) rfl ?_)
    refine JL.op (JO.val (y_move) rfl ?_)
    refine JL.op (JO.val (y_add (r := ((i + m + 1 : Nat) : Int)) rfl rfl (by rw [wrap_in (by omega) (by omega)]; omega)) rfl ?_)
    refine JL.op (JO.val (y_move) rfl ?_)
    refine JL.op (JO.val (y_sub (r := ((m + 1 : Nat) : Int)) rfl rfl (by rw [wrap_in (by omega) (by omega)]; omega)) rfl ?_)
    refine JL.op (JO.appendZ 0 (m := m + 1) rfl rfl rfl rfl rfl rfl rfl (by omega) (by omega) (by omega) (room_max (by omega)) (by omega) ?_)
    intro b2 cap2 cur2 hrow2 htk2
    refine JL.op (JO.val (y_assign) rfl ?_)
    with_reducible refine JL.nil ?_
    have hcl2 := hrow2.len
    have hle2 := hrow2.le
    have hb1 : (i + m + 1) * 2 ≤ cap2 * 2 := Nat.mul_le_mul_right 2 (by omega)
    have ha3 : (i + m + 1) * 2 = P.length + vs.length + N.length := by rw [hP, hN, hvl]; exact three i m 2
    have ha4 : (i + 1) * 2 = P.length + vs.length := by rw [hP, hvl]; exact two i 2
    have ha1 : P.length + vs.length + N.length ≤ cur2.length := by rw [hcl2, ← ha3]; exact hb1
    have ha2 : cur2.take P.length = P := by rw [hP, htk2, htp]
    have hf := ins_cells1 ha1 ha2 ha3 ha4 hP.symm
    have hf1 := hf.1
    have hf2 := hf.2
    with_reducible refine JQ.seq (JC.seq ?_)
    with_reducible refine JC.region ?_
    refine JL.op (JO.val (y_move) rfl ?_)
    refine JL.op (JO.val (y_move) rfl ?_)
    refine JL.op (JO.val (y_sl (lv := i) (hv := i + (m + 1)) (mv := cap2) rfl rfl rfl ⟨_, rfl⟩ rfl rfl rfl (by omega) (by omega) (by omega) (cutV (by omega))) rfl ?_)
    refine JL.op (JO.val (y_move) rfl ?_)
    refine JL.op (JO.copy 2 1 vs rfl rfl rfl rfl rfl rfl (q_a i m) hvl (fun h => by cases h) (fun w2 hc => hc.src (i := 1) rfl) (allOne_mem h1) (fitB hP ha1 rfl) ?_)
    with_reducible refine JL.nil ?_
    with_reducible refine JQ.seq (JC.seq ?_)
    refine JC.held [] ?_
    refine JH.take 0 rfl (by kernel_rfl) (by kernel_rfl) (by kernel_rfl) (fun _ _ _ => y_move) rfl (by repeat (first | exact np_fun | refine np_seq ?_ | refine np_blk ?_ | refine np_loop ?_)) (trivial) ?_
    refine JH.take 1 rfl (by kernel_rfl) (by kernel_rfl) (by kernel_rfl) (fun _ _ _ => y_move) rfl (by repeat (first | exact np_fun | refine np_seq ?_ | refine np_blk ?_ | refine np_loop ?_)) (trivial) ?_
    refine JH.take 2 rfl (by kernel_rfl) (by kernel_rfl) (by kernel_rfl) (fun _ _ _ => y_move) rfl (by repeat (first | exact np_fun | refine np_seq ?_ | refine np_blk ?_ | refine np_loop ?_)) (trivial) ?_
    refine JH.take 3 rfl (by kernel_rfl) (by kernel_rfl) (by kernel_rfl) (fun _ _ _ => y_add (r := ((i + 1 : Nat) : Int)) rfl rfl (by rw [wrap_in (by omega) (by omega)]; omega)) rfl (by repeat (first | exact np_fun | refine np_seq ?_ | refine np_blk ?_ | refine np_loop ?_)) (trivial) ?_
    refine JH.take 4 rfl (by kernel_rfl) (by kernel_rfl) (by kernel_rfl) (fun _ _ _ => y_sl (lv := i + 1) (hv := i + (m + 1)) (mv := cap2) rfl rfl rfl ⟨_, rfl⟩ rfl rfl rfl (by omega) (by omega) (by omega) (cutV (by omega))) rfl (by repeat (first | exact np_fun | refine np_seq ?_ | refine np_blk ?_ | refine np_loop ?_)) (trivial) ?_
    refine JH.take 5 rfl (by kernel_rfl) (by kernel_rfl) (by kernel_rfl) (fun _ _ _ => y_move) rfl (by repeat (first | exact np_fun | refine np_seq ?_ | refine np_blk ?_ | refine np_loop ?_)) (trivial) ?_
    refine JH.take 6 rfl (by kernel_rfl) (by kernel_rfl) (by kernel_rfl) (fun _ _ _ => y_move) rfl (by repeat (first | exact np_fun | refine np_seq ?_ | refine np_blk ?_ | refine np_loop ?_)) (trivial) ?_
    refine JH.take 7 rfl (by kernel_rfl) (by kernel_rfl) (by kernel_rfl) (fun _ _ _ => y_sl (lv := i) (hv := i + m) (mv := cap) rfl rfl rfl ⟨_, rfl⟩ rfl rfl rfl (by omega) (by omega) (by omega) (cutV (by omega))) rfl (by repeat (first | exact np_fun | refine np_seq ?_ | refine np_blk ?_ | refine np_loop ?_)) (trivial) ?_
    refine JH.one 8 (by kernel_rfl) (JI.op rfl ?_)
    refine (JO.copy 2 m N rfl rfl rfl rfl rfl rfl (q_b i m) hN (fun h => by cases h) (fun w2 hc => hc.srcAt (i := 0) rfl (part_at htk hP.symm)) (allOne_mem hN1) (fitA ha4 ha1 (splice_len (fitB hP ha1 rfl))) ?_)
    refine ⟨trivial, ?_⟩
    refine JH.done (by kernel_rfl) ?_
    with_reducible refine JQ.seq (JC.seq ?_)
    with_reducible refine JC.region ?_
    refine JL.op (JO.val (y_move) rfl ?_)
    refine JL.op (JO.val (y_assign) rfl ?_)
    with_reducible refine JL.nil ?_
    with_reducible refine JQ.seq (JC.ret (JQ.seq_ret ?_))
    refine ret_one rfl ResV.tmp (fun w' hc => ⟨some b2, cap2, splice (splice cur2 (i * 2) vs) ((i + 1) * 2) N, rfl, ⟨hf2.trans hcl2, hle2, hrow2.max, fun h => by cases h⟩, hf1, fun b hb => ?_⟩)
    have h2 := hc.own (some b2, 53, splice (splice cur2 (i * 2) vs) ((i + 1) * 2) N) (by simp [sset]) b hb
    refine ⟨.inr ?_, h2.2⟩
    simp only [Option.some.injEq] at hb
    subst hb
    rcases h2.1 with h3 | h3
    · exact h3
    · have := hc.nodup
      simp [blks, sset] at this
      simp at h3
      omega
  have hg2' : i + m + 1 ≤ cap := by simp only [decide_eq_false_iff_not] at hg2; omega
  have hb1 : (i + m + 1) * 2 ≤ cap * 2 := Nat.mul_le_mul_right 2 (by omega)
  have ha3 : (i + m + 1) * 2 = P.length + vs.length + N.length := by rw [hP, hN, hvl]; exact three i m 2
  have ha4 : (i + 1) * 2 = P.length + vs.length := by rw [hP, hvl]; exact two i 2
  have ha1 : P.length + vs.length + N.length ≤ cur.length := by rw [hcl, ← ha3]; exact hb1
  have ha2 : cur.take P.length = P := by rw [hP, htp]
  have hf := ins_cells2 ha1 ha2 ha3 ha4 hP.symm
  have hf1 := hf.1
  have hf2 := hf.2
  with_reducible refine JC.skip (JQ.seq (JC.seq ?_))
  with_reducible refine JC.region ?_
  refine JL.op (JO.val (y_move) rfl ?_)
  refine JL.op (JO.val (y_move) rfl ?_)
  refine JL.op (JO.val (y_move) rfl ?_)
  refine JL.op (JO.val (y_add (r := ((i + m + 1 : Nat) : Int)) rfl rfl (by rw [wrap_in (by omega) (by omega)]; omega)) rfl ?_)
  refine JL.op (JO.val (y_sl (lv := 0) (hv := i + m + 1) (mv := cap) rfl rfl rfl rfl ⟨_, rfl⟩ rfl rfl (by omega) (by omega) (by omega) cutV0) rfl ?_)
  refine JL.op (JO.val (y_assign) rfl ?_)
  with_reducible refine JL.nil ?_
  with_reducible refine JQ.seq (JC.seq (JC.seq ?_))
  with_reducible refine JC.region ?_
  refine JL.op (JO.val (y_move) rfl ?_)
  refine JL.op (JO.val (y_move) rfl ?_)
  refine JL.op (JO.val (y_move) rfl ?_)
  refine JL.op (JO.val (y_move) rfl ?_)
  refine JL.op (JO.val (y_add (r := ((i + 1 : Nat) : Int)) rfl rfl (by rw [wrap_in (by omega) (by omega)]; omega)) rfl ?_)
  refine JL.op (JO.val (y_sl (lv := i + 1) (hv := i + m + 1) (mv := cap) rfl rfl rfl ⟨_, rfl⟩ rfl rfl rfl (by omega) (by omega) (by omega) (cutV (by omega))) rfl ?_)
  refine JL.op (JO.overlaps 1 0 Tryd.func89 rfl rfl on89 ov89 rfl rfl rfl rfl rfl rfl rfl (by omega) rfl ?_)
  refine JL.op (JO.val (y_not rfl) rfl ?_)
  with_reducible refine JL.nil ?_
  with_reducible refine JQ.seq ?_
  refine JC.cond_true rfl ?_
  with_reducible refine JC.seq ?_
  refine JC.held [] ?_
  refine JH.take 0 rfl (by kernel_rfl) (by kernel_rfl) (by kernel_rfl) (fun _ _ _ => y_move) rfl (by repeat (first | exact np_fun | refine np_seq ?_ | refine np_blk ?_ | refine np_loop ?_)) (trivial) ?_
  refine JH.take 1 rfl (by kernel_rfl) (by kernel_rfl) (by kernel_rfl) (fun _ _ _ => y_move) rfl (by repeat (first | exact np_fun | refine np_seq ?_ | refine np_blk ?_ | refine np_loop ?_)) (trivial) ?_
  refine JH.take 2 rfl (by kernel_rfl) (by kernel_rfl) (by kernel_rfl) (fun _ _ _ => y_move) rfl (by repeat (first | exact np_fun | refine np_seq ?_ | refine np_blk ?_ | refine np_loop ?_)) (trivial) ?_
  refine JH.take 3 rfl (by kernel_rfl) (by kernel_rfl) (by kernel_rfl) (fun _ _ _ => y_add (r := ((i + 1 : Nat) : Int)) rfl rfl (by rw [wrap_in (by omega) (by omega)]; omega)) rfl (by repeat (first | exact np_fun | refine np_seq ?_ | refine np_blk ?_ | refine np_loop ?_)) (trivial) ?_
  refine JH.take 4 rfl (by kernel_rfl) (by kernel_rfl) (by kernel_rfl) (fun _ _ _ => y_sl (lv := i + 1) (hv := i + m + 1) (mv := cap) rfl rfl rfl ⟨_, rfl⟩ rfl rfl rfl (by omega) (by omega) (by omega) (cutV (by omega))) rfl (by repeat (first | exact np_fun | refine np_seq ?_ | refine np_blk ?_ | refine np_loop ?_)) (trivial) ?_
  refine JH.take 5 rfl (by kernel_rfl) (by kernel_rfl) (by kernel_rfl) (fun _ _ _ => y_move) rfl (by repeat (first | exact np_fun | refine np_seq ?_ | refine np_blk ?_ | refine np_loop ?_)) (trivial) ?_
  refine JH.take 6 rfl (by kernel_rfl) (by kernel_rfl) (by kernel_rfl) (fun _ _ _ => y_move) rfl (by repeat (first | exact np_fun | refine np_seq ?_ | refine np_blk ?_ | refine np_loop ?_)) (trivial) ?_
  refine JH.take 7 rfl (by kernel_rfl) (by kernel_rfl) (by kernel_rfl) (fun _ _ _ => y_sl (lv := i) (hv := i + m + 1) (mv := cap) rfl rfl rfl ⟨_, rfl⟩ rfl rfl rfl (by omega) (by omega) (by omega) (cutV (by omega))) rfl (by repeat (first | exact np_fun | refine np_seq ?_ | refine np_blk ?_ | refine np_loop ?_)) (trivial) ?_
  refine JH.one 8 (by kernel_rfl) (JI.op rfl ?_)
  refine (JO.copy 0 m N rfl rfl rfl rfl rfl rfl (q_c i m) hN (fun h => by cases h) (fun w2 hc => hc.srcAt (i := 0) rfl (part_at htk hP.symm)) (allOne_mem hN1) (fitA ha4 ha1 rfl) ?_)
  refine ⟨trivial, ?_⟩
  refine JH.done (by kernel_rfl) ?_
  with_reducible refine JQ.seq (JC.seq ?_)
  with_reducible refine JC.region ?_
  refine JL.op (JO.val (y_move) rfl ?_)
  refine JL.op (JO.val (y_move) rfl ?_)
  refine JL.op (JO.val (y_sl (lv := i) (hv := i + m + 1) (mv := cap) rfl rfl rfl ⟨_, rfl⟩ rfl rfl rfl (by omega) (by omega) (by omega) (cutV (by omega))) rfl ?_)
  refine JL.op (JO.val (y_move) rfl ?_)
  refine JL.op (JO.copy 0 1 vs rfl rfl rfl rfl rfl rfl (q_d i m) hvl (fun h => by cases h) (fun w2 hc => hc.src (i := 1) rfl) (allOne_mem h1) (fitB hP ha1 (splice_len (fitA ha4 ha1 rfl))) ?_)
  with_reducible refine JL.nil ?_
  with_reducible refine JQ.seq (JC.seq ?_)
  with_reducible refine JC.region ?_
  refine JL.op (JO.val (y_move) rfl ?_)
  refine JL.op (JO.val (y_assign) rfl ?_)
  with_reducible refine JL.nil ?_
  with_reducible refine JQ.seq (JC.ret (JQ.seq_ret ?_))
  refine ret_one rfl ResV.tmp (fun w' hc => ⟨some b, cap, splice (splice cur ((i + 1) * 2) N) (i * 2) vs, rfl, ⟨hf2.trans hcl, hg2', hmx, fun h => by cases h⟩, hf1, fun b' hb => ?_⟩)
  have h2 := hc.own (some b, 53, splice (splice cur ((i + 1) * 2) N) (i * 2) vs) (by simp [sset]) b' hb
  exact ⟨.inl hb, h2.2⟩
theorem insert_31 (ob : Option Nat) (bv i m cap : Nat) (cur vs P N : List Value) (w : World) (hrow : Row ob (i + m) cap 4 cur) (hP : P.length = i * 4) (hN : N.length = m * 4) (htk : cur.take ((i + m) * 4) = P ++ N) (hn : i + m ≤ 100000) (hob : ∀ b, ob = some b → w.heap[b]? = some (.cells cur.toArray 45 (0, 0))) (hbv : w.heap[bv]? = some (.cells vs.toArray 45 (0, 0))) (hne : ob ≠ some bv) (hvl : vs.length = 4) (h1 : allOne vs = true) (hN1 : allOne N = true) :
    CallsM (ob.toList ++ [bv]) 31 #[.slice (ob.map mkA) (i + m) cap, .int .i64 (i : Nat), .slice (some ⟨bv, 0, none⟩) 1 1] w (fun v w' => ∃ ob' cap' cur', v = .slice (ob'.map mkA) (i + m + 1) cap' ∧ Row ob' (i + m + 1) cap' 4 cur' ∧ cur'.take ((i + m + 1) * 4) = P ++ vs ++ N ∧ (∀ b, ob' = some b → (ob = some b ∨ w.heap.size ≤ b) ∧ w'.heap[b]? = some (.cells cur'.toArray 45 (0, 0)))) := by
  have hS0 : ∀ e ∈ ([(ob, 45, cur), (some bv, 45, vs)] : Sto), ∀ b, e.1 = some b → b ∈ ob.toList ++ [bv] ∧ w.heap[b]? = some (.cells e.2.2.toArray e.2.1 (0, 0)) := fun e he b hb => by
    simp only [List.mem_cons, List.not_mem_nil, or_false] at he
    rcases he with rfl | rfl
    · simp only at hb; exact ⟨by simp [hb], hob b hb⟩
    · simp only [Option.some.injEq] at hb; subst hb; exact ⟨by simp, hbv⟩
  have hnd : (blks ([(ob, 45, cur), (some bv, 45, vs)] : Sto)).Nodup := by
    cases ob with
    | none => simp [blks]
    | some b => simp [blks]; intro h; exact hne (by rw [h])
  refine CallsM.enter (ob.toList ++ [bv]) [(ob, 45, cur), (some bv, 45, vs)] 95 (fun _ => True) (fun _ => False) Tryd.func31 rfl rfl rfl rfl hS0 hnd (fun _ _ h => h.elim) ?_
  have hle := hrow.le
  have hmx := hrow.max
  have hcl := hrow.len
  with_reducible refine JC.seq ?_
  with_reducible refine JC.region ?_
  refine JL.op (JO.val (y_assign) rfl ?_)
  with_reducible refine JL.nil ?_
  with_reducible refine JQ.seq (JC.seq ?_)
  with_reducible refine JC.region ?_
  refine JL.op (JO.val (y_move) rfl ?_)
  refine JL.op (JO.val (y_move) rfl ?_)
  refine JL.op (JO.val (y_sl (lv := i) (hv := i + m) (mv := cap) rfl rfl rfl ⟨_, rfl⟩ rfl rfl rfl (by omega) (by omega) (by omega) rfl) rfl ?_)
  with_reducible refine JL.nil ?_
  with_reducible refine JQ.seq (JC.seq ?_)
  with_reducible refine JC.region ?_
  refine JL.op (JO.val (y_move) rfl ?_)
  refine JL.op (JO.val (y_len rfl rfl) rfl ?_)
  refine JL.op (JO.val (y_assign) rfl ?_)
  with_reducible refine JL.nil ?_
  with_reducible refine JQ.seq (JC.seq (JC.seq ?_))
  with_reducible refine JC.region ?_
  refine JL.op (JO.val (y_move) rfl ?_)
  refine JL.op (JO.val (y_eql rfl rfl) rfl ?_)
  with_reducible refine JL.nil ?_
  with_reducible refine JQ.seq ?_
  refine JC.cond_false rfl ?_
  with_reducible refine JC.skip (JQ.seq (JC.seq ?_))
  with_reducible refine JC.region ?_
  refine JL.op (JO.val (y_move) rfl ?_)
  refine JL.op (JO.val (y_len rfl rfl) rfl ?_)
  refine JL.op (JO.val (y_assign) rfl ?_)
  with_reducible refine JL.nil ?_
  with_reducible refine JQ.seq (JC.seq (JC.seq ?_))
  with_reducible refine JC.region ?_
  refine JL.op (JO.val (y_move) rfl ?_)
  refine JL.op (JO.val (y_move) rfl ?_)
  refine JL.op (JO.val (y_eql rfl rfl) rfl ?_)
  with_reducible refine JL.nil ?_
  with_reducible refine JQ.seq ?_
  refine JC.cond rfl (fun hg => ?_) (fun hg => ?_)
  · have hm0 : m = 0 := by simp only [decide_eq_true_eq] at hg; omega
    subst hm0
    have hN0 : N = [] := List.eq_nil_of_length_eq_zero (by simpa using hN)
    subst hN0
    with_reducible refine JC.seq ?_
    with_reducible refine JC.region ?_
    refine JL.op (JO.val (y_move) rfl ?_)
    refine JL.op (JO.val (y_move) rfl ?_)
    refine JL.op (JO.append 0 (ob := ob) (m := 1) vs rfl rfl rfl rfl rfl rfl rfl hrow (by omega) (fun h => by cases h) (fun w2 hc => hc.src (i := 1) rfl) (allOne_mem h1) (room_max (by omega)) (by omega) ?_)
    intro ob' cap'' cur' hrow' htk' _
    refine JL.op (JO.val (y_assign) rfl ?_)
    with_reducible refine JL.nil ?_
    with_reducible refine JQ.seq (JC.ret (JQ.seq_ret ?_))
    refine ret_one rfl ResV.tmp (fun w' hc => ⟨ob', cap'', cur', rfl, hrow', ?_, fun b hb => ?_⟩)
    · rw [htk', List.append_nil]; rw [List.append_nil] at htk; rw [← htk]
    · have h2 := hc.own (ob', 45, cur') (by simp [sset]) b hb
      refine ⟨?_, h2.2⟩
      rcases h2.1 with h3 | h3
      · exact .inr h3
      · simp only [List.mem_append, Option.mem_toList, Option.mem_def, List.mem_singleton] at h3
        rcases h3 with h3 | h3
        · exact .inl h3
        · subst h3
          subst hb
          have := hc.nodup
          simp [blks, sset] at this
  have hm : 0 < m := by simp only [decide_eq_false_iff_not] at hg; omega
  obtain ⟨b, rfl⟩ : ∃ b, ob = some b := by
    cases ob with
    | none => have := (hrow.nil rfl).1; omega
    | some b => exact ⟨b, rfl⟩
  have htp := take_head htk hP.symm
  with_reducible refine JC.skip (JQ.seq (JC.seq (JC.seq ?_)))
  with_reducible refine JC.region ?_
  refine JL.op (JO.val (y_move) rfl ?_)
  refine JL.op (JO.val (y_move) rfl ?_)
  refine JL.op (JO.val (y_add (r := ((i + m + 1 : Nat) : Int)) rfl rfl (by rw [wrap_in (by omega) (by omega)]; omega)) rfl ?_)
  refine JL.op (JO.val (y_move) rfl ?_)
  refine JL.op (JO.val (y_cap rfl rfl) rfl ?_)
  refine JL.op (JO.val (y_gtr rfl rfl) rfl ?_)
  with_reducible refine JL.nil ?_
  with_reducible refine JQ.seq ?_
  refine JC.cond rfl (fun hg2 => ?_) (fun hg2 => ?_)
  · have hg2' : cap < i + m + 1 := by simp only [decide_eq_true_eq] at hg2; omega
    with_reducible refine JC.seq ?_
    with_reducible refine JC.region ?_
    refine JL.op (JO.val (y_move) rfl ?_)
    refine JL.op (JO.val (y_move) rfl ?_)
    refine JL.op (JO.val (y_sl (lv := 0) (hv := i) (mv := cap) rfl rfl rfl rfl ⟨_, rfl⟩ rfl rfl (by omega) (by omega) (by omega) cutV0) rfl ?_)
    refine JL.op (JO.val (y_move) rfl ?_)
    refine JL.op (JO.val (y_move) rfl ?_)
    refine JL.op (JO.val (y_add (r := ((i + m + 1 : Nat) : Int)) rfl rfl (by rw [wrap_in (by omega) (by omega)]; omega)) rfl ?_)
    refine JL.op (JO.val (y_move) rfl ?_)
    refine JL.op (JO.val (y_sub (r := ((m + 1 : Nat) : Int)) rfl rfl (by rw [wrap_in (by omega) (by omega)]; omega)) rfl ?_)
    refine JL.op (JO.appendZ 0 (m := m + 1) rfl rfl rfl rfl rfl rfl rfl (by omega) (by omega) (by omega) (room_max (by omega)) (by omega) ?_)
    intro b2 cap2 cur2 hrow2 htk2
    refine JL.op (JO.val (y_assign) rfl ?_)
    with_reducible refine JL.nil ?_
    have hcl2 := hrow2.len
    have hle2 := hrow2.le
    have hb1 : (i + m + 1) * 4 ≤ cap2 * 4 := Nat.mul_le_mul_right 4 (by omega)
    have ha3 : (i + m + 1) * 4 = P.length + vs.length + N.length := by rw [hP, hN, hvl]; exact three i m 4
    have ha4 : (i + 1) * 4 = P.length + vs.length := by rw [hP, hvl]; exact two i 4
    have ha1 : P.length + vs.length + N.length ≤ cur2.length := by rw [hcl2, ← ha3]; exact hb1
    have ha2 : cur2.take P.length = P := by rw [hP, htk2, htp]
    have hf := ins_cells1 ha1 ha2 ha3 ha4 hP.symm
    have hf1 := hf.1
    have hf2 := hf.2
    with_reducible refine JQ.seq (JC.seq ?_)
    with_reducible refine JC.region ?_
    refine JL.op (JO.val (y_move) rfl ?_)
    refine JL.op (JO.val (y_move) rfl ?_)
    refine JL.op (JO.val (y_sl (lv := i) (hv := i + (m + 1)) (mv := cap2) rfl rfl rfl ⟨_, rfl⟩ rfl rfl rfl (by omega) (by omega) (by omega) (cutV (by omega))) rfl ?_)
    refine JL.op (JO.val (y_move) rfl ?_)
    refine JL.op (JO.copy 2 1 vs rfl rfl rfl rfl rfl rfl (q_a i m) hvl (fun h => by cases h) (fun w2 hc => hc.src (i := 1) rfl) (allOne_mem h1) (fitB hP ha1 rfl) ?_)
    with_reducible refine JL.nil ?_
    with_reducible refine JQ.seq (JC.seq ?_)
    refine JC.held [] ?_
    refine JH.take 0 rfl (by kernel_rfl) (by kernel_rfl) (by kernel_rfl) (fun _ _ _ => y_move) rfl (by repeat (first | exact np_fun | refine np_seq ?_ | refine np_blk ?_ | refine np_loop ?_)) (trivial) ?_
    refine JH.take 1 rfl (by kernel_rfl) (by kernel_rfl) (by kernel_rfl) (fun _ _ _ => y_move) rfl (by repeat (first | exact np_fun | refine np_seq ?_ | refine np_blk ?_ | refine np_loop ?_)) (trivial) ?_
    refine JH.take 2 rfl (by kernel_rfl) (by kernel_rfl) (by kernel_rfl) (fun _ _ _ => y_move) rfl (by repeat (first | exact np_fun | refine np_seq ?_ | refine np_blk ?_ | refine np_loop ?_)) (trivial) ?_
    refine JH.take 3 rfl (by kernel_rfl) (by kernel_rfl) (by kernel_rfl) (fun _ _ _ => y_add (r := ((i + 1 : Nat) : Int)) rfl rfl (by rw [wrap_in (by omega) (by omega)]; omega)) rfl (by repeat (first | exact np_fun | refine np_seq ?_ | refine np_blk ?_ | refine np_loop ?_)) (trivial) ?_
    refine JH.take 4 rfl (by kernel_rfl) (by kernel_rfl) (by kernel_rfl) (fun _ _ _ => y_sl (lv := i + 1) (hv := i + (m + 1)) (mv := cap2) rfl rfl rfl ⟨_, rfl⟩ rfl rfl rfl (by omega) (by omega) (by omega) (cutV (by omega))) rfl (by repeat (first | exact np_fun | refine np_seq ?_ | refine np_blk ?_ | refine np_loop ?_)) (trivial) ?_
    refine JH.take 5 rfl (by kernel_rfl) (by kernel_rfl) (by kernel_rfl) (fun _ _ _ => y_move) rfl (by repeat (first | exact np_fun | refine np_seq ?_ | refine np_blk ?_ | refine np_loop ?_)) (trivial) ?_
    refine JH.take 6 rfl (by kernel_rfl) (by kernel_rfl) (by kernel_rfl) (fun _ _ _ => y_move) rfl (by repeat (first | exact np_fun | refine np_seq ?_ | refine np_blk ?_ | refine np_loop ?_)) (trivial) ?_
    refine JH.take 7 rfl (by kernel_rfl) (by kernel_rfl) (by kernel_rfl) (fun _ _ _ => y_sl (lv := i) (hv := i + m) (mv := cap) rfl rfl rfl ⟨_, rfl⟩ rfl rfl rfl (by omega) (by omega) (by omega) (cutV (by omega))) rfl (by repeat (first | exact np_fun | refine np_seq ?_ | refine np_blk ?_ | refine np_loop ?_)) (trivial) ?_
    refine JH.one 8 (by kernel_rfl) (JI.op rfl ?_)
    refine (JO.copy 2 m N rfl rfl rfl rfl rfl rfl (q_b i m) hN (fun h => by cases h) (fun w2 hc => hc.srcAt (i := 0) rfl (part_at htk hP.symm)) (allOne_mem hN1) (fitA ha4 ha1 (splice_len (fitB hP ha1 rfl))) ?_)
    refine ⟨trivial, ?_⟩
    refine JH.done (by kernel_rfl) ?_
    with_reducible refine JQ.seq (JC.seq ?_)
    with_reducible refine JC.region ?_
    refine JL.op (JO.val (y_move) rfl ?_)
    refine JL.op (JO.val (y_assign) rfl ?_)
    with_reducible refine JL.nil ?_
    with_reducible refine JQ.seq (JC.ret (JQ.seq_ret ?_))
    refine ret_one rfl ResV.tmp (fun w' hc => ⟨some b2, cap2, splice (splice cur2 (i * 4) vs) ((i + 1) * 4) N, rfl, ⟨hf2.trans hcl2, hle2, hrow2.max, fun h => by cases h⟩, hf1, fun b hb => ?_⟩)
    have h2 := hc.own (some b2, 45, splice (splice cur2 (i * 4) vs) ((i + 1) * 4) N) (by simp [sset]) b hb
    refine ⟨.inr ?_, h2.2⟩
    simp only [Option.some.injEq] at hb
    subst hb
    rcases h2.1 with h3 | h3
    · exact h3
    · have := hc.nodup
      simp [blks, sset] at this
      simp at h3
      omega
  have hg2' : i + m + 1 ≤ cap := by simp only [decide_eq_false_iff_not] at hg2; omega
  have hb1 : (i + m + 1) * 4 ≤ cap * 4 := Nat.mul_le_mul_right 4 (by omega)
  have ha3 : (i + m + 1) * 4 = P.length + vs.length + N.length := by rw [hP, hN, hvl]; exact three i m 4
  have ha4 : (i + 1) * 4 = P.length + vs.length := by rw [hP, hvl]; exact two i 4
  have ha1 : P.length + vs.length + N.length ≤ cur.length := by rw [hcl, ← ha3]; exact hb1
  have ha2 : cur.take P.length = P := by rw [hP, htp]
  have hf := ins_cells2 ha1 ha2 ha3 ha4 hP.symm
  have hf1 := hf.1
  have hf2 := hf.2
  with_reducible refine JC.skip (JQ.seq (JC.seq ?_))
  with_reducible refine JC.region ?_
  refine JL.op (JO.val (y_move) rfl ?_)
  refine JL.op (JO.val (y_move) rfl ?_)
  refine JL.op (JO.val (y_move) rfl ?_)
  refine JL.op (JO.val (y_add (r := ((i + m + 1 : Nat) : Int)) rfl rfl (by rw [wrap_in (by omega) (by omega)]; omega)) rfl ?_)
  refine JL.op (JO.val (y_sl (lv := 0) (hv := i + m + 1) (mv := cap) rfl rfl rfl rfl ⟨_, rfl⟩ rfl rfl (by omega) (by omega) (by omega) cutV0) rfl ?_)
  refine JL.op (JO.val (y_assign) rfl ?_)
  with_reducible refine JL.nil ?_
  with_reducible refine JQ.seq (JC.seq (JC.seq ?_))
  with_reducible refine JC.region ?_
  refine JL.op (JO.val (y_move) rfl ?_)
  refine JL.op (JO.val (y_move) rfl ?_)
  refine JL.op (JO.val (y_move) rfl ?_)
  refine JL.op (JO.val (y_move) rfl ?_)
  refine JL.op (JO.val (y_add (r := ((i + 1 : Nat) : Int)) rfl rfl (by rw [wrap_in (by omega) (by omega)]; omega)) rfl ?_)
  refine JL.op (JO.val (y_sl (lv := i + 1) (hv := i + m + 1) (mv := cap) rfl rfl rfl ⟨_, rfl⟩ rfl rfl rfl (by omega) (by omega) (by omega) (cutV (by omega))) rfl ?_)
  refine JL.op (JO.overlaps 1 0 Tryd.func53 rfl rfl on53 ov53 rfl rfl rfl rfl rfl rfl rfl (by omega) rfl ?_)
  refine JL.op (JO.val (y_not rfl) rfl ?_)
  with_reducible refine JL.nil ?_
  with_reducible refine JQ.seq ?_
  refine JC.cond_true rfl ?_
  with_reducible refine JC.seq ?_
  refine JC.held [] ?_
  refine JH.take 0 rfl (by kernel_rfl) (by kernel_rfl) (by kernel_rfl) (fun _ _ _ => y_move) rfl (by repeat (first | exact np_fun | refine np_seq ?_ | refine np_blk ?_ | refine np_loop ?_)) (trivial) ?_
  refine JH.take 1 rfl (by kernel_rfl) (by kernel_rfl) (by kernel_rfl) (fun _ _ _ => y_move) rfl (by repeat (first | exact np_fun | refine np_seq ?_ | refine np_blk ?_ | refine np_loop ?_)) (trivial) ?_
  refine JH.take 2 rfl (by kernel_rfl) (by kernel_rfl) (by kernel_rfl) (fun _ _ _ => y_move) rfl (by repeat (first | exact np_fun | refine np_seq ?_ | refine np_blk ?_ | refine np_loop ?_)) (trivial) ?_
  refine JH.take 3 rfl (by kernel_rfl) (by kernel_rfl) (by kernel_rfl) (fun _ _ _ => y_add (r := ((i + 1 : Nat) : Int)) rfl rfl (by rw [wrap_in (by omega) (by omega)]; omega)) rfl (by repeat (first | exact np_fun | refine np_seq ?_ | refine np_blk ?_ | refine np_loop ?_)) (trivial) ?_
  refine JH.take 4 rfl (by kernel_rfl) (by kernel_rfl) (by kernel_rfl) (fun _ _ _ => y_sl (lv := i + 1) (hv := i + m + 1) (mv := cap) rfl rfl rfl ⟨_, rfl⟩ rfl rfl rfl (by omega) (by omega) (by omega) (cutV (by omega))) rfl (by repeat (first | exact np_fun | refine np_seq ?_ | refine np_blk ?_ | refine np_loop ?_)) (trivial) ?_
  refine JH.take 5 rfl (by kernel_rfl) (by kernel_rfl) (by kernel_rfl) (fun _ _ _ => y_move) rfl (by repeat (first | exact np_fun | refine np_seq ?_ | refine np_blk ?_ | refine np_loop ?_)) (trivial) ?_
  refine JH.take 6 rfl (by kernel_rfl) (by kernel_rfl) (by kernel_rfl) (fun _ _ _ => y_move) rfl (by repeat (first | exact np_fun | refine np_seq ?_ | refine np_blk ?_ | refine np_loop ?_)) (trivial) ?_
  refine JH.take 7 rfl (by kernel_rfl) (by kernel_rfl) (by kernel_rfl) (fun _ _ _ => y_sl (lv := i) (hv := i + m + 1) (mv := cap) rfl rfl rfl ⟨_, rfl⟩ rfl rfl rfl (by omega) (by omega) (by omega) (cutV (by omega))) rfl (by repeat (first | exact np_fun | refine np_seq ?_ | refine np_blk ?_ | refine np_loop ?_)) (trivial) ?_
  refine JH.one 8 (by kernel_rfl) (JI.op rfl ?_)
  refine (JO.copy 0 m N rfl rfl rfl rfl rfl rfl (q_c i m) hN (fun h => by cases h) (fun w2 hc => hc.srcAt (i := 0) rfl (part_at htk hP.symm)) (allOne_mem hN1) (fitA ha4 ha1 rfl) ?_)
  refine ⟨trivial, ?_⟩
  refine JH.done (by kernel_rfl) ?_
  with_reducible refine JQ.seq (JC.seq ?_)
  with_reducible refine JC.region ?_
  refine JL.op (JO.val (y_move) rfl ?_)
  refine JL.op (JO.val (y_move) rfl ?_)
  refine JL.op (JO.val (y_sl (lv := i) (hv := i + m + 1) (mv := cap) rfl rfl rfl ⟨_, rfl⟩ rfl rfl rfl (by omega) (by omega) (by omega) (cutV (by omega))) rfl ?_)
  refine JL.op (JO.val (y_move) rfl ?_)
  refine JL.op (JO.copy 0 1 vs rfl rfl rfl rfl rfl rfl (q_d i m) hvl (fun h => by cases h) (fun w2 hc => hc.src (i := 1) rfl) (allOne_mem h1) (fitB hP ha1 (splice_len (fitA ha4 ha1 rfl))) ?_)
  with_reducible refine JL.nil ?_
  with_reducible refine JQ.seq (JC.seq ?_)
  with_reducible refine JC.region ?_
  refine JL.op (JO.val (y_move) rfl ?_)
  refine JL.op (JO.val (y_assign) rfl ?_)
  with_reducible refine JL.nil ?_
  with_reducible refine JQ.seq (JC.ret (JQ.seq_ret ?_))
  refine ret_one rfl ResV.tmp (fun w' hc => ⟨some b, cap, splice (splice cur ((i + 1) * 4) N) (i * 4) vs, rfl, ⟨hf2.trans hcl, hg2', hmx, fun h => by cases h⟩, hf1, fun b' hb => ?_⟩)
  have h2 := hc.own (some b, 45, splice (splice cur ((i + 1) * 4) N) (i * 4) vs) (by simp [sset]) b' hb
  exact ⟨.inl hb, h2.2⟩
theorem insert_78 (ob : Option Nat) (bv i m cap : Nat) (cur vs P N : List Value) (w : World) (hrow : Row ob (i + m) cap 34 cur) (hP : P.length = i * 34) (hN : N.length = m * 34) (htk : cur.take ((i + m) * 34) = P ++ N) (hn : i + m ≤ 100000) (hob : ∀ b, ob = some b → w.heap[b]? = some (.cells cur.toArray 55 (0, 0))) (hbv : w.heap[bv]? = some (.cells vs.toArray 55 (0, 0))) (hne : ob ≠ some bv) (hvl : vs.length = 34) (h1 : allOne vs = true) (hN1 : allOne N = true) :
    CallsM (ob.toList ++ [bv]) 78 #[.slice (ob.map mkA) (i + m) cap, .int .i64 (i : Nat), .slice (some ⟨bv, 0, none⟩) 1 1] w (fun v w' => ∃ ob' cap' cur', v = .slice (ob'.map mkA) (i + m + 1) cap' ∧ Row ob' (i + m + 1) cap' 34 cur' ∧ cur'.take ((i + m + 1) * 34) = P ++ vs ++ N ∧ (∀ b, ob' = some b → (ob = some b ∨ w.heap.size ≤ b) ∧ w'.heap[b]? = some (.cells cur'.toArray 55 (0, 0)))) := by
  have hS0 : ∀ e ∈ ([(ob, 55, cur), (some bv, 55, vs)] : Sto), ∀ b, e.1 = some b → b ∈ ob.toList ++ [bv] ∧ w.heap[b]? = some (.cells e.2.2.toArray e.2.1 (0, 0)) := fun e he b hb => by
    simp only [List.mem_cons, List.not_mem_nil, or_false] at he
    rcases he with rfl | rfl
    · simp only at hb; exact ⟨by simp [hb], hob b hb⟩
    · simp only [Option.some.injEq] at hb; subst hb; exact ⟨by simp, hbv⟩
  have hnd : (blks ([(ob, 55, cur), (some bv, 55, vs)] : Sto)).Nodup := by
    cases ob with
    | none => simp [blks]
    | some b => simp [blks]; intro h; exact hne (by rw [h])
  refine CallsM.enter (ob.toList ++ [bv]) [(ob, 55, cur), (some bv, 55, vs)] 95 (fun _ => True) (fun _ => False) Tryd.func78 rfl rfl rfl rfl hS0 hnd (fun _ _ h => h.elim) ?_
  have hle := hrow.le
  have hmx := hrow.max
  have hcl := hrow.len
  with_reducible refine JC.seq ?_
  with_reducible refine JC.region ?_
  refine JL.op (JO.val (y_assign) rfl ?_)
  with_reducible refine JL.nil ?_
  with_reducible refine JQ.seq (JC.seq ?_)
  with_reducible refine JC.region ?_
  refine JL.op (JO.val (y_move) rfl ?_)
  refine JL.op (JO.val (y_move) rfl ?_)
  refine JL.op (JO.val (y_sl (lv := i) (hv := i + m) (mv := cap) rfl rfl rfl ⟨_, rfl⟩ rfl rfl rfl (by omega) (by omega) (by omega) rfl) rfl ?_)
  with_reducible refine JL.nil ?_
  with_reducible refine JQ.seq (JC.seq ?_)
  with_reducible refine JC.region ?_
  refine JL.op (JO.val (y_move) rfl ?_)
  refine JL.op (JO.val (y_len rfl rfl) rfl ?_)
  refine JL.op (JO.val (y_assign) rfl ?_)
  with_reducible refine JL.nil ?_
  with_reducible refine JQ.seq (JC.seq (JC.seq ?_))
  with_reducible refine JC.region ?_
  refine JL.op (JO.val (y_move) rfl ?_)
  refine JL.op (JO.val (y_eql rfl rfl) rfl ?_)
  with_reducible refine JL.nil ?_
  with_reducible refine JQ.seq ?_
  refine JC.cond_false rfl ?_
  with_reducible refine JC.skip (JQ.seq (JC.seq ?_))
  with_reducible refine JC.region ?_
  refine JL.op (JO.val (y_move) rfl ?_)
  refine JL.op (JO.val (y_len rfl rfl) rfl ?_)
  refine JL.op (JO.val (y_assign) rfl ?_)
  with_reducible refine JL.nil ?_
  with_reducible refine JQ.seq (JC.seq (JC.seq ?_))
  with_reducible refine JC.region ?_
  refine JL.op (JO.val (y_move) rfl ?_)
  refine JL.op (JO.val (y_move) rfl ?_)
  refine JL.op (JO.val (y_eql rfl rfl) rfl ?_)
  with_reducible refine JL.nil ?_
  with_reducible refine JQ.seq ?_
  refine JC.cond rfl (fun hg => ?_) (fun hg => ?_)
  · have hm0 : m = 0 := by simp only [decide_eq_true_eq] at hg; omega
    subst hm0
    have hN0 : N = [] := List.eq_nil_of_length_eq_zero (by simpa using hN)
    subst hN0
    with_reducible refine JC.seq ?_
    with_reducible refine JC.region ?_
    refine JL.op (JO.val (y_move) rfl ?_)
    refine JL.op (JO.val (y_move) rfl ?_)
    refine JL.op (JO.append 0 (ob := ob) (m := 1) vs rfl rfl rfl rfl rfl rfl rfl hrow (by omega) (fun h => by cases h) (fun w2 hc => hc.src (i := 1) rfl) (allOne_mem h1) (room_max (by omega)) (by omega) ?_)
    intro ob' cap'' cur' hrow' htk' _
    refine JL.op (JO.val (y_assign) rfl ?_)
    with_reducible refine JL.nil ?_
    with_reducible refine JQ.seq (JC.ret (JQ.seq_ret ?_))
    refine ret_one rfl ResV.tmp (fun w' hc => ⟨ob', cap'', cur', rfl, hrow', ?_, fun b hb => ?_⟩)
    · rw [htk', List.append_nil]; rw [List.append_nil] at htk; rw [← htk]
    · have h2 := hc.own (ob', 55, cur') (by simp [sset]) b hb
      refine ⟨?_, h2.2⟩
      rcases h2.1 with h3 | h3
      · exact .inr h3
      · simp only [List.mem_append, Option.mem_toList, Option.mem_def, List.mem_singleton] at h3
        rcases h3 with h3 | h3
        · exact .inl h3
        · subst h3
          subst hb
          have := hc.nodup
          simp [blks, sset] at this
  have hm : 0 < m := by simp only [decide_eq_false_iff_not] at hg; omega
  obtain ⟨b, rfl⟩ : ∃ b, ob = some b := by
    cases ob with
    | none => have := (hrow.nil rfl).1; omega
    | some b => exact ⟨b, rfl⟩
  have htp := take_head htk hP.symm
  with_reducible refine JC.skip (JQ.seq (JC.seq (JC.seq ?_)))
  with_reducible refine JC.region ?_
  refine JL.op (JO.val (y_move) rfl ?_)
  refine JL.op (JO.val (y_move) rfl ?_)
  refine JL.op (JO.val (y_add (r := ((i + m + 1 : Nat) : Int)) rfl rfl (by rw [wrap_in (by omega) (by omega)]; omega)) rfl ?_)
  refine JL.op (JO.val (y_move) rfl ?_)
  refine JL.op (JO.val (y_cap rfl rfl) rfl ?_)
  refine JL.op (JO.val (y_gtr rfl rfl) rfl ?_)
  with_reducible refine JL.nil ?_
  with_reducible refine JQ.seq ?_
  refine JC.cond rfl (fun hg2 => ?_) (fun hg2 => ?_)
  · have hg2' : cap < i + m + 1 := by simp only [decide_eq_true_eq] at hg2; omega
    with_reducible refine JC.seq ?_
    with_reducible refine JC.region ?_
    refine JL.op (JO.val (y_move) rfl ?_)
    refine JL.op (JO.val (y_move) rfl ?_)
    refine JL.op (JO.val (y_sl (lv := 0) (hv := i) (mv := cap) rfl rfl rfl rfl ⟨_, rfl⟩ rfl rfl (by omega) (by omega) (by omega) cutV0) rfl ?_)
    refine JL.op (JO.val (y_move) rfl ?_)
    refine JL.op (JO.val (y_move) rfl ?_)
    refine JL.op (JO.val (y_add (r := ((i + m + 1 : Nat) : Int)) rfl rfl (by rw [wrap_in (by omega) (by omega)]; omega)) rfl ?_)
    refine JL.op (JO.val (y_move) rfl ?_)
    refine JL.op (JO.val (y_sub (r := ((m + 1 : Nat) : Int)) rfl rfl (by rw [wrap_in (by omega) (by omega)]; omega)) rfl ?_)
    refine JL.op (JO.appendZ 0 (m := m + 1) rfl rfl rfl rfl rfl rfl rfl (by omega) (by omega) (by omega) (room_max (by omega)) (by omega) ?_)
    intro b2 cap2 cur2 hrow2 htk2
    refine JL.op (JO.val (y_assign) rfl ?_)
    with_reducible refine JL.nil ?_
    have hcl2 := hrow2.len
    have hle2 := hrow2.le
    have hb1 : (i + m + 1) * 34 ≤ cap2 * 34 := Nat.mul_le_mul_right 34 (by omega)
    have ha3 : (i + m + 1) * 34 = P.length + vs.length + N.length := by rw [hP, hN, hvl]; exact three i m 34
    have ha4 : (i + 1) * 34 = P.length + vs.length := by rw [hP, hvl]; exact two i 34
    have ha1 : P.length + vs.length + N.length ≤ cur2.length := by rw [hcl2, ← ha3]; exact hb1
    have ha2 : cur2.take P.length = P := by rw [hP, htk2, htp]
    have hf := ins_cells1 ha1 ha2 ha3 ha4 hP.symm
    have hf1 := hf.1
    have hf2 := hf.2
    with_reducible refine JQ.seq (JC.seq ?_)
    with_reducible refine JC.region ?_
    refine JL.op (JO.val (y_move) rfl ?_)
    refine JL.op (JO.val (y_move) rfl ?_)
    refine JL.op (JO.val (y_sl (lv := i) (hv := i + (m + 1)) (mv := cap2) rfl rfl rfl ⟨_, rfl⟩ rfl rfl rfl (by omega) (by omega) (by omega) (cutV (by omega))) rfl ?_)
    refine JL.op (JO.val (y_move) rfl ?_)
    refine JL.op (JO.copy 2 1 vs rfl rfl rfl rfl rfl rfl (q_a i m) hvl (fun h => by cases h) (fun w2 hc => hc.src (i := 1) rfl) (allOne_mem h1) (fitB hP ha1 rfl) ?_)
    with_reducible refine JL.nil ?_
    with_reducible refine JQ.seq (JC.seq ?_)
    refine JC.held [] ?_
    refine JH.take 0 rfl (by kernel_rfl) (by kernel_rfl) (by kernel_rfl) (fun _ _ _ => y_move) rfl (by repeat (first | exact np_fun | refine np_seq ?_ | refine np_blk ?_ | refine np_loop ?_)) (trivial) ?_
    refine JH.take 1 rfl (by kernel_rfl) (by kernel_rfl) (by kernel_rfl) (fun _ _ _ => y_move) rfl (by repeat (first | exact np_fun | refine np_seq ?_ | refine np_blk ?_ | refine np_loop ?_)) (trivial) ?_
    refine JH.take 2 rfl (by kernel_rfl) (by kernel_rfl) (by kernel_rfl) (fun _ _ _ => y_move) rfl (by repeat (first | exact np_fun | refine np_seq ?_ | refine np_blk ?_ | refine np_loop ?_)) (trivial) ?_
    refine JH.take 3 rfl (by kernel_rfl) (by kernel_rfl) (by kernel_rfl) (fun _ _ _ => y_add (r := ((i + 1 : Nat) : Int)) rfl rfl (by rw [wrap_in (by omega) (by omega)]; omega)) rfl (by repeat (first | exact np_fun | refine np_seq ?_ | refine np_blk ?_ | refine np_loop ?_)) (trivial) ?_
    refine JH.take 4 rfl (by kernel_rfl) (by kernel_rfl) (by kernel_rfl) (fun _ _ _ => y_sl (lv := i + 1) (hv := i + (m + 1)) (mv := cap2) rfl rfl rfl ⟨_, rfl⟩ rfl rfl rfl (by omega) (by omega) (by omega) (cutV (by omega))) rfl (by repeat (first | exact np_fun | refine np_seq ?_ | refine np_blk ?_ | refine np_loop ?_)) (trivial) ?_
    refine JH.take 5 rfl (by kernel_rfl) (by kernel_rfl) (by kernel_rfl) (fun _ _ _ => y_move) rfl (by repeat (first | exact np_fun | refine np_seq ?_ | refine np_blk ?_ | refine np_loop ?_)) (trivial) ?_
    refine JH.take 6 rfl (by kernel_rfl) (by kernel_rfl) (by kernel_rfl) (fun _ _ _ => y_move) rfl (by repeat (first | exact np_fun | refine np_seq ?_ | refine np_blk ?_ | refine np_loop ?_)) (trivial) ?_
    refine JH.take 7 rfl (by kernel_rfl) (by kernel_rfl) (by kernel_rfl) (fun _ _ _ => y_sl (lv := i) (hv := i + m) (mv := cap) rfl rfl rfl ⟨_, rfl⟩ rfl rfl rfl (by omega) (by omega) (by omega) (cutV (by omega))) rfl (by repeat (first | exact np_fun | refine np_seq ?_ | refine np_blk ?_ | refine np_loop ?_)) (trivial) ?_
    refine JH.one 8 (by kernel_rfl) (JI.op rfl ?_)
    refine (JO.copy 2 m N rfl rfl rfl rfl rfl rfl (q_b i m) hN (fun h => by cases h) (fun w2 hc => hc.srcAt (i := 0) rfl (part_at htk hP.symm)) (allOne_mem hN1) (fitA ha4 ha1 (splice_len (fitB hP ha1 rfl))) ?_)
    refine ⟨trivial, ?_⟩
    refine JH.done (by kernel_rfl) ?_
    with_reducible refine JQ.seq (JC.seq ?_)
    with_reducible refine JC.region ?_
    refine JL.op (JO.val (y_move) rfl ?_)
    refine JL.op (JO.val (y_assign) rfl ?_)
    with_reducible refine JL.nil ?_
    with_reducible refine JQ.seq (JC.ret (JQ.seq_ret ?_))
    refine ret_one rfl ResV.tmp (fun w' hc => ⟨some b2, cap2, splice (splice cur2 (i * 34) vs) ((i + 1) * 34) N, rfl, ⟨hf2.trans hcl2, hle2, hrow2.max, fun h => by cases h⟩, hf1, fun b hb => ?_⟩)
    have h2 := hc.own (some b2, 55, splice (splice cur2 (i * 34) vs) ((i + 1) * 34) N) (by simp [sset]) b hb
    refine ⟨.inr ?_, h2.2⟩
    simp only [Option.some.injEq] at hb
    subst hb
    rcases h2.1 with h3 | h3
    · exact h3
    · have := hc.nodup
      simp [blks, sset] at this
      simp at h3
      omega
  have hg2' : i + m + 1 ≤ cap := by simp only [decide_eq_false_iff_not] at hg2; omega
  have hb1 : (i + m + 1) * 34 ≤ cap * 34 := Nat.mul_le_mul_right 34 (by omega)
  have ha3 : (i + m + 1) * 34 = P.length + vs.length + N.length := by rw [hP, hN, hvl]; exact three i m 34
  have ha4 : (i + 1) * 34 = P.length + vs.length := by rw [hP, hvl]; exact two i 34
  have ha1 : P.length + vs.length + N.length ≤ cur.length := by rw [hcl, ← ha3]; exact hb1
  have ha2 : cur.take P.length = P := by rw [hP, htp]
  have hf := ins_cells2 ha1 ha2 ha3 ha4 hP.symm
  have hf1 := hf.1
  have hf2 := hf.2
  with_reducible refine JC.skip (JQ.seq (JC.seq ?_))
  with_reducible refine JC.region ?_
  refine JL.op (JO.val (y_move) rfl ?_)
  refine JL.op (JO.val (y_move) rfl ?_)
  refine JL.op (JO.val (y_move) rfl ?_)
  refine JL.op (JO.val (y_add (r := ((i + m + 1 : Nat) : Int)) rfl rfl (by rw [wrap_in (by omega) (by omega)]; omega)) rfl ?_)
  refine JL.op (JO.val (y_sl (lv := 0) (hv := i + m + 1) (mv := cap) rfl rfl rfl rfl ⟨_, rfl⟩ rfl rfl (by omega) (by omega) (by omega) cutV0) rfl ?_)
  refine JL.op (JO.val (y_assign) rfl ?_)
  with_reducible refine JL.nil ?_
  with_reducible refine JQ.seq (JC.seq (JC.seq ?_))
  with_reducible refine JC.region ?_
  refine JL.op (JO.val (y_move) rfl ?_)
  refine JL.op (JO.val (y_move) rfl ?_)
  refine JL.op (JO.val (y_move) rfl ?_)
  refine JL.op (JO.val (y_move) rfl ?_)
  refine JL.op (JO.val (y_add (r := ((i + 1 : Nat) : Int)) rfl rfl (by rw [wrap_in (by omega) (by omega)]; omega)) rfl ?_)
  refine JL.op (JO.val (y_sl (lv := i + 1) (hv := i + m + 1) (mv := cap) rfl rfl rfl ⟨_, rfl⟩ rfl rfl rfl (by omega) (by omega) (by omega) (cutV (by omega))) rfl ?_)
  refine JL.op (JO.overlaps 1 0 Tryd.func94 rfl rfl on94 ov94 rfl rfl rfl rfl rfl rfl rfl (by omega) rfl ?_)
  refine JL.op (JO.val (y_not rfl) rfl ?_)
  with_reducible refine JL.nil ?_
  with_reducible refine JQ.seq ?_
  refine JC.cond_true rfl ?_
  with_reducible refine JC.seq ?_
  refine JC.held [] ?_
  refine JH.take 0 rfl (by kernel_rfl) (by kernel_rfl) (by kernel_rfl) (fun _ _ _ => y_move) rfl (by repeat (first | exact np_fun | refine np_seq ?_ | refine np_blk ?_ | refine np_loop ?_)) (trivial) ?_
  refine JH.take 1 rfl (by kernel_rfl) (by kernel_rfl) (by kernel_rfl) (fun _ _ _ => y_move) rfl (by repeat (first | exact np_fun | refine np_seq ?_ | refine np_blk ?_ | refine np_loop ?_)) (trivial) ?_
  refine JH.take 2 rfl (by kernel_rfl) (by kernel_rfl) (by kernel_rfl) (fun _ _ _ => y_move) rfl (by repeat (first | exact np_fun | refine np_seq ?_ | refine np_blk ?_ | refine np_loop ?_)) (trivial) ?_
  refine JH.take 3 rfl (by kernel_rfl) (by kernel_rfl) (by kernel_rfl) (fun _ _ _ => y_add (r := ((i + 1 : Nat) : Int)) rfl rfl (by rw [wrap_in (by omega) (by omega)]; omega)) rfl (by repeat (first | exact np_fun | refine np_seq ?_ | refine np_blk ?_ | refine np_loop ?_)) (trivial) ?_
  refine JH.take 4 rfl (by kernel_rfl) (by kernel_rfl) (by kernel_rfl) (fun _ _ _ => y_sl (lv := i + 1) (hv := i + m + 1) (mv := cap) rfl rfl rfl ⟨_, rfl⟩ rfl rfl rfl (by omega) (by omega) (by omega) (cutV (by omega))) rfl (by repeat (first | exact np_fun | refine np_seq ?_ | refine np_blk ?_ | refine np_loop ?_)) (trivial) ?_
  refine JH.take 5 rfl (by kernel_rfl) (by kernel_rfl) (by kernel_rfl) (fun _ _ _ => y_move) rfl (by repeat (first | exact np_fun | refine np_seq ?_ | refine np_blk ?_ | refine np_loop ?_)) (trivial) ?_
  refine JH.take 6 rfl (by kernel_rfl) (by kernel_rfl) (by kernel_rfl) (fun _ _ _ => y_move) rfl (by repeat (first | exact np_fun | refine np_seq ?_ | refine np_blk ?_ | refine np_loop ?_)) (trivial) ?_
  refine JH.take 7 rfl (by kernel_rfl) (by kernel_rfl) (by kernel_rfl) (fun _ _ _ => y_sl (lv := i) (hv := i + m + 1) (mv := cap) rfl rfl rfl ⟨_, rfl⟩ rfl rfl rfl (by omega) (by omega) (by omega) (cutV (by omega))) rfl (by repeat (first | exact np_fun | refine np_seq ?_ | refine np_blk ?_ | refine np_loop ?_)) (trivial) ?_
  refine JH.one 8 (by kernel_rfl) (JI.op rfl ?_)
  refine (JO.copy 0 m N rfl rfl rfl rfl rfl rfl (q_c i m) hN (fun h => by cases h) (fun w2 hc => hc.srcAt (i := 0) rfl (part_at htk hP.symm)) (allOne_mem hN1) (fitA ha4 ha1 rfl) ?_)
  refine ⟨trivial, ?_⟩
  refine JH.done (by kernel_rfl) ?_
  with_reducible refine JQ.seq (JC.seq ?_)
  with_reducible refine JC.region ?_
  refine JL.op (JO.val (y_move) rfl ?_)
  refine JL.op (JO.val (y_move) rfl ?_)
  refine JL.op (JO.val (y_sl (lv := i) (hv := i + m + 1) (mv := cap) rfl rfl rfl ⟨_, rfl⟩ rfl rfl rfl (by omega) (by omega) (by omega) (cutV (by omega))) rfl ?_)
  refine JL.op (JO.val (y_move) rfl ?_)
  refine JL.op (JO.copy 0 1 vs rfl rfl rfl rfl rfl rfl (q_d i m) hvl (fun h => by cases h) (fun w2 hc => hc.src (i := 1) rfl) (allOne_mem h1) (fitB hP ha1 (splice_len (fitA ha4 ha1 rfl))) ?_)
  with_reducible refine JL.nil ?_
  with_reducible refine JQ.seq (JC.seq ?_)
  with_reducible refine JC.region ?_
  refine JL.op (JO.val (y_move) rfl ?_)
  refine JL.op (JO.val (y_assign) rfl ?_)
  with_reducible refine JL.nil ?_
  with_reducible refine JQ.seq (JC.ret (JQ.seq_ret ?_))
  refine ret_one rfl ResV.tmp (fun w' hc => ⟨some b, cap, splice (splice cur ((i + 1) * 34) N) (i * 34) vs, rfl, ⟨hf2.trans hcl, hg2', hmx, fun h => by cases h⟩, hf1, fun b' hb => ?_⟩)
  have h2 := hc.own (some b, 55, splice (splice cur ((i + 1) * 34) N) (i * 34) vs) (by simp [sset]) b' hb
  exact ⟨.inl hb, h2.2⟩
end Go.Proofs.YtchnnplcpidkiaaDoor
