/- The contract of config.Apply; no condition but bounds on lengths. -/
import Derived.Test.YtchnnplcpidkiaaDoorP2
namespace Go.Proofs.YtchnnplcpidkiaaDoor
open Go.RowKit
set_option linter.unusedSimpArgs false
set_option linter.unusedVariables false
set_option maxRecDepth 20000
set_option maxHeartbeats 1000000

theorem nth_last {α : Type} (l : List α) (x : α) : nth (l ++ [x]) l.length = some x := by rw [nth_eq]; simp
theorem sset_last {α : Type} (l : List α) (x y : α) : sset (l ++ [x]) l.length y = l ++ [y] := by rw [sset_eq]; simp
section
variable {X : Cx} {E : Env} {S : Sto} {F : Nat → Prop} {w1 : World} {Q : Exit → Env → World → Prop}
/-- A row that a call has made becomes an entry. -/
theorem JQ.adopt {e : Exit} {G : Nat → Prop} {bound T sz n cap : Nat} {A : Option Addr} {cs : List Value} (h : OwnF G w1 T sz A n cap cs) (hG : ∀ b, G b → F b ∧ X.w0.heap.size ≤ b ∧ bound ≤ b)
    (k : ∀ ob cur, A = ob.map mkA → Row ob n cap sz cur → cur.take (n * sz) = cs → (∀ b, ob = some b → bound ≤ b) → JQ X Q e E (S ++ [(ob, T, cur)]) (fun k => F k ∧ ob ≠ some k) w1) : JQ X Q e E S F w1 := by
  obtain ⟨ob, cur, hA, hrow, htk, hb⟩ := h
  refine JQ.weaken (fun w hc => ?_) (k ob cur hA hrow htk fun b hbb => (hG b (hb b hbb).1).2.2)
  have h1 := (hc.addNone T).put S.length (nth_last S _) ob T cur fun b hbb => by
    have h2 := hG b (hb b hbb).1
    have hlt : b < w1.heap.size := (Array.getElem?_eq_some_iff.1 (hb b hbb).2).1
    obtain ⟨h3, h4⟩ := hc.step b hlt h2.1
    refine ⟨h3.trans (hb b hbb).2, .inl h2.2.1, ?_⟩
    intro hm
    obtain ⟨e, he, h5⟩ := blks_mem.1 hm
    rcases List.mem_append.1 he with h6 | h6
    · exact h4.2 (blks_mem.2 ⟨e, h6, h5⟩)
    · rw [List.mem_singleton.1 h6] at h5; cases h5
  rw [sset_last] at h1
  exact h1
theorem Step.adopt {F F' : Nat → Prop} {w w' : World} {ob : Option Nat} (h : Step F w F' w') (hb : ∀ b, ob = some b → w.heap.size ≤ b) : Step F w (fun k => F' k ∧ ob ≠ some k) w' := fun k hk hF => by
  obtain ⟨h1, h2⟩ := h k hk hF
  refine ⟨h1, h2, fun h3 => ?_⟩
  have := hb k h3
  omega
end
theorem cfg_apply (F : Nat → Prop) (ep : Int) (A : Option Addr) (cap : Nat) (ms : List LMember) (x : LChange) (w : World) (h : RMems F w A cap ms) (hn : ms.length ≤ 10000) (hwf : ∀ m ∈ ms, m.wf) (hx : x.wf) :
    CallsTo 52 #[.agg [.int .i64 ep, .slice A ms.length cap].toArray, .agg x.cells.toArray] w (fun v w' => ChgR ep ms x w v w') := by
  have hkl := LKey.len_cells hx.key
  have hxl := LChange.len_cells hx
  have hmw := chgM_wf hx
  have hml := LMember.len_cells hmw
  have hm1 := LMember.all1 hmw
  have hxm1 : allOne (LMember.cells ⟨x.id, x.key⟩) = true := LMember.all1 ⟨hx.id, hx.key⟩
  have hxml : (LMember.cells ⟨x.id, x.key⟩).length = 34 := LMember.len_cells ⟨hx.id, hx.key⟩
  refine CallsTo.enter 146 (fun _ => True) F Tryd.func52 rfl rfl rfl rfl (by intros; first | trivial | assumption) ?_
  with_reducible refine JC.seq ?_
  with_reducible refine JC.region ?_
  refine JL.op (JO.box rfl rfl ?_); intro b2
  refine JL.op (JO.box rfl rfl ?_); intro b3
  refine JL.op (JO.alloc rfl rfl ?_); intro b4
  refine JL.op (JO.val (y_assign) rfl ?_)
  with_reducible refine JL.nil ?_
  with_reducible refine JQ.seq (JC.seq (JC.seq ?_))
  refine JC.cutS [(2, .pointer (some ⟨b2, 0, none⟩)), (3, .pointer (some ⟨b3, 0, none⟩)), (4, .pointer (some ⟨b4, 0, none⟩)), (31, .bool (chgBad1 ep ms x))] ?_ (fun E => ?_)
  · with_reducible refine JC.region ?_
    refine JL.op (JO.val (y_ldA 0 rfl rfl rfl rfl) rfl ?_)
    refine JL.op (JO.callv (fun wc hc => cfg_good74 _ ep A cap ms wc (h.step hc.step) (by omega) hwf) rfl rfl rfl ?_)
    refine JL.op (JO.val (y_not rfl) rfl ?_)
    refine JL.op (JO.val (y_move) rfl ?_)
    refine JL.split (d := 17) rfl (fun hg3 => ?_) (fun hg3 => ?_)
    · refine JL.op_skip rfl rfl (congrArg Value.bool hg3) rfl ?_
      refine JL.op_skip rfl rfl (congrArg Value.bool hg3) rfl ?_
      refine JL.op_skip rfl rfl (congrArg Value.bool hg3) rfl ?_
      refine JL.op (JO.val (y_pick (congrArg Value.bool hg3)) rfl ?_)
      refine JL.op (JO.val (y_move) rfl ?_)
      refine JL.op_skip rfl rfl rfl rfl ?_
      refine JL.op_skip rfl rfl rfl rfl ?_
      refine JL.op_skip rfl rfl rfl rfl ?_
      refine JL.op (JO.val (y_pick rfl) rfl ?_)
      refine JL.op (JO.val (y_move) rfl ?_)
      refine JL.op_skip rfl rfl rfl rfl ?_
      refine JL.op_skip rfl rfl rfl rfl ?_
      refine JL.op_skip rfl rfl rfl rfl ?_
      refine JL.op (JO.val (y_pick rfl) rfl ?_)
      with_reducible refine JL.nil ?_
      (refine JQ.has ⟨rfl, rfl, rfl, congrArg Value.bool ?_, trivial⟩ (fun _ h => h); (simp_all [chgBad1]; done))
    · refine JL.op_do rfl rfl (congrArg Value.bool hg3) (JO.val (y_fieldAddr rfl rfl rfl) rfl ?_)
      refine JL.op_do rfl rfl (congrArg Value.bool hg3) (JO.val (y_ld 1 rfl rfl rfl rfl) rfl ?_)
      refine JL.op_do rfl rfl (congrArg Value.bool hg3) (JO.val (y_lss rfl rfl) rfl ?_)
      refine JL.op (JO.val (y_pick (congrArg Value.bool hg3)) rfl ?_)
      refine JL.op (JO.val (y_move) rfl ?_)
      refine JL.split (d := 22) rfl (fun hg8 => ?_) (fun hg8 => ?_)
      · refine JL.op_skip rfl rfl (congrArg Value.bool hg8) rfl ?_
        refine JL.op_skip rfl rfl (congrArg Value.bool hg8) rfl ?_
        refine JL.op_skip rfl rfl (congrArg Value.bool hg8) rfl ?_
        refine JL.op (JO.val (y_pick (congrArg Value.bool hg8)) rfl ?_)
        refine JL.op (JO.val (y_move) rfl ?_)
        refine JL.op_skip rfl rfl rfl rfl ?_
        refine JL.op_skip rfl rfl rfl rfl ?_
        refine JL.op_skip rfl rfl rfl rfl ?_
        refine JL.op (JO.val (y_pick rfl) rfl ?_)
        with_reducible refine JL.nil ?_
        (refine JQ.has ⟨rfl, rfl, rfl, congrArg Value.bool ?_, trivial⟩ (fun _ h => h); (simp_all [chgBad1]; done))
      · refine JL.op_do rfl rfl (congrArg Value.bool hg8) (JO.val (y_fieldAddr rfl rfl rfl) rfl ?_)
        refine JL.op_do rfl rfl (congrArg Value.bool hg8) (JO.val (y_ld 1 rfl rfl rfl rfl) rfl ?_)
        refine JL.op_do rfl rfl (congrArg Value.bool hg8) (JO.val (y_gtr rfl rfl) rfl ?_)
        refine JL.op (JO.val (y_pick (congrArg Value.bool hg8)) rfl ?_)
        refine JL.op (JO.val (y_move) rfl ?_)
        refine JL.split (d := 27) rfl (fun hg13 => ?_) (fun hg13 => ?_)
        · refine JL.op_skip rfl rfl (congrArg Value.bool hg13) rfl ?_
          refine JL.op_skip rfl rfl (congrArg Value.bool hg13) rfl ?_
          refine JL.op_skip rfl rfl (congrArg Value.bool hg13) rfl ?_
          refine JL.op (JO.val (y_pick (congrArg Value.bool hg13)) rfl ?_)
          with_reducible refine JL.nil ?_
          (refine JQ.has ⟨rfl, rfl, rfl, congrArg Value.bool ?_, trivial⟩ (fun _ h => h); (simp_all [chgBad1]; done))
        · refine JL.op_do rfl rfl (congrArg Value.bool hg13) (JO.val (y_fieldAddr rfl rfl rfl) rfl ?_)
          refine JL.op_do rfl rfl (congrArg Value.bool hg13) (JO.val (y_ld 0 rfl rfl rfl rfl) rfl ?_)
          refine JL.op_do rfl rfl (congrArg Value.bool hg13) (JO.val (y_eql rfl rfl) rfl ?_)
          refine JL.op (JO.val (y_pick (congrArg Value.bool hg13)) rfl ?_)
          with_reducible refine JL.nil ?_
          (refine JQ.has ⟨rfl, rfl, rfl, congrArg Value.bool ?_, trivial⟩ (fun _ h => h); (rw [Bool.eq_iff_iff]; simp_all [chgBad1]; omega))
  with_reducible refine JQ.seq ?_
  refine JC.cond rfl (fun hg1 => ?_) (fun hg1 => ?_)
  · with_reducible refine JC.seq ?_
    with_reducible refine JC.region ?_
    refine JL.op (JO.val (y_build rfl rfl (rfl)) rfl ?_)
    refine JL.op (JO.storeA 2 rfl rfl rfl rfl (by first | rfl | assumption) (by first | rfl | assumption) (by first | rfl | assumption) ?_)
    refine JL.op (JO.val (y_assign) rfl ?_)
    with_reducible refine JL.nil ?_
    with_reducible refine JQ.seq (JC.ret (JQ.seq_ret ?_))
    exact ret_two rfl (ResV.cellA 2 rfl rfl rfl rfl) ResV.tmp (fun w hc => chg_fail (by simp [chgCode, hg1]) (by decide))
  have hep : 0 ≤ ep ∧ ep ≤ 1073741824 := by simp [chgBad1, cfgGood, cfgOut] at hg1; omega
  have hkd : 1 ≤ x.kind ∧ x.kind ≤ 4 := by simp [chgBad1] at hg1; omega
  have hgood : cfgGood ep ms = true := by
    cases hc : cfgGood ep ms with
    | true => rfl
    | false => simp [chgBad1, hc] at hg1
  have hG := goodM_of hgood
  have hf1 := find_has hG hwf hx.id
  have hf2 := find_has hG hwf hmw.id
  with_reducible refine JC.skip (JQ.seq (JC.seq ?_))
  refine JC.cutI (fun E S F2 w2 => ∃ b6 ob cap' cur, Row ob ms.length cap' 34 cur ∧ cur.take (ms.length * 34) = ms.flatMap LMember.cells ∧ RMems F2 w2 A cap ms ∧ S = [(some b2, 26, [.int .i64 ep, .slice A ms.length cap]), (some b3, 37, x.cells), (some b4, 26, [.int .i64 0, .slice none 0 0]), (some b6, 26, [.int .i64 (ep + 1), .slice (ob.map mkA) ms.length cap']), (ob, 55, cur)] ∧ Has E [(2, .pointer (some ⟨b2, 0, none⟩)), (3, .pointer (some ⟨b3, 0, none⟩)), (4, .pointer (some ⟨b4, 0, none⟩)), (6, .pointer (some ⟨b6, 0, none⟩))]) ?_ ?_
  · skip
    refine JC.held [0] ?_
    refine JH.take 0 rfl (by kernel_rfl) (by kernel_rfl) (by kernel_rfl) (fun _ _ _ => y_fieldAddr rfl rfl rfl) rfl (by repeat (first | exact np_fun | exact np_inv | refine np_seq ?_ | refine np_blk ?_ | refine np_loop ?_)) (⟨rfl, trivial⟩) ?_
    refine JH.take 1 rfl (by kernel_rfl) (by kernel_rfl) (by kernel_rfl) (fun _ _ _ => y_ld 0 rfl rfl rfl rfl) rfl (by repeat (first | exact np_fun | exact np_inv | refine np_seq ?_ | refine np_blk ?_ | refine np_loop ?_)) (⟨rfl, trivial⟩) ?_
    refine JH.take 2 rfl (by kernel_rfl) (by kernel_rfl) (by kernel_rfl) (fun _ _ _ => y_add (r := ep + 1) rfl rfl (wrap_in (by omega) (by omega))) rfl (by repeat (first | exact np_fun | exact np_inv | refine np_seq ?_ | refine np_blk ?_ | refine np_loop ?_)) (⟨rfl, trivial⟩) ?_
    refine JH.take 3 rfl (by kernel_rfl) (by kernel_rfl) (by kernel_rfl) (fun _ _ _ => y_fieldAddr rfl rfl rfl) rfl (by repeat (first | exact np_fun | exact np_inv | refine np_seq ?_ | refine np_blk ?_ | refine np_loop ?_)) (⟨rfl, trivial⟩) ?_
    refine JH.take 4 rfl (by kernel_rfl) (by kernel_rfl) (by kernel_rfl) (fun _ _ _ => y_ld 0 rfl rfl rfl rfl) rfl (by repeat (first | exact np_fun | exact np_inv | refine np_seq ?_ | refine np_blk ?_ | refine np_loop ?_)) (⟨rfl, trivial⟩) ?_
    refine JH.two 5 7 (by kernel_rfl) (JI.op rfl ?_) (JI.op rfl ?_)
    · refine (JO.call _ (fun wc hc => clone_mems _ A ms.length cap (ms.flatMap LMember.cells) wc (SlF.step h hc.step (by omega)) (flatMap_one fun m hm => LMember.one (hwf m hm)) (by omega)) rfl rfl rfl ?_)
      rintro wc v wn hst hsz hfr hbl hst0 hfresh
      obtain ⟨A', cap', rfl, hown⟩ := hfresh.own
      refine ⟨⟨rfl, trivial⟩, ?_⟩
      refine JH.take 6 rfl (by kernel_rfl) (by kernel_rfl) (by kernel_rfl) (fun _ _ _ => y_build rfl rfl (⟨_, _, _, rfl, rfl, rfl, rfl, ⟨_, _, _, rfl, rfl, rfl, rfl, rfl⟩⟩)) rfl (by repeat (first | exact np_fun | exact np_inv | refine np_seq ?_ | refine np_blk ?_ | refine np_loop ?_)) (⟨rfl, trivial⟩) ?_
      refine JH.one 7 (by kernel_rfl) (JI.op rfl ?_)
      refine (JO.alloc rfl rfl ?_); intro b6
      refine ⟨⟨rfl, trivial⟩, ?_⟩
      refine JH.one 8 (by kernel_rfl) (JI.op rfl ?_)
      refine (JO.storeA 3 rfl rfl rfl rfl (by first | rfl | assumption) (by first | rfl | assumption) (by first | rfl | assumption) ?_)
      refine ⟨⟨rfl, trivial⟩, ?_⟩
      refine JH.done (by kernel_rfl) ?_
      refine JQ.adopt (bound := w.heap.size) hown (fun b hb => ⟨hfr b hb, Nat.le_trans hsz hb, Nat.le_trans hsz hb⟩) ?_
      rintro ob cur rfl hrow htk hbd
      exact JQ.inv ⟨b6, ob, cap', cur, hrow, htk, SlF.step h (hst.adopt hbd) (by omega), rfl, ⟨rfl, rfl, rfl, rfl, trivial⟩⟩
    · refine (JO.alloc rfl rfl ?_); intro b6
      refine ⟨⟨rfl, trivial⟩, ?_⟩
      refine JH.one 5 (by kernel_rfl) (JI.op rfl ?_)
      refine (JO.call _ (fun wc hc => clone_mems _ A ms.length cap (ms.flatMap LMember.cells) wc (SlF.step h hc.step (by omega)) (flatMap_one fun m hm => LMember.one (hwf m hm)) (by omega)) rfl rfl rfl ?_)
      rintro wc v wn hst hsz hfr hbl hst0 hfresh
      obtain ⟨A', cap', rfl, hown⟩ := hfresh.own
      refine ⟨⟨rfl, trivial⟩, ?_⟩
      refine JH.take 6 rfl (by kernel_rfl) (by kernel_rfl) (by kernel_rfl) (fun _ _ _ => y_build rfl rfl (⟨_, _, _, rfl, rfl, rfl, rfl, ⟨_, _, _, rfl, rfl, rfl, rfl, rfl⟩⟩)) rfl (by repeat (first | exact np_fun | exact np_inv | refine np_seq ?_ | refine np_blk ?_ | refine np_loop ?_)) (⟨rfl, trivial⟩) ?_
      refine JH.one 8 (by kernel_rfl) (JI.op rfl ?_)
      refine (JO.storeA 3 rfl rfl rfl rfl (by first | rfl | assumption) (by first | rfl | assumption) (by first | rfl | assumption) ?_)
      refine ⟨⟨rfl, trivial⟩, ?_⟩
      refine JH.done (by kernel_rfl) ?_
      refine JQ.adopt (bound := w.heap.size) hown (fun b hb => ⟨hfr b hb, Nat.le_trans hsz hb, Nat.le_trans hsz hb⟩) ?_
      rintro ob cur rfl hrow htk hbd
      exact JQ.inv ⟨b6, ob, cap', cur, hrow, htk, SlF.step h (hst.adopt hbd) (by omega), rfl, ⟨rfl, rfl, rfl, rfl, trivial⟩⟩
  rintro E S F2 w2 ⟨b6, ob, cap', cur, hrow, htk, h2, rfl, hE⟩
  refine JQ.env hE (fun E => ?_)
  with_reducible refine JQ.seq (JC.seq ?_)
  with_reducible refine JC.region ?_
  refine JL.op (JO.val (y_fieldAddr rfl rfl rfl) rfl ?_)
  refine JL.op (JO.val (y_ld 1 rfl rfl rfl rfl) rfl ?_)
  refine JL.op (JO.val (y_fieldAddr rfl rfl rfl) rfl ?_)
  refine JL.op (JO.val (y_ldP 1 (vs := x.key.cells) rfl rfl rfl (List.take_of_length_le (by show x.key.cells.length ≤ 33; omega)) (by rw [hxl]; rfl)) rfl ?_)
  refine JL.op (JO.val (y_mem hx.key rfl rfl) rfl ?_)
  refine JL.op (JO.alloc rfl rfl ?_); intro b7
  refine JL.op (JO.storeA 5 rfl rfl rfl rfl (by first | rfl | assumption) (by first | rfl | assumption) (by first | rfl | assumption) ?_)
  with_reducible refine JL.nil ?_
  with_reducible refine JQ.seq (JC.seq (JC.seq ?_))
  with_reducible refine JC.region ?_
  refine JL.op (JO.val (y_fieldAddr rfl rfl rfl) rfl ?_)
  refine JL.op (JO.val (y_ld 1 rfl rfl rfl rfl) rfl ?_)
  refine JL.op (JO.val (y_eql rfl rfl) rfl ?_)
  with_reducible refine JL.nil ?_
  with_reducible refine JQ.seq ?_
  refine JC.cutI (fun E S F3 w3 => S = [(some b2, 26, [.int .i64 ep, .slice A ms.length cap]), (some b3, 37, x.cells), (some b4, 26, [.int .i64 0, .slice none 0 0]), (some b6, 26, [.int .i64 (ep + 1), .slice (ob.map mkA) ms.length cap']), (ob, 55, cur), (some b7, 55, (chgM x).cells)] ∧ F3 = F2 ∧ w3 = w2 ∧ Has E [(2, .pointer (some ⟨b2, 0, none⟩)), (3, .pointer (some ⟨b3, 0, none⟩)), (4, .pointer (some ⟨b4, 0, none⟩)), (6, .pointer (some ⟨b6, 0, none⟩)), (7, .pointer (some ⟨b7, 0, none⟩))]) ?_ ?_
  · refine JC.cond rfl (fun hg => ?_) (fun hg => ?_)
    · have hm : chgM x = ⟨x.new, x.key⟩ := by simp at hg; simp [chgM, hg]
      with_reducible refine JC.region ?_
      refine JL.op (JO.val (y_fieldAddr rfl rfl rfl) rfl ?_)
      refine JL.op (JO.val (y_ld 1 rfl rfl rfl rfl) rfl ?_)
      refine JL.op (JO.val (y_fieldAddr rfl rfl rfl) rfl ?_)
      refine JL.op (JO.store1 5 rfl rfl rfl rfl rfl rfl rfl ?_)
      with_reducible refine JL.nil ?_
      refine JQ.inv ⟨?_, rfl, rfl, ⟨rfl, rfl, rfl, rfl, rfl, trivial⟩⟩
      rw [hm]; rfl
    · have hm : chgM x = ⟨x.id, x.key⟩ := by simp at hg; simp [chgM, hg]
      with_reducible refine JC.skip ?_
      refine JQ.inv ⟨?_, rfl, rfl, ⟨rfl, rfl, rfl, rfl, rfl, trivial⟩⟩
      rw [hm]; rfl
  rintro E S F3 w3 ⟨rfl, rfl, rfl, hE⟩
  refine JQ.env hE (fun E => ?_)
  with_reducible refine JQ.seq (JC.seq (JC.seq ?_))
  refine JC.cutS [(2, .pointer (some ⟨b2, 0, none⟩)), (3, .pointer (some ⟨b3, 0, none⟩)), (4, .pointer (some ⟨b4, 0, none⟩)), (6, .pointer (some ⟨b6, 0, none⟩)), (7, .pointer (some ⟨b7, 0, none⟩)), (58, .bool (chgBad2 x))] ?_ (fun E => ?_)
  · with_reducible refine JC.region ?_
    refine JL.op (JO.val (y_fieldAddr rfl rfl rfl) rfl ?_)
    refine JL.op (JO.val (y_ld 1 rfl rfl rfl rfl) rfl ?_)
    refine JL.op (JO.val (y_neq rfl rfl) rfl ?_)
    refine JL.op (JO.val (y_move) rfl ?_)
    refine JL.split (d := 54) rfl (fun hg3 => ?_) (fun hg3 => ?_)
    · refine JL.op_do rfl rfl (congrArg Value.bool hg3) (JO.val (y_ldA 5 rfl rfl rfl hml) rfl ?_)
      refine JL.op_do rfl rfl (congrArg Value.bool hg3) (JO.callv (fun wc hc => right_any (chgM x) hmw wc) rfl rfl rfl ?_)
      refine JL.op_do rfl rfl (congrArg Value.bool hg3) (JO.val (y_not rfl) rfl ?_)
      refine JL.op (JO.val (y_pick (congrArg Value.bool hg3)) rfl ?_)
      with_reducible refine JL.nil ?_
      (refine JQ.has ⟨rfl, rfl, rfl, rfl, rfl, congrArg Value.bool ?_, trivial⟩ (fun _ h => h); (simp_all [chgBad2]; done))
    · refine JL.op_skip rfl rfl (congrArg Value.bool hg3) rfl ?_
      refine JL.op_skip rfl rfl (congrArg Value.bool hg3) rfl ?_
      refine JL.op_skip rfl rfl (congrArg Value.bool hg3) rfl ?_
      refine JL.op (JO.val (y_pick (congrArg Value.bool hg3)) rfl ?_)
      with_reducible refine JL.nil ?_
      (refine JQ.has ⟨rfl, rfl, rfl, rfl, rfl, congrArg Value.bool ?_, trivial⟩ (fun _ h => h); (simp_all [chgBad2]; done))
  with_reducible refine JQ.seq ?_
  refine JC.cond rfl (fun hg2 => ?_) (fun hg2 => ?_)
  · with_reducible refine JC.seq ?_
    with_reducible refine JC.region ?_
    refine JL.op (JO.val (y_build rfl rfl (rfl)) rfl ?_)
    refine JL.op (JO.storeA 2 rfl rfl rfl rfl (by first | rfl | assumption) (by first | rfl | assumption) (by first | rfl | assumption) ?_)
    refine JL.op (JO.val (y_assign) rfl ?_)
    with_reducible refine JL.nil ?_
    with_reducible refine JQ.seq (JC.ret (JQ.seq_ret ?_))
    exact ret_two rfl (ResV.cellA 2 rfl rfl rfl rfl) ResV.tmp (fun w hc => chg_fail (by simp [chgCode, hg1, hg2]) (by decide))
  with_reducible refine JC.skip (JQ.seq (JC.seq ?_))
  with_reducible refine JC.region ?_
  refine JL.op (JO.val (y_ldA 0 rfl rfl rfl rfl) rfl ?_)
  refine JL.op (JO.val (y_fieldAddr rfl rfl rfl) rfl ?_)
  refine JL.op (JO.val (y_ld 1 rfl rfl rfl rfl) rfl ?_)
  refine JL.op (JO.callv (fun wc hc => find_any _ ep A cap ms x.id wc (h2.step hc.step) (by omega) hwf) rfl rfl rfl ?_)
  refine JL.op (JO.val (y_move) rfl ?_)
  refine JL.op (JO.val (y_extract rfl rfl) rfl ?_)
  refine JL.op (JO.val (y_extract rfl rfl) rfl ?_)
  refine JL.op (JO.val (y_assign) rfl ?_)
  refine JL.op (JO.val (y_assign) rfl ?_)
  with_reducible refine JL.nil ?_
  with_reducible refine JQ.seq (JC.seq ?_)
  with_reducible refine JC.region ?_
  refine JL.op (JO.val (y_ldA 0 rfl rfl rfl rfl) rfl ?_)
  refine JL.op (JO.val (y_fieldAddr rfl rfl rfl) rfl ?_)
  refine JL.op (JO.val (y_ld 5 rfl rfl rfl rfl) rfl ?_)
  refine JL.op (JO.callv (fun wc hc => find_any _ ep A cap ms (chgM x).id wc (h2.step hc.step) (by omega) hwf) rfl rfl rfl ?_)
  refine JL.op (JO.val (y_move) rfl ?_)
  refine JL.op (JO.val (y_extract rfl rfl) rfl ?_)
  refine JL.op (JO.val (y_extract rfl rfl) rfl ?_)
  refine JL.op (JO.val (y_assign) rfl ?_)
  refine JL.op (JO.val (y_assign) rfl ?_)
  with_reducible refine JL.nil ?_
  with_reducible refine JQ.seq (JC.seq (JC.block (JC.seq ?_)))
  refine JC.cutS [(2, .pointer (some ⟨b2, 0, none⟩)), (3, .pointer (some ⟨b3, 0, none⟩)), (4, .pointer (some ⟨b4, 0, none⟩)), (6, .pointer (some ⟨b6, 0, none⟩)), (7, .pointer (some ⟨b7, 0, none⟩)), (8, .int .i64 (findI ms x.id : Nat)), (9, .bool (findB ms x.id)), (10, .int .i64 (findI ms (chgM x).id : Nat)), (11, .bool (findB ms (chgM x).id)), (74, .bool (chgBad3 ms x))] ?_ (fun E => ?_)
  · with_reducible refine JC.region ?_
    refine JL.op (JO.val (y_fieldAddr rfl rfl rfl) rfl ?_)
    refine JL.op (JO.val (y_ld 1 rfl rfl rfl rfl) rfl ?_)
    refine JL.op (JO.val (y_neq rfl rfl) rfl ?_)
    refine JL.op (JO.val (y_move) rfl ?_)
    refine JL.split (d := 78) rfl (fun hg3 => ?_) (fun hg3 => ?_)
    · refine JL.op_do rfl rfl (congrArg Value.bool hg3) (JO.val (y_move) rfl ?_)
      refine JL.op_do rfl rfl (congrArg Value.bool hg3) (JO.val (y_not rfl) rfl ?_)
      refine JL.op (JO.val (y_pick (congrArg Value.bool hg3)) rfl ?_)
      refine JL.op (JO.val (y_assign) rfl ?_)
      with_reducible refine JL.nil ?_
      (refine JQ.has ⟨rfl, rfl, rfl, rfl, rfl, rfl, rfl, rfl, rfl, congrArg Value.bool ?_, trivial⟩ (fun _ h => h); (simp_all [chgBad3, hf1, hf2]; done))
    · refine JL.op_skip rfl rfl (congrArg Value.bool hg3) rfl ?_
      refine JL.op_skip rfl rfl (congrArg Value.bool hg3) rfl ?_
      refine JL.op (JO.val (y_pick (congrArg Value.bool hg3)) rfl ?_)
      refine JL.op (JO.val (y_assign) rfl ?_)
      with_reducible refine JL.nil ?_
      (refine JQ.has ⟨rfl, rfl, rfl, rfl, rfl, rfl, rfl, rfl, rfl, congrArg Value.bool ?_, trivial⟩ (fun _ h => h); (simp_all [chgBad3, hf1, hf2]; done))
  with_reducible refine JQ.seq ?_
  refine JC.cond rfl (fun hg3 => ?_) (fun hg3 => ?_)
  · with_reducible refine JC.seq ?_
    with_reducible refine JC.region ?_
    refine JL.op (JO.val (y_build rfl rfl (rfl)) rfl ?_)
    refine JL.op (JO.storeA 2 rfl rfl rfl rfl (by first | rfl | assumption) (by first | rfl | assumption) (by first | rfl | assumption) ?_)
    refine JL.op (JO.val (y_assign) rfl ?_)
    with_reducible refine JL.nil ?_
    with_reducible refine JQ.seq (JC.ret (JQ.blk_ret (JQ.seq_ret ?_)))
    exact ret_two rfl (ResV.cellA 2 rfl rfl rfl rfl) ResV.tmp (fun w hc => chg_fail (by simp [chgCode, hg1, hg2, hg3]) (by decide))
  with_reducible refine JC.seq ?_
  refine JC.cutS [(2, .pointer (some ⟨b2, 0, none⟩)), (3, .pointer (some ⟨b3, 0, none⟩)), (4, .pointer (some ⟨b4, 0, none⟩)), (6, .pointer (some ⟨b6, 0, none⟩)), (7, .pointer (some ⟨b7, 0, none⟩)), (8, .int .i64 (findI ms x.id : Nat)), (9, .bool (findB ms x.id)), (10, .int .i64 (findI ms (chgM x).id : Nat)), (11, .bool (findB ms (chgM x).id)), (83, .bool (chgBad4 ms x))] ?_ (fun E => ?_)
  · with_reducible refine JC.region ?_
    refine JL.op (JO.val (y_fieldAddr rfl rfl rfl) rfl ?_)
    refine JL.op (JO.val (y_ld 1 rfl rfl rfl rfl) rfl ?_)
    refine JL.op (JO.val (y_eql rfl rfl) rfl ?_)
    refine JL.op (JO.val (y_move) rfl ?_)
    refine JL.split (d := 87) rfl (fun hg3 => ?_) (fun hg3 => ?_)
    · refine JL.op_skip rfl rfl (congrArg Value.bool hg3) rfl ?_
      refine JL.op_skip rfl rfl (congrArg Value.bool hg3) rfl ?_
      refine JL.op_skip rfl rfl (congrArg Value.bool hg3) rfl ?_
      refine JL.op (JO.val (y_pick (congrArg Value.bool hg3)) rfl ?_)
      refine JL.op (JO.val (y_move) rfl ?_)
      refine JL.op_do rfl rfl rfl (JO.val (y_move) rfl ?_)
      refine JL.op (JO.val (y_pick rfl) rfl ?_)
      refine JL.op (JO.val (y_assign) rfl ?_)
      with_reducible refine JL.nil ?_
      (refine JQ.has ⟨rfl, rfl, rfl, rfl, rfl, rfl, rfl, rfl, rfl, congrArg Value.bool ?_, trivial⟩ (fun _ h => h); (simp_all [chgBad4, hf1, hf2]; done))
    · refine JL.op_do rfl rfl (congrArg Value.bool hg3) (JO.val (y_fieldAddr rfl rfl rfl) rfl ?_)
      refine JL.op_do rfl rfl (congrArg Value.bool hg3) (JO.val (y_ld 1 rfl rfl rfl rfl) rfl ?_)
      refine JL.op_do rfl rfl (congrArg Value.bool hg3) (JO.val (y_eql rfl rfl) rfl ?_)
      refine JL.op (JO.val (y_pick (congrArg Value.bool hg3)) rfl ?_)
      refine JL.op (JO.val (y_move) rfl ?_)
      refine JL.split (d := 92) rfl (fun hg8 => ?_) (fun hg8 => ?_)
      · refine JL.op_do rfl rfl (congrArg Value.bool hg8) (JO.val (y_move) rfl ?_)
        refine JL.op (JO.val (y_pick (congrArg Value.bool hg8)) rfl ?_)
        refine JL.op (JO.val (y_assign) rfl ?_)
        with_reducible refine JL.nil ?_
        (refine JQ.has ⟨rfl, rfl, rfl, rfl, rfl, rfl, rfl, rfl, rfl, congrArg Value.bool ?_, trivial⟩ (fun _ h => h); (simp_all [chgBad4, hf1, hf2]; done))
      · refine JL.op_skip rfl rfl (congrArg Value.bool hg8) rfl ?_
        refine JL.op (JO.val (y_pick (congrArg Value.bool hg8)) rfl ?_)
        refine JL.op (JO.val (y_assign) rfl ?_)
        with_reducible refine JL.nil ?_
        (refine JQ.has ⟨rfl, rfl, rfl, rfl, rfl, rfl, rfl, rfl, rfl, congrArg Value.bool ?_, trivial⟩ (fun _ h => h); (simp_all [chgBad4, hf1, hf2]; done))
  with_reducible refine JQ.seq ?_
  refine JC.cond rfl (fun hg4 => ?_) (fun hg4 => ?_)
  · with_reducible refine JC.seq ?_
    with_reducible refine JC.region ?_
    refine JL.op (JO.val (y_build rfl rfl (rfl)) rfl ?_)
    refine JL.op (JO.storeA 2 rfl rfl rfl rfl (by first | rfl | assumption) (by first | rfl | assumption) (by first | rfl | assumption) ?_)
    refine JL.op (JO.val (y_assign) rfl ?_)
    with_reducible refine JL.nil ?_
    with_reducible refine JQ.seq (JC.ret (JQ.blk_ret (JQ.seq_ret ?_)))
    exact ret_two rfl (ResV.cellA 2 rfl rfl rfl rfl) ResV.tmp (fun w hc => chg_fail (by simp [chgCode, hg1, hg2, hg3, hg4]) (by decide))
  with_reducible refine JC.seq ?_
  refine JC.cutS [(2, .pointer (some ⟨b2, 0, none⟩)), (3, .pointer (some ⟨b3, 0, none⟩)), (4, .pointer (some ⟨b4, 0, none⟩)), (6, .pointer (some ⟨b6, 0, none⟩)), (7, .pointer (some ⟨b7, 0, none⟩)), (8, .int .i64 (findI ms x.id : Nat)), (96, .bool (chgBad5 ms x))] ?_ (fun E => ?_)
  · with_reducible refine JC.region ?_
    refine JL.op (JO.val (y_fieldAddr rfl rfl rfl) rfl ?_)
    refine JL.op (JO.val (y_ld 1 rfl rfl rfl rfl) rfl ?_)
    refine JL.op (JO.val (y_eql rfl rfl) rfl ?_)
    refine JL.op (JO.val (y_move) rfl ?_)
    refine JL.split (d := 100) rfl (fun hg3 => ?_) (fun hg3 => ?_)
    · refine JL.op_do rfl rfl (congrArg Value.bool hg3) (JO.val (y_fieldAddr rfl rfl rfl) rfl ?_)
      refine JL.op_do rfl rfl (congrArg Value.bool hg3) (JO.val (y_ld 0 rfl rfl rfl rfl) rfl ?_)
      refine JL.op_do rfl rfl (congrArg Value.bool hg3) (JO.val (y_len rfl rfl) rfl ?_)
      refine JL.op_do rfl rfl (congrArg Value.bool hg3) (JO.val (y_eql rfl rfl) rfl ?_)
      refine JL.op (JO.val (y_pick (congrArg Value.bool hg3)) rfl ?_)
      refine JL.op (JO.val (y_assign) rfl ?_)
      with_reducible refine JL.nil ?_
      (refine JQ.has ⟨rfl, rfl, rfl, rfl, rfl, rfl, congrArg Value.bool ?_, trivial⟩ (fun _ h => h); (simp_all [chgBad5]; done))
    · refine JL.op_skip rfl rfl (congrArg Value.bool hg3) rfl ?_
      refine JL.op_skip rfl rfl (congrArg Value.bool hg3) rfl ?_
      refine JL.op_skip rfl rfl (congrArg Value.bool hg3) rfl ?_
      refine JL.op_skip rfl rfl (congrArg Value.bool hg3) rfl ?_
      refine JL.op (JO.val (y_pick (congrArg Value.bool hg3)) rfl ?_)
      refine JL.op (JO.val (y_assign) rfl ?_)
      with_reducible refine JL.nil ?_
      (refine JQ.has ⟨rfl, rfl, rfl, rfl, rfl, rfl, congrArg Value.bool ?_, trivial⟩ (fun _ h => h); (simp_all [chgBad5]; done))
  with_reducible refine JQ.seq ?_
  refine JC.cond rfl (fun hg5 => ?_) (fun hg5 => ?_)
  · with_reducible refine JC.seq ?_
    with_reducible refine JC.region ?_
    refine JL.op (JO.val (y_build rfl rfl (rfl)) rfl ?_)
    refine JL.op (JO.storeA 2 rfl rfl rfl rfl (by first | rfl | assumption) (by first | rfl | assumption) (by first | rfl | assumption) ?_)
    refine JL.op (JO.val (y_assign) rfl ?_)
    with_reducible refine JL.nil ?_
    with_reducible refine JQ.seq (JC.ret (JQ.blk_ret (JQ.seq_ret ?_)))
    exact ret_two rfl (ResV.cellA 2 rfl rfl rfl rfl) ResV.tmp (fun w hc => chg_fail (by simp [chgCode, hg1, hg2, hg3, hg4, hg5]) (by decide))
  with_reducible refine JC.seq ?_
  refine JC.cutS [(2, .pointer (some ⟨b2, 0, none⟩)), (3, .pointer (some ⟨b3, 0, none⟩)), (4, .pointer (some ⟨b4, 0, none⟩)), (6, .pointer (some ⟨b6, 0, none⟩)), (7, .pointer (some ⟨b7, 0, none⟩)), (8, .int .i64 (findI ms x.id : Nat)), (107, .bool (chgBad6 ms x))] ?_ (fun E => ?_)
  · with_reducible refine JC.region ?_
    refine JL.op (JO.val (y_fieldAddr rfl rfl rfl) rfl ?_)
    refine JL.op (JO.val (y_ld 1 rfl rfl rfl rfl) rfl ?_)
    refine JL.op (JO.val (y_eql rfl rfl) rfl ?_)
    refine JL.op (JO.val (y_move) rfl ?_)
    refine JL.split (d := 111) rfl (fun hg3 => ?_) (fun hg3 => ?_)
    · refine JL.op_do rfl rfl (congrArg Value.bool hg3) (JO.val (y_fieldAddr rfl rfl rfl) rfl ?_)
      refine JL.op_do rfl rfl (congrArg Value.bool hg3) (JO.val (y_ld 0 rfl rfl rfl rfl) rfl ?_)
      refine JL.op_do rfl rfl (congrArg Value.bool hg3) (JO.val (y_len rfl rfl) rfl ?_)
      refine JL.op_do rfl rfl (congrArg Value.bool hg3) (JO.val (y_eql rfl rfl) rfl ?_)
      refine JL.op (JO.val (y_pick (congrArg Value.bool hg3)) rfl ?_)
      refine JL.op (JO.val (y_assign) rfl ?_)
      with_reducible refine JL.nil ?_
      (refine JQ.has ⟨rfl, rfl, rfl, rfl, rfl, rfl, congrArg Value.bool ?_, trivial⟩ (fun _ h => h); (simp_all [chgBad6]; done))
    · refine JL.op_skip rfl rfl (congrArg Value.bool hg3) rfl ?_
      refine JL.op_skip rfl rfl (congrArg Value.bool hg3) rfl ?_
      refine JL.op_skip rfl rfl (congrArg Value.bool hg3) rfl ?_
      refine JL.op_skip rfl rfl (congrArg Value.bool hg3) rfl ?_
      refine JL.op (JO.val (y_pick (congrArg Value.bool hg3)) rfl ?_)
      refine JL.op (JO.val (y_assign) rfl ?_)
      with_reducible refine JL.nil ?_
      (refine JQ.has ⟨rfl, rfl, rfl, rfl, rfl, rfl, congrArg Value.bool ?_, trivial⟩ (fun _ h => h); (simp_all [chgBad6]; done))
  with_reducible refine JQ.seq ?_
  refine JC.cond rfl (fun hg6 => ?_) (fun hg6 => ?_)
  · with_reducible refine JC.seq ?_
    with_reducible refine JC.region ?_
    refine JL.op (JO.val (y_build rfl rfl (rfl)) rfl ?_)
    refine JL.op (JO.storeA 2 rfl rfl rfl rfl (by first | rfl | assumption) (by first | rfl | assumption) (by first | rfl | assumption) ?_)
    refine JL.op (JO.val (y_assign) rfl ?_)
    with_reducible refine JL.nil ?_
    with_reducible refine JQ.seq (JC.ret (JQ.blk_ret (JQ.seq_ret ?_)))
    exact ret_two rfl (ResV.cellA 2 rfl rfl rfl rfl) ResV.tmp (fun w hc => chg_fail (by simp [chgCode, hg1, hg2, hg3, hg4, hg5, hg6]) (by decide))
  have hcode : chgCode ep ms x = 0 := by simp [chgCode, hg1, hg2, hg3, hg4, hg5, hg6]
  with_reducible refine JC.skip (JQ.blk (JQ.seq (JC.seq (JC.seq ?_))))
  with_reducible refine JC.region ?_
  refine JL.op (JO.val (y_fieldAddr rfl rfl rfl) rfl ?_)
  refine JL.op (JO.val (y_ld 1 rfl rfl rfl rfl) rfl ?_)
  refine JL.op (JO.val (y_neq rfl rfl) rfl ?_)
  with_reducible refine JL.nil ?_
  with_reducible refine JQ.seq ?_
  refine JC.cutI (fun E S F4 w4 => ∃ ob cap' cur, Row ob (chgOut ms x).length cap' 34 cur ∧ cur.take ((chgOut ms x).length * 34) = (chgOut ms x).flatMap LMember.cells ∧ S = [(some b2, 26, [.int .i64 ep, .slice A ms.length cap]), (some b3, 37, x.cells), (some b4, 26, [.int .i64 0, .slice none 0 0]), (some b6, 26, [.int .i64 (ep + 1), .slice (ob.map mkA) (chgOut ms x).length cap']), (ob, 55, cur), (some b7, 55, (chgM x).cells)] ∧ Has E [(2, .pointer (some ⟨b2, 0, none⟩)), (3, .pointer (some ⟨b3, 0, none⟩)), (4, .pointer (some ⟨b4, 0, none⟩)), (6, .pointer (some ⟨b6, 0, none⟩)), (7, .pointer (some ⟨b7, 0, none⟩))]) ?_ ?_
  · refine JC.cond rfl (fun hg => ?_) (fun hg => ?_)
    · have hk1 : x.kind ≠ 1 := by simpa using hg
      have hhas : hasM ms x.id = true := by simpa [chgBad3, hk1] using hg3
      have hlt := find_lt (hf1.trans hhas)
      have ho : chgOut ms x = ms.take (findI ms x.id) ++ ms.drop (findI ms x.id + 1) := by unfold chgOut; rw [if_pos hk1]; exact find_out hG hhas
      obtain ⟨br, rfl⟩ : ∃ b, ob = some b := by
        cases ob with
        | none => have := (hrow.nil rfl).1; omega
        | some b => exact ⟨b, rfl⟩
      rw [ho]
      with_reducible refine JC.region ?_
      refine JL.op (JO.val (y_fieldAddr rfl rfl rfl) rfl ?_)
      refine JL.op (JO.val (y_ld 3 rfl rfl rfl rfl) rfl ?_)
      refine JL.op (JO.val (y_move) rfl ?_)
      refine JL.op (JO.val (y_move) rfl ?_)
      refine JL.op (JO.val (y_add rfl rfl (natAdd (Nat.le_of_lt hlt) (by omega))) rfl ?_)
      refine JL.op (JO.del_77 4 LMember.cells rfl rfl rfl rfl rfl hrow htk (fun m hm => LMember.len_cells (hwf m hm)) (fun m hm => LMember.one (hwf m hm)) hlt (by omega) ?_)
      rintro cur' F' w' hrow' htk' hst' hsz'
      refine JL.op (JO.val (y_fieldAddr rfl rfl rfl) rfl ?_)
      refine JL.op (JO.store1 3 rfl rfl rfl rfl rfl rfl rfl ?_)
      with_reducible refine JL.nil ?_
      exact JQ.inv ⟨some br, cap', cur', hrow', htk', rfl, ⟨rfl, rfl, rfl, rfl, rfl, trivial⟩⟩
    · have ho : chgOut ms x = ms := by unfold chgOut; rw [if_neg (by simpa using hg)]
      rw [ho]
      with_reducible refine JC.skip ?_
      exact JQ.inv ⟨ob, cap', cur, hrow, htk, rfl, ⟨rfl, rfl, rfl, rfl, rfl, trivial⟩⟩
  clear hrow htk
  rintro E S F4 w4 ⟨ob, cap', cur, hrow, htk, rfl, hE⟩
  refine JQ.env hE (fun E => ?_)
  have hol : (chgOut ms x).length ≤ 10000 := by
    unfold chgOut
    split
    · exact Nat.le_trans (List.length_filter_le _ _) hn
    · exact hn
  have how : ∀ m ∈ chgOut ms x, m.wf := fun m hm => by
    unfold chgOut at hm
    split at hm
    · exact hwf m (List.mem_filter.1 hm).1
    · exact hwf m hm
  with_reducible refine JQ.seq (JC.seq (JC.seq ?_))
  with_reducible refine JC.region ?_
  refine JL.op (JO.val (y_fieldAddr rfl rfl rfl) rfl ?_)
  refine JL.op (JO.val (y_ld 1 rfl rfl rfl rfl) rfl ?_)
  refine JL.op (JO.val (y_neq rfl rfl) rfl ?_)
  with_reducible refine JL.nil ?_
  with_reducible refine JQ.seq ?_
  refine JC.cutI (fun E S F5 w5 => ∃ ob cap' cur, Row ob (chgList ms x).length cap' 34 cur ∧ cur.take ((chgList ms x).length * 34) = (chgList ms x).flatMap LMember.cells ∧ S = [(some b2, 26, [.int .i64 ep, .slice A ms.length cap]), (some b3, 37, x.cells), (some b4, 26, [.int .i64 0, .slice none 0 0]), (some b6, 26, [.int .i64 (ep + 1), .slice (ob.map mkA) (chgList ms x).length cap']), (ob, 55, cur), (some b7, 55, (chgM x).cells)] ∧ Has E [(2, .pointer (some ⟨b2, 0, none⟩)), (3, .pointer (some ⟨b3, 0, none⟩)), (4, .pointer (some ⟨b4, 0, none⟩)), (6, .pointer (some ⟨b6, 0, none⟩)), (7, .pointer (some ⟨b7, 0, none⟩))]) ?_ ?_
  · refine JC.cond rfl (fun hg => ?_) (fun hg => ?_)
    · have hk2 : x.kind ≠ 2 := by simpa using hg
      have hno := chg_none hkd.1 hkd.2 hk2 hg4
      have hri := chg_right hk2 hg2
      have ho : chgList ms x = (chgOut ms x).take (findI (chgOut ms x) (chgM x).id) ++ chgM x :: (chgOut ms x).drop (findI (chgOut ms x) (chgM x).id) := by unfold chgList; rw [if_pos hk2]; exact find_with hG.out hri hno
      have hple : findI (chgOut ms x) (chgM x).id ≤ (chgOut ms x).length := (bs_spec (idC_ord hG.out hri)).1
      rw [ho]
      with_reducible refine JC.seq ?_
      with_reducible refine JC.region ?_
      refine JL.op (JO.val (y_ldA 3 rfl rfl rfl rfl) rfl ?_)
      refine JL.op (JO.val (y_fieldAddr rfl rfl rfl) rfl ?_)
      refine JL.op (JO.val (y_ld 5 rfl rfl rfl rfl) rfl ?_)
      refine JL.op (JO.callv (fun wc hc => find_any (fun _ => True) (ep + 1) (ob.map mkA) cap' (chgOut ms x) (chgM x).id wc (hrow.slF htk (fun b hb => ⟨trivial, (hc.own (ob, 55, cur) (by simp) b hb).2⟩)) (by omega) how) rfl rfl rfl ?_)
      refine JL.op (JO.val (y_move) rfl ?_)
      refine JL.op (JO.val (y_extract rfl rfl) rfl ?_)
      refine JL.op (JO.val (y_extract rfl rfl) rfl ?_)
      refine JL.op (JO.val (y_assign) rfl ?_)
      refine JL.op (JO.val (y_assign) rfl ?_)
      with_reducible refine JL.nil ?_
      with_reducible refine JQ.seq ?_
      with_reducible refine JC.region ?_
      refine JL.op (JO.val (y_fieldAddr rfl rfl rfl) rfl ?_)
      refine JL.op (JO.val (y_ld 3 rfl rfl rfl rfl) rfl ?_)
      refine JL.op (JO.val (y_move) rfl ?_)
      refine JL.op (JO.val (y_ldA 5 rfl rfl rfl hml) rfl ?_)
      refine JL.op (JO.build1 rfl rfl rfl hml rfl rfl ?_); intro b142
      refine JL.op (JO.ins_78 4 6 LMember.cells rfl rfl rfl rfl rfl rfl rfl hrow htk (fun m hm => LMember.len_cells (how m hm)) (fun m hm => LMember.one (how m hm)) hml hm1 hple (by omega) ?_)
      rintro ob' cap'' cur' F' w' hrow' htk' hst' hsz'
      refine JL.op (JO.val (y_fieldAddr rfl rfl rfl) rfl ?_)
      refine JL.op (JO.store1 3 rfl rfl rfl rfl rfl rfl rfl ?_)
      with_reducible refine JL.nil ?_
      refine JQ.takeN 6 ?_
      exact JQ.inv ⟨ob', cap'', cur', hrow', htk', rfl, ⟨rfl, rfl, rfl, rfl, rfl, trivial⟩⟩
    · have ho : chgList ms x = chgOut ms x := by unfold chgList; rw [if_neg (by simpa using hg)]
      rw [ho]
      with_reducible refine JC.skip ?_
      exact JQ.inv ⟨ob, cap', cur, hrow, htk, rfl, ⟨rfl, rfl, rfl, rfl, rfl, trivial⟩⟩
  clear hrow htk
  rintro E S F5 w5 ⟨ob, cap', cur, hrow, htk, rfl, hE⟩
  refine JQ.env hE (fun E => ?_)
  with_reducible refine JQ.seq (JC.seq ?_)
  with_reducible refine JC.region ?_
  refine JL.op (JO.val (y_ldA 3 rfl rfl rfl rfl) rfl ?_)
  refine JL.op (JO.storeA 2 rfl rfl rfl rfl (by first | rfl | assumption) (by first | rfl | assumption) (by first | rfl | assumption) ?_)
  refine JL.op (JO.val (y_assign) rfl ?_)
  with_reducible refine JL.nil ?_
  with_reducible refine JQ.seq (JC.ret ?_)
  exact ret_two rfl (ResV.cellA 2 rfl rfl rfl rfl) ResV.tmp (fun w' hc => chg_fine hcode hrow htk (fun b hb => hc.own0 rfl (ob, 55, cur) (by simp [sset]) b hb))
end Go.Proofs.YtchnnplcpidkiaaDoor
