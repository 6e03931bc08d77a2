/- The law StateKeeps, walked: it answers true at every state and every request; no condition but the forms. -/
import Derived.Test.YtchnnplcpidkiaaDoorC23
namespace Go.Proofs.YtchnnplcpidkiaaDoor
open Go.RowKit
set_option linter.unusedSimpArgs false
set_option linter.unusedVariables false
set_option maxRecDepth 20000
set_option maxHeartbeats 64000000

theorem sset_len {α : Type} {l : List α} {i : Nat} {v : α} : (sset l i v).length = l.length := by rw [sset_eq]; simp
theorem nth_sset_ne {α : Type} {l : List α} {i j : Nat} {v : α} (h : i ≠ j) : nth (sset l i v) j = nth l j := by
  rw [nth_eq, nth_eq, sset_eq, List.getElem?_set_ne h]
theorem blt_row0 {k n cap sz : Nat} {l : List Value} (hl : l.length = cap * sz) (hk : k < n) (hn : n ≤ cap) (hz : 0 < sz) : Nat.blt (0 + k * sz) l.length = true := by
  rw [Nat.blt_eq, hl]
  have : (k + 1) * sz ≤ cap * sz := Nat.mul_le_mul_right sz (by omega)
  rw [Nat.add_mul] at this
  omega
theorem Al.take {X : Cx} {S : Sto} {n k : Nat} (h : Al X S k) : Al X (takeL n S) k := ⟨h.1, fun hm => h.2 (by
  obtain ⟨e, he, h1⟩ := blks_mem.1 hm
  exact blks_mem.2 ⟨e, (takeL_sub n S).subset he, h1⟩)⟩
theorem slot_of {hs : List (LReply × Option Addr × Nat)} {cur : List Value} {n i : Nat} {h : LReply × Option Addr × Nat} (htk : cur.take (n * 4) = hs.flatMap rcells) (hi : hs[i]? = some h) : nth cur (i * 4 + 3) = some (.slice h.2.1 h.1.vals.length h.2.2) := by
  have h1 := flatMap_at (f := rcells) (sz := 4) (j := 3) (v := .slice h.2.1 h.1.vals.length h.2.2) rcells_len hi rfl
  rw [← htk, List.getElem?_take] at h1
  rw [nth_eq]
  split at h1
  · exact h1
  · cases h1
theorem blt_row {k n cap sz j : Nat} {l : List Value} (hl : l.length = cap * sz) (hk : k < n) (hn : n ≤ cap) (hj : j < sz) : Nat.blt (0 + k * sz + j) l.length = true := by
  rw [Nat.blt_eq, hl]
  have : (k + 1) * sz ≤ cap * sz := Nat.mul_le_mul_right sz (by omega)
  rw [Nat.add_mul] at this
  omega
section
variable {X : Cx} {E : Env} {S : Sto} {F : Nat → Prop} {w1 : World} {Q : Exit → Env → World → Prop}
/-- A row that nobody else writes becomes an entry. -/
theorem JC.adoptH {c : Code} {G : Nat → Prop} {T sz n cap : Nat} {A : Option Addr} {cs : List Value} (h : OwnF G w1 T sz A n cap cs) (hG : ∀ b, G b → F b ∧ X.w0.heap.size ≤ b)
    (k : ∀ ob cur, A = ob.map mkA → Row ob n cap sz cur → cur.take (n * sz) = cs → (∀ b, ob = some b → G b ∧ w1.heap[b]? = some (.cells cur.toArray T (0, 0))) → JC X c E (S ++ [(ob, T, cur)]) (fun k => F k ∧ ob ≠ some k) w1 Q) : JC X c E S F w1 Q := by
  obtain ⟨ob, cur, hA, hrow, htk, hb⟩ := h
  refine JC.weaken (fun w hc => ?_) (k ob cur hA hrow htk hb)
  have h1 := (hc.addNone T).put S.length (nth_last S _) ob T cur fun b hbb => by
    have h2 := hG b (hb b hbb).1
    have hlt : b < w1.heap.size := (Array.getElem?_eq_some_iff.1 (hb b hbb).2).1
    obtain ⟨h3, h4⟩ := hc.step b hlt h2.1
    refine ⟨h3.trans (hb b hbb).2, .inl h2.2, ?_⟩
    intro hm
    obtain ⟨e, he, h5⟩ := blks_mem.1 hm
    rcases List.mem_append.1 he with h6 | h6
    · exact h4.2 (blks_mem.2 ⟨e, h6, h5⟩)
    · rw [List.mem_singleton.1 h6] at h5; cases h5
  rw [sset_last] at h1
  exact h1
/-- The last entries are given back to the memory that is only read. -/
theorem JC.free {c : Code} (n : Nat) (k : ∀ w, Cur X S F w1 w → JC X c E (takeL n S) (Al X (takeL n S)) w Q) : JC X c E S F w1 Q := fun w a hc ha => k w hc w a ((hc.takeN n).rebase) ha
end
/-- A row of texts, whatever they are. -/
def VRow (F : Nat → Prop) (w : World) (h : LReply × Option Addr × Nat) : Prop := ∃ csx, OwnF F w 9 1 h.2.1 h.1.vals.length h.2.2 csx
theorem free_vals {X : Cx} {S S' : Sto} {F : Nat → Prop} {w1 w : World} {n6 : Nat} {ov : Option Nat} {cv cv' : List Value} (hc : Cur X S (fun k => F k ∧ ov ≠ some k) w1 w) (hm : (ov, 9, cv') ∈ S) (hS : ∀ k, k ∈ blks S' → k ∈ blks S) (hno : ∀ b, ov = some b → b ∉ blks S') (hmd : X.md = []) (hl : cv'.length = cv.length)
    (hov : ∀ b, ov = some b → (F b ∧ n6 ≤ b) ∧ w1.heap[b]? = some (.cells cv.toArray 9 (0, 0))) {h : LReply × Option Addr × Nat} (hv : VRow (fun b => F b ∧ n6 ≤ b) w1 h) : VRow (fun b => Al X S' b ∧ n6 ≤ b) w h := by
  obtain ⟨csx, ob, cur, hA, hrow, htk, hb⟩ := hv
  cases ob with
  | none => exact ⟨csx, none, cur, hA, hrow, htk, fun b hb => by cases hb⟩
  | some b =>
    obtain ⟨h1, h2⟩ := hb b rfl
    by_cases he : ov = some b
    · obtain ⟨_, h3⟩ := hov b he
      rw [h2] at h3
      simp only [Option.some.injEq, Obj.cells.injEq] at h3
      have hcur : cur.length = cv.length := by have := congrArg Array.size h3.1; simpa using this
      have h4 := hc.own0 hmd _ hm b he
      refine ⟨_, some b, cv', hA, ⟨by rw [hl, ← hcur]; exact hrow.len, hrow.le, hrow.max, hrow.nil⟩, rfl, fun b' hb' => ?_⟩
      cases hb'
      exact ⟨⟨⟨.inr h4.1, hno b he⟩, h1.2⟩, h4.2⟩
    · obtain ⟨h3, h4⟩ := hc.step b (Array.getElem?_eq_some_iff.1 h2).1 ⟨h1.1, he⟩
      refine ⟨csx, some b, cur, hA, hrow, htk, fun b' hb' => ?_⟩
      cases hb'
      exact ⟨⟨⟨h4.1, fun hm => h4.2 (hS b hm)⟩, h1.2⟩, h3.trans h2⟩
theorem RState.shut {F : Nat → Prop} {w : World} {cs : List Value} {s : LState} {n6 : Nat} {ob : Option Nat} (h : RState (fun k => F k ∧ k < n6) w cs s) (hb : ∀ b, ob = some b → n6 ≤ b) : RState (fun k => (F k ∧ ob ≠ some k) ∧ k < n6) w cs s :=
  h.step (Step.weak fun k hk => ⟨⟨hk.1, fun e => absurd (hb k e) (by omega)⟩, hk.2⟩)
theorem keeps_any (F : Nat → Prop) (cs : List Value) (s : LState) (q : LReq) (w : World) (h : RState F w cs s) (hwf : s.wf) (hq : q.wf) (htab : Tab F w) :
    CallsTo 4 #[.agg cs.toArray, .agg q.cells.toArray] w (fun v _ => v = .bool true) := by
  have hRS := h
  have hql := LReq.len_cells hq
  have hq1 := LReq.all1 hq
  have hqw : ∀ p ∈ [q], p.wf := fun p hp => by rw [List.mem_singleton.1 hp]; exact hq
  obtain ⟨Ap, cp, Ar, cr, Am, cm, rfl, hp, hr, hm⟩ := h.form
  refine CallsTo.enter 114 F F Tryd.func4 rfl rfl rfl rfl (by intros; first | trivial | assumption) ?_
  with_reducible refine JC.seq ?_
  with_reducible refine JC.region ?_
  refine JL.op (JO.box rfl rfl ?_); intro b2
  refine JL.op (JO.box rfl rfl ?_); intro b3
  refine JL.op (JO.val (y_assign) rfl ?_)
  with_reducible refine JL.nil ?_
  with_reducible refine JQ.seq (JC.seq (JC.seq ?_))
  with_reducible refine JC.region ?_
  refine JL.op (JO.callv (fun wc hc => alive_any _ wc (htab.step hc.step)) rfl rfl rfl ?_)
  refine JL.op (JO.val (y_not rfl) rfl ?_)
  with_reducible refine JL.nil ?_
  with_reducible refine JQ.seq ?_
  refine JC.cond_false rfl ?_
  with_reducible refine JC.skip (JQ.seq (JC.seq (JC.seq ?_)))
  with_reducible refine JC.region ?_
  refine JL.op (JO.val (y_ldA 0 rfl rfl rfl rfl) rfl ?_)
  refine JL.op (JO.val (y_ldA 1 rfl rfl rfl (by first | rfl | assumption)) rfl ?_)
  refine JL.op (JO.build1 rfl rfl rfl (by first | rfl | assumption) rfl rfl ?_); intro b20
  refine JL.op (JO.call _ (fun wc hc => great10_any (fun _ => True) _ s _ 1 [q] wc ((hRS.step hc.step).step (Step.weak fun _ _ => trivial)) hwf (SlF.step (rowSl (F := fun _ => True) (n := 1) (cap := 1) (sz := 42) (cs := [q].flatMap LReq.cells) rfl rfl hc (i := 2) rfl ⟨by rw [hql], Nat.le_refl _, by decide, fun h => (by cases h)⟩ (by rw [List.take_of_length_le (by rw [hql]; omega)]; simp)) (Step.weak fun _ _ => trivial) (by omega)) hqw) rfl rfl rfl ?_)
  rintro wc v wn hst hsz hfr hbl hst0 ⟨g, rfl, hgr⟩
  have hsw : w.heap.size ≤ wn.heap.size := Nat.le_trans hsz hbl.size
  with_reducible refine JL.nil ?_
  with_reducible refine JQ.seq ?_
  refine JC.cond rfl (fun hg => ?_) (fun hg => ?_)
  · with_reducible refine JC.seq ?_
    with_reducible refine JC.region ?_
    refine JL.op (JO.val (y_assign) rfl ?_)
    with_reducible refine JL.nil ?_
    with_reducible refine JQ.seq (JC.ret (JQ.seq_ret ?_))
    exact ret_one rfl ResV.tmp (fun w _ => rfl)
  obtain ⟨hmk, hqn⟩ := hgr hg
  have hfit : Fit 0 s := ⟨hwf, hmk.mild.sized, hmk.ord⟩
  have hfit2 : Fit 1 (applyD s q).1 := hfit.apply hq
  have hsm := hfit.size.small (by omega)
  have hrl : (applyD s q).2.vals.length ≤ 100000 := applyD_vl hfit.size
  clear hgr hfr hst0 hqn
  with_reducible refine JC.skip (JQ.seq (JC.seq ?_))
  with_reducible refine JC.region ?_
  refine JL.op (JO.val (y_ldA 0 rfl rfl rfl rfl) rfl ?_)
  refine JL.op (JO.call _ (fun wc hc => all_any _ _ s none 0 [] wc ((hRS.step hst).step hc.step) ⟨Nat.le_refl _, by decide, rfl, fun _ => ⟨rfl, rfl⟩, fun h => absurd h (by decide)⟩ hfit (fun q hq => by cases hq) (by decide) ((htab.step hst).step hc.step)) rfl rfl rfl ?_)
  rintro wc5 v wn5 hst5 hsz5 hfr5 hbl5 hst05 ⟨cs5, A5, cap5, hs5, rfl, hos5, hmap5, hov5⟩
  obtain ⟨hl5, hl51⟩ := hos5.four
  have hB := (hos5.weak (fun b hb => hfr5 b hb)).reads
  have hsw5 : wn.heap.size ≤ wn5.heap.size := Nat.le_trans hsz5 hbl5.size
  replace hst5 := hst.trans hst5 hsw
  clear hos5 hmap5 hov5 hfr5 hst05 hbl5 hsz5
  refine JL.op (JO.val (y_move) rfl ?_)
  refine JL.op (JO.val (y_extract rfl rfl) rfl ?_)
  refine JL.op (JO.val (y_extract rfl rfl) rfl ?_)
  refine JL.op (JO.alloc rfl rfl ?_); intro b5
  refine JL.op (JO.storeA 3 rfl rfl rfl rfl (by first | rfl | assumption) (by first | rfl | assumption) (by first | rfl | assumption) ?_)
  refine JL.op (JO.val (y_assign) rfl ?_)
  with_reducible refine JL.nil ?_
  with_reducible refine JQ.seq (JC.seq ?_)
  with_reducible refine JC.region ?_
  refine JL.op (JO.val (y_ldA 0 rfl rfl rfl rfl) rfl ?_)
  refine JL.op (JO.val (y_ldA 1 rfl rfl rfl (by first | rfl | assumption)) rfl ?_)
  refine JL.op (JO.call _ (fun wc hc => apply_any _ _ s q wc ((hRS.step hst5).step hc.step) hwf hsm hfit.ord hq ((htab.step hst5).step hc.step)) rfl rfl rfl ?_)
  rintro wc6 v wn6 hst6 hsz6 hfr6 hbl6 hst06 ⟨cs7, A7, cap7, rfl, hos7, hov7⟩
  obtain ⟨n6, hn6⟩ : ∃ n, wc6.heap.size = n := ⟨_, rfl⟩
  have hw06 : w.heap.size ≤ n6 := by rw [← hn6]; exact Nat.le_trans hsw (Nat.le_trans hsw5 hsz6)
  have hB6 := (hB.step hst6.lt).step (Step.weak fun k hk => (⟨hk.1, by rw [← hn6]; exact Nat.lt_of_lt_of_le hk.2 hsz6⟩ : _ ∧ k < n6))
  have hA6 := (hRS.step (hst5.trans hst6 (Nat.le_trans hsw hsw5)).lt).step (Step.weak fun k hk => (⟨hk.1, Nat.lt_of_lt_of_le hk.2 hw06⟩ : _ ∧ k < n6))
  have ht6 := (htab.step (hst5.trans hst6 (Nat.le_trans hsw hsw5)).lt).step (Step.weak fun k hk => (⟨hk.1, Nat.lt_of_lt_of_le hk.2 hw06⟩ : _ ∧ k < n6))
  have hA7n : ∀ b, A7 = some (mkA b) → n6 ≤ b ∧ b < wn6.heap.size := fun b hb => ⟨by rw [← hn6]; exact (hov7.blk hb).1, (hov7.blk hb).2.1⟩
  replace hos7 := hos7.weak (fun b hb => (⟨hfr6 b hb.1, hn6 ▸ hb.1, hb.2⟩ : _ ∧ n6 ≤ b ∧ A7 ≠ some (mkA b)))
  replace hov7 := hov7.weak (fun b hb => (⟨hfr6 b hb, hn6 ▸ hb⟩ : _ ∧ n6 ≤ b))
  obtain ⟨hl7, hl71⟩ := hos7.four
  clear hfr6 hbl6 hst06 hsz6 hB hst5 hst hst6
  refine JL.op (JO.val (y_move) rfl ?_)
  refine JL.op (JO.val (y_extract rfl rfl) rfl ?_)
  refine JL.op (JO.val (y_extract rfl rfl) rfl ?_)
  refine JL.op (JO.alloc rfl rfl ?_); intro b7
  refine JL.op (JO.alloc rfl rfl ?_); intro b8
  refine JL.op (JO.storeA 4 rfl rfl rfl rfl (by first | rfl | assumption) (by first | rfl | assumption) (by first | rfl | assumption) ?_)
  refine JL.op (JO.storeA 5 rfl rfl rfl rfl (by first | rfl | assumption) (by first | rfl | assumption) (by first | rfl | assumption) ?_)
  with_reducible refine JL.nil ?_
  with_reducible refine JQ.seq (JC.seq ?_)
  with_reducible refine JC.region ?_
  refine JL.op (JO.val (y_ldA 0 rfl rfl rfl rfl) rfl ?_)
  refine JL.op (JO.val (y_ldA 1 rfl rfl rfl (by first | rfl | assumption)) rfl ?_)
  refine JL.op (JO.call _ (fun wc hc => refapply_any (fun k => Al _ _ k ∧ A7 ≠ some (mkA k)) _ s q wc ((hA6.step (hc.step.and _)).step (Step.weak fun k hk => ⟨hk.1, fun e => absurd (hA7n k e).1 (by omega)⟩)) hwf hsm hq ((ht6.step (hc.step.and _)).step (Step.weak fun k hk => ⟨hk.1, fun e => absurd (hA7n k e).1 (by omega)⟩))) rfl rfl rfl ?_)
  rintro wc7 v wn7 hst7 hsz7 hfr7 hbl7 hst07 ⟨cs9, ra9, rfl, hrb9, hrr9⟩
  have hC := hrb9.step (Step.weak (fun b hb => Or.elim hb id (fun hb => ⟨hfr7 b hb, fun e => absurd (Nat.lt_of_lt_of_le (hA7n b e).2 hsz7) (Nat.not_lt.2 hb)⟩)))
  obtain ⟨hl9, hl91⟩ := hC.four
  obtain ⟨A9, cap9, hra9, _⟩ := hrr9.form
  have hla9 : ra9.length = 4 := by rw [hra9]; rfl
  have hla91 : allOne ra9 = true := by rw [hra9]; rfl
  replace hA6 := hA6.step (hst7.and _)
  replace hB6 := hB6.step (hst7.and _)
  replace hos7 := hos7.step (hst7.and _)
  replace hov7 := hov7.step (hst7.and _)
  clear ht6 hrb9 hrr9 hfr7 hbl7 hst07 hsz7 hst7 htab
  refine JL.op (JO.val (y_move) rfl ?_)
  refine JL.op (JO.val (y_extract rfl rfl) rfl ?_)
  refine JL.op (JO.val (y_extract rfl rfl) rfl ?_)
  refine JL.op (JO.alloc rfl rfl ?_); intro b9
  refine JL.op (JO.alloc rfl rfl ?_); intro b10
  refine JL.op (JO.storeA 6 rfl rfl rfl rfl (by first | rfl | assumption) (by first | rfl | assumption) (by first | rfl | assumption) ?_)
  refine JL.op (JO.storeA 7 rfl rfl rfl rfl (by first | rfl | assumption) (by first | rfl | assumption) (by first | rfl | assumption) ?_)
  with_reducible refine JL.nil ?_
  refine JQ.adoptH hov7 (fun b hb => ⟨hb.1, Nat.le_trans hw06 hb.2⟩) ?_
  rintro ob7 cur7 rfl hrow7 htk7 hb7
  have hn7 : ∀ b, ob7 = some b → n6 ≤ b := fun b hb => (hA7n b (by rw [hb]; rfl)).1
  replace hA6 := hA6.shut hn7
  replace hB6 := hB6.shut hn7
  replace hC := hC.step (Step.weak fun k hk => (⟨hk.1, fun e => hk.2 (by rw [e]; rfl)⟩ : _ ∧ ob7 ≠ some k))
  replace hos7 := hos7.weak (fun b hb => (⟨⟨hb.1, fun e => hb.2.2 (by rw [e]; rfl)⟩, hb.2.1⟩ : (_ ∧ ob7 ≠ some b) ∧ n6 ≤ b))
  have hD := hos7.reads.step (Step.weak fun k hk => hk.1)
  obtain ⟨Bp, dp, Br, dr, Bm, dm, hs7, rfl, ho1, ho2, ho3, ho4, ho5⟩ := hos7.form
  generalize (applyD s q).1 = s' at *
  generalize (applyD s q).2 = r' at *
  clear hov7 hos7 hl71 hl7 hA7n
  have hlen7 : hs7.length = s'.rs.length := by rw [← ho2]; simp
  refine JQ.env (S := [(some b2, 28, [.slice Ap s.ps.length cp, .slice Ar s.rs.length cr, .int .i64 s.ep, .slice Am s.ms.length cm]), (some b3, 41, q.cells), (some b20, 41, q.cells), (some b5, 28, cs5), (some b7, 28, [.slice Bp s'.ps.length dp, .slice Br s'.rs.length dr, .int .i64 s'.ep, .slice Bm s'.ms.length dm]), (some b8, 45, rcells (r', ob7.map mkA, cap7)), (some b9, 28, cs9), (some b10, 45, ra9), (ob7, 9, cur7)]) (l := [(2, .pointer (some ⟨b2, 0, none⟩)), (5, .pointer (some ⟨b5, 0, none⟩)), (7, .pointer (some ⟨b7, 0, none⟩)), (8, .pointer (some ⟨b8, 0, none⟩)), (9, .pointer (some ⟨b9, 0, none⟩))]) ⟨rfl, rfl, rfl, rfl, rfl, trivial⟩ (fun E => ?_)
  with_reducible refine JQ.seq (JC.seq (JC.seq ?_))
  with_reducible refine JC.region ?_
  refine JL.op (JO.val (y_fieldAddr rfl rfl rfl) rfl ?_)
  refine JL.op (JO.val (y_ld 5 rfl rfl rfl rfl) rfl ?_)
  refine JL.op (JO.val (y_len rfl rfl) rfl ?_)
  refine JL.op (JO.val (y_move) rfl ?_)
  with_reducible refine JL.nil ?_
  with_reducible refine JQ.seq (JC.block ?_)
  refine JC.loop (fun m E S F' w1' => ∃ k cur', m = r'.vals.length - k ∧ k ≤ r'.vals.length ∧ cur'.length = cur7.length ∧ S = [(some b2, 28, [.slice Ap s.ps.length cp, .slice Ar s.rs.length cr, .int .i64 s.ep, .slice Am s.ms.length cm]), (some b3, 41, q.cells), (some b20, 41, q.cells), (some b5, 28, cs5), (some b7, 28, [.slice Bp s'.ps.length dp, .slice Br s'.rs.length dr, .int .i64 s'.ep, .slice Bm s'.ms.length dm]), (some b8, 45, rcells (r', ob7.map mkA, cap7)), (some b9, 28, cs9), (some b10, 45, ra9), (ob7, 9, cur')] ∧ F' = _ ∧ w1' = wn7 ∧ Has E [(2, .pointer (some ⟨b2, 0, none⟩)), (5, .pointer (some ⟨b5, 0, none⟩)), (7, .pointer (some ⟨b7, 0, none⟩)), (8, .pointer (some ⟨b8, 0, none⟩)), (9, .pointer (some ⟨b9, 0, none⟩)), (41, .int .i64 (r'.vals.length : Nat)), (42, .int .i64 (k : Nat))])
    _ ⟨0, cur7, rfl, Nat.zero_le _, rfl, rfl, rfl, rfl, ⟨rfl, rfl, rfl, rfl, rfl, rfl, rfl, trivial⟩⟩ ?_
  rintro m E S F' w1' ⟨k, cur', rfl, hk, hcl, rfl, hF', hw', hE⟩
  refine JC.env hE (fun E => ?_)
  with_reducible refine JC.seq ?_
  with_reducible refine JC.region ?_
  refine JL.op (JO.val (y_lss rfl rfl) rfl ?_)
  with_reducible refine JL.nil ?_
  with_reducible refine JQ.seq (JC.seq ?_)
  by_cases hlt : k < r'.vals.length
  · have hd : decide ((k : Int) < (r'.vals.length : Int)) = true := by simpa using hlt
    refine JC.cond_true (congrArg Value.bool hd) ?_
    obtain ⟨br, rfl⟩ : ∃ b, ob7 = some b := by
      cases ob7 with
      | none => have := (hrow7.nil rfl).1; omega
      | some b => exact ⟨b, rfl⟩
    with_reducible refine JC.skip (JQ.seq (JC.seq (JC.block (JC.seq ?_))))
    with_reducible refine JC.region ?_
    refine JL.op (JO.val (y_move) rfl ?_)
    refine JL.op (JO.val (y_assign) rfl ?_)
    with_reducible refine JL.nil ?_
    with_reducible refine JQ.seq ?_
    with_reducible refine JC.region ?_
    refine JL.op (JO.val (y_fieldAddr rfl rfl rfl) rfl ?_)
    refine JL.op (JO.val (y_ld 5 rfl rfl rfl rfl) rfl ?_)
    refine JL.op (JO.val (y_move) rfl ?_)
    refine JL.op (JO.val (y_idx (b := br) (o := 0) (j := k) rfl rfl rfl rfl rfl rfl hlt) rfl ?_)
    refine JL.op (JO.store1 8 rfl rfl rfl rfl rfl (blt_row0 (hcl.trans hrow7.len) hlt hrow7.le (by omega)) rfl ?_)
    with_reducible refine JL.nil ?_
    with_reducible refine JQ.blk (JQ.seq ?_)
    with_reducible refine JC.region ?_
    refine JL.op (JO.val (y_add rfl rfl (natAdd hk hrl)) rfl ?_)
    refine JL.op (JO.val (y_move) rfl ?_)
    with_reducible refine JL.nil ?_
    exact JQ.loop (r'.vals.length - (k + 1)) ⟨k + 1, _, rfl, by omega, by rw [sset_len]; exact hcl, rfl, hF', hw', ⟨rfl, rfl, rfl, rfl, rfl, rfl, rfl, trivial⟩⟩ (by omega)
  have hd : decide ((k : Int) < (r'.vals.length : Int)) = false := by simpa using hlt
  refine JC.cond_false (congrArg Value.bool hd) ?_
  subst hF' hw'
  clear hrow7 htk7 hb7 hn7 hcl
  with_reducible refine JC.exit (JQ.seq_exit (JQ.loop_exit (JQ.blk_here (JQ.seq (JC.seq (JC.seq ?_))))))
  with_reducible refine JC.region ?_
  refine JL.op (JO.val (y_ldA 4 rfl rfl rfl rfl) rfl ?_)
  refine JL.op (JO.val (y_ldA 6 rfl rfl rfl hl9) rfl ?_)
  refine JL.op (JO.callv (fun wc hc => same10_same _ _ _ s' wc (hD.step hc.step) (hC.step hc.step) hfit2.wf (hfit2.size.small (by omega))) rfl rfl rfl ?_)
  refine JL.op (JO.val (y_not rfl) rfl ?_)
  with_reducible refine JL.nil ?_
  clear hC hD
  with_reducible refine JQ.seq ?_
  refine JC.cond_false rfl ?_
  refine JC.adoptH ho1 (fun b hb => ⟨hb.1, Nat.le_trans hw06 hb.2⟩) ?_
  rintro pb pcur rfl hprow hptk hpb
  replace hA6 := hA6.shut (fun b hb => (hpb b hb).1.2)
  replace hB6 := hB6.shut (fun b hb => (hpb b hb).1.2)
  replace ho3 := own_sep ho3 (fun b hb => (hpb b hb).2) (by decide)
  replace ho4 := fun x (hx : x ∈ hs7) => own_sep (ho4 x hx) (fun b hb => (hpb b hb).2) (by decide)
  replace ho5 := own_sep ho5 (fun b hb => (hpb b hb).2) (by decide)
  refine JC.env (S := [(some b2, 28, [.slice Ap s.ps.length cp, .slice Ar s.rs.length cr, .int .i64 s.ep, .slice Am s.ms.length cm]), (some b3, 41, q.cells), (some b20, 41, q.cells), (some b5, 28, cs5), (some b7, 28, [.slice (pb.map mkA) s'.ps.length dp, .slice Br s'.rs.length dr, .int .i64 s'.ep, .slice Bm s'.ms.length dm]), (some b8, 45, rcells (r', ob7.map mkA, cap7)), (some b9, 28, cs9), (some b10, 45, ra9), (ob7, 9, cur'), (pb, 53, pcur)]) (l := [(2, .pointer (some ⟨b2, 0, none⟩)), (5, .pointer (some ⟨b5, 0, none⟩)), (7, .pointer (some ⟨b7, 0, none⟩))]) ⟨rfl, rfl, rfl, trivial⟩ (fun E => ?_)
  with_reducible refine JC.skip (JQ.seq (JC.seq (JC.seq ?_)))
  with_reducible refine JC.region ?_
  refine JL.op (JO.val (y_fieldAddr rfl rfl rfl) rfl ?_)
  refine JL.op (JO.val (y_ld 4 rfl rfl rfl rfl) rfl ?_)
  refine JL.op (JO.val (y_len rfl rfl) rfl ?_)
  refine JL.op (JO.val (y_move) rfl ?_)
  with_reducible refine JL.nil ?_
  with_reducible refine JQ.seq (JC.block ?_)
  refine JC.loop (fun m E S F' w1' => ∃ k pc, m = s'.ps.length - k ∧ k ≤ s'.ps.length ∧ pc.length = pcur.length ∧ S = [(some b2, 28, [.slice Ap s.ps.length cp, .slice Ar s.rs.length cr, .int .i64 s.ep, .slice Am s.ms.length cm]), (some b3, 41, q.cells), (some b20, 41, q.cells), (some b5, 28, cs5), (some b7, 28, [.slice (pb.map mkA) s'.ps.length dp, .slice Br s'.rs.length dr, .int .i64 s'.ep, .slice Bm s'.ms.length dm]), (some b8, 45, rcells (r', ob7.map mkA, cap7)), (some b9, 28, cs9), (some b10, 45, ra9), (ob7, 9, cur'), (pb, 53, pc)] ∧ F' = _ ∧ w1' = _ ∧ Has E [(2, .pointer (some ⟨b2, 0, none⟩)), (5, .pointer (some ⟨b5, 0, none⟩)), (7, .pointer (some ⟨b7, 0, none⟩)), (56, .int .i64 (s'.ps.length : Nat)), (57, .int .i64 (k : Nat))])
    _ ⟨0, pcur, rfl, Nat.zero_le _, rfl, rfl, rfl, rfl, ⟨rfl, rfl, rfl, rfl, rfl, trivial⟩⟩ ?_
  rintro m E S F' w1' ⟨k, pc, rfl, hk, hcl, rfl, hF', hw', hE⟩
  refine JC.env hE (fun E => ?_)
  with_reducible refine JC.seq ?_
  with_reducible refine JC.region ?_
  refine JL.op (JO.val (y_lss rfl rfl) rfl ?_)
  with_reducible refine JL.nil ?_
  with_reducible refine JQ.seq (JC.seq ?_)
  by_cases hlt : k < s'.ps.length
  · have hd : decide ((k : Int) < (s'.ps.length : Int)) = true := by simpa using hlt
    refine JC.cond_true (congrArg Value.bool hd) ?_
    obtain ⟨br, rfl⟩ : ∃ b, pb = some b := by
      cases pb with
      | none => have := (hprow.nil rfl).1; omega
      | some b => exact ⟨b, rfl⟩
    with_reducible refine JC.skip (JQ.seq (JC.seq (JC.block (JC.seq ?_))))
    with_reducible refine JC.region ?_
    refine JL.op (JO.val (y_move) rfl ?_)
    refine JL.op (JO.val (y_assign) rfl ?_)
    with_reducible refine JL.nil ?_
    with_reducible refine JQ.seq ?_
    with_reducible refine JC.region ?_
    refine JL.op (JO.val (y_fieldAddr rfl rfl rfl) rfl ?_)
    refine JL.op (JO.val (y_ld 4 rfl rfl rfl rfl) rfl ?_)
    refine JL.op (JO.val (y_move) rfl ?_)
    refine JL.op (JO.val (y_idx (b := br) (o := 0) (j := k) rfl rfl rfl rfl rfl rfl hlt) rfl ?_)
    refine JL.op (JO.val (y_fieldAddr rfl rfl rfl) rfl ?_)
    refine JL.op (JO.store1 9 rfl rfl rfl rfl rfl (blt_row (hcl.trans hprow.len) hlt hprow.le (by omega)) rfl ?_)
    with_reducible refine JL.nil ?_
    with_reducible refine JQ.blk (JQ.seq ?_)
    with_reducible refine JC.region ?_
    refine JL.op (JO.val (y_add rfl rfl (natAdd hk (by have := hfit2.size.ps; omega))) rfl ?_)
    refine JL.op (JO.val (y_move) rfl ?_)
    with_reducible refine JL.nil ?_
    exact JQ.loop (s'.ps.length - (k + 1)) ⟨k + 1, _, rfl, by omega, by rw [sset_len]; exact hcl, rfl, hF', hw', ⟨rfl, rfl, rfl, rfl, rfl, trivial⟩⟩ (by omega)
  have hd : decide ((k : Int) < (s'.ps.length : Int)) = false := by simpa using hlt
  refine JC.cond_false (congrArg Value.bool hd) ?_
  subst hF' hw'
  clear hprow hptk hpb hcl
  refine JC.adoptH ho3 (fun b hb => ⟨hb.1, Nat.le_trans hw06 hb.2⟩) ?_
  rintro rb rcur rfl hrrow hrtk hrb
  replace hA6 := hA6.shut (fun b hb => (hrb b hb).1.2)
  replace hB6 := hB6.shut (fun b hb => (hrb b hb).1.2)
  replace ho4 := fun x (hx : x ∈ hs7) => own_sep (ho4 x hx) (fun b hb => (hrb b hb).2) (by decide)
  replace ho5 := own_sep ho5 (fun b hb => (hrb b hb).2) (by decide)
  refine JC.env (S := [(some b2, 28, [.slice Ap s.ps.length cp, .slice Ar s.rs.length cr, .int .i64 s.ep, .slice Am s.ms.length cm]), (some b3, 41, q.cells), (some b20, 41, q.cells), (some b5, 28, cs5), (some b7, 28, [.slice (pb.map mkA) s'.ps.length dp, .slice (rb.map mkA) s'.rs.length dr, .int .i64 s'.ep, .slice Bm s'.ms.length dm]), (some b8, 45, rcells (r', ob7.map mkA, cap7)), (some b9, 28, cs9), (some b10, 45, ra9), (ob7, 9, cur'), (pb, 53, pc), (rb, 45, rcur)]) (l := [(2, .pointer (some ⟨b2, 0, none⟩)), (5, .pointer (some ⟨b5, 0, none⟩)), (7, .pointer (some ⟨b7, 0, none⟩))]) ⟨rfl, rfl, rfl, trivial⟩ (fun E => ?_)
  with_reducible refine JC.exit (JQ.seq_exit (JQ.loop_exit (JQ.blk_here (JQ.seq (JC.seq (JC.seq ?_))))))
  with_reducible refine JC.region ?_
  refine JL.op (JO.val (y_fieldAddr rfl rfl rfl) rfl ?_)
  refine JL.op (JO.val (y_ld 4 rfl rfl rfl rfl) rfl ?_)
  refine JL.op (JO.val (y_len rfl rfl) rfl ?_)
  refine JL.op (JO.val (y_move) rfl ?_)
  with_reducible refine JL.nil ?_
  with_reducible refine JQ.seq (JC.block ?_)
  refine JC.loop (fun m E S F' w1' => ∃ k rc, m = s'.rs.length - k ∧ k ≤ s'.rs.length ∧ rc.length = rcur.length ∧ (∀ (i : Nat) h, hs7[i]? = some h → nth rc (i * 4 + 3) = some (.slice h.2.1 h.1.vals.length h.2.2)) ∧ (∀ h ∈ hs7, VRow (fun b => F' b ∧ n6 ≤ b) w1' h) ∧ RState (fun k => F' k ∧ k < n6) w1' [.slice Ap s.ps.length cp, .slice Ar s.rs.length cr, .int .i64 s.ep, .slice Am s.ms.length cm] s ∧ RState (fun k => F' k ∧ k < n6) w1' cs5 s ∧ OwnF (fun b => F' b ∧ n6 ≤ b) w1' 55 34 Bm s'.ms.length dm (s'.ms.flatMap LMember.cells) ∧ S = [(some b2, 28, [.slice Ap s.ps.length cp, .slice Ar s.rs.length cr, .int .i64 s.ep, .slice Am s.ms.length cm]), (some b3, 41, q.cells), (some b20, 41, q.cells), (some b5, 28, cs5), (some b7, 28, [.slice (pb.map mkA) s'.ps.length dp, .slice (rb.map mkA) s'.rs.length dr, .int .i64 s'.ep, .slice Bm s'.ms.length dm]), (some b8, 45, rcells (r', ob7.map mkA, cap7)), (some b9, 28, cs9), (some b10, 45, ra9), (ob7, 9, cur'), (pb, 53, pc), (rb, 45, rc)] ∧ Has E [(2, .pointer (some ⟨b2, 0, none⟩)), (5, .pointer (some ⟨b5, 0, none⟩)), (7, .pointer (some ⟨b7, 0, none⟩)), (68, .int .i64 (s'.rs.length : Nat)), (69, .int .i64 (k : Nat))])
    _ ⟨0, rcur, rfl, Nat.zero_le _, rfl, fun i h hi => slot_of hrtk hi, fun h hh => ⟨_, ho4 h hh⟩, hA6, hB6, ho5, rfl, ⟨rfl, rfl, rfl, rfl, rfl, trivial⟩⟩ ?_
  clear hA6 hB6 ho4 ho5 hrb
  rintro m E S F' w1' ⟨k, rc, rfl, hk, hcl, hslot, hvals, hA6, hB6, ho5, rfl, hE⟩
  refine JC.env hE (fun E => ?_)
  with_reducible refine JC.seq ?_
  with_reducible refine JC.region ?_
  refine JL.op (JO.val (y_lss rfl rfl) rfl ?_)
  with_reducible refine JL.nil ?_
  with_reducible refine JQ.seq (JC.seq ?_)
  by_cases hlt : k < s'.rs.length
  · have hd : decide ((k : Int) < (s'.rs.length : Int)) = true := by simpa using hlt
    refine JC.cond_true (congrArg Value.bool hd) ?_
    obtain ⟨br, rfl⟩ : ∃ b, rb = some b := by
      cases rb with
      | none => have := (hrrow.nil rfl).1; omega
      | some b => exact ⟨b, rfl⟩
    obtain ⟨⟨x1, A1, c1⟩, hy⟩ : ∃ y, hs7[k]? = some y := ⟨hs7[k]'(by omega), List.getElem?_eq_getElem (by omega)⟩
    have hx1 : x1.vals.length ≤ 100000 := by
      have := hfit2.size.vals x1 (by rw [← ho2]; exact List.mem_map.2 ⟨_, List.mem_of_getElem? hy, rfl⟩)
      omega
    have hslot2 : ∀ (i : Nat) h, hs7[i]? = some h → nth (sset rc (0 + k * 4 + 1) (.int .i64 99)) (i * 4 + 3) = some (.slice h.2.1 h.1.vals.length h.2.2) := fun i h hi => by
      rw [nth_sset_ne (by omega)]; exact hslot i h hi
    have hs3 : nth (sset rc (0 + k * 4 + 1) (.int .i64 99)) (0 + k * 4 + 3) = some (.slice A1 x1.vals.length c1) := by
      have := hslot2 k _ hy
      rwa [show k * 4 + 3 = 0 + k * 4 + 3 by omega] at this
    with_reducible refine JC.skip (JQ.seq (JC.seq (JC.block (JC.seq ?_))))
    with_reducible refine JC.region ?_
    refine JL.op (JO.val (y_move) rfl ?_)
    refine JL.op (JO.val (y_assign) rfl ?_)
    with_reducible refine JL.nil ?_
    with_reducible refine JQ.seq (JC.seq ?_)
    with_reducible refine JC.region ?_
    refine JL.op (JO.val (y_fieldAddr rfl rfl rfl) rfl ?_)
    refine JL.op (JO.val (y_ld 4 rfl rfl rfl rfl) rfl ?_)
    refine JL.op (JO.val (y_move) rfl ?_)
    refine JL.op (JO.val (y_idx (b := br) (o := 0) (j := k) rfl rfl rfl rfl rfl rfl hlt) rfl ?_)
    refine JL.op (JO.val (y_fieldAddr rfl rfl rfl) rfl ?_)
    refine JL.op (JO.store1 10 rfl rfl rfl rfl rfl (blt_row (hcl.trans hrrow.len) hlt hrrow.le (by omega)) rfl ?_)
    with_reducible refine JL.nil ?_
    refine JQ.env (S := [(some b2, 28, [.slice Ap s.ps.length cp, .slice Ar s.rs.length cr, .int .i64 s.ep, .slice Am s.ms.length cm]), (some b3, 41, q.cells), (some b20, 41, q.cells), (some b5, 28, cs5), (some b7, 28, [.slice (pb.map mkA) s'.ps.length dp, .slice ((some br).map mkA) s'.rs.length dr, .int .i64 s'.ep, .slice Bm s'.ms.length dm]), (some b8, 45, rcells (r', ob7.map mkA, cap7)), (some b9, 28, cs9), (some b10, 45, ra9), (ob7, 9, cur'), (pb, 53, pc), (some br, 45, sset rc (0 + k * 4 + 1) (.int .i64 99))]) (l := [(2, .pointer (some ⟨b2, 0, none⟩)), (5, .pointer (some ⟨b5, 0, none⟩)), (7, .pointer (some ⟨b7, 0, none⟩)), (13, .int .i64 (k : Nat)), (68, .int .i64 (s'.rs.length : Nat)), (69, .int .i64 (k : Nat))]) ⟨rfl, rfl, rfl, rfl, rfl, rfl, trivial⟩ (fun E => ?_)
    have hcl2 : (sset rc (0 + k * 4 + 1) (.int .i64 99)).length = rcur.length := by rw [sset_len]; exact hcl
    generalize sset rc (0 + k * 4 + 1) (.int .i64 99) = rc2 at hslot2 hs3 hcl2 ⊢
    clear hslot hcl
    with_reducible refine JQ.seq (JC.seq ?_)
    with_reducible refine JC.region ?_
    refine JL.op (JO.val (y_fieldAddr rfl rfl rfl) rfl ?_)
    refine JL.op (JO.val (y_ld 4 rfl rfl rfl rfl) rfl ?_)
    refine JL.op (JO.val (y_move) rfl ?_)
    refine JL.op (JO.val (y_idx (b := br) (o := 0) (j := k) rfl rfl rfl rfl rfl rfl hlt) rfl ?_)
    refine JL.op (JO.val (y_fieldAddr rfl rfl rfl) rfl ?_)
    refine JL.op (JO.val (y_ld 10 rfl rfl rfl hs3) rfl ?_)
    refine JL.op (JO.val (y_len rfl rfl) rfl ?_)
    refine JL.op (JO.val (y_move) rfl ?_)
    with_reducible refine JL.nil ?_
    with_reducible refine JQ.seq (JC.block ?_)
    obtain ⟨csx, hvo⟩ := hvals _ (List.mem_of_getElem? hy)
    refine JC.adoptH hvo (fun b hb => ⟨hb.1, Nat.le_trans hw06 hb.2⟩) ?_
    rintro ov cv hAv hvrow hvtk hvb
    obtain rfl : A1 = ov.map mkA := hAv
    refine JC.loop (fun m E S F2 w2 => ∃ j vc, m = x1.vals.length - j ∧ j ≤ x1.vals.length ∧ vc.length = cv.length ∧ S = [(some b2, 28, [.slice Ap s.ps.length cp, .slice Ar s.rs.length cr, .int .i64 s.ep, .slice Am s.ms.length cm]), (some b3, 41, q.cells), (some b20, 41, q.cells), (some b5, 28, cs5), (some b7, 28, [.slice (pb.map mkA) s'.ps.length dp, .slice ((some br).map mkA) s'.rs.length dr, .int .i64 s'.ep, .slice Bm s'.ms.length dm]), (some b8, 45, rcells (r', ob7.map mkA, cap7)), (some b9, 28, cs9), (some b10, 45, ra9), (ob7, 9, cur'), (pb, 53, pc), (some br, 45, rc2), (ov, 9, vc)] ∧ F2 = (fun k => F' k ∧ ov ≠ some k) ∧ w2 = w1' ∧ Has E [(2, .pointer (some ⟨b2, 0, none⟩)), (5, .pointer (some ⟨b5, 0, none⟩)), (7, .pointer (some ⟨b7, 0, none⟩)), (13, .int .i64 (k : Nat)), (68, .int .i64 (s'.rs.length : Nat)), (69, .int .i64 (k : Nat)), (83, .int .i64 (x1.vals.length : Nat)), (84, .int .i64 (j : Nat))])
      _ ⟨0, cv, rfl, Nat.zero_le _, rfl, rfl, rfl, rfl, ⟨rfl, rfl, rfl, rfl, rfl, rfl, rfl, rfl, trivial⟩⟩ ?_
    rintro m E S F2 w2 ⟨j, vc, rfl, hj, hvl, rfl, rfl, rfl, hE⟩
    refine JC.env hE (fun E => ?_)
    with_reducible refine JC.seq ?_
    with_reducible refine JC.region ?_
    refine JL.op (JO.val (y_lss rfl rfl) rfl ?_)
    with_reducible refine JL.nil ?_
    with_reducible refine JQ.seq (JC.seq ?_)
    by_cases hlt2 : j < x1.vals.length
    · have hd : decide ((j : Int) < (x1.vals.length : Int)) = true := by simpa using hlt2
      refine JC.cond_true (congrArg Value.bool hd) ?_
      obtain ⟨bv, rfl⟩ : ∃ b, ov = some b := by
        cases ov with
        | none => have : x1.vals.length = 0 := (hvrow.nil rfl).1; omega
        | some b => exact ⟨b, rfl⟩
      with_reducible refine JC.skip (JQ.seq (JC.seq (JC.block (JC.seq ?_))))
      with_reducible refine JC.region ?_
      refine JL.op (JO.val (y_move) rfl ?_)
      refine JL.op (JO.val (y_assign) rfl ?_)
      with_reducible refine JL.nil ?_
      with_reducible refine JQ.seq ?_
      with_reducible refine JC.region ?_
      refine JL.op (JO.val (y_fieldAddr rfl rfl rfl) rfl ?_)
      refine JL.op (JO.val (y_ld 4 rfl rfl rfl rfl) rfl ?_)
      refine JL.op (JO.val (y_move) rfl ?_)
      refine JL.op (JO.val (y_idx (b := br) (o := 0) (j := k) rfl rfl rfl rfl rfl rfl hlt) rfl ?_)
      refine JL.op (JO.val (y_fieldAddr rfl rfl rfl) rfl ?_)
      refine JL.op (JO.val (y_ld 10 rfl rfl rfl hs3) rfl ?_)
      refine JL.op (JO.val (y_move) rfl ?_)
      refine JL.op (JO.val (y_idx (b := bv) (o := 0) (j := j) rfl rfl rfl rfl rfl rfl hlt2) rfl ?_)
      refine JL.op (JO.store1 11 rfl rfl rfl rfl rfl (blt_row0 (hvl.trans hvrow.len) hlt2 hvrow.le (by omega)) rfl ?_)
      with_reducible refine JL.nil ?_
      with_reducible refine JQ.blk (JQ.seq ?_)
      with_reducible refine JC.region ?_
      refine JL.op (JO.val (y_add rfl rfl (natAdd hj hx1)) rfl ?_)
      refine JL.op (JO.val (y_move) rfl ?_)
      with_reducible refine JL.nil ?_
      exact JQ.loop (x1.vals.length - (j + 1)) ⟨j + 1, _, rfl, by omega, by rw [sset_len]; exact hvl, rfl, rfl, rfl, ⟨rfl, rfl, rfl, rfl, rfl, rfl, rfl, rfl, trivial⟩⟩ (by omega)
    · have hd : decide ((j : Int) < (x1.vals.length : Int)) = false := by simpa using hlt2
      refine JC.cond_false (congrArg Value.bool hd) ?_
      refine JC.free 11 (fun w3 hc => ?_)
      have hnv : ∀ b, ov = some b → n6 ≤ b := fun b hb => (hvb b hb).1.2
      have hA3 := ((hA6.shut hnv).step (hc.step.and _)).step (Step.weak fun k hk => (⟨Al.take (n := 11) hk.1, hk.2⟩ : _ ∧ k < n6))
      have hB3 := ((hB6.shut hnv).step (hc.step.and _)).step (Step.weak fun k hk => (⟨Al.take (n := 11) hk.1, hk.2⟩ : _ ∧ k < n6))
      have ho53 := ((own_sep ho5 (fun b hb => (hvb b hb).2) (by decide)).step (hc.step.and _)).weak (fun k hk => (⟨Al.take (n := 11) hk.1, hk.2⟩ : _ ∧ n6 ≤ k))
      have hvals3 := fun h (hh : h ∈ hs7) => free_vals (n6 := n6) (S' := takeL 11 [(some b2, 28, [.slice Ap s.ps.length cp, .slice Ar s.rs.length cr, .int .i64 s.ep, .slice Am s.ms.length cm]), (some b3, 41, q.cells), (some b20, 41, q.cells), (some b5, 28, cs5), (some b7, 28, [.slice (pb.map mkA) s'.ps.length dp, .slice ((some br).map mkA) s'.rs.length dr, .int .i64 s'.ep, .slice Bm s'.ms.length dm]), (some b8, 45, rcells (r', ob7.map mkA, cap7)), (some b9, 28, cs9), (some b10, 45, ra9), (ob7, 9, cur'), (pb, 53, pc), (some br, 45, rc2), (ov, 9, vc)]) hc (List.mem_of_getElem? (i := 11) rfl) (fun k hk => by
        obtain ⟨e, he, h1⟩ := blks_mem.1 hk
        exact blks_mem.2 ⟨e, (takeL_sub 11 _).subset he, h1⟩) (fun b hb hm => by
        obtain ⟨e, he, h1⟩ := blks_mem.1 hm
        obtain ⟨i, hi⟩ := List.mem_iff_getElem?.1 he
        have hi11 : i < 11 := by
          have := (List.getElem?_eq_some_iff.1 hi).1
          exact this
        have hi' : ([(some b2, 28, [.slice Ap s.ps.length cp, .slice Ar s.rs.length cr, .int .i64 s.ep, .slice Am s.ms.length cm]), (some b3, 41, q.cells), (some b20, 41, q.cells), (some b5, 28, cs5), (some b7, 28, [.slice (pb.map mkA) s'.ps.length dp, .slice ((some br).map mkA) s'.rs.length dr, .int .i64 s'.ep, .slice Bm s'.ms.length dm]), (some b8, 45, rcells (r', ob7.map mkA, cap7)), (some b9, 28, cs9), (some b10, 45, ra9), (ob7, 9, cur'), (pb, 53, pc), (some br, 45, rc2), (ov, 9, vc)] : Sto)[i]? = some e := by
          rw [← hi]
          match i, hi11 with
          | 0, _ => rfl
          | 1, _ => rfl
          | 2, _ => rfl
          | 3, _ => rfl
          | 4, _ => rfl
          | 5, _ => rfl
          | 6, _ => rfl
          | 7, _ => rfl
          | 8, _ => rfl
          | 9, _ => rfl
          | 10, _ => rfl
        have := nodup_at (f := fun e : Ent => e.1) hc.nodup (i := i) (j := 11) hi' rfl h1 (by exact hb)
        omega) rfl hvl hvb (hvals h hh)
      with_reducible refine JC.exit (JQ.seq_exit (JQ.loop_exit (JQ.blk_here (JQ.blk (JQ.seq ?_)))))
      with_reducible refine JC.region ?_
      refine JL.op (JO.val (y_add rfl rfl (natAdd hk (by have := hfit2.size.rs; omega))) rfl ?_)
      refine JL.op (JO.val (y_move) rfl ?_)
      with_reducible refine JL.nil ?_
      exact JQ.loop (s'.rs.length - (k + 1)) ⟨k + 1, rc2, rfl, by omega, hcl2, hslot2, hvals3, hA3, hB3, ho53, rfl, ⟨rfl, rfl, rfl, rfl, rfl, trivial⟩⟩ (by omega)
  have hd : decide ((k : Int) < (s'.rs.length : Int)) = false := by simpa using hlt
  refine JC.cond_false (congrArg Value.bool hd) ?_
  clear hvals hslot
  refine JC.adoptH ho5 (fun b hb => ⟨hb.1, Nat.le_trans hw06 hb.2⟩) ?_
  rintro mb mcur rfl hmrow hmtk hmb
  replace hA6 := hA6.shut (fun b hb => (hmb b hb).1.2)
  replace hB6 := hB6.shut (fun b hb => (hmb b hb).1.2)
  refine JC.env (S := [(some b2, 28, [.slice Ap s.ps.length cp, .slice Ar s.rs.length cr, .int .i64 s.ep, .slice Am s.ms.length cm]), (some b3, 41, q.cells), (some b20, 41, q.cells), (some b5, 28, cs5), (some b7, 28, [.slice (pb.map mkA) s'.ps.length dp, .slice (rb.map mkA) s'.rs.length dr, .int .i64 s'.ep, .slice (mb.map mkA) s'.ms.length dm]), (some b8, 45, rcells (r', ob7.map mkA, cap7)), (some b9, 28, cs9), (some b10, 45, ra9), (ob7, 9, cur'), (pb, 53, pc), (rb, 45, rc), (mb, 55, mcur)]) (l := [(2, .pointer (some ⟨b2, 0, none⟩)), (5, .pointer (some ⟨b5, 0, none⟩)), (7, .pointer (some ⟨b7, 0, none⟩))]) ⟨rfl, rfl, rfl, trivial⟩ (fun E => ?_)
  with_reducible refine JC.exit (JQ.seq_exit (JQ.loop_exit (JQ.blk_here (JQ.seq (JC.seq (JC.seq ?_))))))
  with_reducible refine JC.region ?_
  refine JL.op (JO.val (y_fieldAddr rfl rfl rfl) rfl ?_)
  refine JL.op (JO.val (y_fieldAddr rfl rfl rfl) rfl ?_)
  refine JL.op (JO.val (y_ld 4 rfl rfl rfl rfl) rfl ?_)
  refine JL.op (JO.val (y_len rfl rfl) rfl ?_)
  refine JL.op (JO.val (y_move) rfl ?_)
  with_reducible refine JL.nil ?_
  with_reducible refine JQ.seq (JC.block ?_)
  refine JC.loop (fun m E S F2 w2 => ∃ k mc, m = s'.ms.length - k ∧ k ≤ s'.ms.length ∧ mc.length = mcur.length ∧ S = [(some b2, 28, [.slice Ap s.ps.length cp, .slice Ar s.rs.length cr, .int .i64 s.ep, .slice Am s.ms.length cm]), (some b3, 41, q.cells), (some b20, 41, q.cells), (some b5, 28, cs5), (some b7, 28, [.slice (pb.map mkA) s'.ps.length dp, .slice (rb.map mkA) s'.rs.length dr, .int .i64 s'.ep, .slice (mb.map mkA) s'.ms.length dm]), (some b8, 45, rcells (r', ob7.map mkA, cap7)), (some b9, 28, cs9), (some b10, 45, ra9), (ob7, 9, cur'), (pb, 53, pc), (rb, 45, rc), (mb, 55, mc)] ∧ F2 = (fun k => F' k ∧ mb ≠ some k) ∧ w2 = w1' ∧ Has E [(2, .pointer (some ⟨b2, 0, none⟩)), (5, .pointer (some ⟨b5, 0, none⟩)), (7, .pointer (some ⟨b7, 0, none⟩)), (100, .int .i64 (s'.ms.length : Nat)), (101, .int .i64 (k : Nat))])
    _ ⟨0, mcur, rfl, Nat.zero_le _, rfl, rfl, rfl, rfl, ⟨rfl, rfl, rfl, rfl, rfl, trivial⟩⟩ ?_
  rintro m E S F2 w2 ⟨k, mc, rfl, hk, hcl, rfl, rfl, rfl, hE⟩
  refine JC.env hE (fun E => ?_)
  with_reducible refine JC.seq ?_
  with_reducible refine JC.region ?_
  refine JL.op (JO.val (y_lss rfl rfl) rfl ?_)
  with_reducible refine JL.nil ?_
  with_reducible refine JQ.seq (JC.seq ?_)
  by_cases hlt : k < s'.ms.length
  · have hd : decide ((k : Int) < (s'.ms.length : Int)) = true := by simpa using hlt
    refine JC.cond_true (congrArg Value.bool hd) ?_
    obtain ⟨br, rfl⟩ : ∃ b, mb = some b := by
      cases mb with
      | none => have := (hmrow.nil rfl).1; omega
      | some b => exact ⟨b, rfl⟩
    with_reducible refine JC.skip (JQ.seq (JC.seq (JC.block (JC.seq ?_))))
    with_reducible refine JC.region ?_
    refine JL.op (JO.val (y_move) rfl ?_)
    refine JL.op (JO.val (y_assign) rfl ?_)
    with_reducible refine JL.nil ?_
    with_reducible refine JQ.seq ?_
    with_reducible refine JC.region ?_
    refine JL.op (JO.val (y_fieldAddr rfl rfl rfl) rfl ?_)
    refine JL.op (JO.val (y_fieldAddr rfl rfl rfl) rfl ?_)
    refine JL.op (JO.val (y_ld 4 rfl rfl rfl rfl) rfl ?_)
    refine JL.op (JO.val (y_move) rfl ?_)
    refine JL.op (JO.val (y_idx (b := br) (o := 0) (j := k) rfl rfl rfl rfl rfl rfl hlt) rfl ?_)
    refine JL.op (JO.val (y_fieldAddr rfl rfl rfl) rfl ?_)
    refine JL.op (JO.store1 11 rfl rfl rfl rfl rfl (blt_row (hcl.trans hmrow.len) hlt hmrow.le (by omega)) rfl ?_)
    with_reducible refine JL.nil ?_
    with_reducible refine JQ.blk (JQ.seq ?_)
    with_reducible refine JC.region ?_
    refine JL.op (JO.val (y_add rfl rfl (natAdd hk (by have := hfit2.size.ms; omega))) rfl ?_)
    refine JL.op (JO.val (y_move) rfl ?_)
    with_reducible refine JL.nil ?_
    exact JQ.loop (s'.ms.length - (k + 1)) ⟨k + 1, _, rfl, by omega, by rw [sset_len]; exact hcl, rfl, rfl, rfl, ⟨rfl, rfl, rfl, rfl, rfl, trivial⟩⟩ (by omega)
  have hd : decide ((k : Int) < (s'.ms.length : Int)) = false := by simpa using hlt
  refine JC.cond_false (congrArg Value.bool hd) ?_
  with_reducible refine JC.exit (JQ.seq_exit (JQ.loop_exit (JQ.blk_here (JQ.seq (JC.seq ?_)))))
  with_reducible refine JC.region ?_
  refine JL.op (JO.val (y_ldA 0 rfl rfl rfl rfl) rfl ?_)
  refine JL.op (JO.val (y_ldA 3 rfl rfl rfl hl5) rfl ?_)
  refine JL.op (JO.callv (fun wc hc => same10_same _ _ _ s wc (hA6.step (hc.step.and _)) (hB6.step (hc.step.and _)) hwf hsm) rfl rfl rfl ?_)
  refine JL.op (JO.val (y_assign) rfl ?_)
  with_reducible refine JL.nil ?_
  with_reducible refine JQ.seq (JC.ret ?_)
  exact ret_one rfl ResV.tmp (fun w' hc => rfl)
end Go.Proofs.YtchnnplcpidkiaaDoor
