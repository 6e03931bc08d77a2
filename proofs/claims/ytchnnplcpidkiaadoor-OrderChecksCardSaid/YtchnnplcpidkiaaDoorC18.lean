/- The contract of state.Apply; no condition but bounds on lengths, and that the state stands in order. -/
import Derived.Test.YtchnnplcpidkiaaDoorC17
namespace Go.Proofs.YtchnnplcpidkiaaDoor
open Go.RowKit
set_option linter.unusedSimpArgs false
set_option linter.unusedVariables false
set_option maxRecDepth 20000
set_option maxHeartbeats 16000000

theorem OState.weak {F F' : Nat → Prop} {w : World} {cs : List Value} {s : LState} (h : OState F w cs s) (hF : ∀ b, F b → F' b) : OState F' w cs s := by
  obtain ⟨Ap, cp, Ar, cr, Am, cm, hs, h1, h2, h3, h4, h5, h6⟩ := h.form
  exact ⟨Ap, cp, Ar, cr, Am, cm, hs, h1, h2.weak hF, h3, h4.weak hF, fun x hx => (h5 x hx).weak hF, h6.weak hF⟩
theorem OState.four {F : Nat → Prop} {w : World} {cs : List Value} {s : LState} (h : OState F w cs s) : cs.length = 4 ∧ allOne cs = true := by
  obtain ⟨Ap, cp, Ar, cr, Am, cm, hs, h1, _⟩ := h.form
  subst h1
  exact ⟨rfl, rfl⟩
/-- What a call has made stays, to the end. -/
theorem OState.fin {X : Cx} {S : Sto} {F : Nat → Prop} {w w1 w' : World} {n : Nat} {cs : List Value} {s : LState} (h : OState (fun b => n ≤ b) w1 cs s) (hc : Cur X S F w1 w') (hfr : ∀ b, n ≤ b → F b) (hn : w.heap.size ≤ n) : OState (fun b => w.heap.size ≤ b) w' cs s :=
  ((h.weak fun b hb => (⟨hfr b hb, Nat.le_trans hn hb⟩ : F b ∧ w.heap.size ≤ b)).step (hc.step.and _)).weak fun b hb => hb.2
/-- What state.Apply gives: all of the new state is in blocks of the call's own, and none of them holds the reply's texts. -/
def ApR (s : LState) (q : LReq) (w : World) (v : Value) (w' : World) : Prop :=
  ∃ cs' A cap, v = .tuple #[.agg cs'.toArray, .agg (rcells ((applyD s q).2, A, cap)).toArray] ∧ OState (fun b => w.heap.size ≤ b ∧ A ≠ some (mkA b)) w' cs' (applyD s q).1 ∧ OwnF (fun b => w.heap.size ≤ b) w' 9 1 A (applyD s q).2.vals.length cap ((applyD s q).2.vals.flatMap sstr)
theorem OwnF.blk {F : Nat → Prop} {w : World} {T sz n cap b : Nat} {A : Option Addr} {cs : List Value} (h : OwnF F w T sz A n cap cs) (hA : A = some (mkA b)) : F b ∧ b < w.heap.size ∧ ∃ cur : List Value, w.heap[b]? = some (.cells cur.toArray T (0, 0)) := by
  obtain ⟨ob, cur, h1, _, _, h4⟩ := h
  subst h1
  cases ob with
  | none => cases hA
  | some b' =>
    have : b' = b := by simpa [mkA] using hA
    subst this
    obtain ⟨h5, h6⟩ := h4 b' rfl
    exact ⟨h5, (Array.getElem?_eq_some_iff.1 h6).1, cur, h6⟩
theorem OwnF.off {F : Nat → Prop} {w : World} {T sz n cap : Nat} {A B : Option Addr} {cs : List Value} (h : OwnF F w T sz A n cap cs) (hB : ∀ b, A = some (mkA b) → B ≠ some (mkA b)) : OwnF (fun b => F b ∧ B ≠ some (mkA b)) w T sz A n cap cs := by
  obtain ⟨ob, cur, h1, h2, h3, h4⟩ := h
  exact ⟨ob, cur, h1, h2, h3, fun b hb => ⟨⟨(h4 b hb).1, hB b (by rw [h1, hb]; rfl)⟩, (h4 b hb).2⟩⟩
theorem OwnF.offT {F G : Nat → Prop} {w : World} {T T' sz sz' n n' cap cap' : Nat} {A B : Option Addr} {cs cs' : List Value} (h : OwnF F w T sz A n cap cs) (k : OwnF G w T' sz' B n' cap' cs') (hT : T ≠ T') : OwnF (fun b => F b ∧ B ≠ some (mkA b)) w T sz A n cap cs :=
  h.off fun b hA hB => by
    obtain ⟨_, _, c1, h1⟩ := h.blk hA
    obtain ⟨_, _, c2, h2⟩ := k.blk hB
    rw [h1] at h2
    simp only [Option.some.injEq, Obj.cells.injEq] at h2
    exact hT h2.2.1
theorem JL.env {X : Cx} {ops : Array Oper} {l : List Oper} {E : Env} {S : Sto} {F : Nat → Prop} {w1 : World} {Q : Exit → Env → World → Prop} {lv : List (Nat × Value)} (hh : Has E lv) (h : ∀ E', JL X ops l (upds E' lv) S F w1 Q) : JL X ops l E S F w1 Q := by
  have := h E
  rwa [upds_self hh] at this
theorem Step.and2 {F F' p : Nat → Prop} {w w' : World} (h : Step F w F' w') : Step (fun k => F k ∧ p k) w (fun k => F k ∧ p k) w' := fun b hb hF =>
  ⟨(h b hb hF.1).1, hF⟩
theorem after_does {X : Cx} {S : Sto} {F : Nat → Prop} {w1 wc wn : World} {b9 T1 : Nat} {st0 c1 st : List Value} (hc : Cur X S F w1 wc) (hc' : Cur X (blank [5, 6] S) (Al X S) wn wn) (h5 : nth S 5 = some (some b9, 28, st0)) (hB : nth (blank [5, 6] S) 5 = some (none, T1, c1)) (hh : wn.heap[b9]? = some (.cells st.toArray 28 (0, 0))) :
    Cur X (sset (blank [5, 6] S) 5 (some b9, 28, st)) (Al X (sset (blank [5, 6] S) 5 (some b9, 28, st))) wn wn ∧ (∀ b, Al X S b → Al X (sset (blank [5, 6] S) 5 (some b9, 28, st)) b) := by
  rw [nth_eq] at h5
  have h5m := List.mem_of_getElem? h5
  refine ⟨(hc'.put 5 hB (some b9) 28 st fun b hb => ?_).rebase, fun b hb => ⟨hb.1, fun hm => ?_⟩⟩
  · cases hb
    refine ⟨hh, (hc.own _ h5m b9 rfl).1, fun hm => ?_⟩
    obtain ⟨e, he, h1⟩ := blks_mem.1 hm
    obtain ⟨k, hk1, hk2, hk3⟩ := blank2 he h1
    exact hk1 (nodup_at (f := fun e : Ent => e.1) hc.nodup hk3 h5 h1 rfl)
  · rcases blks_sset_sub hm with h1 | h1
    · obtain ⟨e, he, h2⟩ := blks_blank h1
      exact hb.2 (blks_mem.2 ⟨e, he, h2⟩)
    · cases h1
      exact hb.2 (blks_mem.2 ⟨_, h5m, rfl⟩)
theorem OwnF.al2 {X : Cx} {S : Sto} {F G : Nat → Prop} {w1 w : World} {T sz n cap : Nat} {A : Option Addr} {cs : List Value} (hc : Cur X S F w1 w) (h : OwnF G w T sz A n cap cs) (hX : ∀ b, G b → X.w0.heap.size ≤ b) (hT : S.all (fun e => e.1.isNone || !(Nat.beq e.2.1 T)) = true) : OwnF (fun b => Al X S b ∧ G b) w T sz A n cap cs :=
  h.al hc hX fun e he b' hb' hT' => by
    have := List.all_eq_true.1 hT e he
    rw [hb', hT'] at this
    simp at this
theorem own_pre {F1 : Nat → Prop} {w wc wn : World} {ob : Option Nat} {T T' sz n cap : Nat} {A : Option Addr} {cs cur : List Value} (h : OwnF (fun b => wc.heap.size ≤ b) wn T sz A n cap cs) (hfr : ∀ b, wc.heap.size ≤ b → F1 b) (hsz : w.heap.size ≤ wc.heap.size) (hob : ∀ b, ob = some b → wn.heap[b]? = some (.cells cur.toArray T' (0, 0))) (hT : T ≠ T') : OwnF (fun b => (F1 b ∧ ob ≠ some b) ∧ w.heap.size ≤ b) wn T sz A n cap cs :=
  (h.sep hob hT).weak fun b hb => ⟨⟨hfr b hb.1, hb.2⟩, Nat.le_trans hsz hb.1⟩
theorem own_sep {F1 P : Nat → Prop} {wn : World} {ob : Option Nat} {T T' sz n cap : Nat} {A : Option Addr} {cs cur : List Value} (h : OwnF (fun b => F1 b ∧ P b) wn T sz A n cap cs) (hob : ∀ b, ob = some b → wn.heap[b]? = some (.cells cur.toArray T' (0, 0))) (hT : T ≠ T') : OwnF (fun b => (F1 b ∧ ob ≠ some b) ∧ P b) wn T sz A n cap cs :=
  (h.sep hob hT).weak fun b hb => ⟨⟨hb.1.1, hb.2⟩, hb.1.2⟩
theorem did_len {ps : List LPair} {ep : Int} {ms : List LMember} {o : LOp} (h1 : ps.length ≤ 10000) (h2 : ms.length ≤ 10000) : (did ps ep ms o).vals.length ≤ 10001 := by
  unfold did
  have h3 := List.length_filter_le (fun p => hasPre p.k o.key) ps
  repeat' split
  all_goals simp
  all_goals omega
/-- An element is changed in place. -/
theorem set_elem {α : Type} {f : α → List Value} {sz n i : Nat} {xs : List α} {x : α} {cur : List Value} (htk : cur.take (n * sz) = xs.flatMap f) (hf : ∀ x ∈ xs, (f x).length = sz) (hx : (f x).length = sz) (hn : n = xs.length) (hi : i < xs.length) : (splice cur (0 + i * sz) (f x)).take (n * sz) = (xs.take i ++ x :: xs.drop (i + 1)).flatMap f := by
  subst hn
  have hcut : xs.flatMap f = (xs.take i).flatMap f ++ (f xs[i] ++ (xs.drop (i + 1)).flatMap f) := by
    rw [flat_cut (p := i), List.drop_eq_getElem_cons hi, List.flatMap_cons]
  have hl : ((xs.take i).flatMap f).length = i * sz := by rw [flatMap_length (fun y hy => hf y (List.mem_of_mem_take hy)), List.length_take, Nat.min_eq_left (by omega)]
  have hcur : cur = (xs.take i).flatMap f ++ (f xs[i] ++ ((xs.drop (i + 1)).flatMap f ++ cur.drop (xs.length * sz))) := by
    conv => lhs; rw [← List.take_append_drop (xs.length * sz) cur, htk, hcut]
    simp only [List.append_assoc]
  have hlen : (xs.take i ++ x :: xs.drop (i + 1)).flatMap f = (xs.take i).flatMap f ++ (f x ++ (xs.drop (i + 1)).flatMap f) := by rw [List.flatMap_append, List.flatMap_cons]
  have h2 : ((xs.take i ++ x :: xs.drop (i + 1)).flatMap f).length = xs.length * sz := by
    rw [flatMap_length (sz := sz) (fun y hy => by
      rcases List.mem_append.1 hy with h | h
      · exact hf y (List.mem_of_mem_take h)
      · rcases List.mem_cons.1 h with h | h
        · rw [h]; exact hx
        · exact hf y (List.mem_of_mem_drop h))]
    congr 1
    simp; omega
  rw [Nat.zero_add, hcur, ← hl, splice_mid _ _ _ _ (by rw [hx, hf _ (List.getElem_mem hi)]), ← List.append_assoc (f x), ← List.append_assoc, ← hlen, List.take_left' h2]
theorem ap_fin {X : Cx} {S : Sto} {F : Nat → Prop} {s : LState} {q : LReq} {w w3 w' : World} (had : applyD s q = doneD s q) (hc : Cur X S F w3 w') {Ap Ar Am A : Option Addr} {cp rn cr cm cap : Nat} {hs : List (LReply × Option Addr × Nat)} (hrn : rn = (withR ⟨q.client, q.num, (did s.ps s.ep s.ms q.op).code, (did s.ps s.ep s.ms q.op).vals⟩ s.rs).length)
    (hp : OwnF (fun b => F b ∧ w.heap.size ≤ b) w3 53 2 Ap (did s.ps s.ep s.ms q.op).ps.length cp ((did s.ps s.ep s.ms q.op).ps.flatMap LPair.cells)) (hhs : hs.map (·.1) = withR ⟨q.client, q.num, (did s.ps s.ep s.ms q.op).code, (did s.ps s.ep s.ms q.op).vals⟩ s.rs) (hr : OwnF (fun b => w.heap.size ≤ b) w' 45 4 Ar rn cr (hs.flatMap rcells)) (hv : ∀ x ∈ hs, OwnF (fun b => F b ∧ w.heap.size ≤ b) w3 9 1 x.2.1 x.1.vals.length x.2.2 (x.1.vals.flatMap sstr))
    (hm : OwnF (fun b => F b ∧ w.heap.size ≤ b) w3 55 34 Am (did s.ps s.ep s.ms q.op).ms.length cm ((did s.ps s.ep s.ms q.op).ms.flatMap LMember.cells)) (hap : ∀ x ∈ hs, ∀ b, x.2.1 = some (mkA b) → A ≠ some (mkA b)) (hA : OwnF (fun b => F b ∧ w.heap.size ≤ b) w3 9 1 A (did s.ps s.ep s.ms q.op).vals.length cap ((did s.ps s.ep s.ms q.op).vals.flatMap sstr)) :
    ApR s q w (.tuple #[.agg [.slice Ap (did s.ps s.ep s.ms q.op).ps.length cp, .slice Ar rn cr, .int .i64 (did s.ps s.ep s.ms q.op).ep, .slice Am (did s.ps s.ep s.ms q.op).ms.length cm].toArray, .agg (rcells (⟨q.client, q.num, (did s.ps s.ep s.ms q.op).code, (did s.ps s.ep s.ms q.op).vals⟩, A, cap)).toArray]) w' := by
  subst hrn
  have hA' := (hA.step (hc.step.and _)).weak (F' := fun b => w.heap.size ≤ b) fun b hb => hb.2
  unfold ApR
  rw [had]
  refine ⟨_, A, cap, rfl, ?_, hA'⟩
  refine ⟨Ap, cp, Ar, cr, Am, cm, hs, rfl, ?_, hhs, hr.offT hA' (by decide), fun x hx => ?_, ?_⟩
  · exact ((hp.step (hc.step.and _)).weak (F' := fun b => w.heap.size ≤ b) fun b hb => hb.2).offT hA' (by decide)
  · exact (((hv x hx).step (hc.step.and _)).weak (F' := fun b => w.heap.size ≤ b) fun b hb => hb.2).off (hap x hx)
  · exact ((hm.step (hc.step.and _)).weak (F' := fun b => w.heap.size ≤ b) fun b hb => hb.2).offT hA' (by decide)
theorem apply_any (F : Nat → Prop) (cs : List Value) (s : LState) (q : LReq) (w : World) (h : RState F w cs s) (hwf : s.wf) (hsm : Small s) (hord : Ord s) (hq : q.wf) (htab : Tab F w) :
    CallsTo 9 #[.agg cs.toArray, .agg q.cells.toArray] w (fun v w' => ApR s q w v w') := by
  have hRS := h
  have hql := LReq.len_cells hq
  have hol := LOp.len_cells hq.op
  obtain ⟨Ap, cp, Ar, cr, Am, cm, rfl, hp, hr, hm⟩ := h.form
  obtain ⟨hs, hhs, hrow, hvals⟩ := hr
  have hlen : hs.length = s.rs.length := by rw [← hhs]; simp
  have hidx := lastB_has (c := q.client) hord.rs
  have hfound : lastB s q.client = true → ∃ x1 A1 c1 b o, hs[lastI s q.client]? = some (x1, A1, c1) ∧ s.rs[lastI s q.client]? = some x1 ∧ Ar = some ⟨b, o, none⟩ ∧ At F w b (o + lastI s q.client * 4) (rcells (x1, A1, c1)) ∧ lastI s q.client < s.rs.length := fun hlb => by
    have hlt : lastI s q.client < s.rs.length := by
      simp only [lastB, bsB, Bool.and_eq_true, decide_eq_true_eq] at hlb
      exact hlb.1
    obtain ⟨r, hx⟩ : ∃ r, s.rs[lastI s q.client]? = some r := ⟨s.rs[lastI s q.client], by simp [hlt]⟩
    obtain ⟨⟨x1, A1, c1⟩, hx1, rfl⟩ := map_at hhs hx
    obtain ⟨b, o, hA, hat⟩ := SlF.elem hrow rcells_len hlen.symm hx1
    exact ⟨x1, A1, c1, b, o, hx1, hx, hA, hat, hlt⟩
  refine CallsTo.enter 95 (fun _ => True) F Tryd.func9 rfl rfl rfl rfl (by intros; first | trivial | assumption) ?_
  with_reducible refine JC.seq ?_
  with_reducible refine JC.region ?_
  refine JL.op (JO.box rfl rfl ?_); intro b2
  refine JL.op (JO.box rfl rfl ?_); intro b3
  refine JL.op (JO.alloc rfl rfl ?_); intro b4
  refine JL.op (JO.alloc rfl rfl ?_); intro b5
  with_reducible refine JL.nil ?_
  with_reducible refine JQ.seq (JC.seq ?_)
  with_reducible refine JC.region ?_
  refine JL.op (JO.val (y_fieldAddr rfl rfl rfl) rfl ?_)
  refine JL.op (JO.val (y_ld 1 rfl rfl rfl rfl) rfl ?_)
  refine JL.op (JO.val (y_fieldAddr rfl rfl rfl) rfl ?_)
  refine JL.op (JO.val (y_ld 1 rfl rfl rfl rfl) rfl ?_)
  refine JL.op (JO.val (y_build rfl rfl (⟨_, _, _, rfl, rfl, rfl, rfl, ⟨_, _, _, rfl, rfl, rfl, rfl, rfl⟩⟩)) rfl ?_)
  refine JL.op (JO.alloc rfl rfl ?_); intro b6
  refine JL.op (JO.storeA 4 rfl rfl rfl rfl (by first | rfl | assumption) (by first | rfl | assumption) (by first | rfl | assumption) ?_)
  with_reducible refine JL.nil ?_
  with_reducible refine JQ.seq (JC.seq (JC.seq ?_))
  with_reducible refine JC.region ?_
  refine JL.op (JO.val (y_ldA 1 rfl rfl rfl (by first | rfl | assumption)) rfl ?_)
  refine JL.op (JO.callv (fun wc hc => good_any q hq wc) rfl rfl rfl ?_)
  refine JL.op (JO.val (y_not rfl) rfl ?_)
  with_reducible refine JL.nil ?_
  with_reducible refine JQ.seq ?_
  refine JC.cond (b := !goodB q) rfl (fun hg => ?_) (fun hg => ?_)
  · have had : applyD s q = (s, ⟨q.client, q.num, 1, []⟩) := by unfold applyD; rw [if_pos (by simpa using hg)]
    with_reducible refine JC.seq ?_
    with_reducible refine JC.region ?_
    refine JL.op (JO.val (y_fieldAddr rfl rfl rfl) rfl ?_)
    refine JL.op (JO.store1 4 rfl rfl rfl rfl rfl rfl rfl ?_)
    with_reducible refine JL.nil ?_
    with_reducible refine JQ.seq (JC.seq ?_)
    refine JC.held [0, 4] ?_
    refine JH.take 0 rfl (by kernel_rfl) (by kernel_rfl) (by kernel_rfl) (fun _ _ _ => y_ldA 0 rfl rfl rfl rfl) rfl (by repeat (first | exact np_fun | exact np_inv | refine np_seq ?_ | refine np_blk ?_ | refine np_loop ?_)) (⟨rfl, rfl, trivial⟩) ?_
    refine JH.take 2 rfl (by kernel_rfl) (by kernel_rfl) (by kernel_rfl) (fun _ _ _ => y_ldA 4 rfl rfl rfl rfl) rfl (by repeat (first | exact np_fun | exact np_inv | refine np_seq ?_ | refine np_blk ?_ | refine np_loop ?_)) (⟨rfl, rfl, trivial⟩) ?_
    refine JH.one 1 (by kernel_rfl) (JI.op rfl ?_)
    refine (JO.call _ (fun wc hc => copied_any _ _ s wc (hRS.step hc.step) hwf hsm) rfl rfl rfl ?_)
    rintro wc v wn hst hsz hfr hbl hst0 ⟨cs', rfl, hos⟩
    obtain ⟨hl4, hl1⟩ := hos.four
    refine ⟨⟨rfl, rfl, trivial⟩, ?_⟩
    refine JH.one 3 (by kernel_rfl) (JI.op rfl ?_)
    refine (JO.storeA 2 rfl rfl rfl rfl (by first | rfl | assumption) (by first | rfl | assumption) (by first | rfl | assumption) ?_)
    refine ⟨⟨rfl, rfl, trivial⟩, ?_⟩
    refine JH.one 4 (by kernel_rfl) (JI.op rfl ?_)
    refine (JO.storeA 3 rfl rfl rfl rfl (by first | rfl | assumption) (by first | rfl | assumption) (by first | rfl | assumption) ?_)
    refine ⟨⟨rfl, rfl, trivial⟩, ?_⟩
    refine JH.done (by kernel_rfl) ?_
    with_reducible refine JQ.seq (JC.ret (JQ.seq_ret ?_))
    refine ret_two rfl (ResV.cellA 2 rfl rfl rfl hl4) (ResV.cellA 3 rfl rfl rfl rfl) (fun w' hc => ?_)
    unfold ApR; rw [had]; exact ⟨_, none, 0, rfl, (hos.fin hc hfr hsz).weak (fun b hb => ⟨hb, fun h => by cases h⟩), vals_nil⟩
  have hgood : goodB q = true := by simpa using hg
  with_reducible refine JC.skip (JQ.seq (JC.seq ?_))
  with_reducible refine JC.region ?_
  refine JL.op (JO.val (y_ldA 0 rfl rfl rfl rfl) rfl ?_)
  refine JL.op (JO.val (y_fieldAddr rfl rfl rfl) rfl ?_)
  refine JL.op (JO.val (y_ld 1 rfl rfl rfl rfl) rfl ?_)
  refine JL.op (JO.callv (fun wc hc => last_any _ _ s q.client wc (hRS.step hc.step) hsm) rfl rfl rfl ?_)
  refine JL.op (JO.val (y_move) rfl ?_)
  refine JL.op (JO.val (y_extract rfl rfl) rfl ?_)
  refine JL.op (JO.val (y_extract rfl rfl) rfl ?_)
  refine JL.op (JO.val (y_assign) rfl ?_)
  refine JL.op (JO.val (y_assign) rfl ?_)
  with_reducible refine JL.nil ?_
  with_reducible refine JQ.seq (JC.seq (JC.seq ?_))
  refine JC.cutS [(2, .pointer (some ⟨b2, 0, none⟩)), (3, .pointer (some ⟨b3, 0, none⟩)), (4, .pointer (some ⟨b4, 0, none⟩)), (5, .pointer (some ⟨b5, 0, none⟩)), (6, .pointer (some ⟨b6, 0, none⟩)), (7, .int .i64 (lastI s q.client : Nat)), (8, .bool (lastB s q.client)), (41, .bool (lastB s q.client && decide (q.num ≤ ((s.rs[lastI s q.client]?).map (·.num)).getD 0)))] ?_ (fun E => ?_)
  · refine JC.quiet (by kernel_rfl) ?_
    refine JT.val (y_move) rfl ?_
    refine JT.val (y_move) rfl ?_
    refine JT.split (d := 31) rfl (fun hg1 => ?_) (fun hg1 => ?_)
    · refine JT.val_do rfl rfl (congrArg Value.bool hg1) (y_fieldAddr rfl rfl rfl) rfl ?_
      refine JT.val_do rfl rfl (congrArg Value.bool hg1) (y_ld 1 rfl rfl rfl rfl) rfl ?_
      refine JT.val_do rfl rfl (congrArg Value.bool hg1) (y_fieldAddr rfl rfl rfl) rfl ?_
      refine JT.val_do rfl rfl (congrArg Value.bool hg1) (y_ld 0 rfl rfl rfl rfl) rfl ?_
      refine JT.val_do rfl rfl (congrArg Value.bool hg1) (y_move) rfl ?_
      obtain ⟨x1, A1, c1, b, o, hx1, hx, hA, hat, hlt⟩ := hfound hg1
      refine JT.val_do rfl rfl (congrArg Value.bool hg1) (y_idx (b := b) (o := o) rfl rfl rfl rfl hA rfl hlt) rfl ?_
      refine JT.val_do rfl rfl (congrArg Value.bool hg1) (y_fieldAddr rfl rfl rfl) rfl ?_
      refine JT.val_do rfl rfl (congrArg Value.bool hg1) (y_ldd rfl rfl (At.cell1 (j := 1) hat rfl)) rfl ?_
      refine JT.val_do rfl rfl (congrArg Value.bool hg1) (y_leq rfl rfl) rfl ?_
      refine JT.val (y_pick (congrArg Value.bool hg1)) rfl ?_
      refine JT.nil ?_
      exact JQ.has ⟨rfl, rfl, rfl, rfl, rfl, rfl, rfl, congrArg Value.bool (by rw [hg1, hx]; simp), trivial⟩ (fun _ h => h)
    · refine JT.skip rfl rfl (congrArg Value.bool hg1) rfl ?_
      refine JT.skip rfl rfl (congrArg Value.bool hg1) rfl ?_
      refine JT.skip rfl rfl (congrArg Value.bool hg1) rfl ?_
      refine JT.skip rfl rfl (congrArg Value.bool hg1) rfl ?_
      refine JT.skip rfl rfl (congrArg Value.bool hg1) rfl ?_
      refine JT.skip rfl rfl (congrArg Value.bool hg1) rfl ?_
      refine JT.skip rfl rfl (congrArg Value.bool hg1) rfl ?_
      refine JT.skip rfl rfl (congrArg Value.bool hg1) rfl ?_
      refine JT.skip rfl rfl (congrArg Value.bool hg1) rfl ?_
      refine JT.val (y_pick (congrArg Value.bool hg1)) rfl ?_
      refine JT.nil ?_
      exact JQ.has ⟨rfl, rfl, rfl, rfl, rfl, rfl, rfl, congrArg Value.bool (by rw [hg1]; simp), trivial⟩ (fun _ h => h)
  with_reducible refine JQ.seq ?_
  refine JC.cond rfl (fun hg2 => ?_) (fun hg2 => ?_)
  · have hlb : lastB s q.client = true := by simp only [Bool.and_eq_true] at hg2; exact hg2.1
    obtain ⟨x1, A1, c1, b, o, hx1, hx, hA, hat, hlt⟩ := hfound hlb
    have hle : q.num ≤ x1.num := by simp only [Bool.and_eq_true, decide_eq_true_eq, hx] at hg2; exact hg2.2
    have hidx2 : idx (fun r : LReply => decide (r.client = q.client)) s.rs = some (lastI s q.client) := by rw [hidx]; exact if_pos hlb
    with_reducible refine JC.seq (JC.seq ?_)
    refine JC.quiet (by kernel_rfl) ?_
    first | refine JT.val (y_fieldAddr rfl rfl rfl) rfl ?_
    refine JT.val (y_ld 1 rfl rfl rfl rfl) rfl ?_
    first | refine JT.val (y_fieldAddr rfl rfl rfl) rfl ?_
    refine JT.val (y_ld 0 rfl rfl rfl rfl) rfl ?_
    first | refine JT.val (y_move) rfl ?_
    refine JT.val (y_idx (b := b) (o := o) rfl rfl rfl rfl hA rfl hlt) rfl ?_
    first | refine JT.val (y_fieldAddr rfl rfl rfl) rfl ?_
    refine JT.val (y_ldd rfl rfl (At.cell1 (j := 1) hat rfl)) rfl ?_
    first | refine JT.val (y_eql rfl rfl) rfl ?_
    refine JT.nil ?_
    with_reducible refine JQ.seq ?_
    refine JC.cond rfl (fun hg3 => ?_) (fun hg3 => ?_)
    · have had : applyD s q = (s, x1) := by unfold applyD; rw [if_neg (by rw [hgood]; simp), hidx2]; simp only [hx]; rw [if_pos (by simpa using hg3)]
      with_reducible refine JC.seq ?_
      with_reducible refine JC.region ?_
      refine JL.op (JO.val (y_ldA 0 rfl rfl rfl rfl) rfl ?_)
      refine JL.op (JO.val (y_fieldAddr rfl rfl rfl) rfl ?_)
      refine JL.op (JO.val (y_ld 1 rfl rfl rfl rfl) rfl ?_)
      refine JL.op (JO.call _ (fun wc hc => last_full _ _ s q.client wc (hRS.step hc.step) hsm) rfl rfl rfl ?_)
      rintro wc v wn hst hsz hfr hbl hst0 hlf
      obtain ⟨r', A', cap', hr', rfl, hov⟩ := hlf hlb
      rw [hx] at hr'
      cases hr'
      refine JL.op (JO.val (y_move) rfl ?_)
      refine JL.op (JO.val (y_extract rfl rfl) rfl ?_)
      refine JL.op (JO.val (y_extract rfl rfl) rfl ?_)
      refine JL.op (JO.storeA 4 rfl rfl rfl rfl (by first | rfl | assumption) (by first | rfl | assumption) (by first | rfl | assumption) ?_)
      with_reducible refine JL.nil ?_
      with_reducible refine JQ.seq (JC.seq ?_)
      refine JC.held [0, 4] ?_
      refine JH.take 0 rfl (by kernel_rfl) (by kernel_rfl) (by kernel_rfl) (fun _ _ _ => y_ldA 0 rfl rfl rfl rfl) rfl (by repeat (first | exact np_fun | exact np_inv | refine np_seq ?_ | refine np_blk ?_ | refine np_loop ?_)) (⟨rfl, rfl, trivial⟩) ?_
      refine JH.take 2 rfl (by kernel_rfl) (by kernel_rfl) (by kernel_rfl) (fun _ _ _ => y_ldA 4 rfl rfl rfl rfl) rfl (by repeat (first | exact np_fun | exact np_inv | refine np_seq ?_ | refine np_blk ?_ | refine np_loop ?_)) (⟨rfl, rfl, trivial⟩) ?_
      refine JH.one 1 (by kernel_rfl) (JI.op rfl ?_)
      refine (JO.call _ (fun wc2 hc => copied_any _ _ s wc2 (((hRS.step hst)).step hc.step) hwf hsm) rfl rfl rfl ?_)
      rintro wc2 v wn2 hst2 hsz2 hfr2 hbl2 hst02 ⟨cs', rfl, hos⟩
      obtain ⟨hl4, hl1⟩ := hos.four
      refine ⟨⟨rfl, rfl, trivial⟩, ?_⟩
      refine JH.one 3 (by kernel_rfl) (JI.op rfl ?_)
      refine (JO.storeA 2 rfl rfl rfl rfl (by first | rfl | assumption) (by first | rfl | assumption) (by first | rfl | assumption) ?_)
      refine ⟨⟨rfl, rfl, trivial⟩, ?_⟩
      refine JH.one 4 (by kernel_rfl) (JI.op rfl ?_)
      refine (JO.storeA 3 rfl rfl rfl rfl (by first | rfl | assumption) (by first | rfl | assumption) (by first | rfl | assumption) ?_)
      refine ⟨⟨rfl, rfl, trivial⟩, ?_⟩
      refine JH.done (by kernel_rfl) ?_
      with_reducible refine JQ.seq (JC.ret (JQ.seq_ret (JQ.seq_ret ?_)))
      refine ret_two rfl (ResV.cellA 2 rfl rfl rfl hl4) (ResV.cellA 3 rfl rfl rfl rfl) (fun w' hc => ?_)
      unfold ApR; rw [had]
      refine ⟨_, A', cap', rfl, ((hos.weak fun b hb => (⟨hb, fun h => absurd (hov.blk h).2.1 (Nat.not_lt.2 (Nat.le_trans hsz2 hb))⟩ : wc2.heap.size ≤ b ∧ A' ≠ some (mkA b))).step ((hc.step.mono (fun b hb => hfr2 b hb) (fun _ h => h)).and2)).weak (fun b hb => ⟨Nat.le_trans (Nat.le_trans hsz (Nat.le_trans hbl.size hsz2)) hb.1, hb.2⟩), ?_⟩
      exact (((hov.weak fun b hb => (⟨hfr b hb, Nat.le_trans hsz hb⟩ : _ ∧ w.heap.size ≤ b)).step (hst2.and _)).step (hc.step.and _)).weak fun b hb => hb.2
    · have had : applyD s q = (s, ⟨q.client, q.num, 8, []⟩) := by unfold applyD; rw [if_neg (by rw [hgood]; simp), hidx2]; simp only [hx]; rw [if_neg (by simpa using hg3), if_pos (by simp only [decide_eq_false_iff_not] at hg3; omega)]
      with_reducible refine JC.skip (JQ.seq (JC.seq ?_))
      with_reducible refine JC.region ?_
      refine JL.op (JO.val (y_fieldAddr rfl rfl rfl) rfl ?_)
      refine JL.op (JO.store1 4 rfl rfl rfl rfl rfl rfl rfl ?_)
      with_reducible refine JL.nil ?_
      with_reducible refine JQ.seq (JC.seq ?_)
      refine JC.held [0, 4] ?_
      refine JH.take 0 rfl (by kernel_rfl) (by kernel_rfl) (by kernel_rfl) (fun _ _ _ => y_ldA 0 rfl rfl rfl rfl) rfl (by repeat (first | exact np_fun | exact np_inv | refine np_seq ?_ | refine np_blk ?_ | refine np_loop ?_)) (⟨rfl, rfl, trivial⟩) ?_
      refine JH.take 2 rfl (by kernel_rfl) (by kernel_rfl) (by kernel_rfl) (fun _ _ _ => y_ldA 4 rfl rfl rfl rfl) rfl (by repeat (first | exact np_fun | exact np_inv | refine np_seq ?_ | refine np_blk ?_ | refine np_loop ?_)) (⟨rfl, rfl, trivial⟩) ?_
      refine JH.one 1 (by kernel_rfl) (JI.op rfl ?_)
      refine (JO.call _ (fun wc hc => copied_any _ _ s wc (hRS.step hc.step) hwf hsm) rfl rfl rfl ?_)
      rintro wc v wn hst hsz hfr hbl hst0 ⟨cs', rfl, hos⟩
      obtain ⟨hl4, hl1⟩ := hos.four
      refine ⟨⟨rfl, rfl, trivial⟩, ?_⟩
      refine JH.one 3 (by kernel_rfl) (JI.op rfl ?_)
      refine (JO.storeA 2 rfl rfl rfl rfl (by first | rfl | assumption) (by first | rfl | assumption) (by first | rfl | assumption) ?_)
      refine ⟨⟨rfl, rfl, trivial⟩, ?_⟩
      refine JH.one 4 (by kernel_rfl) (JI.op rfl ?_)
      refine (JO.storeA 3 rfl rfl rfl rfl (by first | rfl | assumption) (by first | rfl | assumption) (by first | rfl | assumption) ?_)
      refine ⟨⟨rfl, rfl, trivial⟩, ?_⟩
      refine JH.done (by kernel_rfl) ?_
      with_reducible refine JQ.seq (JC.ret (JQ.seq_ret ?_))
      refine ret_two rfl (ResV.cellA 2 rfl rfl rfl hl4) (ResV.cellA 3 rfl rfl rfl rfl) (fun w' hc => ?_)
      unfold ApR; rw [had]; exact ⟨_, none, 0, rfl, (hos.fin hc hfr hsz).weak (fun b hb => ⟨hb, fun h => by cases h⟩), vals_nil⟩
  have had : applyD s q = doneD s q := by
    unfold applyD
    rw [if_neg (by rw [hgood]; simp), hidx]
    cases hlb : bsB (cR q.client) s.rs with
    | false => rfl
    | true =>
      obtain ⟨x1, A1, c1, b, o, hx1, hx, hA, hat, hlt⟩ := hfound hlb
      have hx' : s.rs[bsI (cR q.client) s.rs]? = some x1 := hx
      have hlb' : lastB s q.client = true := hlb
      rw [hlb', hx] at hg2
      simp only [Option.map_some, Option.getD_some, Bool.true_and, decide_eq_false_iff_not] at hg2
      simp only [if_true, hx']
      rw [if_neg (by omega), if_neg (by omega)]
  have hkd : 1 ≤ q.op.kind ∧ q.op.kind ≤ 7 := by simp [goodB] at hgood; omega
  have hvl := did_len (ep := s.ep) (o := q.op) hsm.ps hsm.ms
  with_reducible refine JC.skip (JQ.seq (JC.seq ?_))
  with_reducible refine JC.region ?_
  refine JL.op (JO.val (y_ldA 0 rfl rfl rfl rfl) rfl ?_)
  refine JL.op (JO.call _ (fun wc hc => copied_any _ _ s wc (hRS.step hc.step) hwf hsm) rfl rfl rfl ?_)
  rintro wc v wn hst hsz hfr hbl hst0 ⟨cs', rfl, hos⟩
  obtain ⟨Bp, dp, Br, dr, Bm, dm, hs', rfl, ho1, ho2, ho3, ho4, ho5⟩ := hos.form
  have hq1 : ∀ x ∈ hs', ∀ b, x.2.1 = some (mkA b) → b < wn.heap.size := fun x hx b hb => ((ho4 x hx).blk hb).2.1
  refine JL.op (JO.alloc rfl rfl ?_); intro b9
  refine JL.op (JO.storeA 5 rfl rfl rfl rfl (by first | rfl | assumption) (by first | rfl | assumption) (by first | rfl | assumption) ?_)
  with_reducible refine JL.nil ?_
  refine JQ.adoptH ho1 (fun b hb => ⟨hfr b hb, Nat.le_trans hsz hb⟩) ?_
  rintro pb cur rfl hprow hptk hpb
  replace ho5 := own_pre ho5 hfr hsz (fun b hb => (hpb b hb).2) (by decide)
  replace ho3 := own_pre ho3 hfr hsz (fun b hb => (hpb b hb).2) (by decide)
  replace ho4 := fun x (hx : x ∈ hs') => own_pre (ho4 x hx) hfr hsz (fun b hb => (hpb b hb).2) (by decide)
  replace htab := htab.step (hst.adopt (fun b hb => (hpb b hb).1))
  refine JQ.env (S := [(some b2, 28, [.slice Ap s.ps.length cp, .slice Ar s.rs.length cr, .int .i64 s.ep, .slice Am s.ms.length cm]), (some b3, 41, q.cells), (some b4, 28, [.slice none 0 0, .slice none 0 0, .int .i64 0, .slice none 0 0]), (some b5, 45, [.int .i64 0, .int .i64 0, .int .i64 0, .slice none 0 0]), (some b6, 45, [.int .i64 q.client, .int .i64 q.num, .int .i64 0, .slice none 0 0]), (some b9, 28, [.slice (pb.map mkA) s.ps.length dp, .slice Br s.rs.length dr, .int .i64 s.ep, .slice Bm s.ms.length dm]), (pb, 53, cur)]) (l := [(2, .pointer (some ⟨b2, 0, none⟩)), (3, .pointer (some ⟨b3, 0, none⟩)), (4, .pointer (some ⟨b4, 0, none⟩)), (5, .pointer (some ⟨b5, 0, none⟩)), (6, .pointer (some ⟨b6, 0, none⟩)), (7, .int .i64 (lastI s q.client : Nat)), (8, .bool (lastB s q.client)), (9, .pointer (some ⟨b9, 0, none⟩))]) ⟨rfl, rfl, rfl, rfl, rfl, rfl, rfl, rfl, trivial⟩ (fun E => ?_)
  with_reducible refine JQ.seq (JC.seq ?_)
  with_reducible refine JC.region ?_
  refine JL.op (JO.val (y_fieldAddr rfl rfl rfl) rfl ?_)
  refine JL.op (JO.val (y_ldP 1 (vs := q.op.cells) rfl rfl rfl (List.take_of_length_le (by show q.op.cells.length ≤ 40; omega)) (by rw [hql]; rfl)) rfl ?_)
  refine JL.op (JO.callM [5, 6] (b9 :: pb.toList) (fun w0 r w' => DidR b9 pb (fun b => w.heap.size ≤ b) Br s.rs.length dr (did s.ps s.ep s.ms q.op) w0 r w') (fun wc2 hc => does_any _ (fun b => w.heap.size ≤ b) b9 pb dp s.rs.length dr dm Br Bm s.ps s.ep s.ms cur q.op wc2 hprow hptk hsm.ps hord.ps (ho5.step (hc.step.and _)) hsm.ms hwf.ms hq.op hwf.ep hkd (htab.step hc.step) (hc.own _ (List.mem_of_getElem? (i := 5) rfl) b9 rfl).2 (fun b hb => (hc.own (pb, 53, cur) (List.mem_of_getElem? (i := 6) rfl) b hb).2) (fun he => absurd (nodup_at (f := fun e : Ent => e.1) hc.nodup (i := 5) (j := 6) rfl rfl rfl he) (by decide)) (fun k hk => ⟨fun he => hk.2 (blks_mem.2 ⟨_, List.mem_of_getElem? (i := 5) rfl, by rw [he]⟩), fun he => hk.2 (blks_mem.2 ⟨_, List.mem_of_getElem? (i := 6) rfl, he⟩)⟩)) rfl rfl rfl ?_ ?_ ?_)
  · intro b hb
    rcases List.mem_cons.1 hb with h1 | h1
    · exact ⟨_, List.mem_of_getElem? (i := 5) rfl, by rw [h1]⟩
    · exact ⟨_, List.mem_of_getElem? (i := 6) rfl, by simpa using h1⟩
  · intro hnd2 e he b hb hm
    obtain ⟨k, hk1', hk2', hk3'⟩ := blank2 he hb
    rcases List.mem_cons.1 hm with h1 | h1
    · exact hk1' (nodup_at (f := fun e : Ent => e.1) hnd2 hk3' (j := 5) rfl hb (by rw [h1]))
    · exact hk2' (nodup_at (f := fun e : Ent => e.1) hnd2 hk3' (j := 6) rfl hb (show pb = some b by simpa using h1))
  rintro wc2 v wn2 hc hc' hst2 hsz2 hfr2 hsz2' ⟨pb', cp', cur', Am', cm', Av, cv, rfl, hbs', hrow', htk', hpb', hom', hv'⟩
  obtain ⟨hc2, hAl⟩ := after_does hc hc' rfl rfl hbs'
  have hwc2 : w.heap.size ≤ wc2.heap.size := hc.below.size
  have hq2 : ∀ b, Av = some (mkA b) → wc2.heap.size ≤ b ∧ b < wn2.heap.size := fun b hb => ⟨(hv'.blk hb).1, (hv'.blk hb).2.1⟩
  have hq4 : wn.heap.size ≤ wc2.heap.size := hc.size
  have hp5 : OwnF (fun b => w.heap.size ≤ b) wn2 53 2 (pb'.map mkA) _ cp' _ := ⟨pb', cur', rfl, hrow', htk', fun b hb => ⟨by
    rcases (hpb' b hb).1 with h1 | h1
    · exact (hpb b h1).1
    · exact Nat.le_trans hwc2 h1, (hpb' b hb).2⟩⟩
  replace hp5 := hp5.al2 hc2 (fun b hb => hb) rfl
  replace hom' := (hom'.weak (fun b hb => (by rcases hb with h1 | h1; exact h1; exact Nat.le_trans hwc2 h1 : w.heap.size ≤ b))).al2 hc2 (fun b hb => hb) rfl
  replace hv' := (hv'.weak (fun b hb => (Nat.le_trans hwc2 hb : w.heap.size ≤ b))).al2 hc2 (fun b hb => hb) rfl
  replace ho3 := (ho3.step (hst2.and _)).weak (fun b hb => (⟨hAl b hb.1, hb.2⟩ : _ ∧ w.heap.size ≤ b))
  replace ho4 := fun x (hx : x ∈ hs') => ((ho4 x hx).step (hst2.and _)).weak (fun b hb => (⟨hAl b hb.1, hb.2⟩ : _ ∧ w.heap.size ≤ b))
  refine ⟨_, _, hc2, ?_⟩
  clear hc2 hAl hc' hc hpb' hbs'
  refine JL.env (S := [(some b2, 28, [.slice Ap s.ps.length cp, .slice Ar s.rs.length cr, .int .i64 s.ep, .slice Am s.ms.length cm]), (some b3, 41, q.cells), (some b4, 28, [.slice none 0 0, .slice none 0 0, .int .i64 0, .slice none 0 0]), (some b5, 45, [.int .i64 0, .int .i64 0, .int .i64 0, .slice none 0 0]), (some b6, 45, [.int .i64 q.client, .int .i64 q.num, .int .i64 0, .slice none 0 0]), (some b9, 28, [.slice (pb'.map mkA) (did s.ps s.ep s.ms q.op).ps.length cp', .slice Br s.rs.length dr, .int .i64 (did s.ps s.ep s.ms q.op).ep, .slice Am' (did s.ps s.ep s.ms q.op).ms.length cm']), (none, 0, [])]) (lv := [(2, .pointer (some ⟨b2, 0, none⟩)), (3, .pointer (some ⟨b3, 0, none⟩)), (4, .pointer (some ⟨b4, 0, none⟩)), (5, .pointer (some ⟨b5, 0, none⟩)), (6, .pointer (some ⟨b6, 0, none⟩)), (7, .int .i64 (lastI s q.client : Nat)), (8, .bool (lastB s q.client)), (9, .pointer (some ⟨b9, 0, none⟩)), (70, .tuple #[.int .i64 (did s.ps s.ep s.ms q.op).code, .slice Av (did s.ps s.ep s.ms q.op).vals.length cv])]) ⟨rfl, rfl, rfl, rfl, rfl, rfl, rfl, rfl, rfl, trivial⟩ (fun E => ?_)
  refine JL.op (JO.val (y_move) rfl ?_)
  refine JL.op (JO.val (y_extract rfl rfl) rfl ?_)
  refine JL.op (JO.val (y_extract rfl rfl) rfl ?_)
  refine JL.op (JO.val (y_fieldAddr rfl rfl rfl) rfl ?_)
  refine JL.op (JO.store1 4 rfl rfl rfl rfl rfl rfl rfl ?_)
  refine JL.op (JO.val (y_fieldAddr rfl rfl rfl) rfl ?_)
  refine JL.op (JO.store1 4 rfl rfl rfl rfl rfl rfl rfl ?_)
  with_reducible refine JL.nil ?_
  refine JQ.takeN 6 ?_
  with_reducible refine JQ.seq (JC.seq ?_)
  with_reducible refine JC.region ?_
  refine JL.op (JO.val (y_ldA 4 rfl rfl rfl rfl) rfl ?_)
  refine JL.op (JO.alloc rfl rfl ?_); intro b10
  refine JL.op (JO.storeA 6 rfl rfl rfl rfl (by first | rfl | assumption) (by first | rfl | assumption) (by first | rfl | assumption) ?_)
  with_reducible refine JL.nil ?_
  with_reducible refine JQ.seq (JC.seq ?_)
  with_reducible refine JC.region ?_
  refine JL.op (JO.val (y_fieldAddr rfl rfl rfl) rfl ?_)
  refine JL.op (JO.val (y_ld 4 rfl rfl rfl rfl) rfl ?_)
  refine JL.op (JO.call _ (fun wc hc => clone_strs _ Av _ cv _ wc (SlF.step (SlF.step hv'.slF (Step.weak fun _ h => h.1) (by omega)) hc.step (by omega)) (flatMap_one fun m _ => sstr_one m) (by omega)) rfl rfl rfl ?_)
  rintro wc3 v wn3 hst3 hsz3 hfr3 hbl3 hst03 hvv
  obtain ⟨Av2, cv2, rfl, hov2⟩ := hvv.own
  have hws : w.heap.size ≤ wc3.heap.size := Nat.le_trans hwc2 (Nat.le_trans hsz2' hsz3)
  replace hp5 := hp5.step (hst3.and _)
  replace hom' := hom'.step (hst3.and _)
  replace hv' := hv'.step (hst3.and _)
  replace ho3 := ho3.step (hst3.and _)
  replace ho4 := fun x (hx : x ∈ hs') => (ho4 x hx).step (hst3.and _)
  have hq3 : ∀ b, Av2 = some (mkA b) → wc3.heap.size ≤ b := fun b hb => (hov2.blk hb).1
  have hq5 : wn2.heap.size ≤ wc3.heap.size := hsz3
  have hap1 : ∀ x ∈ hs', ∀ b, x.2.1 = some (mkA b) → Av ≠ some (mkA b) := fun x hx b hb hb2 => by have := hq1 x hx b hb; have := hq2 b hb2; omega
  have hap2 : ∀ b, Av2 = some (mkA b) → Av ≠ some (mkA b) := fun b hb hb2 => by have := hq3 b hb; have := hq2 b hb2; omega
  clear hq1 hq2 hq3 hq4 hq5
  have hov3 := hov2.weak (fun b hb => (⟨hfr3 b hb, Nat.le_trans hws hb⟩ : _ ∧ w.heap.size ≤ b))
  refine JL.op (JO.val (y_fieldAddr rfl rfl rfl) rfl ?_)
  refine JL.op (JO.store1 6 rfl rfl rfl rfl rfl rfl rfl ?_)
  with_reducible refine JL.nil ?_
  refine JQ.adoptH ho3 (fun b hb => hb) ?_
  rintro rb rcur rfl hrrow hrtk hrb
  replace hp5 := own_sep hp5 (fun b hb => (hrb b hb).2) (by decide)
  replace hom' := own_sep hom' (fun b hb => (hrb b hb).2) (by decide)
  replace hv' := own_sep hv' (fun b hb => (hrb b hb).2) (by decide)
  replace hov3 := own_sep hov3 (fun b hb => (hrb b hb).2) (by decide)
  replace ho4 := fun x (hx : x ∈ hs') => own_sep (ho4 x hx) (fun b hb => (hrb b hb).2) (by decide)
  have hrl := hrrow.len
  have hrle := hrrow.le
  have hlen2 : hs'.length = s.rs.length := by rw [← ho2]; simp
  refine JQ.env (S := [(some b2, 28, [.slice Ap s.ps.length cp, .slice Ar s.rs.length cr, .int .i64 s.ep, .slice Am s.ms.length cm]), (some b3, 41, q.cells), (some b4, 28, [.slice none 0 0, .slice none 0 0, .int .i64 0, .slice none 0 0]), (some b5, 45, [.int .i64 0, .int .i64 0, .int .i64 0, .slice none 0 0]), (some b6, 45, [.int .i64 q.client, .int .i64 q.num, .int .i64 (did s.ps s.ep s.ms q.op).code, .slice Av (did s.ps s.ep s.ms q.op).vals.length cv]), (some b9, 28, [.slice (pb'.map mkA) (did s.ps s.ep s.ms q.op).ps.length cp', .slice (rb.map mkA) s.rs.length dr, .int .i64 (did s.ps s.ep s.ms q.op).ep, .slice Am' (did s.ps s.ep s.ms q.op).ms.length cm']), (some b10, 45, rcells (⟨q.client, q.num, (did s.ps s.ep s.ms q.op).code, (did s.ps s.ep s.ms q.op).vals⟩, Av2, cv2)), (rb, 45, rcur)]) (l := [(2, .pointer (some ⟨b2, 0, none⟩)), (3, .pointer (some ⟨b3, 0, none⟩)), (4, .pointer (some ⟨b4, 0, none⟩)), (5, .pointer (some ⟨b5, 0, none⟩)), (6, .pointer (some ⟨b6, 0, none⟩)), (7, .int .i64 (lastI s q.client : Nat)), (8, .bool (lastB s q.client)), (9, .pointer (some ⟨b9, 0, none⟩)), (10, .pointer (some ⟨b10, 0, none⟩))]) ⟨rfl, rfl, rfl, rfl, rfl, rfl, rfl, rfl, rfl, trivial⟩ (fun E => ?_)
  with_reducible refine JQ.seq (JC.seq (JC.seq ?_))
  with_reducible refine JC.region ?_
  refine JL.op (JO.val (y_move) rfl ?_)
  with_reducible refine JL.nil ?_
  with_reducible refine JQ.seq ?_
  refine JC.cond (b := lastB s q.client) rfl (fun hlb => ?_) (fun hlb => ?_)
  · obtain ⟨x1, A1, c1, b, o, hx1, hx, hA, hat, hlt⟩ := hfound hlb
    have hcut : withR ⟨q.client, q.num, (did s.ps s.ep s.ms q.op).code, (did s.ps s.ep s.ms q.op).vals⟩ s.rs = s.rs.take (lastI s q.client) ++ ⟨q.client, q.num, (did s.ps s.ep s.ms q.op).code, (did s.ps s.ep s.ms q.op).vals⟩ :: s.rs.drop (lastI s q.client + 1) := by rw [withR_cut hord.rs]; exact congrArg _ (congrArg _ (if_pos hlb))
    obtain ⟨br, rfl⟩ : ∃ b, rb = some b := by
      cases rb with
      | none => have := (hrrow.nil rfl).1; omega
      | some b => exact ⟨b, rfl⟩
    with_reducible refine JC.region ?_
    refine JL.op (JO.val (y_fieldAddr rfl rfl rfl) rfl ?_)
    refine JL.op (JO.val (y_ld 5 rfl rfl rfl rfl) rfl ?_)
    refine JL.op (JO.val (y_move) rfl ?_)
    refine JL.op (JO.val (y_ldA 6 rfl rfl rfl rfl) rfl ?_)
    refine JL.op (JO.val (y_idx (b := br) (o := 0) rfl rfl rfl rfl rfl rfl hlt) rfl ?_)
    refine JL.op (JO.store 7 (vs := rcells (⟨q.client, q.num, (did s.ps s.ep s.ms q.op).code, (did s.ps s.ep s.ms q.op).vals⟩, Av2, cv2)) rfl rfl rfl rfl rfl (by rw [Nat.ble_eq, hrl]; show 0 + lastI s q.client * 4 + 4 ≤ _; omega) rfl rfl ?_)
    with_reducible refine JL.nil ?_
    with_reducible refine JQ.seq (JC.seq ?_)
    refine JC.held [4, 5] ?_
    refine JH.take 0 rfl (by kernel_rfl) (by kernel_rfl) (by kernel_rfl) (fun _ _ _ => y_ldA 5 rfl rfl rfl rfl) rfl (by repeat (first | exact np_fun | exact np_inv | refine np_seq ?_ | refine np_blk ?_ | refine np_loop ?_)) (⟨rfl, rfl, trivial⟩) ?_
    refine JH.take 1 rfl (by kernel_rfl) (by kernel_rfl) (by kernel_rfl) (fun _ _ _ => y_ldA 4 rfl rfl rfl rfl) rfl (by repeat (first | exact np_fun | exact np_inv | refine np_seq ?_ | refine np_blk ?_ | refine np_loop ?_)) (⟨rfl, rfl, trivial⟩) ?_
    refine JH.one 2 (by kernel_rfl) (JI.op rfl ?_)
    refine (JO.storeA 2 rfl rfl rfl rfl (by first | rfl | assumption) (by first | rfl | assumption) (by first | rfl | assumption) ?_)
    refine ⟨⟨rfl, rfl, trivial⟩, ?_⟩
    refine JH.one 3 (by kernel_rfl) (JI.op rfl ?_)
    refine (JO.storeA 3 rfl rfl rfl rfl (by first | rfl | assumption) (by first | rfl | assumption) (by first | rfl | assumption) ?_)
    refine ⟨⟨rfl, rfl, trivial⟩, ?_⟩
    refine JH.done (by kernel_rfl) ?_
    with_reducible refine JQ.seq (JC.ret ?_)
    refine ret_two rfl (ResV.cellA 2 rfl rfl rfl rfl) (ResV.cellA 3 rfl rfl rfl rfl) (fun w' hc => ?_)
    have hl2 : s.rs.length = (withR ⟨q.client, q.num, (did s.ps s.ep s.ms q.op).code, (did s.ps s.ep s.ms q.op).vals⟩ s.rs).length := by rw [hcut]; simp; omega
    refine ap_fin (hs := hs'.take (lastI s q.client) ++ (⟨q.client, q.num, (did s.ps s.ep s.ms q.op).code, (did s.ps s.ep s.ms q.op).vals⟩, Av2, cv2) :: hs'.drop (lastI s q.client + 1)) had hc hl2 hp5 ?_ ?_ ?_ hom' ?_ hv'
    · rw [hcut, List.map_append, List.map_cons, List.map_take, List.map_drop, ho2]
    · refine ⟨some br, splice rcur (0 + lastI s q.client * 4) (rcells (⟨q.client, q.num, (did s.ps s.ep s.ms q.op).code, (did s.ps s.ep s.ms q.op).vals⟩, Av2, cv2)), rfl, ⟨by rw [splice_len (by rw [hrl]; show 0 + lastI s q.client * 4 + 4 ≤ _; omega)]; exact hrl, hrle, hrrow.max, fun h => by cases h⟩, ?_, fun b hb => hc.own0 rfl _ (List.mem_of_getElem? (i := 7) rfl) b hb⟩
      exact set_elem hrtk rcells_len rfl hlen2.symm (by rw [hlen2]; exact hlt)
    · intro y hy
      rcases List.mem_append.1 hy with h1 | h1
      · exact ho4 y (List.mem_of_mem_take h1)
      · rcases List.mem_cons.1 h1 with h1 | h1
        · rw [h1]; exact hov3
        · exact ho4 y (List.mem_of_mem_drop h1)
    · intro y hy
      rcases List.mem_append.1 hy with h1 | h1
      · exact hap1 y (List.mem_of_mem_take h1)
      · rcases List.mem_cons.1 h1 with h1 | h1
        · rw [h1]; exact hap2
        · exact hap1 y (List.mem_of_mem_drop h1)
  · have hcut : withR ⟨q.client, q.num, (did s.ps s.ep s.ms q.op).code, (did s.ps s.ep s.ms q.op).vals⟩ s.rs = s.rs.take (lastI s q.client) ++ ⟨q.client, q.num, (did s.ps s.ep s.ms q.op).code, (did s.ps s.ep s.ms q.op).vals⟩ :: s.rs.drop (lastI s q.client) := by rw [withR_cut hord.rs]; exact congrArg _ (congrArg _ (if_neg (by intro h; rw [show lastB s q.client = true from h] at hlb; cases hlb)))
    have hple : lastI s q.client ≤ hs'.length := by rw [hlen2]; exact (bs_spec (cR_ord hord.rs)).1
    with_reducible refine JC.region ?_
    refine JL.op (JO.val (y_fieldAddr rfl rfl rfl) rfl ?_)
    refine JL.op (JO.val (y_ld 5 rfl rfl rfl rfl) rfl ?_)
    refine JL.op (JO.val (y_move) rfl ?_)
    refine JL.op (JO.val (y_ldA 6 rfl rfl rfl rfl) rfl ?_)
    refine JL.op (JO.build1 rfl rfl rfl (by first | rfl | assumption) rfl rfl ?_); intro b90
    refine JL.op (JO.ins_31 7 8 rcells (ys := hs') (y := (⟨q.client, q.num, (did s.ps s.ep s.ms q.op).code, (did s.ps s.ep s.ms q.op).vals⟩, Av2, cv2)) rfl (by rw [hlen2]; rfl) rfl rfl rfl rfl rfl (by rw [hlen2]; exact hrrow) (by rw [hlen2]; exact hrtk) rcells_len (fun x _ => rcells_one x) rfl rfl hple (by have := hsm.rs; omega) ?_)
    rintro ob' cap'' cur'' F4 w4 hrow4 htk4 hst4 hsz4
    refine JL.op (JO.val (y_fieldAddr rfl rfl rfl) rfl ?_)
    refine JL.op (JO.store1 5 rfl rfl rfl rfl rfl rfl rfl ?_)
    with_reducible refine JL.nil ?_
    with_reducible refine JQ.seq (JC.seq ?_)
    refine JC.held [4, 5] ?_
    refine JH.take 0 rfl (by kernel_rfl) (by kernel_rfl) (by kernel_rfl) (fun _ _ _ => y_ldA 5 rfl rfl rfl rfl) rfl (by repeat (first | exact np_fun | exact np_inv | refine np_seq ?_ | refine np_blk ?_ | refine np_loop ?_)) (⟨rfl, rfl, trivial⟩) ?_
    refine JH.take 1 rfl (by kernel_rfl) (by kernel_rfl) (by kernel_rfl) (fun _ _ _ => y_ldA 4 rfl rfl rfl rfl) rfl (by repeat (first | exact np_fun | exact np_inv | refine np_seq ?_ | refine np_blk ?_ | refine np_loop ?_)) (⟨rfl, rfl, trivial⟩) ?_
    refine JH.one 2 (by kernel_rfl) (JI.op rfl ?_)
    refine (JO.storeA 2 rfl rfl rfl rfl (by first | rfl | assumption) (by first | rfl | assumption) (by first | rfl | assumption) ?_)
    refine ⟨⟨rfl, rfl, trivial⟩, ?_⟩
    refine JH.one 3 (by kernel_rfl) (JI.op rfl ?_)
    refine (JO.storeA 3 rfl rfl rfl rfl (by first | rfl | assumption) (by first | rfl | assumption) (by first | rfl | assumption) ?_)
    refine ⟨⟨rfl, rfl, trivial⟩, ?_⟩
    refine JH.done (by kernel_rfl) ?_
    with_reducible refine JQ.seq (JC.ret ?_)
    refine ret_two rfl (ResV.cellA 2 rfl rfl rfl rfl) (ResV.cellA 3 rfl rfl rfl rfl) (fun w' hc => ?_)
    have hmap : (hs'.take (lastI s q.client) ++ (⟨q.client, q.num, (did s.ps s.ep s.ms q.op).code, (did s.ps s.ep s.ms q.op).vals⟩, Av2, cv2) :: hs'.drop (lastI s q.client)).map (·.1) = withR ⟨q.client, q.num, (did s.ps s.ep s.ms q.op).code, (did s.ps s.ep s.ms q.op).vals⟩ s.rs := by rw [hcut, List.map_append, List.map_cons, List.map_take, List.map_drop, ho2]
    have hl2 : (hs'.take (lastI s q.client) ++ (⟨q.client, q.num, (did s.ps s.ep s.ms q.op).code, (did s.ps s.ep s.ms q.op).vals⟩, Av2, cv2) :: hs'.drop (lastI s q.client)).length = (withR ⟨q.client, q.num, (did s.ps s.ep s.ms q.op).code, (did s.ps s.ep s.ms q.op).vals⟩ s.rs).length := by rw [← hmap, List.length_map]
    refine ap_fin (hs := hs'.take (lastI s q.client) ++ (⟨q.client, q.num, (did s.ps s.ep s.ms q.op).code, (did s.ps s.ep s.ms q.op).vals⟩, Av2, cv2) :: hs'.drop (lastI s q.client)) had hc hl2 (hp5.step (hst4.and _)) hmap ?_ ?_ (hom'.step (hst4.and _)) ?_ (hv'.step (hst4.and _))
    · exact ⟨ob', cur'', rfl, hrow4, htk4, fun b hb => hc.own0 rfl _ (List.mem_of_getElem? (i := 7) rfl) b hb⟩
    · intro y hy
      refine OwnF.step ?_ (hst4.and _)
      rcases List.mem_append.1 hy with h1 | h1
      · exact ho4 y (List.mem_of_mem_take h1)
      · rcases List.mem_cons.1 h1 with h1 | h1
        · rw [h1]; exact hov3
        · exact ho4 y (List.mem_of_mem_drop h1)
    · intro y hy
      rcases List.mem_append.1 hy with h1 | h1
      · exact hap1 y (List.mem_of_mem_take h1)
      · rcases List.mem_cons.1 h1 with h1 | h1
        · rw [h1]; exact hap2
        · exact hap1 y (List.mem_of_mem_drop h1)
end Go.Proofs.YtchnnplcpidkiaaDoor
