/- Contracts of slices.Clone at the four element types; no condition but a bound on the length. -/
import Derived.Test.YtchnnplcpidkiaaDoorD1
import Derived.Test.YtchnnplcpidkiaaDoorC1
namespace Go.Proofs.YtchnnplcpidkiaaDoor
open Go.RowKit
set_option linter.unusedSimpArgs false
set_option linter.unusedVariables false
set_option maxRecDepth 20000

/-- A row that the call has made, and that holds cs. -/
def Fresh (w w' : World) (T sz : Nat) (v : Value) (n : Nat) (cs : List Value) : Prop := ∃ ob cap cur, v = .slice (ob.map mkA) n cap ∧ Row ob n cap sz cur ∧ cur.take (n * sz) = cs ∧ ∀ b, ob = some b → w.heap.size ≤ b ∧ w'.heap[b]? = some (.cells cur.toArray T (0, 0))
theorem Fresh.step {w0 wc wn w' : World} {F F' : Nat → Prop} {T sz n : Nat} {v : Value} {cs : List Value} (h : Fresh wc wn T sz v n cs) (hle : w0.heap.size ≤ wc.heap.size) (hF : ∀ b, wc.heap.size ≤ b → F b) (hs : Step F wn F' w') : Fresh w0 w' T sz v n cs := by
  obtain ⟨ob, cap, cur, h1, h2, h3, h4⟩ := h
  refine ⟨ob, cap, cur, h1, h2, h3, fun b hb => ?_⟩
  obtain ⟨h5, h6⟩ := h4 b hb
  exact ⟨Nat.le_trans hle h5, (hs b (Array.getElem?_eq_some_iff.1 h6).1 (hF b h5)).1.trans h6⟩
/-- A row that nobody else writes: its block is one of F. -/
def OwnF (F : Nat → Prop) (w : World) (T sz : Nat) (A : Option Addr) (n cap : Nat) (cs : List Value) : Prop := ∃ ob cur, A = ob.map mkA ∧ Row ob n cap sz cur ∧ cur.take (n * sz) = cs ∧ ∀ b, ob = some b → F b ∧ w.heap[b]? = some (.cells cur.toArray T (0, 0))
theorem OwnF.step {F F' : Nat → Prop} {w w' : World} {T sz n cap : Nat} {A : Option Addr} {cs : List Value} (h : OwnF F w T sz A n cap cs) (hs : Step F w F' w') : OwnF F' w' T sz A n cap cs := by
  obtain ⟨ob, cur, h1, h2, h3, h4⟩ := h
  refine ⟨ob, cur, h1, h2, h3, fun b hb => ?_⟩
  obtain ⟨h5, h6⟩ := h4 b hb
  obtain ⟨h7, h8⟩ := hs b (Array.getElem?_eq_some_iff.1 h6).1 h5
  exact ⟨h8, h7.trans h6⟩
theorem OwnF.slF {F : Nat → Prop} {w : World} {T sz n cap : Nat} {A : Option Addr} {cs : List Value} (h : OwnF F w T sz A n cap cs) : SlF F w A n cap sz cs := by
  obtain ⟨ob, cur, rfl, h2, h3, h4⟩ := h
  exact h2.slF h3 h4
theorem Fresh.own {w w' : World} {T sz n : Nat} {v : Value} {cs : List Value} (h : Fresh w w' T sz v n cs) : ∃ A cap, v = .slice A n cap ∧ OwnF (fun b => w.heap.size ≤ b) w' T sz A n cap cs := by
  obtain ⟨ob, cap, cur, h1, h2, h3, h4⟩ := h
  exact ⟨_, _, h1, ob, cur, rfl, h2, h3, h4⟩
theorem OwnF.fresh {w w' : World} {T sz n cap : Nat} {A : Option Addr} {cs : List Value} (h : OwnF (fun b => w.heap.size ≤ b) w' T sz A n cap cs) : Fresh w w' T sz (.slice A n cap) n cs := by
  obtain ⟨ob, cur, rfl, h2, h3, h4⟩ := h
  exact ⟨ob, cap, cur, rfl, h2, h3, h4⟩
/-- Texts of replies in rows that nobody else writes. -/
def OHs (F : Nat → Prop) (w : World) (hs : List (LReply × Option Addr × Nat)) : Prop := ∀ h ∈ hs, OwnF F w 9 1 h.2.1 h.1.vals.length h.2.2 (h.1.vals.flatMap sstr)
theorem OHs.step {F F' : Nat → Prop} {w w' : World} {hs : List (LReply × Option Addr × Nat)} (h : OHs F w hs) (hst : Step F w F' w') : OHs F' w' hs := fun x hx => (h x hx).step hst
structure OState (F : Nat → Prop) (w : World) (cs : List Value) (s : LState) : Prop where
  form : ∃ Ap cp Ar cr Am cm hs, cs = [.slice Ap s.ps.length cp, .slice Ar s.rs.length cr, .int .i64 s.ep, .slice Am s.ms.length cm] ∧ OwnF F w 53 2 Ap s.ps.length cp (s.ps.flatMap LPair.cells) ∧
    hs.map (·.1) = s.rs ∧ OwnF F w 45 4 Ar s.rs.length cr (hs.flatMap rcells) ∧ OHs F w hs ∧ OwnF F w 55 34 Am s.ms.length cm (s.ms.flatMap LMember.cells)
structure OReply (F : Nat → Prop) (w : World) (cs : List Value) (r : LReply) : Prop where
  form : ∃ A cap, cs = rcells (r, A, cap) ∧ OwnF F w 9 1 A r.vals.length cap (r.vals.flatMap sstr)
theorem OState.step {F F' : Nat → Prop} {w w' : World} {cs : List Value} {s : LState} (h : OState F w cs s) (hst : Step F w F' w') : OState F' w' cs s := by
  obtain ⟨Ap, cp, Ar, cr, Am, cm, hs, h1, h2, h3, h4, h5, h6⟩ := h.form
  exact ⟨Ap, cp, Ar, cr, Am, cm, hs, h1, h2.step hst, h3, h4.step hst, h5.step hst, h6.step hst⟩
theorem OReply.step {F F' : Nat → Prop} {w w' : World} {cs : List Value} {r : LReply} (h : OReply F w cs r) (hst : Step F w F' w') : OReply F' w' cs r := by
  obtain ⟨A, cap, h1, h2⟩ := h.form
  exact ⟨A, cap, h1, h2.step hst⟩
theorem OState.reads {F : Nat → Prop} {w : World} {cs : List Value} {s : LState} (h : OState F w cs s) : RState F w cs s := by
  obtain ⟨Ap, cp, Ar, cr, Am, cm, hs, h1, h2, h3, h4, h5, h6⟩ := h.form
  exact ⟨Ap, cp, Ar, cr, Am, cm, h1, h2.slF, ⟨hs, h3, h4.slF, fun x hx => (h5 x hx).slF⟩, h6.slF⟩
theorem OReply.reads {F : Nat → Prop} {w : World} {cs : List Value} {r : LReply} (h : OReply F w cs r) : RReply F w cs r := by
  obtain ⟨A, cap, h1, h2⟩ := h.form
  exact ⟨A, cap, h1, h2.slF⟩
theorem small_max {n : Nat} (h : n ≤ 100000) : n ≤ maxLen := by unfold maxLen; omega
theorem clone_strs (F : Nat → Prop) (A : Option Addr) (n cap : Nat) (cs : List Value) (w : World) (h : SlF F w A n cap 1 cs) (h1 : ∀ u ∈ cs, u.oneCell' = true) (hn : n ≤ 100000) :
    CallsTo 30 #[.slice A n cap] w (fun v w' => Fresh w w' 9 1 v n cs) := by
  refine CallsTo.enter 8 (fun _ => True) F Tryd.func30 rfl rfl rfl rfl (by intros; first | trivial | assumption) ?_
  with_reducible refine JC.seq ?_
  with_reducible refine JC.region ?_
  refine JL.op (JO.val (y_assign) rfl ?_)
  with_reducible refine JL.nil ?_
  with_reducible refine JQ.seq (JC.seq (JC.seq ?_))
  with_reducible refine JC.region ?_
  refine JL.op (JO.val (y_move) rfl ?_)
  refine JL.op (JO.val (y_eqnil rfl rfl) rfl ?_)
  with_reducible refine JL.nil ?_
  with_reducible refine JQ.seq ?_
  cases A with
  | none =>
    refine JC.cond_true rfl ?_
    with_reducible refine JC.seq ?_
    with_reducible refine JC.region ?_
    refine JL.op (JO.val (y_assign) rfl ?_)
    with_reducible refine JL.nil ?_
    with_reducible refine JQ.seq (JC.ret (JQ.seq_ret ?_))
    refine ret_one rfl ResV.tmp (fun w' hc => ?_)
    obtain ⟨rfl, rfl⟩ := h.nil rfl
    have hcs : cs = [] := List.eq_nil_of_length_eq_zero (by have := h.len; simpa using this)
    subst hcs
    exact ⟨none, 0, [], rfl, Row.none _, rfl, fun b hb => by cases hb⟩
  | some a =>
    refine JC.cond_false rfl ?_
    with_reducible refine JC.skip (JQ.seq (JC.seq ?_))
    with_reducible refine JC.region ?_
    refine JL.op (JO.build0 rfl rfl rfl ?_); intro b5
    refine JL.op (JO.val (y_move) rfl ?_)
    refine JL.op (JO.append 0 (ob := some _) (n := 0) (cap := 0) cs rfl rfl rfl rfl rfl rfl rfl ⟨rfl, Nat.le_refl _, by simp [maxLen], fun h => by cases h⟩ h.len (fun h => by cases h) (fun w2 hc ad had j u hj => ?_) h1 (by rw [Nat.zero_add]; exact small_max hn) (by omega) ?_)
    · have hp : 0 < n := by
        have h2 := h.len
        have h3 := (List.getElem?_eq_some_iff.1 hj).1
        omega
      obtain ⟨b, o, h3, h4⟩ := h.pos hp
      have := hc.at h4 j u hj
      cases had
      cases h3
      rw [add_lit]
      exact this
    intro ob' cap' cur' hrow htk _
    refine JL.op (JO.val (y_assign) rfl ?_)
    with_reducible refine JL.nil ?_
    with_reducible refine JQ.seq (JC.ret ?_)
    refine ret_one rfl ResV.tmp (fun w' hc => ?_)
    refine ⟨ob', cap', cur', ?_, ?_, ?_, fun b hb => hc.own0 rfl _ (List.mem_cons_self ..) b hb⟩
    · exact congrArg (fun k => Value.slice (ob'.map mkA) k cap') (Nat.zero_add n)
    · simpa only [Nat.zero_add] using hrow
    · simpa using htk
theorem clone_mems (F : Nat → Prop) (A : Option Addr) (n cap : Nat) (cs : List Value) (w : World) (h : SlF F w A n cap 34 cs) (h1 : ∀ u ∈ cs, u.oneCell' = true) (hn : n ≤ 100000) :
    CallsTo 41 #[.slice A n cap] w (fun v w' => Fresh w w' 55 34 v n cs) := by
  refine CallsTo.enter 8 (fun _ => True) F Tryd.func41 rfl rfl rfl rfl (by intros; first | trivial | assumption) ?_
  with_reducible refine JC.seq ?_
  with_reducible refine JC.region ?_
  refine JL.op (JO.val (y_assign) rfl ?_)
  with_reducible refine JL.nil ?_
  with_reducible refine JQ.seq (JC.seq (JC.seq ?_))
  with_reducible refine JC.region ?_
  refine JL.op (JO.val (y_move) rfl ?_)
  refine JL.op (JO.val (y_eqnil rfl rfl) rfl ?_)
  with_reducible refine JL.nil ?_
  with_reducible refine JQ.seq ?_
  cases A with
  | none =>
    refine JC.cond_true rfl ?_
    with_reducible refine JC.seq ?_
    with_reducible refine JC.region ?_
    refine JL.op (JO.val (y_assign) rfl ?_)
    with_reducible refine JL.nil ?_
    with_reducible refine JQ.seq (JC.ret (JQ.seq_ret ?_))
    refine ret_one rfl ResV.tmp (fun w' hc => ?_)
    obtain ⟨rfl, rfl⟩ := h.nil rfl
    have hcs : cs = [] := List.eq_nil_of_length_eq_zero (by have := h.len; simpa using this)
    subst hcs
    exact ⟨none, 0, [], rfl, Row.none _, rfl, fun b hb => by cases hb⟩
  | some a =>
    refine JC.cond_false rfl ?_
    with_reducible refine JC.skip (JQ.seq (JC.seq ?_))
    with_reducible refine JC.region ?_
    refine JL.op (JO.build0 rfl rfl rfl ?_); intro b5
    refine JL.op (JO.val (y_move) rfl ?_)
    refine JL.op (JO.append 0 (ob := some _) (n := 0) (cap := 0) cs rfl rfl rfl rfl rfl rfl rfl ⟨rfl, Nat.le_refl _, by simp [maxLen], fun h => by cases h⟩ h.len (fun h => by cases h) (fun w2 hc ad had j u hj => ?_) h1 (by rw [Nat.zero_add]; exact small_max hn) (by omega) ?_)
    · have hp : 0 < n := by
        have h2 := h.len
        have h3 := (List.getElem?_eq_some_iff.1 hj).1
        omega
      obtain ⟨b, o, h3, h4⟩ := h.pos hp
      have := hc.at h4 j u hj
      cases had
      cases h3
      rw [add_lit]
      exact this
    intro ob' cap' cur' hrow htk _
    refine JL.op (JO.val (y_assign) rfl ?_)
    with_reducible refine JL.nil ?_
    with_reducible refine JQ.seq (JC.ret ?_)
    refine ret_one rfl ResV.tmp (fun w' hc => ?_)
    refine ⟨ob', cap', cur', ?_, ?_, ?_, fun b hb => hc.own0 rfl _ (List.mem_cons_self ..) b hb⟩
    · exact congrArg (fun k => Value.slice (ob'.map mkA) k cap') (Nat.zero_add n)
    · simpa only [Nat.zero_add] using hrow
    · simpa using htk
theorem clone_pairs (F : Nat → Prop) (A : Option Addr) (n cap : Nat) (cs : List Value) (w : World) (h : SlF F w A n cap 2 cs) (h1 : ∀ u ∈ cs, u.oneCell' = true) (hn : n ≤ 100000) :
    CallsTo 44 #[.slice A n cap] w (fun v w' => Fresh w w' 53 2 v n cs) := by
  refine CallsTo.enter 8 (fun _ => True) F Tryd.func44 rfl rfl rfl rfl (by intros; first | trivial | assumption) ?_
  with_reducible refine JC.seq ?_
  with_reducible refine JC.region ?_
  refine JL.op (JO.val (y_assign) rfl ?_)
  with_reducible refine JL.nil ?_
  with_reducible refine JQ.seq (JC.seq (JC.seq ?_))
  with_reducible refine JC.region ?_
  refine JL.op (JO.val (y_move) rfl ?_)
  refine JL.op (JO.val (y_eqnil rfl rfl) rfl ?_)
  with_reducible refine JL.nil ?_
  with_reducible refine JQ.seq ?_
  cases A with
  | none =>
    refine JC.cond_true rfl ?_
    with_reducible refine JC.seq ?_
    with_reducible refine JC.region ?_
    refine JL.op (JO.val (y_assign) rfl ?_)
    with_reducible refine JL.nil ?_
    with_reducible refine JQ.seq (JC.ret (JQ.seq_ret ?_))
    refine ret_one rfl ResV.tmp (fun w' hc => ?_)
    obtain ⟨rfl, rfl⟩ := h.nil rfl
    have hcs : cs = [] := List.eq_nil_of_length_eq_zero (by have := h.len; simpa using this)
    subst hcs
    exact ⟨none, 0, [], rfl, Row.none _, rfl, fun b hb => by cases hb⟩
  | some a =>
    refine JC.cond_false rfl ?_
    with_reducible refine JC.skip (JQ.seq (JC.seq ?_))
    with_reducible refine JC.region ?_
    refine JL.op (JO.build0 rfl rfl rfl ?_); intro b5
    refine JL.op (JO.val (y_move) rfl ?_)
    refine JL.op (JO.append 0 (ob := some _) (n := 0) (cap := 0) cs rfl rfl rfl rfl rfl rfl rfl ⟨rfl, Nat.le_refl _, by simp [maxLen], fun h => by cases h⟩ h.len (fun h => by cases h) (fun w2 hc ad had j u hj => ?_) h1 (by rw [Nat.zero_add]; exact small_max hn) (by omega) ?_)
    · have hp : 0 < n := by
        have h2 := h.len
        have h3 := (List.getElem?_eq_some_iff.1 hj).1
        omega
      obtain ⟨b, o, h3, h4⟩ := h.pos hp
      have := hc.at h4 j u hj
      cases had
      cases h3
      rw [add_lit]
      exact this
    intro ob' cap' cur' hrow htk _
    refine JL.op (JO.val (y_assign) rfl ?_)
    with_reducible refine JL.nil ?_
    with_reducible refine JQ.seq (JC.ret ?_)
    refine ret_one rfl ResV.tmp (fun w' hc => ?_)
    refine ⟨ob', cap', cur', ?_, ?_, ?_, fun b hb => hc.own0 rfl _ (List.mem_cons_self ..) b hb⟩
    · exact congrArg (fun k => Value.slice (ob'.map mkA) k cap') (Nat.zero_add n)
    · simpa only [Nat.zero_add] using hrow
    · simpa using htk
theorem clone_evs (F : Nat → Prop) (A : Option Addr) (n cap : Nat) (cs : List Value) (w : World) (h : SlF F w A n cap 48 cs) (h1 : ∀ u ∈ cs, u.oneCell' = true) (hn : n ≤ 100000) :
    CallsTo 66 #[.slice A n cap] w (fun v w' => Fresh w w' 90 48 v n cs) := by
  refine CallsTo.enter 8 (fun _ => True) F Tryd.func66 rfl rfl rfl rfl (by intros; first | trivial | assumption) ?_
  with_reducible refine JC.seq ?_
  with_reducible refine JC.region ?_
  refine JL.op (JO.val (y_assign) rfl ?_)
  with_reducible refine JL.nil ?_
  with_reducible refine JQ.seq (JC.seq (JC.seq ?_))
  with_reducible refine JC.region ?_
  refine JL.op (JO.val (y_move) rfl ?_)
  refine JL.op (JO.val (y_eqnil rfl rfl) rfl ?_)
  with_reducible refine JL.nil ?_
  with_reducible refine JQ.seq ?_
  cases A with
  | none =>
    refine JC.cond_true rfl ?_
    with_reducible refine JC.seq ?_
    with_reducible refine JC.region ?_
    refine JL.op (JO.val (y_assign) rfl ?_)
    with_reducible refine JL.nil ?_
    with_reducible refine JQ.seq (JC.ret (JQ.seq_ret ?_))
    refine ret_one rfl ResV.tmp (fun w' hc => ?_)
    obtain ⟨rfl, rfl⟩ := h.nil rfl
    have hcs : cs = [] := List.eq_nil_of_length_eq_zero (by have := h.len; simpa using this)
    subst hcs
    exact ⟨none, 0, [], rfl, Row.none _, rfl, fun b hb => by cases hb⟩
  | some a =>
    refine JC.cond_false rfl ?_
    with_reducible refine JC.skip (JQ.seq (JC.seq ?_))
    with_reducible refine JC.region ?_
    refine JL.op (JO.build0 rfl rfl rfl ?_); intro b5
    refine JL.op (JO.val (y_move) rfl ?_)
    refine JL.op (JO.append 0 (ob := some _) (n := 0) (cap := 0) cs rfl rfl rfl rfl rfl rfl rfl ⟨rfl, Nat.le_refl _, by simp [maxLen], fun h => by cases h⟩ h.len (fun h => by cases h) (fun w2 hc ad had j u hj => ?_) h1 (by rw [Nat.zero_add]; exact small_max hn) (by omega) ?_)
    · have hp : 0 < n := by
        have h2 := h.len
        have h3 := (List.getElem?_eq_some_iff.1 hj).1
        omega
      obtain ⟨b, o, h3, h4⟩ := h.pos hp
      have := hc.at h4 j u hj
      cases had
      cases h3
      rw [add_lit]
      exact this
    intro ob' cap' cur' hrow htk _
    refine JL.op (JO.val (y_assign) rfl ?_)
    with_reducible refine JL.nil ?_
    with_reducible refine JQ.seq (JC.ret ?_)
    refine ret_one rfl ResV.tmp (fun w' hc => ?_)
    refine ⟨ob', cap', cur', ?_, ?_, ?_, fun b hb => hc.own0 rfl _ (List.mem_cons_self ..) b hb⟩
    · exact congrArg (fun k => Value.slice (ob'.map mkA) k cap') (Nat.zero_add n)
    · simpa only [Nat.zero_add] using hrow
    · simpa using htk
end Go.Proofs.YtchnnplcpidkiaaDoor
