/- Contracts of the reference, Place and Check, and OrderChecks walked; conditions: the bounds and forms that each theorem names (P9, C33, P10, C34, C35, put together). -/
import Derived.Test.YtchnnplcpidkiaaDoorX2
import Derived.Test.YtchnnplcpidkiaaDoorX4
namespace Go.Proofs.YtchnnplcpidkiaaDoor
open Go.RowKit Go.Lib
set_option linter.unusedSimpArgs false
set_option linter.unusedVariables false
set_option maxRecDepth 20000

theorem goW_in {α : Type} {stop keep : α → Bool} {x : α} : ∀ {l : List α}, x ∈ goW stop keep x l false
  | [] => by simp [goW]
  | y :: l => by
    unfold goW
    cases hs : stop y with
    | true => simp
    | false => simp [goW_in (l := l)]
theorem goW_kept {α : Type} {stop keep : α → Bool} {x z : α} : ∀ {l : List α} {done : Bool}, z ∈ l → keep z = true → z ∈ goW stop keep x l done
  | y :: l, done, h, hk => by
    unfold goW
    rcases List.mem_cons.1 h with rfl | h
    · simp [hk]
    · exact List.mem_append_right _ (List.mem_append_right _ (goW_kept h hk))
theorem idx_in {α : Type} {p : α → Bool} {l : List α} {z : α} (h : z ∈ l) (hp : p z = true) : ∃ i, idx p l = some i := idx_some.2 (List.any_eq_true.2 ⟨z, h, hp⟩)
theorem ord_one {rs : List LReply} (h : OrdR rs) {a b : LReply} (ha : a ∈ rs) (hb : b ∈ rs) (hc : a.client = b.client) : a = b := by
  obtain ⟨i, hi, ei⟩ := List.getElem_of_mem ha
  obtain ⟨j, hj, ej⟩ := List.getElem_of_mem hb
  rcases Nat.lt_trichotomy i j with hlt | rfl | hlt
  · have := List.pairwise_iff_getElem.1 h i j hi hj hlt
    rw [ei, ej] at this; omega
  · rw [← ei, ej]
  · have := List.pairwise_iff_getElem.1 h j i hj hi hlt
    rw [ei, ej] at this; omega
def HasN (s : LState) (c n : Int) : Prop := ∃ r ∈ s.rs, r.client = c ∧ n ≤ r.num
theorem runs_good {s : LState} {q : LReq} (h : runsB s q = true) : goodB q = true := by
  unfold runsB at h
  simp only [Bool.and_eq_true] at h
  exact h.1
theorem runs_num {s : LState} {q : LReq} (ho : Ord s) (h : runsB s q = true) : ∀ r ∈ s.rs, r.client = q.client → r.num < q.num := by
  intro r hr hc
  obtain ⟨i, hi⟩ := idx_in (p := fun r : LReply => decide (r.client = q.client)) hr (by simpa using hc)
  have h2 := lastB_has (c := q.client) ho.rs
  rw [hi] at h2
  split at h2
  · rename_i hb
    cases h2
    obtain ⟨x, hx, hxc⟩ := idx_at hi
    have he := ord_one ho.rs hr (List.mem_of_getElem? hx) (by simp at hxc; omega)
    subst he
    have hb' : lastB s q.client = true := hb
    have hx' : s.rs[lastI s q.client]? = some r := hx
    unfold runsB at h
    rw [hb', hx'] at h
    simp at h
    exact h.2
  · cases h2
theorem done_has {s : LState} {q : LReq} : HasN (doneD s q).1 q.client q.num := ⟨_, goW_in, rfl, Int.le_refl _⟩
theorem apply_runs {s : LState} {q : LReq} (ho : Ord s) (h : runsB s q = true) : HasN (applyD s q).1 q.client q.num := by
  have hn := runs_num ho h
  unfold applyD
  rw [if_neg (by rw [runs_good h]; simp)]
  cases hi : idx (fun r : LReply => decide (r.client = q.client)) s.rs with
  | none => exact done_has
  | some i =>
    obtain ⟨x, hx, hxc⟩ := idx_at hi
    have := hn x (List.mem_of_getElem? hx) (by simpa using hxc)
    simp only [hx]
    rw [if_neg (by omega), if_neg (by omega)]
    exact done_has
theorem done_keeps {s : LState} {q : LReq} {c n : Int} (h : HasN s c n) (h2 : c = q.client → n ≤ q.num) : HasN (doneD s q).1 c n := by
  obtain ⟨r, hr, hc, hn⟩ := h
  by_cases he : c = q.client
  · exact ⟨_, goW_in, he.symm, h2 he⟩
  · exact ⟨r, goW_kept hr (by simp; omega), hc, hn⟩
theorem apply_keeps {s : LState} {q : LReq} {c n : Int} (ho : Ord s) (h : HasN s c n) : HasN (applyD s q).1 c n := by
  unfold applyD
  by_cases hg : goodB q = false
  · rw [if_pos hg]; exact h
  rw [if_neg hg]
  cases hi : idx (fun r : LReply => decide (r.client = q.client)) s.rs with
  | none =>
    refine done_keeps h fun he => ?_
    obtain ⟨r, hr, hc, hn⟩ := h
    obtain ⟨i, hi2⟩ := idx_in (p := fun r : LReply => decide (r.client = q.client)) hr (by simp; omega)
    rw [hi] at hi2; cases hi2
  | some i =>
    obtain ⟨x, hx, hxc⟩ := idx_at hi
    simp only [hx]
    by_cases h1 : q.num = x.num
    · rw [if_pos h1]; exact h
    rw [if_neg h1]
    by_cases h2 : q.num < x.num
    · rw [if_pos h2]; exact h
    rw [if_neg h2]
    refine done_keeps h fun he => ?_
    obtain ⟨r, hr, hc, hn⟩ := h
    have := ord_one ho.rs hr (List.mem_of_getElem? hx) (by simp at hxc; omega)
    subst this
    omega
theorem has_not {s : LState} {q : LReq} {c n : Int} (ho : Ord s) (h : HasN s c n) (hr : runsB s q = true) : ¬ (q.client, q.num) = (c, n) := fun e => by
  obtain ⟨r, h1, h2, h3⟩ := h
  have e1 : q.client = c := congrArg Prod.fst e
  have e2 : q.num = n := congrArg Prod.snd e
  have := runs_num ho hr r h1 (by omega)
  omega
theorem runL_not {qs : List LReq} {c n : Int} : ∀ {s : LState} {i : Nat}, Ord s → HasN s c n → ∀ x ∈ runL s qs i, ¬ x.1 = (c, n) := by
  induction qs with
  | nil => intro s i ho h x hx; cases hx
  | cons q qs ih =>
    intro s i ho h x hx
    rcases List.mem_append.1 hx with hx | hx
    · split at hx
      · rename_i hr
        rw [List.mem_singleton.1 hx]
        exact has_not ho h hr
      · cases hx
    · exact ih (applyD_ord ho) (apply_keeps ho h) x hx
theorem runL_once {qs : List LReq} : ∀ {s : LState} {i : Nat}, Ord s → (runL s qs i).Pairwise (fun a b => a.1 ≠ b.1) := by
  induction qs with
  | nil => intro s i ho; exact List.Pairwise.nil
  | cons q qs ih =>
    intro s i ho
    refine List.pairwise_append.2 ⟨?_, ih (applyD_ord ho), fun a ha b hb => ?_⟩
    · split
      · exact List.pairwise_singleton _ _
      · exact List.Pairwise.nil
    · split at ha
      · rename_i hr
        rw [List.mem_singleton.1 ha]
        exact fun e => runL_not (applyD_ord ho) (apply_runs ho hr) b hb e.symm
      · cases ha
/-- The first that ran under this name. -/
def fndF (l : List ((Int × Int) × Nat × LReply)) (k : Int × Int) : Option (Nat × LReply) := (l.find? (fun x => decide (x.1 = k))).map (·.2)
theorem fnd_first {l : List ((Int × Int) × Nat × LReply)} {k : Int × Int} (h : l.Pairwise (fun a b => a.1 ≠ b.1)) : fnd l k = fndF l k := by
  unfold fnd fndF
  congr 1
  induction l with
  | nil => rfl
  | cons x l ih =>
    obtain ⟨h1, h2⟩ := List.pairwise_cons.1 h
    rw [List.reverse_cons, List.find?_append, ih h2, List.find?_cons]
    by_cases he : x.1 = k
    · have : l.find? (fun x => decide (x.1 = k)) = none := List.find?_eq_none.2 fun y hy => by
        have := h1 y hy
        rw [he] at this
        simpa using fun e => this e.symm
      rw [this]
      simp [he]
    · simp only [he, decide_false, List.find?_cons, List.find?_nil]
      cases l.find? (fun x => decide (x.1 = k)) <;> rfl
theorem runL_append {qs rs : List LReq} : ∀ {s : LState} {i : Nat}, runL s (qs ++ rs) i = runL s qs i ++ runL (allD s qs) rs (i + qs.length) := by
  induction qs with
  | nil => intro s i; simp [runL, allD]
  | cons p qs ih =>
    intro s i
    simp only [List.cons_append, runL, ih, allD, List.length_cons, List.append_assoc]
    rw [show i + 1 + qs.length = i + (qs.length + 1) by omega]
/-- Where the first stands; -1: nowhere. -/
def placeJ (l : List ((Int × Int) × Nat × LReply)) (k : Int × Int) : Int := match fndF l k with
  | some (i, _) => (i : Int)
  | none => -1
theorem fndF_here {s : LState} {qs : List LReq} {k : Nat} {y : LReq} {nm : Int × Int} (hy : qs[k]? = some y) (hno : ∀ x ∈ runL s (qs.take k) 0, ¬ x.1 = nm) (hr : runsB (allD s (qs.take k)) y = true) (he : (y.client, y.num) = nm) :
    fndF (runL s qs 0) nm = some (k, (applyD (allD s (qs.take k)) y).2) := by
  have hlt : k < qs.length := (List.getElem?_eq_some_iff.1 hy).1
  have h1 : qs = qs.take k ++ y :: qs.drop (k + 1) := by
    have h2 : qs.drop k = y :: qs.drop (k + 1) := by
      rw [List.drop_eq_getElem_cons hlt, (List.getElem?_eq_some_iff.1 hy).2]
    rw [← h2, List.take_append_drop]
  have h3 : runL s qs 0 = runL s (qs.take k) 0 ++ ((y.client, y.num), k, (applyD (allD s (qs.take k)) y).2) :: runL (applyD (allD s (qs.take k)) y).1 (qs.drop (k + 1)) (k + 1) := by
    conv => lhs; rw [h1]
    rw [runL_append, runL, if_pos hr, List.length_take, Nat.min_eq_left (Nat.le_of_lt hlt), Nat.zero_add]
    rfl
  unfold fndF
  rw [h3, List.find?_append, List.find?_eq_none.2 (fun x hx => by simpa using hno x hx), List.find?_cons]
  simp [he]
theorem fndF_none {l : List ((Int × Int) × Nat × LReply)} {nm : Int × Int} (h : ∀ x ∈ l, ¬ x.1 = nm) : fndF l nm = none := by
  unfold fndF
  rw [List.find?_eq_none.2 (fun x hx => by simpa using h x hx)]
  rfl
theorem runs_idx {s : LState} {q : LReq} (ho : Ord s) : runsB s q = (goodB q && (match idx (fun r : LReply => decide (r.client = q.client)) s.rs with | none => true | some i => decide (((s.rs[i]?).map (·.num)).getD 0 < q.num))) := by
  rw [lastB_has (c := q.client) ho.rs]
  unfold runsB
  by_cases hb : lastB s q.client = true
  · have hb' : bsB (cR q.client) s.rs = true := hb
    rw [hb, if_pos hb']
    rfl
  · have hb' : ¬ bsB (cR q.client) s.rs = true := hb
    have hb2 : lastB s q.client = false := by simpa using hb
    rw [hb2, if_neg hb']
    rfl
end Go.Proofs.YtchnnplcpidkiaaDoor
namespace Go.Proofs.YtchnnplcpidkiaaDoor
open Go.RowKit Go.Lib
set_option linter.unusedSimpArgs false
set_option linter.unusedVariables false
set_option maxRecDepth 20000
set_option maxHeartbeats 32000000

theorem place_any (F : Nat → Prop) (cs : List Value) (s : LState) (Aq : Option Addr) (cq : Nat) (qs : List LReq) (c n : Int) (w : World) (h : RState F w cs s) (hq : RReqs F w Aq cq qs) (hqw : ∀ q ∈ qs, q.wf) (hfit : Fit 0 s) (hnq : qs.length ≤ 20) (htab : Tab F w) :
    CallsTo 38 #[.agg cs.toArray, .slice Aq qs.length cq, .int .i64 c, .int .i64 n] w (fun v w' => ∃ r A cap, v = .tuple #[.int .i64 (placeJ (runL s qs 0) (c, n)), .agg (rcells (r, A, cap)).toArray] ∧ ∀ i r0, fndF (runL s qs 0) (c, n) = some (i, r0) → r = r0 ∧ RStrs (fun b => F b ∨ w.heap.size ≤ b) w' A cap r0.vals) := by
  have hRS := h
  obtain ⟨Ap, cp, Ar, cr, Am, cm, rfl, hp, hr, hm⟩ := h.form
  refine CallsTo.enter 68 F F Tryd.func38 rfl rfl rfl rfl (by intros; first | trivial | assumption) ?_
  with_reducible refine JC.seq ?_
  with_reducible refine JC.region ?_
  refine JL.op (JO.box rfl rfl ?_); intro b4
  refine JL.op (JO.val (y_assign) rfl ?_)
  refine JL.op (JO.alloc rfl rfl ?_); intro b9
  with_reducible refine JL.nil ?_
  with_reducible refine JQ.seq (JC.seq ?_)
  with_reducible refine JC.region ?_
  refine JL.op (JO.val (y_ldA 0 rfl rfl rfl rfl) rfl ?_)
  refine JL.op (JO.alloc rfl rfl ?_); intro b10
  refine JL.op (JO.storeA 2 rfl rfl rfl rfl (by first | rfl | assumption) (by first | rfl | assumption) (by first | rfl | assumption) ?_)
  with_reducible refine JL.nil ?_
  with_reducible refine JQ.seq (JC.seq (JC.seq ?_))
  with_reducible refine JC.region ?_
  refine JL.op (JO.val (y_move) rfl ?_)
  refine JL.op (JO.val (y_len rfl rfl) rfl ?_)
  refine JL.op (JO.val (y_move) rfl ?_)
  with_reducible refine JL.nil ?_
  with_reducible refine JQ.seq (JC.block ?_)
  refine JC.loop (fun m E S F' w1' => ∃ (k : Nat) (cs' : List Value), m = qs.length - k ∧ k ≤ qs.length ∧ RState F' w1' cs' (allD s (qs.take k)) ∧ (∀ x ∈ runL s (qs.take k) 0, ¬ x.1 = (c, n)) ∧ S = [(some b4, 28, [.slice Ap s.ps.length cp, .slice Ar s.rs.length cr, .int .i64 s.ep, .slice Am s.ms.length cm]), (some b9, 45, [.int .i64 0, .int .i64 0, .int .i64 0, .slice none 0 0]), (some b10, 28, cs')] ∧ Step F w F' w1' ∧ w.heap.size ≤ w1'.heap.size ∧ Has E [(1, .slice Aq qs.length cq), (2, .int .i64 c), (3, .int .i64 n), (9, .pointer (some ⟨b9, 0, none⟩)), (10, .pointer (some ⟨b10, 0, none⟩)), (17, .slice Aq qs.length cq), (18, .int .i64 (qs.length : Nat)), (19, .int .i64 (k : Nat))])
    _ ⟨0, _, rfl, Nat.zero_le _, hRS, (fun x hx => by cases hx), rfl, (fun k hk hF => ⟨rfl, hF⟩), Nat.le_refl _, ⟨rfl, rfl, rfl, rfl, rfl, rfl, rfl, rfl, trivial⟩⟩ ?_
  rintro m E S F' w1' ⟨k, cs', rfl, hk, hrs, hno, rfl, hst, hsw, hE⟩
  refine JC.env hE (fun E => ?_)
  clear hE
  have hfk : Fit 20 (allD s (qs.take k)) := (hfit.all (fun q hq => hqw q (List.mem_of_mem_take hq))).mono (by rw [List.length_take]; omega)
  with_reducible refine JC.seq ?_
  with_reducible refine JC.region ?_
  refine JL.op (JO.val (y_lss rfl rfl) rfl ?_)
  with_reducible refine JL.nil ?_
  with_reducible refine JQ.seq (JC.seq ?_)
  by_cases hlt : k < qs.length
  · have hd : decide ((k : Int) < (qs.length : Int)) = true := by simpa using hlt
    refine JC.cond_true (congrArg Value.bool hd) ?_
    obtain ⟨y, hy⟩ : ∃ y, qs[k]? = some y := ⟨qs[k], by simp [hlt]⟩
    have hyw := hqw y (List.mem_of_getElem? hy)
    have hyl := LReq.len_cells hyw
    have hy1 := LReq.all1 hyw
    have hsm := hfk.size.small (by omega)
    obtain ⟨b, o, hA, hat⟩ := SlF.elem (hq.step hst) (fun q hq => LReq.len_cells (hqw q hq)) rfl hy
    have hrun := runL_snoc (s := s) (qs := qs.take k) (q := y) (i := 0)
    rw [← take_snoc hy, List.length_take, Nat.zero_add, Nat.min_eq_left hk] at hrun
    have hnext : allD s (qs.take (k + 1)) = (applyD (allD s (qs.take k)) y).1 := by rw [take_snoc hy, allD_snoc]
    have hhere : runsB (allD s (qs.take k)) y = true → (y.client, y.num) = (c, n) → fndF (runL s qs 0) (c, n) = some (k, (applyD (allD s (qs.take k)) y).2) := fun h1 h2 => fndF_here hy hno h1 h2
    have hri := runs_idx (q := y) hfk.ord
    generalize allD s (qs.take k) = σ at *
    obtain ⟨Ap2, cp2, Ar2, cr2, Am2, cm2, rfl, hp2, ⟨hs2, hhs, hrow, hvals⟩, hm2⟩ := hrs.form
    have hlen : hs2.length = σ.rs.length := by rw [← hhs]; simp
    obtain ⟨pv, hpl, hpv⟩ : ∃ pv : Int, placeI (idx (fun r : LReply => decide (r.client = y.client)) σ.rs) = pv ∧ ((idx (fun r : LReply => decide (r.client = y.client)) σ.rs = none ∧ pv = -1) ∨ (∃ i, idx (fun r : LReply => decide (r.client = y.client)) σ.rs = some i ∧ pv = (i : Nat))) := by
      cases hi : idx (fun r : LReply => decide (r.client = y.client)) σ.rs with
      | none => exact ⟨-1, rfl, .inl ⟨rfl, rfl⟩⟩
      | some i => exact ⟨(i : Int), rfl, .inr ⟨i, rfl, rfl⟩⟩
    have hnew : decide (pv < 0) = true → runsB σ y = goodB y := fun hpos => by
      rcases hpv with h1 | ⟨i, h1, h2⟩
      · rw [hri, h1.1]; simp
      · rw [h2] at hpos; simp at hpos; omega
    have hfound : decide (pv < 0) = false → ∃ i x1 A1 c1 b o, pv = ((i : Nat) : Int) ∧ runsB σ y = (goodB y && decide (x1.num < y.num)) ∧ Ar2 = some ⟨b, o, none⟩ ∧ At F' w1' b (o + i * 4) (rcells (x1, A1, c1)) ∧ i < σ.rs.length := fun hpos => by
      rcases hpv with h1 | ⟨i, h1, h2⟩
      · rw [h1.2] at hpos; exact absurd hpos (by decide)
      · obtain ⟨r, hx, _⟩ := idx_at h1
        obtain ⟨⟨x1, A1, c1⟩, hx1, rfl⟩ := map_at hhs hx
        obtain ⟨b, o, hA, hat⟩ := SlF.elem hrow rcells_len hlen.symm hx1
        exact ⟨i, x1, A1, c1, b, o, h2, by rw [hri, h1]; simp only [hx]; rfl, hA, hat, (List.getElem?_eq_some_iff.1 hx).1⟩
    with_reducible refine JC.skip (JQ.seq (JC.seq (JC.block (JC.seq ?_))))
    with_reducible refine JC.region ?_
    refine JL.op (JO.val (y_move) rfl ?_)
    refine JL.op (JO.val (y_idx (b := b) (o := o) rfl rfl rfl rfl hA rfl hlt) rfl ?_)
    refine JL.op (JO.val (y_lddA rfl rfl hat (by first | rfl | assumption)) rfl ?_)
    refine JL.op (JO.alloc rfl rfl ?_); intro b12
    refine JL.op (JO.val (y_assign) rfl ?_)
    refine JL.op (JO.storeA 3 rfl rfl rfl rfl (by first | rfl | assumption) (by first | rfl | assumption) (by first | rfl | assumption) ?_)
    with_reducible refine JL.nil ?_
    with_reducible refine JQ.seq (JC.seq ?_)
    with_reducible refine JC.region ?_
    refine JL.op (JO.val (y_ldA 2 rfl rfl rfl rfl) rfl ?_)
    refine JL.op (JO.val (y_fieldAddr rfl rfl rfl) rfl ?_)
    refine JL.op (JO.val (y_ld 3 rfl rfl rfl rfl) rfl ?_)
    refine JL.op (JO.callv (fun wc hc => hpl ▸ lastR_any _ _ _ y.client wc (hrs.step hc.step) hsm) rfl rfl rfl ?_)
    refine JL.op (JO.val (y_assign) rfl ?_)
    with_reducible refine JL.nil ?_
    with_reducible refine JQ.seq (JC.seq ?_)
    refine JC.cutS [(1, .slice Aq qs.length cq), (2, .int .i64 c), (3, .int .i64 n), (9, .pointer (some ⟨b9, 0, none⟩)), (10, .pointer (some ⟨b10, 0, none⟩)), (17, .slice Aq qs.length cq), (18, .int .i64 (qs.length : Nat)), (19, .int .i64 (k : Nat)), (11, .int .i64 (k : Nat)), (12, .pointer (some ⟨b12, 0, none⟩)), (13, .int .i64 pv), (14, .bool (runsB σ y))] ?_ (fun E => ?_)
    · refine JC.quiet (by kernel_rfl) ?_
      refine JT.val (y_ldA 3 rfl rfl rfl (by first | rfl | assumption)) rfl ?_
      refine JT.callv (fun wc hc => good9_any y hyw wc) rfl rfl rfl ⟨_, Tryd.func32, rfl, rfl⟩ ?_
      refine JT.val (y_move) rfl ?_
      refine JT.split (d := 30) rfl (fun hg2 => ?_) (fun hg2 => ?_)
      · refine JT.val_do rfl rfl (congrArg Value.bool hg2) (y_move) rfl ?_
        refine JT.val_do rfl rfl (congrArg Value.bool hg2) (y_lss rfl rfl) rfl ?_
        refine JT.val_do rfl rfl (congrArg Value.bool hg2) (y_move) rfl ?_
        refine JT.split (d := 33) rfl (fun hg5 => ?_) (fun hg5 => ?_)
        · refine JT.skip rfl rfl (congrArg Value.bool hg5) rfl ?_
          refine JT.skip rfl rfl (congrArg Value.bool hg5) rfl ?_
          refine JT.skip rfl rfl (congrArg Value.bool hg5) rfl ?_
          refine JT.skip rfl rfl (congrArg Value.bool hg5) rfl ?_
          refine JT.skip rfl rfl (congrArg Value.bool hg5) rfl ?_
          refine JT.skip rfl rfl (congrArg Value.bool hg5) rfl ?_
          refine JT.skip rfl rfl (congrArg Value.bool hg5) rfl ?_
          refine JT.skip rfl rfl (congrArg Value.bool hg5) rfl ?_
          refine JT.skip rfl rfl (congrArg Value.bool hg5) rfl ?_
          refine JT.val_do rfl rfl (congrArg Value.bool hg2) (y_pick (congrArg Value.bool hg5)) rfl ?_
          refine JT.val (y_pick (congrArg Value.bool hg2)) rfl ?_
          refine JT.val (y_assign) rfl ?_
          refine JT.nil ?_
          exact JQ.has ⟨rfl, rfl, rfl, rfl, rfl, rfl, rfl, rfl, rfl, rfl, rfl, congrArg Value.bool (by first | (rw [hrB, hg2]; simp; done) | (rw [hnew hg5, hg2]; done) | (rw [runsB_no hg2]; done)), trivial⟩ (fun _ h => h)
        · refine JT.val_do rfl rfl (congrArg Value.bool hg5) (y_fieldAddr rfl rfl rfl) rfl ?_
          refine JT.val_do rfl rfl (congrArg Value.bool hg5) (y_ld 2 rfl rfl rfl rfl) rfl ?_
          refine JT.val_do rfl rfl (congrArg Value.bool hg5) (y_move) rfl ?_
          obtain ⟨i, x1, A1, c1, b', o', hpe, hrB, hA', hat', hlt'⟩ := hfound hg5
          refine JT.val_do rfl rfl (congrArg Value.bool hg5) (y_idx (b := b') (o := o') (j := i) rfl rfl rfl rfl hA' hpe hlt') rfl ?_
          refine JT.val_do rfl rfl (congrArg Value.bool hg5) (y_fieldAddr rfl rfl rfl) rfl ?_
          refine JT.val_do rfl rfl (congrArg Value.bool hg5) (y_ldd rfl rfl (At.cell1 (j := 1) hat' rfl)) rfl ?_
          refine JT.val_do rfl rfl (congrArg Value.bool hg5) (y_fieldAddr rfl rfl rfl) rfl ?_
          refine JT.val_do rfl rfl (congrArg Value.bool hg5) (y_ld 3 rfl rfl rfl rfl) rfl ?_
          refine JT.val_do rfl rfl (congrArg Value.bool hg5) (y_lss rfl rfl) rfl ?_
          refine JT.val_do rfl rfl (congrArg Value.bool hg2) (y_pick (congrArg Value.bool hg5)) rfl ?_
          refine JT.val (y_pick (congrArg Value.bool hg2)) rfl ?_
          refine JT.val (y_assign) rfl ?_
          refine JT.nil ?_
          exact JQ.has ⟨rfl, rfl, rfl, rfl, rfl, rfl, rfl, rfl, rfl, rfl, rfl, congrArg Value.bool (by first | (rw [hrB, hg2]; simp; done) | (rw [hnew hg5, hg2]; done) | (rw [runsB_no hg2]; done)), trivial⟩ (fun _ h => h)
      · refine JT.skip rfl rfl (congrArg Value.bool hg2) rfl ?_
        refine JT.skip rfl rfl (congrArg Value.bool hg2) rfl ?_
        refine JT.skip rfl rfl (congrArg Value.bool hg2) rfl ?_
        refine JT.skipU rfl rfl rfl rfl ?_
        refine JT.skipU rfl rfl rfl rfl ?_
        refine JT.skipU rfl rfl rfl rfl ?_
        refine JT.skipU rfl rfl rfl rfl ?_
        refine JT.skipU rfl rfl rfl rfl ?_
        refine JT.skipU rfl rfl rfl rfl ?_
        refine JT.skipU rfl rfl rfl rfl ?_
        refine JT.skipU rfl rfl rfl rfl ?_
        refine JT.skipU rfl rfl rfl rfl ?_
        refine JT.skip rfl rfl (congrArg Value.bool hg2) rfl ?_
        refine JT.val (y_pick (congrArg Value.bool hg2)) rfl ?_
        refine JT.val (y_assign) rfl ?_
        refine JT.nil ?_
        exact JQ.has ⟨rfl, rfl, rfl, rfl, rfl, rfl, rfl, rfl, rfl, rfl, rfl, congrArg Value.bool (by first | (rw [hrB, hg2]; simp; done) | (rw [hnew hg5, hg2]; done) | (rw [runsB_no hg2]; done)), trivial⟩ (fun _ h => h)
    with_reducible refine JQ.seq (JC.seq ?_)
    with_reducible refine JC.region ?_
    refine JL.op (JO.alloc rfl rfl ?_); intro b15
    with_reducible refine JL.nil ?_
    with_reducible refine JQ.seq (JC.seq ?_)
    with_reducible refine JC.region ?_
    refine JL.op (JO.val (y_ldA 2 rfl rfl rfl rfl) rfl ?_)
    refine JL.op (JO.val (y_ldA 3 rfl rfl rfl (by first | rfl | assumption)) rfl ?_)
    refine JL.op (JO.call _ (fun wc hc => refapply_any _ _ _ y wc (hrs.step hc.step) hfk.wf hsm hyw ((htab.step hst).step hc.step)) rfl rfl rfl ?_)
    rintro wc3 v wn3 hst3 hsz3 hfr3 hbl3 hst03 ⟨cs3, ra3, rfl, hrb3, hrr3⟩
    replace hrb3 := hrb3.step (Step.weak (fun b hb => Or.elim hb id (hfr3 b)))
    replace hrr3 := hrr3.step (Step.weak (fun b hb => Or.elim hb id (hfr3 b)))
    obtain ⟨hl7, hl8⟩ := hrb3.four
    obtain ⟨A3, cap3, rfl, hrs3⟩ := hrr3.form
    have hsw3 : w.heap.size ≤ wn3.heap.size := Nat.le_trans hsw (Nat.le_trans hsz3 hbl3.size)
    replace hst3 := hst.trans hst3 hsw
    refine JL.op (JO.val (y_move) rfl ?_)
    refine JL.op (JO.val (y_extract rfl rfl) rfl ?_)
    refine JL.op (JO.val (y_extract rfl rfl) rfl ?_)
    refine JL.op (JO.storeA 2 rfl rfl rfl rfl (by first | rfl | assumption) (by first | rfl | assumption) (by first | rfl | assumption) ?_)
    refine JL.op (JO.storeA 4 rfl rfl rfl rfl (by first | rfl | assumption) (by first | rfl | assumption) (by first | rfl | assumption) ?_)
    with_reducible refine JL.nil ?_
    with_reducible refine JQ.seq (JC.seq ?_)
    refine JC.cutS [(1, .slice Aq qs.length cq), (2, .int .i64 c), (3, .int .i64 n), (9, .pointer (some ⟨b9, 0, none⟩)), (10, .pointer (some ⟨b10, 0, none⟩)), (17, .slice Aq qs.length cq), (18, .int .i64 (qs.length : Nat)), (19, .int .i64 (k : Nat)), (11, .int .i64 (k : Nat)), (12, .pointer (some ⟨b12, 0, none⟩)), (15, .pointer (some ⟨b15, 0, none⟩)), (63, .bool (runsB σ y && (decide (y.client = c) && decide (y.num = n))))] ?_ (fun E => ?_)
    · with_reducible refine JC.region ?_
      refine JL.op (JO.val (y_move) rfl ?_)
      refine JL.op (JO.val (y_move) rfl ?_)
      refine JL.split (d := 52) rfl (fun hg1 => ?_) (fun hg1 => ?_)
      · refine JL.op_do rfl rfl (congrArg Value.bool hg1) (JO.val (y_fieldAddr rfl rfl rfl) rfl ?_)
        refine JL.op_do rfl rfl (congrArg Value.bool hg1) (JO.val (y_ld 3 rfl rfl rfl rfl) rfl ?_)
        refine JL.op_do rfl rfl (congrArg Value.bool hg1) (JO.val (y_move) rfl ?_)
        refine JL.op_do rfl rfl (congrArg Value.bool hg1) (JO.val (y_eql rfl rfl) rfl ?_)
        refine JL.op (JO.val (y_pick (congrArg Value.bool hg1)) rfl ?_)
        refine JL.op (JO.val (y_move) rfl ?_)
        refine JL.split (d := 58) rfl (fun hg7 => ?_) (fun hg7 => ?_)
        · refine JL.op_do rfl rfl (congrArg Value.bool hg7) (JO.val (y_fieldAddr rfl rfl rfl) rfl ?_)
          refine JL.op_do rfl rfl (congrArg Value.bool hg7) (JO.val (y_ld 3 rfl rfl rfl rfl) rfl ?_)
          refine JL.op_do rfl rfl (congrArg Value.bool hg7) (JO.val (y_move) rfl ?_)
          refine JL.op_do rfl rfl (congrArg Value.bool hg7) (JO.val (y_eql rfl rfl) rfl ?_)
          refine JL.op (JO.val (y_pick (congrArg Value.bool hg7)) rfl ?_)
          with_reducible refine JL.nil ?_
          exact JQ.has ⟨rfl, rfl, rfl, rfl, rfl, rfl, rfl, rfl, rfl, rfl, rfl, congrArg Value.bool (by first | (simp [hg1, hg7]; done) | (simp [hg1]; done)), trivial⟩ (fun _ h => h)
        · refine JL.op_skip rfl rfl (congrArg Value.bool hg7) rfl ?_
          refine JL.op_skip rfl rfl (congrArg Value.bool hg7) rfl ?_
          refine JL.op_skip rfl rfl (congrArg Value.bool hg7) rfl ?_
          refine JL.op_skip rfl rfl (congrArg Value.bool hg7) rfl ?_
          refine JL.op (JO.val (y_pick (congrArg Value.bool hg7)) rfl ?_)
          with_reducible refine JL.nil ?_
          exact JQ.has ⟨rfl, rfl, rfl, rfl, rfl, rfl, rfl, rfl, rfl, rfl, rfl, congrArg Value.bool (by first | (simp [hg1, hg7]; done) | (simp [hg1]; done)), trivial⟩ (fun _ h => h)
      · refine JL.op_skip rfl rfl (congrArg Value.bool hg1) rfl ?_
        refine JL.op_skip rfl rfl (congrArg Value.bool hg1) rfl ?_
        refine JL.op_skip rfl rfl (congrArg Value.bool hg1) rfl ?_
        refine JL.op_skip rfl rfl (congrArg Value.bool hg1) rfl ?_
        refine JL.op (JO.val (y_pick (congrArg Value.bool hg1)) rfl ?_)
        refine JL.op (JO.val (y_move) rfl ?_)
        refine JL.op_skip rfl rfl rfl rfl ?_
        refine JL.op_skip rfl rfl rfl rfl ?_
        refine JL.op_skip rfl rfl rfl rfl ?_
        refine JL.op_skip rfl rfl rfl rfl ?_
        refine JL.op (JO.val (y_pick rfl) rfl ?_)
        with_reducible refine JL.nil ?_
        exact JQ.has ⟨rfl, rfl, rfl, rfl, rfl, rfl, rfl, rfl, rfl, rfl, rfl, congrArg Value.bool (by first | (simp [hg1, hg7]; done) | (simp [hg1]; done)), trivial⟩ (fun _ h => h)
    with_reducible refine JQ.seq ?_
    refine JC.cond rfl (fun hg => ?_) (fun hg => ?_)
    · simp only [Bool.and_eq_true, decide_eq_true_eq] at hg
      have hf := hhere hg.1 (by rw [hg.2.1, hg.2.2])
      have hpj : placeJ (runL s qs 0) (c, n) = (k : Int) := by unfold placeJ; rw [hf]
      rw [hpj]
      with_reducible refine JC.seq ?_
      refine JC.held [4] ?_
      refine JH.take 0 rfl (by kernel_rfl) (by kernel_rfl) (by kernel_rfl) (fun _ _ _ => y_move) rfl (by repeat (first | exact np_fun | exact np_inv | refine np_seq ?_ | refine np_blk ?_ | refine np_loop ?_)) (⟨rfl, trivial⟩) ?_
      refine JH.take 1 rfl (by kernel_rfl) (by kernel_rfl) (by kernel_rfl) (fun _ _ _ => y_ldA 4 rfl rfl rfl rfl) rfl (by repeat (first | exact np_fun | exact np_inv | refine np_seq ?_ | refine np_blk ?_ | refine np_loop ?_)) (⟨rfl, trivial⟩) ?_
      refine JH.take 2 rfl (by kernel_rfl) (by kernel_rfl) (by kernel_rfl) (fun _ _ _ => y_assign) rfl (by repeat (first | exact np_fun | exact np_inv | refine np_seq ?_ | refine np_blk ?_ | refine np_loop ?_)) (⟨rfl, trivial⟩) ?_
      refine JH.one 3 (by kernel_rfl) (JI.op rfl ?_)
      refine (JO.storeA 1 rfl rfl rfl rfl (by first | rfl | assumption) (by first | rfl | assumption) (by first | rfl | assumption) ?_)
      refine ⟨⟨rfl, trivial⟩, ?_⟩
      refine JH.done (by kernel_rfl) ?_
      with_reducible refine JQ.seq (JC.ret (JQ.blk_ret (JQ.seq_ret (JQ.loop_ret (JQ.blk_ret (JQ.seq_ret ?_))))))
      refine ret_two rfl ResV.tmp (ResV.cellA 1 rfl rfl rfl rfl) (fun w' hc => ?_)
      refine ⟨_, A3, cap3, rfl, fun i r0 h1 => ?_⟩
      rw [hf] at h1
      cases h1
      exact ⟨rfl, RStrs.step (RStrs.step hrs3 hc.step) (Step.weak fun k hk => hk.1)⟩
    · with_reducible refine JC.skip (JQ.blk (JQ.seq ?_))
      with_reducible refine JC.region ?_
      refine JL.op (JO.val (y_add rfl rfl (natAdd hk (by omega))) rfl ?_)
      refine JL.op (JO.val (y_move) rfl ?_)
      with_reducible refine JL.nil ?_
      refine JQ.takeN 3 ?_
      refine JQ.loop (qs.length - (k + 1)) ⟨k + 1, cs3, rfl, hlt, hnext ▸ hrb3, ?_, rfl, hst3, hsw3, ⟨rfl, rfl, rfl, rfl, rfl, rfl, rfl, rfl, trivial⟩⟩ (by omega)
      rw [hrun]
      intro x hx
      rcases List.mem_append.1 hx with hx | hx
      · exact hno x hx
      · split at hx
        · rename_i hrr
          rw [List.mem_singleton.1 hx]
          intro e
          have e1 : y.client = c := congrArg Prod.fst e
          have e2 : y.num = n := congrArg Prod.snd e
          rw [hrr] at hg
          simp [e1, e2] at hg
        · cases hx
  have hd : decide ((k : Int) < (qs.length : Int)) = false := by simpa using hlt
  refine JC.cond_false (congrArg Value.bool hd) ?_
  rw [List.take_of_length_le (by omega)] at hno
  have hf := fndF_none hno
  have hpj : placeJ (runL s qs 0) (c, n) = -1 := by unfold placeJ; rw [hf]
  rw [hpj]
  with_reducible refine JC.exit (JQ.seq_exit (JQ.loop_exit (JQ.blk_here (JQ.seq (JC.seq ?_)))))
  with_reducible refine JC.region ?_
  refine JL.op (JO.val (y_build rfl rfl (rfl)) rfl ?_)
  refine JL.op (JO.val (y_assign) rfl ?_)
  refine JL.op (JO.storeA 1 rfl rfl rfl rfl (by first | rfl | assumption) (by first | rfl | assumption) (by first | rfl | assumption) ?_)
  with_reducible refine JL.nil ?_
  with_reducible refine JQ.seq (JC.ret ?_)
  refine ret_two rfl ResV.tmp (ResV.cellA 1 rfl rfl rfl rfl) (fun w' hc => ?_)
  refine ⟨⟨0, 0, 0, []⟩, none, 0, rfl, fun i r0 h1 => ?_⟩
  rw [hf] at h1
  cases h1
end Go.Proofs.YtchnnplcpidkiaaDoor
namespace Go.Proofs.YtchnnplcpidkiaaDoor
open Go.RowKit Go.Lib
set_option linter.unusedSimpArgs false
set_option linter.unusedVariables false
set_option maxRecDepth 20000

theorem runL_tame {qs : List LReq} : ∀ {s : LState} {k i : Nat}, Fit2 k s → k + qs.length ≤ 100 → (∀ q ∈ qs, q.wf) → ∀ x ∈ runL s qs i, Tame x.2.2 := by
  induction qs with
  | nil => intro s k i hf hk hq x hx; cases hx
  | cons q qs ih =>
    intro s k i hf hk hq x hx
    simp only [List.length_cons] at hk
    rcases List.mem_append.1 hx with hx | hx
    · split at hx
      · rw [List.mem_singleton.1 hx]
        exact (applyD_tame hf.fit (by omega) hf.tame).2
      · cases hx
    · exact ih (hf.apply (hq q (by simp)) (by omega)) (by omega) (fun p hp => hq p (by simp [hp])) x hx
theorem fndF_mem {l : List ((Int × Int) × Nat × LReply)} {k : Int × Int} {v : Nat × LReply} (h : fndF l k = some v) : (k, v) ∈ l := by
  unfold fndF at h
  rw [Option.map_eq_some_iff] at h
  obtain ⟨x, h1, rfl⟩ := h
  have h2 := List.find?_some h1
  simp only [decide_eq_true_eq] at h2
  subst h2
  exact List.mem_of_find?_eq_some h1
theorem placeJ_no {l : List ((Int × Int) × Nat × LReply)} {k : Int × Int} (h : decide (placeJ l k < 0) = true) : fndF l k = none := by
  unfold placeJ at h
  cases hf : fndF l k with
  | none => rfl
  | some v =>
    rw [hf] at h
    simp at h
    omega
theorem placeJ_at {l : List ((Int × Int) × Nat × LReply)} {k : Int × Int} (h : decide (placeJ l k < 0) = false) : ∃ i r, fndF l k = some (i, r) ∧ placeJ l k = ((i : Nat) : Int) := by
  unfold placeJ at h ⊢
  cases hf : fndF l k with
  | none => rw [hf] at h; simp at h
  | some v => exact ⟨v.1, v.2, rfl, rfl⟩
section
variable {l : List ((Int × Int) × Nat × LReply)} {qs : List LReq} {e a b : LEvent}
theorem evJ_none (hl : l.Pairwise (fun a b => a.1 ≠ b.1)) (h : ¬ e.done < 0) (h1 : fndF l (nameE e) = none) : evB l qs e = 7 := by
  unfold evB; rw [if_neg h, fnd_first hl, h1]
theorem evJ_at {i : Nat} {r : LReply} {q : LReq} (hl : l.Pairwise (fun a b => a.1 ≠ b.1)) (h : ¬ e.done < 0) (h1 : fndF l (nameE e) = some (i, r)) (h2 : qs[i]? = some q) : evB l qs e = if (!eqQ q e.req || !sameR r e.rep) = true then 9 else 0 := by
  unfold evB; rw [if_neg h, fnd_first hl, h1]
  simp only [h2]
theorem evJ_neg (h : e.done < 0) : evB l qs e = 0 := by
  unfold evB; rw [if_pos h]
theorem badJ (hl : l.Pairwise (fun a b => a.1 ≠ b.1)) : badOrder l a b = (aheadB a b && (decide (placeJ l (nameE a) ≥ 0) && decide (placeJ l (nameE b) ≥ 0) && decide (placeJ l (nameE a) ≥ placeJ l (nameE b)))) := by
  unfold badOrder placeJ
  rw [fnd_first hl, fnd_first hl]
  rcases fndF l (nameE a) with _ | ⟨i, r⟩ <;> rcases fndF l (nameE b) with _ | ⟨j, r'⟩ <;> simp <;> omega
end
end Go.Proofs.YtchnnplcpidkiaaDoor
namespace Go.Proofs.YtchnnplcpidkiaaDoor
open Go.RowKit Go.Lib
set_option linter.unusedSimpArgs false
set_option linter.unusedVariables false
set_option maxRecDepth 20000
set_option maxHeartbeats 32000000

theorem refcheck17_any (F : Nat → Prop) (cs : List Value) (s : LState) (Aq : Option Addr) (cq : Nat) (qs : List LReq) (Ae : Option Addr) (ce : Nat) (hs : List (LEvent × Option Addr × Nat)) (w : World) (h : RState F w cs s) (hq : RReqs F w Aq cq qs) (hqw : ∀ q ∈ qs, q.wf) (he : SlF F w Ae hs.length ce 48 (hs.flatMap ecells)) (hev : EvL F w hs) (hfit : Fit2 0 s) (hnq : qs.length ≤ 20) (hne : hs.length ≤ 12) (htab : Tab F w) :
    CallsTo 17 #[.agg cs.toArray, .slice Aq qs.length cq, .slice Ae hs.length ce] w (fun v _ => v = .int .i64 (checkD s qs (hs.map (·.1)))) := by
  have hRS := h
  obtain ⟨Ap, cp, Ar, cr, Am, cm, rfl, hp, hr, hm⟩ := h.form
  have hone := runL_once (qs := qs) (i := 0) hfit.fit.ord
  have hchk : checkD s qs (hs.map (·.1)) = checkL (runL s qs 0) qs (hs.map (·.1)) := rfl
  have hLq : ∀ x ∈ runL s qs 0, (∃ q, qs[x.2.1]? = some q) ∧ Tame x.2.2 := fun x hx => by
    obtain ⟨_, _, q, h1⟩ := runL_at x hx
    exact ⟨⟨q, by simpa using h1⟩, runL_tame hfit (by omega) hqw x hx⟩
  rw [hchk]
  clear hchk
  have hplace : ∀ (c n : Int) F' w', Step F w F' w' → CallsTo 38 #[.agg [.slice Ap s.ps.length cp, .slice Ar s.rs.length cr, .int .i64 s.ep, .slice Am s.ms.length cm].toArray, .slice Aq qs.length cq, .int .i64 c, .int .i64 n] w' (fun v w'' => ∃ r A cap, v = .tuple #[.int .i64 (placeJ (runL s qs 0) (c, n)), .agg (rcells (r, A, cap)).toArray] ∧ ∀ i r0, fndF (runL s qs 0) (c, n) = some (i, r0) → r = r0 ∧ RStrs (fun b => F' b ∨ w'.heap.size ≤ b) w'' A cap r0.vals) := fun c n F' w' hst => place_any F' _ s Aq cq qs c n w' (hRS.step hst) (hq.step hst) hqw hfit.fit hnq (htab.step hst)
  generalize runL s qs 0 = l at *
  refine CallsTo.enter 110 (fun _ => True) F Tryd.func17 rfl rfl rfl rfl (by intros; first | trivial | assumption) ?_
  with_reducible refine JC.seq ?_
  with_reducible refine JC.region ?_
  refine JL.op (JO.box rfl rfl ?_); intro b3
  refine JL.op (JO.val (y_assign) rfl ?_)
  with_reducible refine JL.nil ?_
  with_reducible refine JQ.seq (JC.seq (JC.seq ?_))
  with_reducible refine JC.region ?_
  refine JL.op (JO.val (y_move) rfl ?_)
  refine JL.op (JO.val (y_len rfl rfl) rfl ?_)
  refine JL.op (JO.val (y_move) rfl ?_)
  with_reducible refine JL.nil ?_
  with_reducible refine JQ.seq (JC.block ?_)
  refine JC.loop (fun m E S F' w1' => ∃ (j : Nat), m = hs.length - j ∧ j ≤ hs.length ∧ (∀ x ∈ (hs.map (·.1)).take j, evB l qs x = 0) ∧ S = [(some b3, 28, [.slice Ap s.ps.length cp, .slice Ar s.rs.length cr, .int .i64 s.ep, .slice Am s.ms.length cm])] ∧ Step F w F' w1' ∧ w.heap.size ≤ w1'.heap.size ∧ Has E [(1, .slice Aq qs.length cq), (2, .slice Ae hs.length ce), (3, .pointer (some ⟨b3, 0, none⟩)), (19, .slice Ae hs.length ce), (20, .int .i64 (hs.length : Nat)), (21, .int .i64 (j : Nat))])
    _ ⟨0, rfl, Nat.zero_le _, (by simp), rfl, (fun k hk hF => ⟨rfl, hF⟩), Nat.le_refl _, ⟨rfl, rfl, rfl, rfl, rfl, rfl, trivial⟩⟩ ?_
  rintro m E S F' w1' ⟨j, rfl, hj, hall, rfl, hst, hsw, hE⟩
  refine JC.env hE (fun E => ?_)
  clear hE
  with_reducible refine JC.seq ?_
  with_reducible refine JC.region ?_
  refine JL.op (JO.val (y_lss rfl rfl) rfl ?_)
  with_reducible refine JL.nil ?_
  with_reducible refine JQ.seq (JC.seq ?_)
  by_cases hlt2 : j < hs.length
  · have hd2 : decide ((j : Int) < (hs.length : Int)) = true := by simpa using hlt2
    refine JC.cond_true (congrArg Value.bool hd2) ?_
    obtain ⟨y, hy⟩ : ∃ y, hs[j]? = some y := ⟨hs[j], by simp [hlt2]⟩
    have hym := List.mem_of_getElem? hy
    have hyo := (hev y hym).1
    have hyv := (hev y hym).2.step hst
    have hyw := hyo.wf
    have hyl := ecells_len hyw
    have hy1 := ecells_all1 hyw
    have hye : (hs.map (·.1))[j]? = some y.1 := by rw [List.getElem?_map, hy]; rfl
    obtain ⟨hev1, hev2⟩ := ev_at hyw
    obtain ⟨hen1, hen2⟩ := ev_name y
    obtain ⟨b, o, hA, hat⟩ := SlF.elem (SlF.step he hst (by omega)) (fun y hy => ecells_len (hev y hy).1.wf) rfl hy
    have hnext : evB l qs y.1 = 0 → ∀ x ∈ (hs.map (·.1)).take (j + 1), evB l qs x = 0 := fun h x hx => by
      rw [take_snoc hye] at hx
      rcases List.mem_append.1 hx with hx | hx
      · exact hall x hx
      · rw [List.mem_singleton.1 hx]; exact h
    have hbad : evB l qs y.1 ≠ 0 → checkL l qs (hs.map (·.1)) = evB l qs y.1 := fun h => by
      unfold checkL
      rw [check1_take hye hall h, if_pos h]
    with_reducible refine JC.skip (JQ.seq (JC.seq (JC.block (JC.seq ?_))))
    with_reducible refine JC.region ?_
    refine JL.op (JO.val (y_idx (b := b) (o := o) rfl rfl rfl rfl hA rfl hlt2) rfl ?_)
    refine JL.op (JO.val (y_lddA rfl rfl hat (by first | rfl | assumption)) rfl ?_)
    refine JL.op (JO.alloc rfl rfl ?_); intro b8
    refine JL.op (JO.storeA 1 rfl rfl rfl rfl (by first | rfl | assumption) (by first | rfl | assumption) (by first | rfl | assumption) ?_)
    with_reducible refine JL.nil ?_
    with_reducible refine JQ.seq (JC.seq (JC.seq ?_))
    with_reducible refine JC.region ?_
    refine JL.op (JO.val (y_fieldAddr rfl rfl rfl) rfl ?_)
    refine JL.op (JO.val (y_ld 1 rfl rfl rfl hev2) rfl ?_)
    refine JL.op (JO.val (y_lss rfl rfl) rfl ?_)
    with_reducible refine JL.nil ?_
    with_reducible refine JQ.seq ?_
    refine JC.cond rfl (fun hg2 => ?_) (fun hg2 => ?_)
    · with_reducible refine JC.exit (JQ.seq_exit (JQ.blk_here (JQ.seq ?_)))
      with_reducible refine JC.region ?_
      refine JL.op (JO.val (y_add rfl rfl (natAdd hj (by omega))) rfl ?_)
      refine JL.op (JO.val (y_move) rfl ?_)
      with_reducible refine JL.nil ?_
      refine JQ.takeN 1 ?_
      exact JQ.loop (hs.length - (j + 1)) ⟨j + 1, rfl, hlt2, hnext (evJ_neg (by simpa using hg2)), rfl, hst, hsw, ⟨rfl, rfl, rfl, rfl, rfl, rfl, trivial⟩⟩ (by omega)
    have hnd : ¬ y.1.done < 0 := by simpa using hg2
    with_reducible refine JC.skip (JQ.seq (JC.seq ?_))
    with_reducible refine JC.region ?_
    refine JL.op (JO.val (y_ldA 0 rfl rfl rfl rfl) rfl ?_)
    refine JL.op (JO.val (y_move) rfl ?_)
    refine JL.op (JO.val (y_fieldAddr rfl rfl rfl) rfl ?_)
    refine JL.op (JO.val (y_fieldAddr rfl rfl rfl) rfl ?_)
    refine JL.op (JO.val (y_ld 1 rfl rfl rfl hen1) rfl ?_)
    refine JL.op (JO.val (y_fieldAddr rfl rfl rfl) rfl ?_)
    refine JL.op (JO.val (y_fieldAddr rfl rfl rfl) rfl ?_)
    refine JL.op (JO.val (y_ld 1 rfl rfl rfl hen2) rfl ?_)
    refine JL.op (JO.call _ (fun wc hc => hplace y.1.req.client y.1.req.num _ wc (hst.trans hc.step hsw)) rfl rfl rfl ?_)
    rintro wc v wn hst2 hsz2 hfr2 hbl2 hst02 ⟨r, A2, cap2, rfl, hrr⟩
    have hsw2 : w.heap.size ≤ wn.heap.size := Nat.le_trans hsw (Nat.le_trans hsz2 hbl2.size)
    replace hyv := hyv.step hst2
    replace hst2 := hst.trans hst2 hsw
    refine JL.op (JO.val (y_move) rfl ?_)
    refine JL.op (JO.val (y_extract rfl rfl) rfl ?_)
    refine JL.op (JO.val (y_extract rfl rfl) rfl ?_)
    refine JL.op (JO.alloc rfl rfl ?_); intro b10
    refine JL.op (JO.val (y_assign) rfl ?_)
    refine JL.op (JO.storeA 2 rfl rfl rfl rfl (by first | rfl | assumption) (by first | rfl | assumption) (by first | rfl | assumption) ?_)
    with_reducible refine JL.nil ?_
    with_reducible refine JQ.seq (JC.seq (JC.seq ?_))
    with_reducible refine JC.region ?_
    refine JL.op (JO.val (y_move) rfl ?_)
    refine JL.op (JO.val (y_lss rfl rfl) rfl ?_)
    with_reducible refine JL.nil ?_
    with_reducible refine JQ.seq ?_
    refine JC.cond rfl (fun hg3 => ?_) (fun hg3 => ?_)
    · have h7 := evJ_none (qs := qs) hone hnd (placeJ_no hg3)
      with_reducible refine JC.seq ?_
      with_reducible refine JC.region ?_
      refine JL.op (JO.val (y_assign) rfl ?_)
      with_reducible refine JL.nil ?_
      with_reducible refine JQ.seq (JC.ret (JQ.seq_ret (JQ.blk_ret (JQ.seq_ret (JQ.loop_ret (JQ.blk_ret (JQ.seq_ret ?_)))))))
      exact ret_one rfl ResV.tmp (fun w _ => congrArg (Value.int .i64) (show (7 : Int) = _ from by rw [hbad (by rw [h7]; decide), h7]))
    obtain ⟨i0, r0, hx, hpj⟩ := placeJ_at hg3
    obtain ⟨rfl, hrv⟩ := hrr i0 r0 hx
    replace hrv := hrv.step (Step.weak (fun b hb => Or.elim hb id (hfr2 b)))
    obtain ⟨⟨q, hqi⟩, hrt⟩ := hLq _ (fndF_mem hx)
    have h9 := evJ_at hone hnd hx hqi
    have hqw1 := hqw q (List.mem_of_getElem? hqi)
    have hql1 := LReq.len_cells hqw1
    have hlq : i0 < qs.length := (List.getElem?_eq_some_iff.1 hqi).1
    obtain ⟨b', o', hA', hat'⟩ := SlF.elem (hq.step hst2) (fun q hq => LReq.len_cells (hqw q hq)) rfl hqi
    with_reducible refine JC.skip (JQ.seq (JC.seq ?_))
    refine JC.cutS [(1, .slice Aq qs.length cq), (2, .slice Ae hs.length ce), (3, .pointer (some ⟨b3, 0, none⟩)), (19, .slice Ae hs.length ce), (20, .int .i64 (hs.length : Nat)), (21, .int .i64 (j : Nat)), (8, .pointer (some ⟨b8, 0, none⟩)), (55, .bool (!eqQ q y.1.req || !sameR r y.1.rep))] ?_ (fun E => ?_)
    · refine JC.quiet (by kernel_rfl) ?_
      refine JT.val (y_move) rfl ?_
      refine JT.val (y_move) rfl ?_
      refine JT.val (y_idx (b := b') (o := o') rfl rfl rfl (congrArg (Value.int .i64) hpj) hA' rfl hlq) rfl ?_
      refine JT.val (y_lddA rfl rfl hat' hql1) rfl ?_
      refine JT.val (y_fieldAddr rfl rfl rfl) rfl ?_
      refine JT.val (y_ldP 1 rfl rfl rfl (ev_req hyw) (by rw [hyl]; rfl)) rfl ?_
      refine JT.val (y_neq41 hqw1 hyw.req rfl rfl) rfl ?_
      refine JT.val (y_move) rfl ?_
      refine JT.split (d := 49) rfl (fun hg7 => ?_) (fun hg7 => ?_)
      · refine JT.skip rfl rfl (congrArg Value.bool hg7) rfl ?_
        refine JT.skip rfl rfl (congrArg Value.bool hg7) rfl ?_
        refine JT.skip rfl rfl (congrArg Value.bool hg7) rfl ?_
        refine JT.skip rfl rfl (congrArg Value.bool hg7) rfl ?_
        refine JT.skip rfl rfl (congrArg Value.bool hg7) rfl ?_
        refine JT.val (y_pick (congrArg Value.bool hg7)) rfl ?_
        refine JT.nil ?_
        exact JQ.has ⟨rfl, rfl, rfl, rfl, rfl, rfl, rfl, congrArg Value.bool (by rw [hg7]; simp), trivial⟩ (fun _ h => h)
      · refine JT.val_do rfl rfl (congrArg Value.bool hg7) (y_ldA 2 rfl rfl rfl rfl) rfl ?_
        refine JT.val_do rfl rfl (congrArg Value.bool hg7) (y_fieldAddr rfl rfl rfl) rfl ?_
        refine JT.val_do rfl rfl (congrArg Value.bool hg7) (y_ldP 1 rfl rfl rfl (ev_rep hyw) (by rw [hyl]; rfl)) rfl ?_
        refine JT.callv_do rfl rfl (congrArg Value.bool hg7) (fun wc hc => same9_any _ _ _ r y.1.rep wc ⟨A2, cap2, rfl, hrv.step hc.step⟩ ⟨y.2.1, y.2.2, rfl, hyv.step hc.step⟩ (Nat.le_trans hrt.n (by decide))) rfl rfl rfl ⟨_, Tryd.func12, rfl, rfl⟩ ?_
        refine JT.val_do rfl rfl (congrArg Value.bool hg7) (y_not rfl) rfl ?_
        refine JT.val (y_pick (congrArg Value.bool hg7)) rfl ?_
        refine JT.nil ?_
        exact JQ.has ⟨rfl, rfl, rfl, rfl, rfl, rfl, rfl, congrArg Value.bool (by rw [hg7]; simp), trivial⟩ (fun _ h => h)
    with_reducible refine JQ.seq ?_
    refine JC.cond rfl (fun hg4 => ?_) (fun hg4 => ?_)
    · rw [if_pos hg4] at h9
      with_reducible refine JC.seq ?_
      with_reducible refine JC.region ?_
      refine JL.op (JO.val (y_assign) rfl ?_)
      with_reducible refine JL.nil ?_
      with_reducible refine JQ.seq (JC.ret (JQ.blk_ret (JQ.seq_ret (JQ.loop_ret (JQ.blk_ret (JQ.seq_ret ?_))))))
      exact ret_one rfl ResV.tmp (fun w _ => congrArg (Value.int .i64) (show (9 : Int) = _ from by rw [hbad (by rw [h9]; decide), h9]))
    · rw [if_neg (by rw [hg4]; simp)] at h9
      with_reducible refine JC.skip (JQ.blk (JQ.seq ?_))
      with_reducible refine JC.region ?_
      refine JL.op (JO.val (y_add rfl rfl (natAdd hj (by omega))) rfl ?_)
      refine JL.op (JO.val (y_move) rfl ?_)
      with_reducible refine JL.nil ?_
      refine JQ.takeN 1 ?_
      exact JQ.loop (hs.length - (j + 1)) ⟨j + 1, rfl, hlt2, hnext h9, rfl, hst2, hsw2, ⟨rfl, rfl, rfl, rfl, rfl, rfl, trivial⟩⟩ (by omega)
  have hd2 : decide ((j : Int) < (hs.length : Int)) = false := by simpa using hlt2
  refine JC.cond_false (congrArg Value.bool hd2) ?_
  rw [List.take_of_length_le (by simp; omega)] at hall
  have hcl : checkL l qs (hs.map (·.1)) = if (hs.map (·.1)).any (fun a => (hs.map (·.1)).any (badOrder l a)) = true then 12 else 0 := by
    unfold checkL
    rw [check1_all hall, if_neg (by simp)]
  rw [hcl]
  clear hall hcl hLq
  with_reducible refine JC.exit (JQ.seq_exit (JQ.loop_exit (JQ.blk_here (JQ.seq (JC.seq (JC.seq ?_))))))
  with_reducible refine JC.region ?_
  refine JL.op (JO.val (y_move) rfl ?_)
  refine JL.op (JO.val (y_len rfl rfl) rfl ?_)
  refine JL.op (JO.val (y_move) rfl ?_)
  with_reducible refine JL.nil ?_
  with_reducible refine JQ.seq (JC.block ?_)
  refine JC.loop (fun m E S F' w1' => ∃ (i : Nat), m = hs.length - i ∧ i ≤ hs.length ∧ ((hs.map (·.1)).take i).any (fun a => (hs.map (·.1)).any (badOrder l a)) = false ∧ S = [(some b3, 28, [.slice Ap s.ps.length cp, .slice Ar s.rs.length cr, .int .i64 s.ep, .slice Am s.ms.length cm])] ∧ Step F w F' w1' ∧ w.heap.size ≤ w1'.heap.size ∧ Has E [(1, .slice Aq qs.length cq), (2, .slice Ae hs.length ce), (3, .pointer (some ⟨b3, 0, none⟩)), (57, .slice Ae hs.length ce), (58, .int .i64 (hs.length : Nat)), (59, .int .i64 (i : Nat))])
    _ ⟨0, rfl, Nat.zero_le _, rfl, rfl, hst, hsw, ⟨rfl, rfl, rfl, rfl, rfl, rfl, trivial⟩⟩ ?_
  clear hst hsw hlt2 hd2 hj
  rintro m E S F' w1' ⟨i, rfl, hi, hall, rfl, hst, hsw, hE⟩
  refine JC.env hE (fun E => ?_)
  clear hE
  with_reducible refine JC.seq ?_
  with_reducible refine JC.region ?_
  refine JL.op (JO.val (y_lss rfl rfl) rfl ?_)
  with_reducible refine JL.nil ?_
  with_reducible refine JQ.seq (JC.seq ?_)
  by_cases hlt3 : i < hs.length
  · have hd3 : decide ((i : Int) < (hs.length : Int)) = true := by simpa using hlt3
    refine JC.cond_true (congrArg Value.bool hd3) ?_
    obtain ⟨y, hy⟩ : ∃ y, hs[i]? = some y := ⟨hs[i], by simp [hlt3]⟩
    have hym := List.mem_of_getElem? hy
    have hyw := (hev y hym).1.wf
    have hyl := ecells_len hyw
    have hy1 := ecells_all1 hyw
    have hye : (hs.map (·.1))[i]? = some y.1 := by rw [List.getElem?_map, hy]; rfl
    obtain ⟨hen1, hen2⟩ := ev_name y
    obtain ⟨b, o, hA, hat⟩ := SlF.elem (SlF.step he hst (by omega)) (fun y hy => ecells_len (hev y hy).1.wf) rfl hy
    with_reducible refine JC.skip (JQ.seq (JC.seq (JC.block (JC.seq ?_))))
    with_reducible refine JC.region ?_
    refine JL.op (JO.val (y_idx (b := b) (o := o) rfl rfl rfl rfl hA rfl hlt3) rfl ?_)
    refine JL.op (JO.val (y_lddA rfl rfl hat (by first | rfl | assumption)) rfl ?_)
    refine JL.op (JO.alloc rfl rfl ?_); intro b12
    refine JL.op (JO.storeA 1 rfl rfl rfl rfl (by first | rfl | assumption) (by first | rfl | assumption) (by first | rfl | assumption) ?_)
    with_reducible refine JL.nil ?_
    with_reducible refine JQ.seq (JC.seq ?_)
    with_reducible refine JC.region ?_
    refine JL.op (JO.val (y_move) rfl ?_)
    refine JL.op (JO.val (y_len rfl rfl) rfl ?_)
    refine JL.op (JO.val (y_move) rfl ?_)
    with_reducible refine JL.nil ?_
    with_reducible refine JQ.seq (JC.block ?_)
    refine JC.loop (fun m E S F2 w2 => ∃ (j : Nat), m = hs.length - j ∧ j ≤ hs.length ∧ ((hs.map (·.1)).take j).any (badOrder l y.1) = false ∧ S = [(some b3, 28, [.slice Ap s.ps.length cp, .slice Ar s.rs.length cr, .int .i64 s.ep, .slice Am s.ms.length cm]), (some b12, 90, ecells y)] ∧ Step F w F2 w2 ∧ w.heap.size ≤ w2.heap.size ∧ Has E [(1, .slice Aq qs.length cq), (2, .slice Ae hs.length ce), (3, .pointer (some ⟨b3, 0, none⟩)), (57, .slice Ae hs.length ce), (58, .int .i64 (hs.length : Nat)), (59, .int .i64 (i : Nat)), (12, .pointer (some ⟨b12, 0, none⟩)), (63, .slice Ae hs.length ce), (64, .int .i64 (hs.length : Nat)), (65, .int .i64 (j : Nat))])
      _ ⟨0, rfl, Nat.zero_le _, rfl, rfl, hst.trans (Step.weak fun _ h => h) hsw, hsw, ⟨rfl, rfl, rfl, rfl, rfl, rfl, rfl, rfl, rfl, rfl, trivial⟩⟩ ?_
    clear hst hsw hA hat
    rintro m E S F2 w2 ⟨j, rfl, hj, hin, rfl, hst, hsw, hE⟩
    refine JC.env hE (fun E => ?_)
    clear hE
    with_reducible refine JC.seq ?_
    with_reducible refine JC.region ?_
    refine JL.op (JO.val (y_lss rfl rfl) rfl ?_)
    with_reducible refine JL.nil ?_
    with_reducible refine JQ.seq (JC.seq ?_)
    by_cases hlt4 : j < hs.length
    · have hd4 : decide ((j : Int) < (hs.length : Int)) = true := by simpa using hlt4
      refine JC.cond_true (congrArg Value.bool hd4) ?_
      obtain ⟨z, hz⟩ : ∃ z, hs[j]? = some z := ⟨hs[j], by simp [hlt4]⟩
      have hzm := List.mem_of_getElem? hz
      have hzw := (hev z hzm).1.wf
      have hzl := ecells_len hzw
      have hz1 := ecells_all1 hzw
      have hze : (hs.map (·.1))[j]? = some z.1 := by rw [List.getElem?_map, hz]; rfl
      obtain ⟨hzn1, hzn2⟩ := ev_name z
      obtain ⟨b', o', hA', hat'⟩ := SlF.elem (SlF.step he hst (by omega)) (fun y hy => ecells_len (hev y hy).1.wf) rfl hz
      have hbj := badJ (a := y.1) (b := z.1) hone
      with_reducible refine JC.skip (JQ.seq (JC.seq (JC.block (JC.seq ?_))))
      with_reducible refine JC.region ?_
      refine JL.op (JO.val (y_idx (b := b') (o := o') rfl rfl rfl rfl hA' rfl hlt4) rfl ?_)
      refine JL.op (JO.val (y_lddA rfl rfl hat' (by first | rfl | assumption)) rfl ?_)
      refine JL.op (JO.alloc rfl rfl ?_); intro b14
      refine JL.op (JO.storeA 2 rfl rfl rfl rfl (by first | rfl | assumption) (by first | rfl | assumption) (by first | rfl | assumption) ?_)
      with_reducible refine JL.nil ?_
      with_reducible refine JQ.seq (JC.seq (JC.seq ?_))
      with_reducible refine JC.region ?_
      refine JL.op (JO.val (y_ldA 1 rfl rfl rfl hyl) rfl ?_)
      refine JL.op (JO.val (y_ldA 2 rfl rfl rfl hzl) rfl ?_)
      refine JL.op (JO.callv (fun wc hc => ahead39 y z hyw hzw wc) rfl rfl rfl ?_)
      refine JL.op (JO.val (y_not rfl) rfl ?_)
      with_reducible refine JL.nil ?_
      with_reducible refine JQ.seq ?_
      refine JC.cond rfl (fun hg2 => ?_) (fun hg2 => ?_)
      · with_reducible refine JC.exit (JQ.seq_exit (JQ.blk_here (JQ.seq ?_)))
        with_reducible refine JC.region ?_
        refine JL.op (JO.val (y_add rfl rfl (natAdd hj (by omega))) rfl ?_)
        refine JL.op (JO.val (y_move) rfl ?_)
        with_reducible refine JL.nil ?_
        refine JQ.takeN 2 ?_
        exact JQ.loop (hs.length - (j + 1)) ⟨j + 1, rfl, hlt4, take_any hze hin (by rw [hbj, show aheadB y.1 z.1 = false by simpa using hg2]; rfl), rfl, hst, hsw, ⟨rfl, rfl, rfl, rfl, rfl, rfl, rfl, rfl, rfl, rfl, trivial⟩⟩ (by omega)
      rw [show aheadB y.1 z.1 = true by simpa using hg2, Bool.true_and] at hbj
      with_reducible refine JC.skip (JQ.seq (JC.seq ?_))
      with_reducible refine JC.region ?_
      refine JL.op (JO.val (y_ldA 0 rfl rfl rfl rfl) rfl ?_)
      refine JL.op (JO.val (y_move) rfl ?_)
      refine JL.op (JO.val (y_fieldAddr rfl rfl rfl) rfl ?_)
      refine JL.op (JO.val (y_fieldAddr rfl rfl rfl) rfl ?_)
      refine JL.op (JO.val (y_ld 1 rfl rfl rfl hen1) rfl ?_)
      refine JL.op (JO.val (y_fieldAddr rfl rfl rfl) rfl ?_)
      refine JL.op (JO.val (y_fieldAddr rfl rfl rfl) rfl ?_)
      refine JL.op (JO.val (y_ld 1 rfl rfl rfl hen2) rfl ?_)
      refine JL.op (JO.call _ (fun wc hc => hplace y.1.req.client y.1.req.num _ wc (hst.trans hc.step hsw)) rfl rfl rfl ?_)
      rintro wc v wn hst2 hsz2 hfr2 hbl2 hst02 ⟨r, A2, cap2, rfl, hrr⟩
      have hsw2 : w.heap.size ≤ wn.heap.size := Nat.le_trans hsw (Nat.le_trans hsz2 hbl2.size)
      replace hst2 := hst.trans hst2 hsw
      clear hrr hfr2 hst02
      refine JL.op (JO.val (y_move) rfl ?_)
      refine JL.op (JO.val (y_extract rfl rfl) rfl ?_)
      refine JL.op (JO.val (y_extract rfl rfl) rfl ?_)
      refine JL.op (JO.alloc rfl rfl ?_); intro b16
      refine JL.op (JO.val (y_assign) rfl ?_)
      refine JL.op (JO.storeA 3 rfl rfl rfl rfl (by first | rfl | assumption) (by first | rfl | assumption) (by first | rfl | assumption) ?_)
      with_reducible refine JL.nil ?_
      with_reducible refine JQ.seq (JC.seq ?_)
      with_reducible refine JC.region ?_
      refine JL.op (JO.val (y_ldA 0 rfl rfl rfl rfl) rfl ?_)
      refine JL.op (JO.val (y_move) rfl ?_)
      refine JL.op (JO.val (y_fieldAddr rfl rfl rfl) rfl ?_)
      refine JL.op (JO.val (y_fieldAddr rfl rfl rfl) rfl ?_)
      refine JL.op (JO.val (y_ld 2 rfl rfl rfl hzn1) rfl ?_)
      refine JL.op (JO.val (y_fieldAddr rfl rfl rfl) rfl ?_)
      refine JL.op (JO.val (y_fieldAddr rfl rfl rfl) rfl ?_)
      refine JL.op (JO.val (y_ld 2 rfl rfl rfl hzn2) rfl ?_)
      refine JL.op (JO.call _ (fun wc hc => hplace z.1.req.client z.1.req.num _ wc (hst2.trans hc.step hsw2)) rfl rfl rfl ?_)
      rintro wc3 v wn3 hst3 hsz3 hfr3 hbl3 hst03 ⟨r3, A3, cap3, rfl, hrr⟩
      have hsw3 : w.heap.size ≤ wn3.heap.size := Nat.le_trans hsw2 (Nat.le_trans hsz3 hbl3.size)
      replace hst3 := hst2.trans hst3 hsw2
      clear hrr hfr3 hst03
      refine JL.op (JO.val (y_move) rfl ?_)
      refine JL.op (JO.val (y_extract rfl rfl) rfl ?_)
      refine JL.op (JO.val (y_extract rfl rfl) rfl ?_)
      refine JL.op (JO.alloc rfl rfl ?_); intro b18
      refine JL.op (JO.val (y_assign) rfl ?_)
      refine JL.op (JO.storeA 4 rfl rfl rfl rfl (by first | rfl | assumption) (by first | rfl | assumption) (by first | rfl | assumption) ?_)
      with_reducible refine JL.nil ?_
      with_reducible refine JQ.seq (JC.seq ?_)
      refine JC.cutS [(1, .slice Aq qs.length cq), (2, .slice Ae hs.length ce), (3, .pointer (some ⟨b3, 0, none⟩)), (57, .slice Ae hs.length ce), (58, .int .i64 (hs.length : Nat)), (59, .int .i64 (i : Nat)), (12, .pointer (some ⟨b12, 0, none⟩)), (63, .slice Ae hs.length ce), (64, .int .i64 (hs.length : Nat)), (65, .int .i64 (j : Nat)), (107, .bool (badOrder l y.1 z.1))] ?_ (fun E => ?_)
      · with_reducible refine JC.region ?_
        refine JL.op (JO.val (y_move) rfl ?_)
        refine JL.op (JO.val (y_geq rfl rfl) rfl ?_)
        refine JL.op (JO.val (y_move) rfl ?_)
        refine JL.split (d := 99) rfl (fun hg2 => ?_) (fun hg2 => ?_)
        · refine JL.op_do rfl rfl (congrArg Value.bool hg2) (JO.val (y_move) rfl ?_)
          refine JL.op_do rfl rfl (congrArg Value.bool hg2) (JO.val (y_geq rfl rfl) rfl ?_)
          refine JL.op (JO.val (y_pick (congrArg Value.bool hg2)) rfl ?_)
          refine JL.op (JO.val (y_move) rfl ?_)
          refine JL.split (d := 103) rfl (fun hg6 => ?_) (fun hg6 => ?_)
          · refine JL.op_do rfl rfl (congrArg Value.bool hg6) (JO.val (y_move) rfl ?_)
            refine JL.op_do rfl rfl (congrArg Value.bool hg6) (JO.val (y_move) rfl ?_)
            refine JL.op_do rfl rfl (congrArg Value.bool hg6) (JO.val (y_geq rfl rfl) rfl ?_)
            refine JL.op (JO.val (y_pick (congrArg Value.bool hg6)) rfl ?_)
            with_reducible refine JL.nil ?_
            exact JQ.has ⟨rfl, rfl, rfl, rfl, rfl, rfl, rfl, rfl, rfl, rfl, congrArg Value.bool (by rw [hbj]; (rw [show decide (placeJ l (nameE y.1) ≥ 0) = _ from hg2, show decide (placeJ l (nameE z.1) ≥ 0) = _ from hg6]; rfl)), trivial⟩ (fun _ h => h)
          · refine JL.op_skip rfl rfl (congrArg Value.bool hg6) rfl ?_
            refine JL.op_skip rfl rfl (congrArg Value.bool hg6) rfl ?_
            refine JL.op_skip rfl rfl (congrArg Value.bool hg6) rfl ?_
            refine JL.op (JO.val (y_pick (congrArg Value.bool hg6)) rfl ?_)
            with_reducible refine JL.nil ?_
            exact JQ.has ⟨rfl, rfl, rfl, rfl, rfl, rfl, rfl, rfl, rfl, rfl, congrArg Value.bool (by rw [hbj]; (rw [show decide (placeJ l (nameE y.1) ≥ 0) = _ from hg2, show decide (placeJ l (nameE z.1) ≥ 0) = _ from hg6]; rfl)), trivial⟩ (fun _ h => h)
        · refine JL.op_skip rfl rfl (congrArg Value.bool hg2) rfl ?_
          refine JL.op_skip rfl rfl (congrArg Value.bool hg2) rfl ?_
          refine JL.op (JO.val (y_pick (congrArg Value.bool hg2)) rfl ?_)
          refine JL.op (JO.val (y_move) rfl ?_)
          refine JL.op_skip rfl rfl rfl rfl ?_
          refine JL.op_skip rfl rfl rfl rfl ?_
          refine JL.op_skip rfl rfl rfl rfl ?_
          refine JL.op (JO.val (y_pick rfl) rfl ?_)
          with_reducible refine JL.nil ?_
          exact JQ.has ⟨rfl, rfl, rfl, rfl, rfl, rfl, rfl, rfl, rfl, rfl, congrArg Value.bool (by rw [hbj]; (rw [show decide (placeJ l (nameE y.1) ≥ 0) = _ from hg2]; rfl)), trivial⟩ (fun _ h => h)
      with_reducible refine JQ.seq ?_
      refine JC.cond rfl (fun hg5 => ?_) (fun hg5 => ?_)
      · have hyes : (hs.map (·.1)).any (fun a => (hs.map (·.1)).any (badOrder l a)) = true := List.any_eq_true.2 ⟨_, List.mem_of_getElem? hye, List.any_eq_true.2 ⟨_, List.mem_of_getElem? hze, hg5⟩⟩
        with_reducible refine JC.seq ?_
        with_reducible refine JC.region ?_
        refine JL.op (JO.val (y_assign) rfl ?_)
        with_reducible refine JL.nil ?_
        with_reducible refine JQ.seq (JC.ret (JQ.blk_ret (JQ.seq_ret (JQ.loop_ret (JQ.blk_ret (JQ.blk_ret (JQ.seq_ret (JQ.loop_ret (JQ.blk_ret (JQ.seq_ret ?_))))))))))
        exact ret_one rfl ResV.tmp (fun w _ => congrArg (Value.int .i64) (show (12 : Int) = _ from by rw [if_pos hyes]))
      · with_reducible refine JC.skip (JQ.blk (JQ.seq ?_))
        with_reducible refine JC.region ?_
        refine JL.op (JO.val (y_add rfl rfl (natAdd hj (by omega))) rfl ?_)
        refine JL.op (JO.val (y_move) rfl ?_)
        with_reducible refine JL.nil ?_
        refine JQ.takeN 2 ?_
        exact JQ.loop (hs.length - (j + 1)) ⟨j + 1, rfl, hlt4, take_any hze hin hg5, rfl, hst3, hsw3, ⟨rfl, rfl, rfl, rfl, rfl, rfl, rfl, rfl, rfl, rfl, trivial⟩⟩ (by omega)
    · have hd4 : decide ((j : Int) < (hs.length : Int)) = false := by simpa using hlt4
      refine JC.cond_false (congrArg Value.bool hd4) ?_
      rw [List.take_of_length_le (by simp; omega)] at hin
      with_reducible refine JC.exit (JQ.seq_exit (JQ.loop_exit (JQ.blk_here (JQ.blk (JQ.seq ?_)))))
      with_reducible refine JC.region ?_
      refine JL.op (JO.val (y_add rfl rfl (natAdd hi (by omega))) rfl ?_)
      refine JL.op (JO.val (y_move) rfl ?_)
      with_reducible refine JL.nil ?_
      refine JQ.takeN 1 ?_
      exact JQ.loop (hs.length - (i + 1)) ⟨i + 1, rfl, hlt3, take_any hye hall hin, rfl, hst, hsw, ⟨rfl, rfl, rfl, rfl, rfl, rfl, trivial⟩⟩ (by omega)
  have hd3 : decide ((i : Int) < (hs.length : Int)) = false := by simpa using hlt3
  refine JC.cond_false (congrArg Value.bool hd3) ?_
  rw [List.take_of_length_le (by simp; omega)] at hall
  with_reducible refine JC.exit (JQ.seq_exit (JQ.loop_exit (JQ.blk_here (JQ.seq (JC.seq ?_)))))
  with_reducible refine JC.region ?_
  refine JL.op (JO.val (y_assign) rfl ?_)
  with_reducible refine JL.nil ?_
  with_reducible refine JQ.seq (JC.ret ?_)
  exact ret_one rfl ResV.tmp (fun w _ => congrArg (Value.int .i64) (show (0 : Int) = _ from by rw [hall]; rfl))
end Go.Proofs.YtchnnplcpidkiaaDoor
namespace Go.Proofs.YtchnnplcpidkiaaDoor
open Go.RowKit Go.Lib
set_option linter.unusedSimpArgs false
set_option linter.unusedVariables false
set_option maxRecDepth 20000
set_option maxHeartbeats 16000000

section
variable {X : Cx} {ops : Array Oper} {E : Env} {S S0 : Sto} {F : Nat → Prop} {w1 : World} {Q : Exit → Env → World → Prop} {ks : List Nat} {fuel : Nat} {listed : Array Bool}
theorem JH.take_skip (i : Nat) {d : Nat} {op : Op} {t : TypeId} {pos : String} {af : Array Edge} {j : Nat} {b : Bool} {oj : Oper} {dj : Nat} (hi : ops[i]? = some ⟨some d, op, t, pos, af, some (j, b)⟩) (hj : ops[j]? = some oj) (hd : oj.dst = some dj) (hb : E dj = .bool (!b)) (hs : Region.noSelect ops = true) (hf : Region.free .any ops listed i = true)
    (hr : (Region.ready .any ops listed).contains i = true) (hN : Nat.blt d X.N = true) (hQ : NoPanic Q) (hk : Kept ks S0 S)
    (h : JH X ops ks S0 fuel (listed.setIfInBounds i true) (upd E d undef) S F w1 Q) : JH X ops ks S0 (fuel + 1) listed E S F w1 Q := fun w a hn hc ha =>
  wpAnyH_take hi hs hf hr (fun c a' w' ⟨E', h1, h2⟩ => absurd h2 (hQ c E' w')) (Or.inr ⟨by simp [Region.wanted, yielded_of ha hj hd hb], rfl⟩) (hk.holds hc) (h w _ hn hc (ha.put d undef hN))
end
theorem checks_any (F : Nat → Prop) (cs : List Value) (s : LState) (Aq : Option Addr) (cq : Nat) (qs : List LReq) (Ae : Option Addr) (ce : Nat) (hs : List (LEvent × Option Addr × Nat)) (w : World) (h : RState F w cs s) (hwf : s.wf) (hq : RReqs F w Aq cq qs) (hqw : ∀ q ∈ qs, q.wf) (he : SlF F w Ae hs.length ce 48 (hs.flatMap ecells)) (hew : ∀ x ∈ hs, x.1.wf ∧ RStrs F w x.2.1 x.2.2 x.1.rep.vals) (htab : Tab F w) :
    CallsTo 5 #[.agg cs.toArray, .slice Aq qs.length cq, .slice Ae hs.length ce] w (fun v _ => v = .bool true) := by
  have hRS := h
  have hl4 := h.four.1
  have hl5 := h.four.2
  have hfit : Meek2 s qs (hs.map (·.1)) → Fit2 0 s := fun hm => ⟨⟨hwf, hm.meek.mild.sized, hm.meek.ord⟩, hm.tame⟩
  have hevl : Meek2 s qs (hs.map (·.1)) → EvL F w hs := fun hm x hx => ⟨⟨(hew x hx).1, hm.rep _ (List.mem_map_of_mem hx)⟩, (hew x hx).2⟩
  have hnel : Meek2 s qs (hs.map (·.1)) → hs.length ≤ 12 := fun hm => by have := hm.ne; simpa using this
  refine CallsTo.enter 24 (fun _ => True) F Tryd.func5 rfl rfl rfl rfl (by intros; first | trivial | assumption) ?_
  with_reducible refine JC.seq ?_
  with_reducible refine JC.region ?_
  refine JL.op (JO.box rfl rfl ?_); intro b3
  refine JL.op (JO.val (y_assign) rfl ?_)
  with_reducible refine JL.nil ?_
  with_reducible refine JQ.seq (JC.seq (JC.seq ?_))
  with_reducible refine JC.region ?_
  refine JL.op (JO.callv (fun wc hc => alive14_any _ wc (htab.step hc.step)) rfl rfl rfl ?_)
  refine JL.op (JO.val (y_not rfl) rfl ?_)
  with_reducible refine JL.nil ?_
  with_reducible refine JQ.seq ?_
  refine JC.cond_false rfl ?_
  with_reducible refine JC.skip (JQ.seq (JC.seq ?_))
  refine JC.held [0] ?_
  refine JH.take 0 rfl (by kernel_rfl) (by kernel_rfl) (by kernel_rfl) (fun _ _ _ => y_ldA 0 rfl rfl rfl hl4) rfl (by repeat (first | exact np_fun | exact np_inv | refine np_seq ?_ | refine np_blk ?_ | refine np_loop ?_)) (⟨rfl, trivial⟩) ?_
  refine JH.take 1 rfl (by kernel_rfl) (by kernel_rfl) (by kernel_rfl) (fun _ _ _ => y_move) rfl (by repeat (first | exact np_fun | exact np_inv | refine np_seq ?_ | refine np_blk ?_ | refine np_loop ?_)) (⟨rfl, trivial⟩) ?_
  refine JH.take 2 rfl (by kernel_rfl) (by kernel_rfl) (by kernel_rfl) (fun _ _ _ => y_move) rfl (by repeat (first | exact np_fun | exact np_inv | refine np_seq ?_ | refine np_blk ?_ | refine np_loop ?_)) (⟨rfl, trivial⟩) ?_
  refine JH.one 3 (by kernel_rfl) (JI.op rfl ?_)
  refine (JO.call _ (fun wc hc => great24_any _ _ s Aq cq qs Ae ce hs wc (hRS.step hc.step) hwf (hq.step hc.step) hqw (SlF.step he hc.step (by omega)) (fun x hx => ⟨(hew x hx).1, (hew x hx).2.step hc.step⟩)) rfl rfl rfl ?_)
  rintro wc v wn hst hsz hfr hbl hst0 ⟨g, rfl, hgr⟩
  refine ⟨⟨rfl, trivial⟩, ?_⟩
  refine JH.take 4 rfl (by kernel_rfl) (by kernel_rfl) (by kernel_rfl) (fun _ _ _ => y_move) rfl (by repeat (first | exact np_fun | exact np_inv | refine np_seq ?_ | refine np_blk ?_ | refine np_loop ?_)) (⟨rfl, trivial⟩) ?_
  cases g
  · refine JH.take_do 5 rfl rfl rfl rfl (by kernel_rfl) (by kernel_rfl) (by kernel_rfl) (fun _ _ _ => y_ldA 0 rfl rfl rfl hl4) rfl (by repeat (first | exact np_fun | exact np_inv | refine np_seq ?_ | refine np_blk ?_ | refine np_loop ?_)) (⟨rfl, trivial⟩) ?_
    refine JH.take_do 6 rfl rfl rfl rfl (by kernel_rfl) (by kernel_rfl) (by kernel_rfl) (fun _ _ _ => y_move) rfl (by repeat (first | exact np_fun | exact np_inv | refine np_seq ?_ | refine np_blk ?_ | refine np_loop ?_)) (⟨rfl, trivial⟩) ?_
    refine JH.take_do 7 rfl rfl rfl rfl (by kernel_rfl) (by kernel_rfl) (by kernel_rfl) (fun _ _ _ => y_move) rfl (by repeat (first | exact np_fun | exact np_inv | refine np_seq ?_ | refine np_blk ?_ | refine np_loop ?_)) (⟨rfl, trivial⟩) ?_
    refine JH.take_do 9 rfl rfl rfl rfl (by kernel_rfl) (by kernel_rfl) (by kernel_rfl) (fun _ _ _ => y_ldA 0 rfl rfl rfl hl4) rfl (by repeat (first | exact np_fun | exact np_inv | refine np_seq ?_ | refine np_blk ?_ | refine np_loop ?_)) (⟨rfl, trivial⟩) ?_
    refine JH.take_do 10 rfl rfl rfl rfl (by kernel_rfl) (by kernel_rfl) (by kernel_rfl) (fun _ _ _ => y_move) rfl (by repeat (first | exact np_fun | exact np_inv | refine np_seq ?_ | refine np_blk ?_ | refine np_loop ?_)) (⟨rfl, trivial⟩) ?_
    refine JH.take_do 11 rfl rfl rfl rfl (by kernel_rfl) (by kernel_rfl) (by kernel_rfl) (fun _ _ _ => y_move) rfl (by repeat (first | exact np_fun | exact np_inv | refine np_seq ?_ | refine np_blk ?_ | refine np_loop ?_)) (⟨rfl, trivial⟩) ?_
    refine JH.one 8 (by kernel_rfl) (JI.op_do rfl rfl rfl rfl ?_)
    have hm2 := hgr rfl
    refine (JO.callv (fun wc hc => check16_any _ _ s Aq cq qs Ae ce hs wc (hRS.step (hst.trans hc.step (Nat.le_trans hsz hbl.size))) (hq.step (hst.trans hc.step (Nat.le_trans hsz hbl.size))) hqw (SlF.step he (hst.trans hc.step (Nat.le_trans hsz hbl.size)) (by omega)) ((hevl hm2).step (hst.trans hc.step (Nat.le_trans hsz hbl.size))) (hfit hm2) hm2.nq (hnel hm2) (htab.step (hst.trans hc.step (Nat.le_trans hsz hbl.size)))) rfl rfl rfl ?_)
    refine ⟨⟨rfl, trivial⟩, ?_⟩
    refine JH.one 12 (by kernel_rfl) (JI.op_do rfl rfl rfl rfl ?_)
    refine (JO.callv (fun wc hc => refcheck17_any _ _ s Aq cq qs Ae ce hs wc (hRS.step (hst.trans hc.step (Nat.le_trans hsz hbl.size))) (hq.step (hst.trans hc.step (Nat.le_trans hsz hbl.size))) hqw (SlF.step he (hst.trans hc.step (Nat.le_trans hsz hbl.size)) (by omega)) ((hevl hm2).step (hst.trans hc.step (Nat.le_trans hsz hbl.size))) (hfit hm2) hm2.nq (hnel hm2) (htab.step (hst.trans hc.step (Nat.le_trans hsz hbl.size)))) rfl rfl rfl ?_)
    refine ⟨⟨rfl, trivial⟩, ?_⟩
    refine JH.take_do 13 rfl rfl rfl rfl (by kernel_rfl) (by kernel_rfl) (by kernel_rfl) (fun _ _ _ => y_eql rfl rfl) rfl (by repeat (first | exact np_fun | exact np_inv | refine np_seq ?_ | refine np_blk ?_ | refine np_loop ?_)) (⟨rfl, trivial⟩) ?_
    refine JH.take 14 rfl (by kernel_rfl) (by kernel_rfl) (by kernel_rfl) (fun _ _ _ => y_pick rfl) rfl (by repeat (first | exact np_fun | exact np_inv | refine np_seq ?_ | refine np_blk ?_ | refine np_loop ?_)) (⟨rfl, trivial⟩) ?_
    refine JH.take 15 rfl (by kernel_rfl) (by kernel_rfl) (by kernel_rfl) (fun _ _ _ => y_assign) rfl (by repeat (first | exact np_fun | exact np_inv | refine np_seq ?_ | refine np_blk ?_ | refine np_loop ?_)) (⟨rfl, trivial⟩) ?_
    refine JH.done (by kernel_rfl) ?_
    with_reducible refine JQ.seq (JC.ret ?_)
    exact ret_one rfl ResV.tmp (fun w _ => congrArg Value.bool (by simp))
  · refine JH.take_skip 5 rfl rfl rfl rfl (by kernel_rfl) (by kernel_rfl) (by kernel_rfl) rfl (by repeat (first | exact np_fun | exact np_inv | refine np_seq ?_ | refine np_blk ?_ | refine np_loop ?_)) (⟨rfl, trivial⟩) ?_
    refine JH.take_skip 6 rfl rfl rfl rfl (by kernel_rfl) (by kernel_rfl) (by kernel_rfl) rfl (by repeat (first | exact np_fun | exact np_inv | refine np_seq ?_ | refine np_blk ?_ | refine np_loop ?_)) (⟨rfl, trivial⟩) ?_
    refine JH.take_skip 7 rfl rfl rfl rfl (by kernel_rfl) (by kernel_rfl) (by kernel_rfl) rfl (by repeat (first | exact np_fun | exact np_inv | refine np_seq ?_ | refine np_blk ?_ | refine np_loop ?_)) (⟨rfl, trivial⟩) ?_
    refine JH.take_skip 9 rfl rfl rfl rfl (by kernel_rfl) (by kernel_rfl) (by kernel_rfl) rfl (by repeat (first | exact np_fun | exact np_inv | refine np_seq ?_ | refine np_blk ?_ | refine np_loop ?_)) (⟨rfl, trivial⟩) ?_
    refine JH.take_skip 10 rfl rfl rfl rfl (by kernel_rfl) (by kernel_rfl) (by kernel_rfl) rfl (by repeat (first | exact np_fun | exact np_inv | refine np_seq ?_ | refine np_blk ?_ | refine np_loop ?_)) (⟨rfl, trivial⟩) ?_
    refine JH.take_skip 11 rfl rfl rfl rfl (by kernel_rfl) (by kernel_rfl) (by kernel_rfl) rfl (by repeat (first | exact np_fun | exact np_inv | refine np_seq ?_ | refine np_blk ?_ | refine np_loop ?_)) (⟨rfl, trivial⟩) ?_
    refine JH.one 8 (by kernel_rfl) (JI.skip rfl rfl rfl rfl rfl ⟨⟨rfl, trivial⟩, ?_⟩)
    refine JH.one 12 (by kernel_rfl) (JI.skip rfl rfl rfl rfl rfl ⟨⟨rfl, trivial⟩, ?_⟩)
    refine JH.take_skip 13 rfl rfl rfl rfl (by kernel_rfl) (by kernel_rfl) (by kernel_rfl) rfl (by repeat (first | exact np_fun | exact np_inv | refine np_seq ?_ | refine np_blk ?_ | refine np_loop ?_)) (⟨rfl, trivial⟩) ?_
    refine JH.take 14 rfl (by kernel_rfl) (by kernel_rfl) (by kernel_rfl) (fun _ _ _ => y_pick rfl) rfl (by repeat (first | exact np_fun | exact np_inv | refine np_seq ?_ | refine np_blk ?_ | refine np_loop ?_)) (⟨rfl, trivial⟩) ?_
    refine JH.take 15 rfl (by kernel_rfl) (by kernel_rfl) (by kernel_rfl) (fun _ _ _ => y_assign) rfl (by repeat (first | exact np_fun | exact np_inv | refine np_seq ?_ | refine np_blk ?_ | refine np_loop ?_)) (⟨rfl, trivial⟩) ?_
    refine JH.done (by kernel_rfl) ?_
    with_reducible refine JQ.seq (JC.ret ?_)
    exact ret_one rfl ResV.tmp (fun w _ => congrArg Value.bool (by simp))
end Go.Proofs.YtchnnplcpidkiaaDoor
