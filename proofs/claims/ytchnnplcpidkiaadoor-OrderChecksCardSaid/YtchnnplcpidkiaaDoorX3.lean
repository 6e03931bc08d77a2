/- The contract of Check; conditions: the bounds that it names (C30, P7, C31, put together). -/
import Derived.Test.YtchnnplcpidkiaaDoorX2
namespace Go.Proofs.YtchnnplcpidkiaaDoor
open Go.RowKit Go.Lib
set_option linter.unusedSimpArgs false
set_option linter.unusedVariables false
set_option maxRecDepth 20000
set_option maxHeartbeats 32000000

def numOf (s : LState) (c : Int) : Int := ((s.rs[lastI s c]?).map (·.num)).getD 0
theorem last28_any (F : Nat → Prop) (cs : List Value) (s : LState) (c : Int) (w : World) (h : RState F w cs s) (hsm : Small s) :
    CallsTo 28 #[.agg cs.toArray, .int .i64 c] w (fun v w' => ∃ lc : List Value, v = .tuple #[.agg lc.toArray, .bool (lastB s c)] ∧ lc.length = 4 ∧ allOne lc = true ∧ (lastB s c = true → nth lc (0 + 1) = some (.int .i64 (numOf s c)))) := by
  have hRS := h
  obtain ⟨Ap, cp, Ar, cr, Am, cm, rfl, hp, hr, hm⟩ := h.form
  obtain ⟨hs, hhs, hrow, hvals⟩ := hr
  have hlen : hs.length = s.rs.length := by rw [← hhs]; simp
  have b2' := hsm.rs
  refine CallsTo.enter 28 (fun _ => True) F Tryd.func28 rfl rfl rfl rfl (by intros; first | trivial | assumption) ?_
  with_reducible refine JC.seq ?_
  with_reducible refine JC.region ?_
  refine JL.op (JO.box rfl rfl ?_); intro b2
  refine JL.op (JO.alloc rfl rfl ?_); intro b4
  refine JL.op (JO.val (y_assign) rfl ?_)
  with_reducible refine JL.nil ?_
  with_reducible refine JQ.seq (JC.seq ?_)
  with_reducible refine JC.region ?_
  refine JL.op (JO.val (y_ldA 0 rfl rfl rfl rfl) rfl ?_)
  refine JL.op (JO.val (y_move) rfl ?_)
  refine JL.op (JO.callv (fun wc hc => last_any _ _ s c wc (hRS.step hc.step) hsm) rfl rfl rfl ?_)
  refine JL.op (JO.val (y_move) rfl ?_)
  refine JL.op (JO.val (y_extract rfl rfl) rfl ?_)
  refine JL.op (JO.val (y_extract rfl rfl) rfl ?_)
  refine JL.op (JO.val (y_assign) rfl ?_)
  refine JL.op (JO.val (y_assign) rfl ?_)
  with_reducible refine JL.nil ?_
  with_reducible refine JQ.seq (JC.seq (JC.seq ?_))
  with_reducible refine JC.region ?_
  refine JL.op (JO.val (y_move) rfl ?_)
  refine JL.op (JO.val (y_not rfl) rfl ?_)
  with_reducible refine JL.nil ?_
  with_reducible refine JQ.seq ?_
  refine JC.cond (b := !lastB s c) rfl (fun hg => ?_) (fun hg => ?_)
  · have hlb : lastB s c = false := by simpa using hg
    rw [hlb]
    with_reducible refine JC.seq ?_
    with_reducible refine JC.region ?_
    refine JL.op (JO.val (y_build rfl rfl (rfl)) rfl ?_)
    refine JL.op (JO.storeA 1 rfl rfl rfl rfl (by first | rfl | assumption) (by first | rfl | assumption) (by first | rfl | assumption) ?_)
    refine JL.op (JO.val (y_assign) rfl ?_)
    with_reducible refine JL.nil ?_
    with_reducible refine JQ.seq (JC.ret (JQ.seq_ret ?_))
    exact ret_two rfl (ResV.cellA 1 rfl rfl rfl rfl) ResV.tmp (fun w' hc => ⟨_, rfl, rfl, rfl, fun h => by cases h⟩)
  · have hlb : lastB s c = true := by simpa using hg
    have hlt : lastI s c < s.rs.length := by
      simp only [lastB, bsB, Bool.and_eq_true, decide_eq_true_eq] at hlb
      exact hlb.1
    obtain ⟨r, hx⟩ : ∃ r, s.rs[lastI s c]? = some r := ⟨s.rs[lastI s c], by simp [hlt]⟩
    obtain ⟨⟨x1, A1, c1⟩, hx1, rfl⟩ := map_at hhs hx
    have hv : RStrs F w A1 c1 x1.vals := hvals _ (List.mem_of_getElem? hx1)
    have hvn : x1.vals.length ≤ 10000 := hsm.vals _ (List.mem_of_getElem? hx)
    have hno : numOf s c = x1.num := by unfold numOf; rw [hx]; rfl
    obtain ⟨b, o, hA, hat⟩ := SlF.elem hrow rcells_len hlen.symm hx1
    rw [hlb, hno]
    with_reducible refine JC.skip (JQ.seq (JC.seq ?_))
    with_reducible refine JC.region ?_
    refine JL.op (JO.val (y_fieldAddr rfl rfl rfl) rfl ?_)
    refine JL.op (JO.val (y_ld 0 rfl rfl rfl rfl) rfl ?_)
    refine JL.op (JO.val (y_move) rfl ?_)
    refine JL.op (JO.val (y_idx (b := b) (o := o) rfl rfl rfl rfl hA rfl hlt) rfl ?_)
    refine JL.op (JO.val (y_lddA rfl rfl hat rfl) rfl ?_)
    refine JL.op (JO.alloc rfl rfl ?_); intro b8
    refine JL.op (JO.storeA 2 rfl rfl rfl rfl (by first | rfl | assumption) (by first | rfl | assumption) (by first | rfl | assumption) ?_)
    with_reducible refine JL.nil ?_
    with_reducible refine JQ.seq (JC.seq ?_)
    with_reducible refine JC.region ?_
    refine JL.op (JO.val (y_fieldAddr rfl rfl rfl) rfl ?_)
    refine JL.op (JO.val (y_ld 2 rfl rfl rfl rfl) rfl ?_)
    refine JL.op (JO.call _ (fun wc hc => clone_strs _ A1 x1.vals.length c1 _ wc (SlF.step hv hc.step (by omega)) (flatMap_one fun m _ => sstr_one m) (by omega)) rfl rfl rfl ?_)
    rintro wc v wn hst hsz hfr hbl hst0 hvv
    obtain ⟨Av, cv, rfl, hov⟩ := hvv.own
    refine JL.op (JO.val (y_fieldAddr rfl rfl rfl) rfl ?_)
    refine JL.op (JO.store1 2 rfl rfl rfl rfl rfl rfl rfl ?_)
    with_reducible refine JL.nil ?_
    with_reducible refine JQ.seq (JC.seq ?_)
    with_reducible refine JC.region ?_
    refine JL.op (JO.val (y_ldA 2 rfl rfl rfl rfl) rfl ?_)
    refine JL.op (JO.storeA 1 rfl rfl rfl rfl (by first | rfl | assumption) (by first | rfl | assumption) (by first | rfl | assumption) ?_)
    refine JL.op (JO.val (y_assign) rfl ?_)
    with_reducible refine JL.nil ?_
    with_reducible refine JQ.seq (JC.ret ?_)
    exact ret_two rfl (ResV.cellA 1 rfl rfl rfl rfl) ResV.tmp (fun w' hc => ⟨_, rfl, rfl, rfl, fun _ => rfl⟩)
/-- What ran, with the slices of the replies' texts. -/
abbrev LE := (Int × Int) × Nat × (LReply × Option Addr × Nat)
def lastE (L : List LE) (k : Int × Int) : Option (Nat × (LReply × Option Addr × Nat)) := (L.reverse.find? (fun x => decide (x.1 = k))).map (·.2)
def gI (L : List LE) : Int × Int → Option Value := fun k => (lastE L k).map (fun x => .int .i64 (x.1 : Nat))
def gR (L : List LE) : Int × Int → Option Value := fun k => (lastE L k).map (fun x => .agg (rcells x.2).toArray)
def strip (x : LE) : (Int × Int) × Nat × LReply := (x.1, x.2.1, x.2.2.1)
theorem lastE_snoc {L : List LE} {x : LE} {k : Int × Int} : lastE (L ++ [x]) k = if k = x.1 then some x.2 else lastE L k := by
  unfold lastE
  rw [List.reverse_append]
  simp only [List.reverse_singleton, List.singleton_append, List.find?_cons]
  by_cases h : k = x.1
  · simp [h]
  · have h2 : ¬ x.1 = k := fun e => h e.symm
    simp [h, h2]
theorem gI_snoc {L : List LE} {x : LE} : gI (L ++ [x]) = gput (gI L) x.1 (.int .i64 (x.2.1 : Nat)) := by
  funext k
  unfold gI gput
  rw [lastE_snoc]
  split <;> rfl
theorem gR_snoc {L : List LE} {x : LE} : gR (L ++ [x]) = gput (gR L) x.1 (.agg (rcells x.2.2).toArray) := by
  funext k
  unfold gR gput
  rw [lastE_snoc]
  split <;> rfl
theorem fnd_strip {L : List LE} {k : Int × Int} : fnd (L.map strip) k = (lastE L k).map (fun x => (x.1, x.2.1)) := by
  unfold fnd lastE
  rw [← List.map_reverse, List.find?_map]
  show Option.map _ (Option.map strip (List.find? (fun x : LE => decide (x.1 = k)) L.reverse)) = _
  cases List.find? (fun x : LE => decide (x.1 = k)) L.reverse <;> rfl
theorem ev_name (h : LEvent × Option Addr × Nat) : nth (ecells h) (0 + 0 + 0) = some (.int .i64 h.1.req.client) ∧ nth (ecells h) (0 + 0 + 1) = some (.int .i64 h.1.req.num) := ⟨rfl, rfl⟩
theorem fit2_all {k : Nat} {s : LState} {qs : List LReq} (hk : k + qs.length ≤ 100) (h : Fit2 k s) (hq : ∀ q ∈ qs, q.wf) (_ : qs.length ≤ 100) : Fit2 (k + qs.length) (allD s qs) := by
  induction qs generalizing s k with
  | nil => exact h
  | cons q qs ih =>
    simp only [List.length_cons] at hk
    have := ih (k := k + 1) (by omega) (h.apply (hq q (by simp)) (by omega)) (fun p hp => hq p (by simp [hp])) (by omega)
    rw [List.length_cons, show k + (qs.length + 1) = k + 1 + qs.length by omega]
    exact this
theorem At.notMap {F : Nat → Prop} {w : World} {b o b2 : Nat} {vs : List Value} {g : Int × Int → Option Value} (h : At F w b o vs) (hne : vs ≠ []) (hm : MapAt w b2 g) : b ≠ b2 := fun e => by
  subst e
  obtain ⟨es, clock, h1, _⟩ := hm.form
  cases vs with
  | nil => exact hne rfl
  | cons v vs =>
    have := h.2 0 v rfl
    simp [World.cell?, h1] at this
section
variable {F F2 : Nat → Prop} {w w2 : World} {b : Nat} {g : Int × Int → Option Value}
theorem SlF.past {A : Option Addr} {n cap sz : Nat} {cs : List Value} (h : SlF F w A n cap sz cs) (hm : MapAt w b g) (hst : Step (fun k => F k ∧ k ≠ b) w F2 w2) (hz : 0 < sz) : SlF F2 w2 A n cap sz cs := by
  refine SlF.step (F := fun k => F k ∧ k ≠ b) ⟨h.le, h.max, h.len, h.nil, fun hn => ?_⟩ hst hz
  obtain ⟨b', o, h1, h2⟩ := h.pos hn
  refine ⟨b', o, h1, ⟨h2.1, h2.notMap (fun e => ?_) hm⟩, h2.2⟩
  have h3 := h.len
  rw [e] at h3
  have := Nat.mul_pos hn hz
  simp at h3
  omega
theorem RState.past {cs : List Value} {s : LState} (h : RState F w cs s) (hm : MapAt w b g) (hst : Step (fun k => F k ∧ k ≠ b) w F2 w2) : RState F2 w2 cs s := by
  obtain ⟨Ap, cp, Ar, cr, Am, cm, h1, h2, ⟨hs, h3, h4, h5⟩, h6⟩ := h.form
  exact ⟨Ap, cp, Ar, cr, Am, cm, h1, SlF.past h2 hm hst (by omega), ⟨hs, h3, h4.past hm hst (by omega), fun x hx => SlF.past (h5 x hx) hm hst (by omega)⟩, SlF.past h6 hm hst (by omega)⟩
theorem MapIs.past {b' : Nat} {g' : Int × Int → Option Value} (h : MapIs F w b' g') (hne : b' ≠ b) (hst : Step (fun k => F k ∧ k ≠ b) w F2 w2) : MapIs F2 w2 b' g' := MapIs.step (F := fun k => F k ∧ k ≠ b) ⟨⟨h.1, hne⟩, h.2⟩ hst
theorem Step.past {F0 : Nat → Prop} {w0 : World} (h : Step F0 w0 F w) (hb : w0.heap.size ≤ b) (hst : Step (fun k => F k ∧ k ≠ b) w F2 w2) (hsz : w0.heap.size ≤ w.heap.size) : Step F0 w0 F2 w2 := fun k hk hF =>
  let ⟨h1, h2⟩ := h k hk hF
  let ⟨k1, k2⟩ := hst k (Nat.lt_of_lt_of_le hk hsz) ⟨h2, by omega⟩
  ⟨k1.trans h1, k2⟩
end
section
variable {X : Cx} {E : Env} {S : Sto} {F : Nat → Prop} {w1 : World} {d : Option Tmp} {t : TypeId} {pos : String} {af : Array Edge} {gd : Option (Nat × Bool)} {T e : Nat} {m x : Operand} {b : Nat} {g : Int × Int → Option Value} {k : Int × Int}
theorem y_look2 (zv : Value) (hm : MapIs F w1 b g) (ht : Tryd.prog.underlying T = some (.map 94 e)) (hz : ∀ w, (zeroValue e).run Tryd.prog w = .ok zv w) (h1 : I64 k.1) (h2 : I64 k.2) (hx : ev E m = .map (some b)) (hk : ev E x = kv k) :
    Yields X ⟨d, .lookup T m x true, t, pos, af, gd⟩ E S F w1 (.tuple #[(g k).getD zv, .bool (g k).isSome]) := y_look (sz := 0) (bt := 0) (ag := true) (z := []) true zv hm ht hz h1 h2 hx hk
theorem y_look1 (zv : Value) (hm : MapIs F w1 b g) (ht : Tryd.prog.underlying T = some (.map 94 e)) (hz : ∀ w, (zeroValue e).run Tryd.prog w = .ok zv w) (h1 : I64 k.1) (h2 : I64 k.2) (hx : ev E m = .map (some b)) (hk : ev E x = kv k) :
    Yields X ⟨d, .lookup T m x false, t, pos, af, gd⟩ E S F w1 ((g k).getD zv) := y_look (sz := 0) (bt := 0) (ag := true) (z := []) false zv hm ht hz h1 h2 hx hk
end
end Go.Proofs.YtchnnplcpidkiaaDoor
namespace Go.Proofs.YtchnnplcpidkiaaDoor
open Go.RowKit Go.Lib
set_option linter.unusedSimpArgs false
set_option linter.unusedVariables false
set_option maxRecDepth 20000

theorem lastE_mem {L : List LE} {k : Int × Int} {v : Nat × (LReply × Option Addr × Nat)} (h : lastE L k = some v) : (k, v) ∈ L := by
  unfold lastE at h
  rw [Option.map_eq_some_iff] at h
  obtain ⟨x, h1, rfl⟩ := h
  have h2 := List.find?_some h1
  have h3 := List.mem_of_find?_eq_some h1
  simp only [decide_eq_true_eq] at h2
  subst h2
  exact List.mem_reverse.1 h3
/-- Where a name's last one stands. -/
def atI (L : List LE) (k : Int × Int) : Int := ((lastE L k).map (fun x => (x.1 : Int))).getD 0
theorem gI_get {L : List LE} {k : Int × Int} : (gI L k).getD (.int .i64 0) = .int .i64 (atI L k) := by
  unfold gI atI
  cases lastE L k <;> rfl
theorem gI_some {L : List LE} {k : Int × Int} : (gI L k).isSome = (lastE L k).isSome := by
  unfold gI
  cases lastE L k <;> rfl
theorem atI_some {L : List LE} {k : Int × Int} {i : Nat} {x : LReply × Option Addr × Nat} (h : lastE L k = some (i, x)) : atI L k = (i : Int) := by
  unfold atI; rw [h]; rfl
theorem gR_at {L : List LE} {k : Int × Int} {i : Nat} {x : LReply × Option Addr × Nat} (h : lastE L k = some (i, x)) : gR L k = some (.agg (rcells x).toArray) := by
  unfold gR; rw [h]; rfl
section
variable {X : Cx} {E : Env} {S : Sto} {F : Nat → Prop} {w1 : World} {d : Option Tmp} {t : TypeId} {pos : String} {af : Array Edge} {gd : Option (Nat × Bool)} {m x : Operand} {b : Nat} {L : List LE} {k : Int × Int}
theorem y_lookI (hm : MapIs F w1 b (gI L)) (h1 : I64 k.1) (h2 : I64 k.2) (hx : ev E m = .map (some b)) (hk : ev E x = kv k) :
    Yields X ⟨d, .lookup 91 m x true, t, pos, af, gd⟩ E S F w1 (.tuple #[.int .i64 (atI L k), .bool (lastE L k).isSome]) := by
  have := y_look2 (X := X) (S := S) (d := d) (t := t) (pos := pos) (af := af) (gd := gd) (.int .i64 0) hm Tryd.underlying91 Tryd.zeroValue3 h1 h2 hx hk
  rwa [gI_get, gI_some] at this
theorem y_lookR {v : Value} (hm : MapIs F w1 b (gR L)) (h1 : I64 k.1) (h2 : I64 k.2) (hx : ev E m = .map (some b)) (hk : ev E x = kv k) (hv : gR L k = some v) :
    Yields X ⟨d, .lookup 92 m x false, t, pos, af, gd⟩ E S F w1 v := by
  have := y_look1 (X := X) (S := S) (d := d) (t := t) (pos := pos) (af := af) (gd := gd) _ hm Tryd.underlying92 Tryd.zeroValue45 h1 h2 hx hk
  rwa [hv] at this
end
theorem evB_neg {l : List ((Int × Int) × Nat × LReply)} {qs : List LReq} {e : LEvent} (h : e.done < 0) : evB l qs e = 0 := by
  unfold evB; rw [if_pos h]
theorem evB_none {L : List LE} {qs : List LReq} {e : LEvent} (h : ¬ e.done < 0) (h1 : lastE L (nameE e) = none) : evB (L.map strip) qs e = 7 := by
  unfold evB; rw [if_neg h, fnd_strip, h1]; rfl
theorem evB_at {L : List LE} {qs : List LReq} {e : LEvent} {i : Nat} {x : LReply × Option Addr × Nat} {q : LReq} (h : ¬ e.done < 0) (h1 : lastE L (nameE e) = some (i, x)) (h2 : qs[i]? = some q) : evB (L.map strip) qs e = if (!eqQ q e.req || !sameR x.1 e.rep) = true then 9 else 0 := by
  unfold evB; rw [if_neg h, fnd_strip, h1]
  simp only [Option.map_some, h2]
theorem badOrder_eq {L : List LE} {a b : LEvent} : badOrder (L.map strip) a b = ((lastE L (nameE a)).isSome && (lastE L (nameE b)).isSome && decide (a.done ≥ 0) && decide (a.done < b.called) && decide (atI L (nameE a) ≥ atI L (nameE b))) := by
  unfold badOrder atI aheadB
  rw [fnd_strip, fnd_strip]
  rcases lastE L (nameE a) with _ | ⟨i, r⟩ <;> rcases lastE L (nameE b) with _ | ⟨j, r'⟩ <;> simp
theorem take_any {α : Type} {l : List α} {k : Nat} {y : α} {p : α → Bool} (hy : l[k]? = some y) (h : (l.take k).any p = false) (hp : p y = false) : (l.take (k + 1)).any p = false := by
  rw [List.take_add_one, hy, List.any_append, h]
  simp [hp]
theorem runsB_new {s : LState} {q : LReq} (h : goodB q = true) (h2 : (!lastB s q.client) = true) : runsB s q = true := by
  unfold runsB; rw [h, h2]; rfl
theorem runsB_ok {s : LState} {q : LReq} (h : goodB q = true) (h2 : (!lastB s q.client) = false) : runsB s q = decide (numOf s q.client < q.num) := by
  unfold runsB numOf; rw [h, h2]; rfl
theorem runsB_no {s : LState} {q : LReq} (h : goodB q = false) : runsB s q = false := by
  unfold runsB; rw [h]; rfl
end Go.Proofs.YtchnnplcpidkiaaDoor
namespace Go.Proofs.YtchnnplcpidkiaaDoor
open Go.RowKit Go.Lib
set_option linter.unusedSimpArgs false
set_option linter.unusedVariables false
set_option maxRecDepth 20000
set_option maxHeartbeats 32000000

theorem check16_any (F : Nat → Prop) (cs : List Value) (s : LState) (Aq : Option Addr) (cq : Nat) (qs : List LReq) (Ae : Option Addr) (ce : Nat) (hs : List (LEvent × Option Addr × Nat)) (w : World) (h : RState F w cs s) (hq : RReqs F w Aq cq qs) (hqw : ∀ q ∈ qs, q.wf) (he : SlF F w Ae hs.length ce 48 (hs.flatMap ecells)) (hev : EvL F w hs) (hfit : Fit2 0 s) (hnq : qs.length ≤ 20) (hne : hs.length ≤ 12) (htab : Tab F w) :
    CallsTo 16 #[.agg cs.toArray, .slice Aq qs.length cq, .slice Ae hs.length ce] w (fun v _ => v = .int .i64 (checkD s qs (hs.map (·.1)))) := by
  have hRS := h
  obtain ⟨Ap, cp, Ar, cr, Am, cm, rfl, hp, hr, hm⟩ := h.form
  refine CallsTo.enter 177 (fun _ => True) F Tryd.func16 rfl rfl rfl rfl (by intros; first | trivial | assumption) ?_
  with_reducible refine JC.seq ?_
  with_reducible refine JC.region ?_
  refine JL.op (JO.box rfl rfl ?_); intro b3
  refine JL.op (JO.val (y_assign) rfl ?_)
  with_reducible refine JL.nil ?_
  with_reducible refine JQ.seq (JC.seq ?_)
  with_reducible refine JC.region ?_
  refine JL.op (JO.val (y_ldA 0 rfl rfl rfl rfl) rfl ?_)
  refine JL.op (JO.alloc rfl rfl ?_); intro b7
  refine JL.op (JO.storeA 1 rfl rfl rfl rfl (by first | rfl | assumption) (by first | rfl | assumption) (by first | rfl | assumption) ?_)
  with_reducible refine JL.nil ?_
  with_reducible refine JQ.seq (JC.seq ?_)
  with_reducible refine JC.region ?_
  refine JL.op (JO.makeMap rfl ?_)
  rintro bI wI hbI _ hmI hstI hszI
  refine JL.op (JO.makeMap rfl ?_)
  rintro bR wR hbR hnR hmR hstR hszR
  refine JL.op (JO.val (y_assign) rfl ?_)
  refine JL.op (JO.val (y_assign) rfl ?_)
  with_reducible refine JL.nil ?_
  have hne2 : bI ≠ bR := fun e => absurd hmI.2.lt (by rw [e]; omega)
  replace hmI := hmI.step hstR
  have hst0 := hstI.trans hstR hszI
  have hsw0 := Nat.le_trans hszI hszR
  clear hstI hstR hszI hszR hnR
  refine JQ.env (S := [(some b3, 28, [.slice Ap s.ps.length cp, .slice Ar s.rs.length cr, .int .i64 s.ep, .slice Am s.ms.length cm]), (some b7, 28, [.slice Ap s.ps.length cp, .slice Ar s.rs.length cr, .int .i64 s.ep, .slice Am s.ms.length cm])]) (l := [(1, .slice Aq qs.length cq), (2, .slice Ae hs.length ce), (7, .pointer (some ⟨b7, 0, none⟩)), (8, .map (some bI)), (9, .map (some bR))]) ⟨rfl, rfl, rfl, rfl, rfl, trivial⟩ (fun E => ?_)
  with_reducible refine JQ.seq (JC.seq (JC.seq ?_))
  with_reducible refine JC.region ?_
  refine JL.op (JO.val (y_move) rfl ?_)
  refine JL.op (JO.val (y_len rfl rfl) rfl ?_)
  refine JL.op (JO.val (y_move) rfl ?_)
  with_reducible refine JL.nil ?_
  with_reducible refine JQ.seq (JC.block ?_)
  refine JC.loop (fun m E S F' w1' => ∃ (k : Nat) (L : List LE) (cs' : List Value), m = qs.length - k ∧ k ≤ qs.length ∧ RState F' w1' cs' (allD s (qs.take k)) ∧ L.map strip = runL s (qs.take k) 0 ∧ MapIs F' w1' bI (gI L) ∧ MapIs F' w1' bR (gR L) ∧ (∀ x ∈ L, x.2.2.1.wf ∧ Tame x.2.2.1 ∧ RStrs F' w1' x.2.2.2.1 x.2.2.2.2 x.2.2.1.vals) ∧ S = [(some b3, 28, [.slice Ap s.ps.length cp, .slice Ar s.rs.length cr, .int .i64 s.ep, .slice Am s.ms.length cm]), (some b7, 28, cs')] ∧ Step F w F' w1' ∧ w.heap.size ≤ w1'.heap.size ∧
      Has E [(1, .slice Aq qs.length cq), (2, .slice Ae hs.length ce), (7, .pointer (some ⟨b7, 0, none⟩)), (8, .map (some bI)), (9, .map (some bR)), (32, .slice Aq qs.length cq), (33, .int .i64 (qs.length : Nat)), (34, .int .i64 (k : Nat))])
    _ ⟨0, [], _, rfl, Nat.zero_le _, hRS.step hst0, rfl, hmI, hmR, (fun x hx => by cases hx), rfl, hst0, hsw0, ⟨rfl, rfl, rfl, rfl, rfl, rfl, rfl, rfl, trivial⟩⟩ ?_
  clear hmI hmR hst0 hsw0
  rintro m E S F' w1' ⟨k, L, cs', rfl, hk, hrs, hL, hmI, hmR, hLv, rfl, hst, hsw, hE⟩
  obtain ⟨hl4, hl41⟩ := hrs.four
  refine JC.env hE (fun E => ?_)
  have hfk : Fit2 20 (allD s (qs.take k)) := (fit2_all (by rw [List.length_take]; omega) hfit (fun q hq => hqw q (List.mem_of_mem_take hq)) (by rw [List.length_take]; omega)).mono (by rw [List.length_take]; omega)
  with_reducible refine JC.seq ?_
  with_reducible refine JC.region ?_
  refine JL.op (JO.val (y_lss rfl rfl) rfl ?_)
  with_reducible refine JL.nil ?_
  with_reducible refine JQ.seq (JC.seq ?_)
  by_cases hlt : k < qs.length
  · have hd : decide ((k : Int) < (qs.length : Int)) = true := by simpa using hlt
    refine JC.cond_true (congrArg Value.bool hd) ?_
    obtain ⟨y, hy⟩ : ∃ y, qs[k]? = some y := ⟨qs[k], by simp [hlt]⟩
    have hyw := hqw y (List.mem_of_getElem? hy)
    have hyl := LReq.len_cells hyw
    have hy1 := LReq.all1 hyw
    have hsm := hfk.fit.size.small (by omega)
    have htame := applyD_tame (q := y) hfk.fit (by omega) hfk.tame
    have hrwf := applyD_rep (q := y) hfk.fit.wf hyw
    obtain ⟨b, o, hA, hat⟩ := SlF.elem (hq.step hst) (fun q hq => LReq.len_cells (hqw q hq)) rfl hy
    have hrun := runL_snoc (s := s) (qs := qs.take k) (q := y) (i := 0)
    rw [← take_snoc hy, List.length_take, Nat.zero_add, Nat.min_eq_left hk] at hrun
    have hnext : allD s (qs.take (k + 1)) = (applyD (allD s (qs.take k)) y).1 := by rw [take_snoc hy, allD_snoc]
    with_reducible refine JC.skip (JQ.seq (JC.seq (JC.block (JC.seq ?_))))
    with_reducible refine JC.region ?_
    refine JL.op (JO.val (y_move) rfl ?_)
    refine JL.op (JO.val (y_idx (b := b) (o := o) rfl rfl rfl rfl hA rfl hlt) rfl ?_)
    refine JL.op (JO.val (y_lddA rfl rfl hat (by first | rfl | assumption)) rfl ?_)
    refine JL.op (JO.alloc rfl rfl ?_); intro b11
    refine JL.op (JO.val (y_assign) rfl ?_)
    refine JL.op (JO.storeA 2 rfl rfl rfl rfl (by first | rfl | assumption) (by first | rfl | assumption) (by first | rfl | assumption) ?_)
    with_reducible refine JL.nil ?_
    with_reducible refine JQ.seq (JC.seq ?_)
    with_reducible refine JC.region ?_
    refine JL.op (JO.alloc rfl rfl ?_); intro b12
    with_reducible refine JL.nil ?_
    with_reducible refine JQ.seq (JC.seq ?_)
    with_reducible refine JC.region ?_
    refine JL.op (JO.val (y_fieldAddr rfl rfl rfl) rfl ?_)
    refine JL.op (JO.val (y_ld 2 rfl rfl rfl rfl) rfl ?_)
    refine JL.op (JO.val (y_fieldAddr rfl rfl rfl) rfl ?_)
    refine JL.op (JO.val (y_ld 2 rfl rfl rfl rfl) rfl ?_)
    refine JL.op (JO.val (y_build rfl rfl (⟨_, _, _, rfl, rfl, rfl, rfl, ⟨_, _, _, rfl, rfl, rfl, rfl, rfl⟩⟩)) rfl ?_)
    refine JL.op (JO.alloc rfl rfl ?_); intro b13
    refine JL.op (JO.storeA 4 rfl rfl rfl rfl (by first | rfl | assumption) (by first | rfl | assumption) (by first | rfl | assumption) ?_)
    with_reducible refine JL.nil ?_
    refine JQ.env (S := [(some b3, 28, [.slice Ap s.ps.length cp, .slice Ar s.rs.length cr, .int .i64 s.ep, .slice Am s.ms.length cm]), (some b7, 28, cs'), (some b11, 41, y.cells), (some b12, 45, [.int .i64 0, .int .i64 0, .int .i64 0, .slice none 0 0]), (some b13, 94, [.int .i64 y.client, .int .i64 y.num])]) (l := [(1, .slice Aq qs.length cq), (2, .slice Ae hs.length ce), (7, .pointer (some ⟨b7, 0, none⟩)), (8, .map (some bI)), (9, .map (some bR)), (10, .int .i64 (k : Nat)), (32, .slice Aq qs.length cq), (33, .int .i64 (qs.length : Nat)), (34, .int .i64 (k : Nat)), (11, .pointer (some ⟨b11, 0, none⟩)), (12, .pointer (some ⟨b12, 0, none⟩)), (13, .pointer (some ⟨b13, 0, none⟩))]) ⟨rfl, rfl, rfl, rfl, rfl, rfl, rfl, rfl, rfl, rfl, rfl, rfl, trivial⟩ (fun E => ?_)
    with_reducible refine JQ.seq (JC.seq ?_)
    with_reducible refine JC.region ?_
    refine JL.op (JO.val (y_ldA 1 rfl rfl rfl hl4) rfl ?_)
    refine JL.op (JO.val (y_fieldAddr rfl rfl rfl) rfl ?_)
    refine JL.op (JO.val (y_ld 2 rfl rfl rfl rfl) rfl ?_)
    refine JL.op (JO.call _ (fun wc hc => last28_any _ _ _ y.client wc (hrs.step hc.step) hsm) rfl rfl rfl ?_)
    rintro wc v wn hst2 hsz2 hfr2 hbl2 hst02 ⟨lc, rfl, hlc4, hlc1, hnum⟩
    replace hrs := hrs.step hst2
    replace hmI := hmI.step hst2
    replace hmR := hmR.step hst2
    replace hLv := fun x (hx : x ∈ L) => (⟨(hLv x hx).1, (hLv x hx).2.1, (hLv x hx).2.2.step hst2⟩ : x.2.2.1.wf ∧ Tame x.2.2.1 ∧ _)
    have hsw2 : w.heap.size ≤ wn.heap.size := Nat.le_trans hsw (Nat.le_trans hsz2 hbl2.size)
    replace hst2 := hst.trans hst2 hsw
    refine JL.op (JO.val (y_move) rfl ?_)
    refine JL.op (JO.val (y_extract rfl rfl) rfl ?_)
    refine JL.op (JO.val (y_extract rfl rfl) rfl ?_)
    refine JL.op (JO.alloc rfl rfl ?_); intro b14
    refine JL.op (JO.storeA 5 rfl rfl rfl rfl (by first | rfl | assumption) (by first | rfl | assumption) (by first | rfl | assumption) ?_)
    refine JL.op (JO.val (y_assign) rfl ?_)
    with_reducible refine JL.nil ?_
    refine JQ.env (S := [(some b3, 28, [.slice Ap s.ps.length cp, .slice Ar s.rs.length cr, .int .i64 s.ep, .slice Am s.ms.length cm]), (some b7, 28, cs'), (some b11, 41, y.cells), (some b12, 45, [.int .i64 0, .int .i64 0, .int .i64 0, .slice none 0 0]), (some b13, 94, [.int .i64 y.client, .int .i64 y.num]), (some b14, 45, lc)]) (l := [(1, .slice Aq qs.length cq), (2, .slice Ae hs.length ce), (7, .pointer (some ⟨b7, 0, none⟩)), (8, .map (some bI)), (9, .map (some bR)), (10, .int .i64 (k : Nat)), (32, .slice Aq qs.length cq), (33, .int .i64 (qs.length : Nat)), (34, .int .i64 (k : Nat)), (11, .pointer (some ⟨b11, 0, none⟩)), (12, .pointer (some ⟨b12, 0, none⟩)), (13, .pointer (some ⟨b13, 0, none⟩)), (14, .pointer (some ⟨b14, 0, none⟩)), (15, .bool (lastB (allD s (qs.take k)) y.client))]) ⟨rfl, rfl, rfl, rfl, rfl, rfl, rfl, rfl, rfl, rfl, rfl, rfl, rfl, rfl, trivial⟩ (fun E => ?_)
    with_reducible refine JQ.seq (JC.seq ?_)
    with_reducible refine JC.region ?_
    refine JL.op (JO.val (y_ldA 1 rfl rfl rfl hl4) rfl ?_)
    refine JL.op (JO.val (y_ldA 2 rfl rfl rfl (by first | rfl | assumption)) rfl ?_)
    refine JL.op (JO.call _ (fun wc hc => apply_any _ _ _ y wc (hrs.step hc.step) hfk.fit.wf hsm hfk.fit.ord hyw ((htab.step hst2).step hc.step)) rfl rfl rfl ?_)
    rintro wc3 v wn3 hst3 hsz3 hfr3 hbl3 hst03 ⟨cs3, A3, cap3, rfl, hos3, hov3⟩
    obtain ⟨hl5, hl6⟩ := hos3.four
    have hra3 := (hos3.weak (fun b hb => hfr3 b hb.1)).reads
    have hrr3 : RStrs _ wn3 A3 cap3 (applyD (allD s (qs.take k)) y).2.vals := (hov3.weak (fun b hb => hfr3 b hb)).slF
    replace hmI := hmI.step hst3
    replace hmR := hmR.step hst3
    replace hLv := fun x (hx : x ∈ L) => (⟨(hLv x hx).1, (hLv x hx).2.1, (hLv x hx).2.2.step hst3⟩ : x.2.2.1.wf ∧ Tame x.2.2.1 ∧ _)
    have hsw3 : w.heap.size ≤ wn3.heap.size := Nat.le_trans hsw2 (Nat.le_trans hsz3 hbl3.size)
    replace hst3 := hst2.trans hst3 hsw2
    refine JL.op (JO.val (y_move) rfl ?_)
    refine JL.op (JO.val (y_extract rfl rfl) rfl ?_)
    refine JL.op (JO.val (y_extract rfl rfl) rfl ?_)
    refine JL.op (JO.storeA 1 rfl rfl rfl rfl (by first | rfl | assumption) (by first | rfl | assumption) (by first | rfl | assumption) ?_)
    refine JL.op (JO.storeA 3 rfl rfl rfl rfl (by first | rfl | assumption) (by first | rfl | assumption) (by first | rfl | assumption) ?_)
    with_reducible refine JL.nil ?_
    refine JQ.env (S := [(some b3, 28, [.slice Ap s.ps.length cp, .slice Ar s.rs.length cr, .int .i64 s.ep, .slice Am s.ms.length cm]), (some b7, 28, cs3), (some b11, 41, y.cells), (some b12, 45, rcells ((applyD (allD s (qs.take k)) y).2, A3, cap3)), (some b13, 94, [.int .i64 y.client, .int .i64 y.num]), (some b14, 45, lc)]) (l := [(1, .slice Aq qs.length cq), (2, .slice Ae hs.length ce), (7, .pointer (some ⟨b7, 0, none⟩)), (8, .map (some bI)), (9, .map (some bR)), (10, .int .i64 (k : Nat)), (32, .slice Aq qs.length cq), (33, .int .i64 (qs.length : Nat)), (34, .int .i64 (k : Nat)), (11, .pointer (some ⟨b11, 0, none⟩)), (12, .pointer (some ⟨b12, 0, none⟩)), (13, .pointer (some ⟨b13, 0, none⟩)), (14, .pointer (some ⟨b14, 0, none⟩)), (15, .bool (lastB (allD s (qs.take k)) y.client))]) ⟨rfl, rfl, rfl, rfl, rfl, rfl, rfl, rfl, rfl, rfl, rfl, rfl, rfl, rfl, trivial⟩ (fun E => ?_)
    with_reducible refine JQ.seq (JC.seq ?_)
    refine JC.cutS [(1, .slice Aq qs.length cq), (2, .slice Ae hs.length ce), (7, .pointer (some ⟨b7, 0, none⟩)), (8, .map (some bI)), (9, .map (some bR)), (10, .int .i64 (k : Nat)), (32, .slice Aq qs.length cq), (33, .int .i64 (qs.length : Nat)), (34, .int .i64 (k : Nat)), (11, .pointer (some ⟨b11, 0, none⟩)), (12, .pointer (some ⟨b12, 0, none⟩)), (13, .pointer (some ⟨b13, 0, none⟩)), (69, .bool (runsB (allD s (qs.take k)) y))] ?_ (fun E => ?_)
    · with_reducible refine JC.region ?_
      refine JL.op (JO.val (y_ldA 2 rfl rfl rfl hyl) rfl ?_)
      refine JL.op (JO.callv (fun wc hc => good_any y hyw wc) rfl rfl rfl ?_)
      refine JL.op (JO.val (y_move) rfl ?_)
      refine JL.split (d := 59) rfl (fun hg2 => ?_) (fun hg2 => ?_)
      · refine JL.op_do rfl rfl (congrArg Value.bool hg2) (JO.val (y_move) rfl ?_)
        refine JL.op_do rfl rfl (congrArg Value.bool hg2) (JO.val (y_not rfl) rfl ?_)
        refine JL.op_do rfl rfl (congrArg Value.bool hg2) (JO.val (y_move) rfl ?_)
        refine JL.split (d := 62) rfl (fun hg5 => ?_) (fun hg5 => ?_)
        · refine JL.op_skip rfl rfl (congrArg Value.bool hg5) rfl ?_
          refine JL.op_skip rfl rfl (congrArg Value.bool hg5) rfl ?_
          refine JL.op_skip rfl rfl (congrArg Value.bool hg5) rfl ?_
          refine JL.op_skip rfl rfl (congrArg Value.bool hg5) rfl ?_
          refine JL.op_skip rfl rfl (congrArg Value.bool hg5) rfl ?_
          refine JL.op_do rfl rfl (congrArg Value.bool hg2) (JO.val (y_pick (congrArg Value.bool hg5)) rfl ?_)
          refine JL.op (JO.val (y_pick (congrArg Value.bool hg2)) rfl ?_)
          with_reducible refine JL.nil ?_
          exact JQ.has ⟨rfl, rfl, rfl, rfl, rfl, rfl, rfl, rfl, rfl, rfl, rfl, rfl, congrArg Value.bool (by first | exact (runsB_ok hg2 hg5).symm | exact (runsB_new hg2 hg5).symm | exact (runsB_no hg2).symm), trivial⟩ (fun _ h => h)
        · refine JL.op_do rfl rfl (congrArg Value.bool hg5) (JO.val (y_fieldAddr rfl rfl rfl) rfl ?_)
          refine JL.op_do rfl rfl (congrArg Value.bool hg5) (JO.val (y_ld 5 rfl rfl rfl (hnum (by simpa using hg5))) rfl ?_)
          refine JL.op_do rfl rfl (congrArg Value.bool hg5) (JO.val (y_fieldAddr rfl rfl rfl) rfl ?_)
          refine JL.op_do rfl rfl (congrArg Value.bool hg5) (JO.val (y_ld 2 rfl rfl rfl rfl) rfl ?_)
          refine JL.op_do rfl rfl (congrArg Value.bool hg5) (JO.val (y_lss rfl rfl) rfl ?_)
          refine JL.op_do rfl rfl (congrArg Value.bool hg2) (JO.val (y_pick (congrArg Value.bool hg5)) rfl ?_)
          refine JL.op (JO.val (y_pick (congrArg Value.bool hg2)) rfl ?_)
          with_reducible refine JL.nil ?_
          exact JQ.has ⟨rfl, rfl, rfl, rfl, rfl, rfl, rfl, rfl, rfl, rfl, rfl, rfl, congrArg Value.bool (by first | exact (runsB_ok hg2 hg5).symm | exact (runsB_new hg2 hg5).symm | exact (runsB_no hg2).symm), trivial⟩ (fun _ h => h)
      · refine JL.op_skip rfl rfl (congrArg Value.bool hg2) rfl ?_
        refine JL.op_skip rfl rfl (congrArg Value.bool hg2) rfl ?_
        refine JL.op_skip rfl rfl (congrArg Value.bool hg2) rfl ?_
        refine JL.op_skipU rfl rfl rfl rfl ?_
        refine JL.op_skipU rfl rfl rfl rfl ?_
        refine JL.op_skipU rfl rfl rfl rfl ?_
        refine JL.op_skipU rfl rfl rfl rfl ?_
        refine JL.op_skipU rfl rfl rfl rfl ?_
        refine JL.op_skip rfl rfl (congrArg Value.bool hg2) rfl ?_
        refine JL.op (JO.val (y_pick (congrArg Value.bool hg2)) rfl ?_)
        with_reducible refine JL.nil ?_
        exact JQ.has ⟨rfl, rfl, rfl, rfl, rfl, rfl, rfl, rfl, rfl, rfl, rfl, rfl, congrArg Value.bool (by first | exact (runsB_ok hg2 hg5).symm | exact (runsB_new hg2 hg5).symm | exact (runsB_no hg2).symm), trivial⟩ (fun _ h => h)
    with_reducible refine JQ.seq ?_
    refine JC.cond rfl (fun hg => ?_) (fun hg => ?_)
    · rw [if_pos hg] at hrun
      refine JC.held [3, 4] ?_
      refine JH.take 0 rfl (by kernel_rfl) (by kernel_rfl) (by kernel_rfl) (fun _ _ _ => y_move) rfl (by repeat (first | exact np_fun | exact np_inv | refine np_seq ?_ | refine np_blk ?_ | refine np_loop ?_)) (⟨rfl, rfl, trivial⟩) ?_
      refine JH.take 1 rfl (by kernel_rfl) (by kernel_rfl) (by kernel_rfl) (fun _ _ _ => y_ldA 4 rfl rfl rfl rfl) rfl (by repeat (first | exact np_fun | exact np_inv | refine np_seq ?_ | refine np_blk ?_ | refine np_loop ?_)) (⟨rfl, rfl, trivial⟩) ?_
      refine JH.take 2 rfl (by kernel_rfl) (by kernel_rfl) (by kernel_rfl) (fun _ _ _ => y_move) rfl (by repeat (first | exact np_fun | exact np_inv | refine np_seq ?_ | refine np_blk ?_ | refine np_loop ?_)) (⟨rfl, rfl, trivial⟩) ?_
      refine JH.take 3 rfl (by kernel_rfl) (by kernel_rfl) (by kernel_rfl) (fun _ _ _ => y_ldA 4 rfl rfl rfl rfl) rfl (by repeat (first | exact np_fun | exact np_inv | refine np_seq ?_ | refine np_blk ?_ | refine np_loop ?_)) (⟨rfl, rfl, trivial⟩) ?_
      refine JH.take 4 rfl (by kernel_rfl) (by kernel_rfl) (by kernel_rfl) (fun _ _ _ => y_move) rfl (by repeat (first | exact np_fun | exact np_inv | refine np_seq ?_ | refine np_blk ?_ | refine np_loop ?_)) (⟨rfl, rfl, trivial⟩) ?_
      refine JH.take 5 rfl (by kernel_rfl) (by kernel_rfl) (by kernel_rfl) (fun _ _ _ => y_ldA 3 rfl rfl rfl rfl) rfl (by repeat (first | exact np_fun | exact np_inv | refine np_seq ?_ | refine np_blk ?_ | refine np_loop ?_)) (⟨rfl, rfl, trivial⟩) ?_
      refine JH.one 6 (by kernel_rfl) (JI.op rfl ?_)
      refine (JO.mapUpd (k := (y.client, y.num)) hmI hbI Tryd.underlying91 hyw.client hyw.num rfl rfl ?_)
      rintro w6 hmI6 hst6 hsz6
      refine ⟨⟨rfl, rfl, trivial⟩, ?_⟩
      refine JH.one 7 (by kernel_rfl) (JI.op rfl ?_)
      refine (JO.mapUpd (k := (y.client, y.num)) (hmR.past hne2.symm hst6) hbR Tryd.underlying92 hyw.client hyw.num rfl rfl ?_)
      rintro w7 hmR7 hst7 hsz7
      refine ⟨⟨rfl, rfl, trivial⟩, ?_⟩
      refine JH.done (by kernel_rfl) ?_
      have hmR6 := hmR.past hne2.symm hst6
      with_reducible refine JQ.blk (JQ.seq ?_)
      with_reducible refine JC.region ?_
      refine JL.op (JO.val (y_add rfl rfl (natAdd hk (by omega))) rfl ?_)
      refine JL.op (JO.val (y_move) rfl ?_)
      with_reducible refine JL.nil ?_
      refine JQ.takeN 2 ?_
      refine JQ.loop (qs.length - (k + 1)) ⟨k + 1, L ++ [((y.client, y.num), k, ((applyD (allD s (qs.take k)) y).2, A3, cap3))], cs3, rfl, hlt, hnext ▸ ((hra3.past hmI.2 hst6).past hmR6.2 hst7), by rw [hrun, List.map_append, hL]; rfl, gI_snoc ▸ hmI6.past hne2 hst7, gR_snoc ▸ hmR7, ?_, rfl, (hst3.past hbI hst6 hsw3).past hbR hst7 (Nat.le_trans hsw3 hsz6), Nat.le_trans hsw3 (Nat.le_trans hsz6 hsz7), ⟨rfl, rfl, rfl, rfl, rfl, rfl, rfl, rfl, trivial⟩⟩ (by omega)
      intro x hx
      rcases List.mem_append.1 hx with hx | hx
      · exact ⟨(hLv x hx).1, (hLv x hx).2.1, SlF.past (SlF.past (hLv x hx).2.2 hmI.2 hst6 (by omega)) hmR6.2 hst7 (by omega)⟩
      · rw [List.mem_singleton.1 hx]
        exact ⟨hrwf, htame.2, SlF.past (SlF.past hrr3 hmI.2 hst6 (by omega)) hmR6.2 hst7 (by omega)⟩
    · rw [if_neg (by rw [hg]; simp), List.append_nil] at hrun
      with_reducible refine JC.skip (JQ.blk (JQ.seq ?_))
      with_reducible refine JC.region ?_
      refine JL.op (JO.val (y_add rfl rfl (natAdd hk (by omega))) rfl ?_)
      refine JL.op (JO.val (y_move) rfl ?_)
      with_reducible refine JL.nil ?_
      refine JQ.takeN 2 ?_
      exact JQ.loop (qs.length - (k + 1)) ⟨k + 1, L, cs3, rfl, hlt, hnext ▸ hra3, by rw [hrun, hL], hmI, hmR, hLv, rfl, hst3, hsw3, ⟨rfl, rfl, rfl, rfl, rfl, rfl, rfl, rfl, trivial⟩⟩ (by omega)
  have hd : decide ((k : Int) < (qs.length : Int)) = false := by simpa using hlt
  refine JC.cond_false (congrArg Value.bool hd) ?_
  rw [List.take_of_length_le (by omega)] at hL
  have hchk : checkD s qs (hs.map (·.1)) = checkL (L.map strip) qs (hs.map (·.1)) := by rw [hL]; rfl
  rw [hchk]
  have hLq : ∀ x ∈ L, ∃ q, qs[x.2.1]? = some q := fun x hx => by
    have := (runL_at (strip x) (hL ▸ List.mem_map_of_mem hx)).2.2
    simpa [strip] using this
  replace he := SlF.step he hst (by omega)
  replace hev := hev.step hst
  replace hq := hq.step hst
  clear hrs hfk htab hchk hL
  with_reducible refine JC.exit (JQ.seq_exit (JQ.loop_exit (JQ.blk_here (JQ.seq (JC.seq (JC.seq ?_))))))
  with_reducible refine JC.region ?_
  refine JL.op (JO.val (y_move) rfl ?_)
  refine JL.op (JO.val (y_len rfl rfl) rfl ?_)
  refine JL.op (JO.val (y_move) rfl ?_)
  with_reducible refine JL.nil ?_
  with_reducible refine JQ.seq (JC.block ?_)
  refine JC.loop (fun m E S F2 w2 => ∃ (j : Nat), m = hs.length - j ∧ j ≤ hs.length ∧ (∀ x ∈ (hs.map (·.1)).take j, evB (L.map strip) qs x = 0) ∧ S = [(some b3, 28, [.slice Ap s.ps.length cp, .slice Ar s.rs.length cr, .int .i64 s.ep, .slice Am s.ms.length cm]), (some b7, 28, cs')] ∧ F2 = F' ∧ w2 = w1' ∧ Has E [(1, .slice Aq qs.length cq), (2, .slice Ae hs.length ce), (7, .pointer (some ⟨b7, 0, none⟩)), (8, .map (some bI)), (9, .map (some bR)), (77, .slice Ae hs.length ce), (78, .int .i64 (hs.length : Nat)), (79, .int .i64 (j : Nat))])
    _ ⟨0, rfl, Nat.zero_le _, (by simp), rfl, rfl, rfl, ⟨rfl, rfl, rfl, rfl, rfl, rfl, rfl, rfl, trivial⟩⟩ ?_
  rintro m E S F2 w2 ⟨j, rfl, hj, hall, rfl, hF2, hw2, hE⟩
  subst hF2 hw2
  refine JC.env hE (fun E => ?_)
  clear hE
  with_reducible refine JC.seq ?_
  with_reducible refine JC.region ?_
  refine JL.op (JO.val (y_lss rfl rfl) rfl ?_)
  with_reducible refine JL.nil ?_
  with_reducible refine JQ.seq (JC.seq ?_)
  by_cases hlt2 : j < hs.length
  · have hd2 : decide ((j : Int) < (hs.length : Int)) = true := by simpa using hlt2
    refine JC.cond_true (congrArg Value.bool hd2) ?_
    obtain ⟨y, hy⟩ : ∃ y, hs[j]? = some y := ⟨hs[j], by simp [hlt2]⟩
    have hym := List.mem_of_getElem? hy
    obtain ⟨hyo, hyv⟩ := hev y hym
    have hyw := hyo.wf
    have hyl := ecells_len hyw
    have hy1 := ecells_all1 hyw
    have hye : (hs.map (·.1))[j]? = some y.1 := by rw [List.getElem?_map, hy]; rfl
    obtain ⟨hev1, hev2⟩ := ev_at hyw
    obtain ⟨hen1, hen2⟩ := ev_name y
    obtain ⟨b, o, hA, hat⟩ := SlF.elem he (fun y hy => ecells_len (hev y hy).1.wf) rfl hy
    have hnext : evB (L.map strip) qs y.1 = 0 → ∀ x ∈ (hs.map (·.1)).take (j + 1), evB (L.map strip) qs x = 0 := fun h x hx => by
      rw [take_snoc hye] at hx
      rcases List.mem_append.1 hx with hx | hx
      · exact hall x hx
      · rw [List.mem_singleton.1 hx]; exact h
    have hbad : evB (L.map strip) qs y.1 ≠ 0 → checkL (L.map strip) qs (hs.map (·.1)) = evB (L.map strip) qs y.1 := fun h => by
      unfold checkL
      rw [check1_take hye hall h, if_pos h]
    with_reducible refine JC.skip (JQ.seq (JC.seq (JC.block (JC.seq ?_))))
    with_reducible refine JC.region ?_
    refine JL.op (JO.val (y_idx (b := b) (o := o) rfl rfl rfl rfl hA rfl hlt2) rfl ?_)
    refine JL.op (JO.val (y_lddA rfl rfl hat (by first | rfl | assumption)) rfl ?_)
    refine JL.op (JO.alloc rfl rfl ?_); intro b17
    refine JL.op (JO.storeA 2 rfl rfl rfl rfl (by first | rfl | assumption) (by first | rfl | assumption) (by first | rfl | assumption) ?_)
    with_reducible refine JL.nil ?_
    with_reducible refine JQ.seq (JC.seq ?_)
    with_reducible refine JC.region ?_
    refine JL.op (JO.val (y_fieldAddr rfl rfl rfl) rfl ?_)
    refine JL.op (JO.val (y_fieldAddr rfl rfl rfl) rfl ?_)
    refine JL.op (JO.val (y_ld 2 rfl rfl rfl hen1) rfl ?_)
    refine JL.op (JO.val (y_fieldAddr rfl rfl rfl) rfl ?_)
    refine JL.op (JO.val (y_fieldAddr rfl rfl rfl) rfl ?_)
    refine JL.op (JO.val (y_ld 2 rfl rfl rfl hen2) rfl ?_)
    refine JL.op (JO.val (y_build rfl rfl (⟨_, _, _, rfl, rfl, rfl, rfl, ⟨_, _, _, rfl, rfl, rfl, rfl, rfl⟩⟩)) rfl ?_)
    refine JL.op (JO.alloc rfl rfl ?_); intro b18
    refine JL.op (JO.storeA 3 rfl rfl rfl rfl (by first | rfl | assumption) (by first | rfl | assumption) (by first | rfl | assumption) ?_)
    with_reducible refine JL.nil ?_
    with_reducible refine JQ.seq (JC.seq ?_)
    with_reducible refine JC.region ?_
    refine JL.op (JO.val (y_move) rfl ?_)
    refine JL.op (JO.val (y_ldA 3 rfl rfl rfl rfl) rfl ?_)
    refine JL.op (JO.val (y_lookI (k := nameE y.1) hmI hyw.req.client hyw.req.num rfl rfl) rfl ?_)
    refine JL.op (JO.val (y_move) rfl ?_)
    refine JL.op (JO.val (y_extract rfl rfl) rfl ?_)
    refine JL.op (JO.val (y_extract rfl rfl) rfl ?_)
    refine JL.op (JO.val (y_assign) rfl ?_)
    refine JL.op (JO.val (y_assign) rfl ?_)
    with_reducible refine JL.nil ?_
    with_reducible refine JQ.seq (JC.seq (JC.seq ?_))
    with_reducible refine JC.region ?_
    refine JL.op (JO.val (y_fieldAddr rfl rfl rfl) rfl ?_)
    refine JL.op (JO.val (y_ld 2 rfl rfl rfl hev2) rfl ?_)
    refine JL.op (JO.val (y_lss rfl rfl) rfl ?_)
    with_reducible refine JL.nil ?_
    with_reducible refine JQ.seq ?_
    refine JC.cond rfl (fun hg2 => ?_) (fun hg2 => ?_)
    · with_reducible refine JC.exit (JQ.seq_exit (JQ.blk_here (JQ.seq ?_)))
      with_reducible refine JC.region ?_
      refine JL.op (JO.val (y_add rfl rfl (natAdd hj (by omega))) rfl ?_)
      refine JL.op (JO.val (y_move) rfl ?_)
      with_reducible refine JL.nil ?_
      refine JQ.takeN 2 ?_
      exact JQ.loop (hs.length - (j + 1)) ⟨j + 1, rfl, hlt2, hnext (evB_neg (by simpa using hg2)), rfl, rfl, rfl, ⟨rfl, rfl, rfl, rfl, rfl, rfl, rfl, rfl, trivial⟩⟩ (by omega)
    have hnd : ¬ y.1.done < 0 := by simpa using hg2
    with_reducible refine JC.skip (JQ.seq (JC.seq (JC.seq ?_)))
    with_reducible refine JC.region ?_
    refine JL.op (JO.val (y_move) rfl ?_)
    refine JL.op (JO.val (y_not rfl) rfl ?_)
    with_reducible refine JL.nil ?_
    with_reducible refine JQ.seq ?_
    refine JC.cond rfl (fun hg3 => ?_) (fun hg3 => ?_)
    · have h7 := evB_none (qs := qs) hnd (by simpa using hg3)
      with_reducible refine JC.seq ?_
      with_reducible refine JC.region ?_
      refine JL.op (JO.val (y_assign) rfl ?_)
      with_reducible refine JL.nil ?_
      with_reducible refine JQ.seq (JC.ret (JQ.seq_ret (JQ.blk_ret (JQ.seq_ret (JQ.loop_ret (JQ.blk_ret (JQ.seq_ret ?_)))))))
      exact ret_one rfl ResV.tmp (fun w _ => congrArg (Value.int .i64) (show (7 : Int) = _ from by rw [hbad (by rw [h7]; decide), h7]))
    obtain ⟨⟨i0, r0, A0, c0⟩, hx⟩ : ∃ v, lastE L (nameE y.1) = some v := Option.isSome_iff_exists.1 (by simpa using hg3)
    have hxm := lastE_mem hx
    obtain ⟨q, hqi⟩ := hLq _ hxm
    obtain ⟨hr0, hr0t, hr0v⟩ := hLv _ hxm
    have h9 := evB_at hnd hx hqi
    have hqw1 := hqw q (List.mem_of_getElem? hqi)
    have hql1 := LReq.len_cells hqw1
    have hlq : i0 < qs.length := (List.getElem?_eq_some_iff.1 hqi).1
    obtain ⟨b', o', hA', hat'⟩ := SlF.elem hq (fun q hq => LReq.len_cells (hqw q hq)) rfl hqi
    with_reducible refine JC.skip (JQ.seq (JC.seq ?_))
    refine JC.cutS [(1, .slice Aq qs.length cq), (2, .slice Ae hs.length ce), (7, .pointer (some ⟨b7, 0, none⟩)), (8, .map (some bI)), (9, .map (some bR)), (17, .pointer (some ⟨b17, 0, none⟩)), (77, .slice Ae hs.length ce), (78, .int .i64 (hs.length : Nat)), (79, .int .i64 (j : Nat)), (116, .bool (!eqQ q y.1.req || !sameR r0 y.1.rep))] ?_ (fun E => ?_)
    · refine JC.quiet (by kernel_rfl) ?_
      refine JT.val (y_move) rfl ?_
      refine JT.val (y_move) rfl ?_
      refine JT.val (y_idx (b := b') (o := o') rfl rfl rfl (congrArg (Value.int .i64) (atI_some hx)) hA' rfl hlq) rfl ?_
      refine JT.val (y_lddA rfl rfl hat' hql1) rfl ?_
      refine JT.val (y_fieldAddr rfl rfl rfl) rfl ?_
      refine JT.val (y_ldP 2 rfl rfl rfl (ev_req hyw) (by rw [hyl]; rfl)) rfl ?_
      refine JT.val (y_neq41 hqw1 hyw.req rfl rfl) rfl ?_
      refine JT.val (y_move) rfl ?_
      refine JT.split (d := 108) rfl (fun hg7 => ?_) (fun hg7 => ?_)
      · refine JT.skip rfl rfl (congrArg Value.bool hg7) rfl ?_
        refine JT.skip rfl rfl (congrArg Value.bool hg7) rfl ?_
        refine JT.skip rfl rfl (congrArg Value.bool hg7) rfl ?_
        refine JT.skip rfl rfl (congrArg Value.bool hg7) rfl ?_
        refine JT.skip rfl rfl (congrArg Value.bool hg7) rfl ?_
        refine JT.skip rfl rfl (congrArg Value.bool hg7) rfl ?_
        refine JT.skip rfl rfl (congrArg Value.bool hg7) rfl ?_
        refine JT.val (y_pick (congrArg Value.bool hg7)) rfl ?_
        refine JT.nil ?_
        exact JQ.has ⟨rfl, rfl, rfl, rfl, rfl, rfl, rfl, rfl, rfl, congrArg Value.bool (by rw [hg7]; simp), trivial⟩ (fun _ h => h)
      · refine JT.val_do rfl rfl (congrArg Value.bool hg7) (y_move) rfl ?_
        refine JT.val_do rfl rfl (congrArg Value.bool hg7) (y_ldA 3 rfl rfl rfl rfl) rfl ?_
        refine JT.val_do rfl rfl (congrArg Value.bool hg7) (y_lookR (k := nameE y.1) hmR hyw.req.client hyw.req.num rfl rfl (gR_at hx)) rfl ?_
        refine JT.val_do rfl rfl (congrArg Value.bool hg7) (y_fieldAddr rfl rfl rfl) rfl ?_
        refine JT.val_do rfl rfl (congrArg Value.bool hg7) (y_ldP 2 rfl rfl rfl (ev_rep hyw) (by rw [hyl]; rfl)) rfl ?_
        refine JT.callv_do rfl rfl (congrArg Value.bool hg7) (fun wc hc => same37_sameR _ _ _ r0 y.1.rep wc ⟨A0, c0, rfl, hr0v.step hc.step⟩ ⟨y.2.1, y.2.2, rfl, hyv.step hc.step⟩ hr0 hyw.rep hr0t hyo.tame) rfl rfl rfl ⟨_, Tryd.func37, rfl, rfl⟩ ?_
        refine JT.val_do rfl rfl (congrArg Value.bool hg7) (y_not rfl) rfl ?_
        refine JT.val (y_pick (congrArg Value.bool hg7)) rfl ?_
        refine JT.nil ?_
        exact JQ.has ⟨rfl, rfl, rfl, rfl, rfl, rfl, rfl, rfl, rfl, congrArg Value.bool (by rw [hg7]; simp), trivial⟩ (fun _ h => h)
    with_reducible refine JQ.seq ?_
    refine JC.cond rfl (fun hg4 => ?_) (fun hg4 => ?_)
    · rw [if_pos hg4] at h9
      with_reducible refine JC.seq ?_
      with_reducible refine JC.region ?_
      refine JL.op (JO.val (y_assign) rfl ?_)
      with_reducible refine JL.nil ?_
      with_reducible refine JQ.seq (JC.ret (JQ.blk_ret (JQ.seq_ret (JQ.loop_ret (JQ.blk_ret (JQ.seq_ret ?_))))))
      exact ret_one rfl ResV.tmp (fun w _ => congrArg (Value.int .i64) (show (9 : Int) = _ from by rw [hbad (by rw [h9]; decide), h9]))
    · rw [if_neg (by rw [hg4]; simp)] at h9
      with_reducible refine JC.skip (JQ.blk (JQ.seq ?_))
      with_reducible refine JC.region ?_
      refine JL.op (JO.val (y_add rfl rfl (natAdd hj (by omega))) rfl ?_)
      refine JL.op (JO.val (y_move) rfl ?_)
      with_reducible refine JL.nil ?_
      refine JQ.takeN 2 ?_
      exact JQ.loop (hs.length - (j + 1)) ⟨j + 1, rfl, hlt2, hnext h9, rfl, rfl, rfl, ⟨rfl, rfl, rfl, rfl, rfl, rfl, rfl, rfl, trivial⟩⟩ (by omega)
  have hd2 : decide ((j : Int) < (hs.length : Int)) = false := by simpa using hlt2
  refine JC.cond_false (congrArg Value.bool hd2) ?_
  rw [List.take_of_length_le (by simp; omega)] at hall
  have hcl : checkL (L.map strip) qs (hs.map (·.1)) = if (hs.map (·.1)).any (fun a => (hs.map (·.1)).any (badOrder (L.map strip) a)) = true then 12 else 0 := by
    unfold checkL
    rw [check1_all hall, if_neg (by simp)]
  rw [hcl]
  clear hall hcl hmR hLv hLq
  with_reducible refine JC.exit (JQ.seq_exit (JQ.loop_exit (JQ.blk_here (JQ.seq (JC.seq (JC.seq ?_))))))
  with_reducible refine JC.region ?_
  refine JL.op (JO.val (y_move) rfl ?_)
  refine JL.op (JO.val (y_len rfl rfl) rfl ?_)
  refine JL.op (JO.val (y_move) rfl ?_)
  with_reducible refine JL.nil ?_
  with_reducible refine JQ.seq (JC.block ?_)
  refine JC.loop (fun m E S F3 w3 => ∃ (i : Nat), m = hs.length - i ∧ i ≤ hs.length ∧ ((hs.map (·.1)).take i).any (fun a => (hs.map (·.1)).any (badOrder (L.map strip) a)) = false ∧ S = [(some b3, 28, [.slice Ap s.ps.length cp, .slice Ar s.rs.length cr, .int .i64 s.ep, .slice Am s.ms.length cm]), (some b7, 28, cs')] ∧ F3 = F2 ∧ w3 = w2 ∧ Has E [(1, .slice Aq qs.length cq), (2, .slice Ae hs.length ce), (7, .pointer (some ⟨b7, 0, none⟩)), (8, .map (some bI)), (9, .map (some bR)), (118, .slice Ae hs.length ce), (119, .int .i64 (hs.length : Nat)), (120, .int .i64 (i : Nat))])
    _ ⟨0, rfl, Nat.zero_le _, rfl, rfl, rfl, rfl, ⟨rfl, rfl, rfl, rfl, rfl, rfl, rfl, rfl, trivial⟩⟩ ?_
  rintro m E S F3 w3 ⟨i, rfl, hi, hall, rfl, hF3, hw3, hE⟩
  subst hF3 hw3
  refine JC.env hE (fun E => ?_)
  clear hE
  with_reducible refine JC.seq ?_
  with_reducible refine JC.region ?_
  refine JL.op (JO.val (y_lss rfl rfl) rfl ?_)
  with_reducible refine JL.nil ?_
  with_reducible refine JQ.seq (JC.seq ?_)
  by_cases hlt3 : i < hs.length
  · have hd3 : decide ((i : Int) < (hs.length : Int)) = true := by simpa using hlt3
    refine JC.cond_true (congrArg Value.bool hd3) ?_
    obtain ⟨y, hy⟩ : ∃ y, hs[i]? = some y := ⟨hs[i], by simp [hlt3]⟩
    have hym := List.mem_of_getElem? hy
    have hyw := (hev y hym).1.wf
    have hyl := ecells_len hyw
    have hy1 := ecells_all1 hyw
    have hye : (hs.map (·.1))[i]? = some y.1 := by rw [List.getElem?_map, hy]; rfl
    obtain ⟨hev1, hev2⟩ := ev_at hyw
    obtain ⟨hen1, hen2⟩ := ev_name y
    obtain ⟨b, o, hA, hat⟩ := SlF.elem he (fun y hy => ecells_len (hev y hy).1.wf) rfl hy
    with_reducible refine JC.skip (JQ.seq (JC.seq (JC.block (JC.seq ?_))))
    with_reducible refine JC.region ?_
    refine JL.op (JO.val (y_idx (b := b) (o := o) rfl rfl rfl rfl hA rfl hlt3) rfl ?_)
    refine JL.op (JO.val (y_lddA rfl rfl hat (by first | rfl | assumption)) rfl ?_)
    refine JL.op (JO.alloc rfl rfl ?_); intro b22
    refine JL.op (JO.storeA 2 rfl rfl rfl rfl (by first | rfl | assumption) (by first | rfl | assumption) (by first | rfl | assumption) ?_)
    with_reducible refine JL.nil ?_
    with_reducible refine JQ.seq (JC.seq ?_)
    with_reducible refine JC.region ?_
    refine JL.op (JO.val (y_move) rfl ?_)
    refine JL.op (JO.val (y_len rfl rfl) rfl ?_)
    refine JL.op (JO.val (y_move) rfl ?_)
    with_reducible refine JL.nil ?_
    with_reducible refine JQ.seq (JC.block ?_)
    refine JC.loop (fun m E S F4 w4 => ∃ (j : Nat), m = hs.length - j ∧ j ≤ hs.length ∧ ((hs.map (·.1)).take j).any (badOrder (L.map strip) y.1) = false ∧ S = [(some b3, 28, [.slice Ap s.ps.length cp, .slice Ar s.rs.length cr, .int .i64 s.ep, .slice Am s.ms.length cm]), (some b7, 28, cs'), (some b22, 90, ecells y)] ∧ F4 = F3 ∧ w4 = w3 ∧ Has E [(1, .slice Aq qs.length cq), (2, .slice Ae hs.length ce), (7, .pointer (some ⟨b7, 0, none⟩)), (8, .map (some bI)), (9, .map (some bR)), (118, .slice Ae hs.length ce), (119, .int .i64 (hs.length : Nat)), (120, .int .i64 (i : Nat)), (22, .pointer (some ⟨b22, 0, none⟩)), (124, .slice Ae hs.length ce), (125, .int .i64 (hs.length : Nat)), (126, .int .i64 (j : Nat))])
      _ ⟨0, rfl, Nat.zero_le _, rfl, rfl, rfl, rfl, ⟨rfl, rfl, rfl, rfl, rfl, rfl, rfl, rfl, rfl, rfl, rfl, rfl, trivial⟩⟩ ?_
    rintro m E S F4 w4 ⟨j, rfl, hj, hin, rfl, hF4, hw4, hE⟩
    subst hF4 hw4
    refine JC.env hE (fun E => ?_)
    clear hE
    with_reducible refine JC.seq ?_
    with_reducible refine JC.region ?_
    refine JL.op (JO.val (y_lss rfl rfl) rfl ?_)
    with_reducible refine JL.nil ?_
    with_reducible refine JQ.seq (JC.seq ?_)
    by_cases hlt4 : j < hs.length
    · have hd4 : decide ((j : Int) < (hs.length : Int)) = true := by simpa using hlt4
      refine JC.cond_true (congrArg Value.bool hd4) ?_
      obtain ⟨z, hz⟩ : ∃ z, hs[j]? = some z := ⟨hs[j], by simp [hlt4]⟩
      have hzm := List.mem_of_getElem? hz
      have hzw := (hev z hzm).1.wf
      have hzl := ecells_len hzw
      have hz1 := ecells_all1 hzw
      have hze : (hs.map (·.1))[j]? = some z.1 := by rw [List.getElem?_map, hz]; rfl
      obtain ⟨hez1, hez2⟩ := ev_at hzw
      obtain ⟨hzn1, hzn2⟩ := ev_name z
      obtain ⟨b', o', hA', hat'⟩ := SlF.elem he (fun y hy => ecells_len (hev y hy).1.wf) rfl hz
      with_reducible refine JC.skip (JQ.seq (JC.seq (JC.block (JC.seq ?_))))
      with_reducible refine JC.region ?_
      refine JL.op (JO.val (y_idx (b := b') (o := o') rfl rfl rfl rfl hA' rfl hlt4) rfl ?_)
      refine JL.op (JO.val (y_lddA rfl rfl hat' (by first | rfl | assumption)) rfl ?_)
      refine JL.op (JO.alloc rfl rfl ?_); intro b24
      refine JL.op (JO.storeA 3 rfl rfl rfl rfl (by first | rfl | assumption) (by first | rfl | assumption) (by first | rfl | assumption) ?_)
      with_reducible refine JL.nil ?_
      with_reducible refine JQ.seq (JC.seq ?_)
      with_reducible refine JC.region ?_
      refine JL.op (JO.val (y_move) rfl ?_)
      refine JL.op (JO.val (y_fieldAddr rfl rfl rfl) rfl ?_)
      refine JL.op (JO.val (y_fieldAddr rfl rfl rfl) rfl ?_)
      refine JL.op (JO.val (y_ld 2 rfl rfl rfl hen1) rfl ?_)
      refine JL.op (JO.val (y_fieldAddr rfl rfl rfl) rfl ?_)
      refine JL.op (JO.val (y_fieldAddr rfl rfl rfl) rfl ?_)
      refine JL.op (JO.val (y_ld 2 rfl rfl rfl hen2) rfl ?_)
      refine JL.op (JO.val (y_build rfl rfl (⟨_, _, _, rfl, rfl, rfl, rfl, ⟨_, _, _, rfl, rfl, rfl, rfl, rfl⟩⟩)) rfl ?_)
      refine JL.op (JO.val (y_lookI (k := nameE y.1) hmI hyw.req.client hyw.req.num rfl rfl) rfl ?_)
      refine JL.op (JO.val (y_move) rfl ?_)
      refine JL.op (JO.val (y_extract rfl rfl) rfl ?_)
      refine JL.op (JO.val (y_extract rfl rfl) rfl ?_)
      refine JL.op (JO.val (y_assign) rfl ?_)
      refine JL.op (JO.val (y_assign) rfl ?_)
      with_reducible refine JL.nil ?_
      with_reducible refine JQ.seq (JC.seq ?_)
      with_reducible refine JC.region ?_
      refine JL.op (JO.val (y_move) rfl ?_)
      refine JL.op (JO.val (y_fieldAddr rfl rfl rfl) rfl ?_)
      refine JL.op (JO.val (y_fieldAddr rfl rfl rfl) rfl ?_)
      refine JL.op (JO.val (y_ld 3 rfl rfl rfl hzn1) rfl ?_)
      refine JL.op (JO.val (y_fieldAddr rfl rfl rfl) rfl ?_)
      refine JL.op (JO.val (y_fieldAddr rfl rfl rfl) rfl ?_)
      refine JL.op (JO.val (y_ld 3 rfl rfl rfl hzn2) rfl ?_)
      refine JL.op (JO.val (y_build rfl rfl (⟨_, _, _, rfl, rfl, rfl, rfl, ⟨_, _, _, rfl, rfl, rfl, rfl, rfl⟩⟩)) rfl ?_)
      refine JL.op (JO.val (y_lookI (k := nameE z.1) hmI hzw.req.client hzw.req.num rfl rfl) rfl ?_)
      refine JL.op (JO.val (y_move) rfl ?_)
      refine JL.op (JO.val (y_extract rfl rfl) rfl ?_)
      refine JL.op (JO.val (y_extract rfl rfl) rfl ?_)
      refine JL.op (JO.val (y_assign) rfl ?_)
      refine JL.op (JO.val (y_assign) rfl ?_)
      with_reducible refine JL.nil ?_
      with_reducible refine JQ.seq (JC.seq ?_)
      refine JC.cutS [(1, .slice Aq qs.length cq), (2, .slice Ae hs.length ce), (7, .pointer (some ⟨b7, 0, none⟩)), (8, .map (some bI)), (9, .map (some bR)), (118, .slice Ae hs.length ce), (119, .int .i64 (hs.length : Nat)), (120, .int .i64 (i : Nat)), (22, .pointer (some ⟨b22, 0, none⟩)), (124, .slice Ae hs.length ce), (125, .int .i64 (hs.length : Nat)), (126, .int .i64 (j : Nat)), (174, .bool (badOrder (L.map strip) y.1 z.1))] ?_ (fun E => ?_)
      · with_reducible refine JC.region ?_
        refine JL.op (JO.val (y_move) rfl ?_)
        refine JL.op (JO.val (y_move) rfl ?_)
        refine JL.split (d := 155) rfl (fun hg1 => ?_) (fun hg1 => ?_)
        · refine JL.op_do rfl rfl (congrArg Value.bool hg1) (JO.val (y_move) rfl ?_)
          refine JL.op (JO.val (y_pick (congrArg Value.bool hg1)) rfl ?_)
          refine JL.op (JO.val (y_move) rfl ?_)
          refine JL.split (d := 158) rfl (fun hg4 => ?_) (fun hg4 => ?_)
          · refine JL.op_do rfl rfl (congrArg Value.bool hg4) (JO.val (y_fieldAddr rfl rfl rfl) rfl ?_)
            refine JL.op_do rfl rfl (congrArg Value.bool hg4) (JO.val (y_ld 2 rfl rfl rfl hev2) rfl ?_)
            refine JL.op_do rfl rfl (congrArg Value.bool hg4) (JO.val (y_geq rfl rfl) rfl ?_)
            refine JL.op (JO.val (y_pick (congrArg Value.bool hg4)) rfl ?_)
            refine JL.op (JO.val (y_move) rfl ?_)
            refine JL.split (d := 163) rfl (fun hg9 => ?_) (fun hg9 => ?_)
            · refine JL.op_do rfl rfl (congrArg Value.bool hg9) (JO.val (y_fieldAddr rfl rfl rfl) rfl ?_)
              refine JL.op_do rfl rfl (congrArg Value.bool hg9) (JO.val (y_ld 2 rfl rfl rfl hev2) rfl ?_)
              refine JL.op_do rfl rfl (congrArg Value.bool hg9) (JO.val (y_fieldAddr rfl rfl rfl) rfl ?_)
              refine JL.op_do rfl rfl (congrArg Value.bool hg9) (JO.val (y_ld 3 rfl rfl rfl hez1) rfl ?_)
              refine JL.op_do rfl rfl (congrArg Value.bool hg9) (JO.val (y_lss rfl rfl) rfl ?_)
              refine JL.op (JO.val (y_pick (congrArg Value.bool hg9)) rfl ?_)
              refine JL.op (JO.val (y_move) rfl ?_)
              refine JL.split (d := 170) rfl (fun hg16 => ?_) (fun hg16 => ?_)
              · refine JL.op_do rfl rfl (congrArg Value.bool hg16) (JO.val (y_move) rfl ?_)
                refine JL.op_do rfl rfl (congrArg Value.bool hg16) (JO.val (y_move) rfl ?_)
                refine JL.op_do rfl rfl (congrArg Value.bool hg16) (JO.val (y_geq rfl rfl) rfl ?_)
                refine JL.op (JO.val (y_pick (congrArg Value.bool hg16)) rfl ?_)
                with_reducible refine JL.nil ?_
                exact JQ.has ⟨rfl, rfl, rfl, rfl, rfl, rfl, rfl, rfl, rfl, rfl, rfl, rfl, congrArg Value.bool (by rw [badOrder_eq]; (rw [hg1, hg4, hg9, hg16]; simp; done)), trivial⟩ (fun _ h => h)
              · refine JL.op_skip rfl rfl (congrArg Value.bool hg16) rfl ?_
                refine JL.op_skip rfl rfl (congrArg Value.bool hg16) rfl ?_
                refine JL.op_skip rfl rfl (congrArg Value.bool hg16) rfl ?_
                refine JL.op (JO.val (y_pick (congrArg Value.bool hg16)) rfl ?_)
                with_reducible refine JL.nil ?_
                exact JQ.has ⟨rfl, rfl, rfl, rfl, rfl, rfl, rfl, rfl, rfl, rfl, rfl, rfl, congrArg Value.bool (by rw [badOrder_eq]; (rw [hg1, hg4, hg9, hg16]; simp; done)), trivial⟩ (fun _ h => h)
            · refine JL.op_skip rfl rfl (congrArg Value.bool hg9) rfl ?_
              refine JL.op_skip rfl rfl (congrArg Value.bool hg9) rfl ?_
              refine JL.op_skip rfl rfl (congrArg Value.bool hg9) rfl ?_
              refine JL.op_skip rfl rfl (congrArg Value.bool hg9) rfl ?_
              refine JL.op_skip rfl rfl (congrArg Value.bool hg9) rfl ?_
              refine JL.op (JO.val (y_pick (congrArg Value.bool hg9)) rfl ?_)
              refine JL.op (JO.val (y_move) rfl ?_)
              refine JL.op_skip rfl rfl rfl rfl ?_
              refine JL.op_skip rfl rfl rfl rfl ?_
              refine JL.op_skip rfl rfl rfl rfl ?_
              refine JL.op (JO.val (y_pick rfl) rfl ?_)
              with_reducible refine JL.nil ?_
              exact JQ.has ⟨rfl, rfl, rfl, rfl, rfl, rfl, rfl, rfl, rfl, rfl, rfl, rfl, congrArg Value.bool (by rw [badOrder_eq]; (rw [hg1, hg4, hg9]; simp; done)), trivial⟩ (fun _ h => h)
          · refine JL.op_skip rfl rfl (congrArg Value.bool hg4) rfl ?_
            refine JL.op_skip rfl rfl (congrArg Value.bool hg4) rfl ?_
            refine JL.op_skip rfl rfl (congrArg Value.bool hg4) rfl ?_
            refine JL.op (JO.val (y_pick (congrArg Value.bool hg4)) rfl ?_)
            refine JL.op (JO.val (y_move) rfl ?_)
            refine JL.op_skip rfl rfl rfl rfl ?_
            refine JL.op_skip rfl rfl rfl rfl ?_
            refine JL.op_skip rfl rfl rfl rfl ?_
            refine JL.op_skip rfl rfl rfl rfl ?_
            refine JL.op_skip rfl rfl rfl rfl ?_
            refine JL.op (JO.val (y_pick rfl) rfl ?_)
            refine JL.op (JO.val (y_move) rfl ?_)
            refine JL.op_skip rfl rfl rfl rfl ?_
            refine JL.op_skip rfl rfl rfl rfl ?_
            refine JL.op_skip rfl rfl rfl rfl ?_
            refine JL.op (JO.val (y_pick rfl) rfl ?_)
            with_reducible refine JL.nil ?_
            exact JQ.has ⟨rfl, rfl, rfl, rfl, rfl, rfl, rfl, rfl, rfl, rfl, rfl, rfl, congrArg Value.bool (by rw [badOrder_eq]; (rw [hg1, hg4]; simp; done)), trivial⟩ (fun _ h => h)
        · refine JL.op_skip rfl rfl (congrArg Value.bool hg1) rfl ?_
          refine JL.op (JO.val (y_pick (congrArg Value.bool hg1)) rfl ?_)
          refine JL.op (JO.val (y_move) rfl ?_)
          refine JL.op_skip rfl rfl rfl rfl ?_
          refine JL.op_skip rfl rfl rfl rfl ?_
          refine JL.op_skip rfl rfl rfl rfl ?_
          refine JL.op (JO.val (y_pick rfl) rfl ?_)
          refine JL.op (JO.val (y_move) rfl ?_)
          refine JL.op_skip rfl rfl rfl rfl ?_
          refine JL.op_skip rfl rfl rfl rfl ?_
          refine JL.op_skip rfl rfl rfl rfl ?_
          refine JL.op_skip rfl rfl rfl rfl ?_
          refine JL.op_skip rfl rfl rfl rfl ?_
          refine JL.op (JO.val (y_pick rfl) rfl ?_)
          refine JL.op (JO.val (y_move) rfl ?_)
          refine JL.op_skip rfl rfl rfl rfl ?_
          refine JL.op_skip rfl rfl rfl rfl ?_
          refine JL.op_skip rfl rfl rfl rfl ?_
          refine JL.op (JO.val (y_pick rfl) rfl ?_)
          with_reducible refine JL.nil ?_
          exact JQ.has ⟨rfl, rfl, rfl, rfl, rfl, rfl, rfl, rfl, rfl, rfl, rfl, rfl, congrArg Value.bool (by rw [badOrder_eq]; (rw [hg1]; simp; done)), trivial⟩ (fun _ h => h)
      with_reducible refine JQ.seq ?_
      refine JC.cond rfl (fun hg5 => ?_) (fun hg5 => ?_)
      · have hyes : (hs.map (·.1)).any (fun a => (hs.map (·.1)).any (badOrder (L.map strip) a)) = true := List.any_eq_true.2 ⟨_, List.mem_of_getElem? hye, List.any_eq_true.2 ⟨_, List.mem_of_getElem? hze, hg5⟩⟩
        with_reducible refine JC.seq ?_
        with_reducible refine JC.region ?_
        refine JL.op (JO.val (y_assign) rfl ?_)
        with_reducible refine JL.nil ?_
        with_reducible refine JQ.seq (JC.ret (JQ.blk_ret (JQ.seq_ret (JQ.loop_ret (JQ.blk_ret (JQ.blk_ret (JQ.seq_ret (JQ.loop_ret (JQ.blk_ret (JQ.seq_ret ?_))))))))))
        exact ret_one rfl ResV.tmp (fun w _ => congrArg (Value.int .i64) (show (12 : Int) = _ from by rw [if_pos hyes]))
      · with_reducible refine JC.skip (JQ.blk (JQ.seq ?_))
        with_reducible refine JC.region ?_
        refine JL.op (JO.val (y_add rfl rfl (natAdd hj (by omega))) rfl ?_)
        refine JL.op (JO.val (y_move) rfl ?_)
        with_reducible refine JL.nil ?_
        refine JQ.takeN 3 ?_
        exact JQ.loop (hs.length - (j + 1)) ⟨j + 1, rfl, hlt4, take_any hze hin hg5, rfl, rfl, rfl, ⟨rfl, rfl, rfl, rfl, rfl, rfl, rfl, rfl, rfl, rfl, rfl, rfl, trivial⟩⟩ (by omega)
    · have hd4 : decide ((j : Int) < (hs.length : Int)) = false := by simpa using hlt4
      refine JC.cond_false (congrArg Value.bool hd4) ?_
      rw [List.take_of_length_le (by simp; omega)] at hin
      with_reducible refine JC.exit (JQ.seq_exit (JQ.loop_exit (JQ.blk_here (JQ.blk (JQ.seq ?_)))))
      with_reducible refine JC.region ?_
      refine JL.op (JO.val (y_add rfl rfl (natAdd hi (by omega))) rfl ?_)
      refine JL.op (JO.val (y_move) rfl ?_)
      with_reducible refine JL.nil ?_
      refine JQ.takeN 2 ?_
      exact JQ.loop (hs.length - (i + 1)) ⟨i + 1, rfl, hlt3, take_any hye hall hin, rfl, rfl, rfl, ⟨rfl, rfl, rfl, rfl, rfl, rfl, rfl, rfl, trivial⟩⟩ (by omega)
  have hd3 : decide ((i : Int) < (hs.length : Int)) = false := by simpa using hlt3
  refine JC.cond_false (congrArg Value.bool hd3) ?_
  rw [List.take_of_length_le (by simp; omega)] at hall
  with_reducible refine JC.exit (JQ.seq_exit (JQ.loop_exit (JQ.blk_here (JQ.seq (JC.seq ?_)))))
  with_reducible refine JC.region ?_
  refine JL.op (JO.val (y_assign) rfl ?_)
  with_reducible refine JL.nil ?_
  with_reducible refine JQ.seq (JC.ret ?_)
  exact ret_one rfl ResV.tmp (fun w _ => congrArg (Value.int .i64) (show (0 : Int) = _ from by rw [hall]; rfl))
end Go.Proofs.YtchnnplcpidkiaaDoor
