/- The contract of the Linear of the reference, and OrderLinear walked; conditions: the bounds and forms that each theorem names (P11, C36, C37, put together). -/
import Derived.Test.YtchnnplcpidkiaaDoorX2
import Derived.Laws.MakeOwn
import Derived.Test.YtchnnplcpidkiaaDoorX4
namespace Go.Proofs.YtchnnplcpidkiaaDoor
open Go.RowKit Go.Lib
set_option linter.unusedSimpArgs false
set_option linter.unusedVariables false
set_option maxRecDepth 20000

/-! ### 1. make([]bool, n) -/
theorem made_bools {n : Nat} : madeCells (Value.bool false).cells (n * 1) = (List.replicate n (Value.bool false)).toArray := by
  apply Array.ext
  · simp [madeCells]
  · intro i h1 h2
    simp [madeCells, Value.cells, Nat.mod_one]
section
variable {X : Cx} {E : Env} {S : Sto} {F : Nat → Prop} {w1 : World} {t : TypeId} {pos : String} {af : Array Edge} {d : Nat} {K : Kon}
theorem JO.makeB {n : Nat} {x : Operand} (hx : ev E x = .int .i64 (n : Int)) (hn : n ≤ 100) (hN : Nat.blt d X.N = true)
    (h : ∀ b, K (upd E d (.slice (some ⟨b, 0, none⟩) n n)) (S ++ [(some b, 4, List.replicate n (.bool false))]) F w1) : JO X ⟨some d, .makeSlice 65 x x, t, pos, af, none⟩ E S F w1 K := fun w a Q' hc ha => by
  have hrun : (execOp (ev E) ⟨some d, .makeSlice 65 x x, t, pos, af, none⟩).run Tryd.prog w = .ok (.value (.slice (some ⟨w.heap.size, 0, none⟩) n n)) (w.alloc (.cells (List.replicate n (Value.bool false)).toArray 4 (0, 0))) := by
    obtain ⟨zv, _, hz2, hz3⟩ := row4.zero
    rw [Option.map_eq_some_iff] at hz3
    obtain ⟨i, hi, hi2⟩ := hz3
    simp only [Prod.mk.injEq] at hi2
    have hb : Tryd.prog.info? 4 = some i := hi
    have hzv : zv = .bool false := by
      have h4 : (Tryd.prog.info? 4).bind (·.zero) = some (.bool false) := by kernel_rfl
      rw [hb] at h4
      have h5 : i.zero = some (.bool false) := h4
      rw [hi2.1] at h5
      exact Option.some.inj h5
    subst hzv
    have := run_makeSlice (P := Tryd.prog) w 65 4 i (.bool false) Tryd.underlying65 hb hi2.1 .i64 .i64 (n : Int) (n : Int) (by omega) (by omega) (by rw [hi2.2.1]; omega) (by rw [hi2.2.2]; omega) (by omega)
    rw [hi2.2.1, Int.toNat_natCast, made_bools] at this
    simp [execOp, Sem.run_bind, hx, this]
  unfold Oper.wp
  rw [ha.eval, hrun]
  exact ⟨_, _, _, _, ha.put d _ hN, hc.alloc 4 _, h _⟩
end

/-! ### 2. The search -/
abbrev ZE := List (LEvent × Bool)
def allZ (z : ZE) : Bool := z.all (fun x => x.2 || decide (x.1.done < 0))
def freeZ (z : ZE) (x : LEvent × Bool) : Bool := !x.2 && z.all (fun y => y.2 || !aheadB y.1 x.1)
def linD : Nat → LState → ZE → Bool
  | n, s, z => if allZ z = true then true else
    match n with
    | 0 => false
    | n + 1 => (List.range z.length).any fun i => match z[i]? with
      | some x => freeZ z x && (!(decide (x.1.done ≥ 0) && !sameR (applyD s x.1.req).2 x.1.rep) && linD n (applyD s x.1.req).1 (z.set i (x.1, true)))
      | none => false
def tryZ (n : Nat) (s : LState) (z : ZE) (i : Nat) : Bool := match z[i]? with
  | some x => freeZ z x && (!(decide (x.1.done ≥ 0) && !sameR (applyD s x.1.req).2 x.1.rep) && linD n (applyD s x.1.req).1 (z.set i (x.1, true)))
  | none => false
theorem linD_all {n : Nat} {s : LState} {z : ZE} (h : allZ z = true) : linD n s z = true := by
  cases n <;> rw [linD, if_pos h]
theorem linD_step {n : Nat} {s : LState} {z : ZE} (h : allZ z = false) : linD (n + 1) s z = (List.range z.length).any (tryZ n s z) := by
  rw [linD, if_neg (by rw [h]; simp)]
  rfl
theorem tryZ_at {n : Nat} {s : LState} {z : ZE} {i : Nat} {x : LEvent × Bool} (h : z[i]? = some x) : tryZ n s z i = (freeZ z x && (!(decide (x.1.done ≥ 0) && !sameR (applyD s x.1.req).2 x.1.rep) && linD n (applyD s x.1.req).1 (z.set i (x.1, true)))) := by
  unfold tryZ; rw [h]
def leftZ (z : ZE) : List LEvent := (z.filter (fun x => !x.2)).map (·.1)
theorem leftZ_append {a b : ZE} : leftZ (a ++ b) = leftZ a ++ leftZ b := by simp [leftZ]
theorem leftZ_cons {e : LEvent} {d : Bool} {z : ZE} : leftZ ((e, d) :: z) = (if d then [] else [e]) ++ leftZ z := by
  cases d <;> simp [leftZ]
theorem allZ_left {z : ZE} : allZ z = !((leftZ z).any fun e => decide (e.done ≥ 0)) := by
  induction z with
  | nil => rfl
  | cons x z ih =>
    obtain ⟨e, d⟩ := x
    rw [leftZ_cons]
    show ((d || decide (e.done < 0)) && allZ z) = _
    rw [ih]
    cases d with
    | true => simp
    | false =>
      simp only [Bool.false_or, Bool.false_eq_true, if_false, List.singleton_append, List.any_cons, Bool.not_or]
      congr 1
      rw [Bool.eq_iff_iff]
      simp
theorem freeZ_left {z : ZE} {e : LEvent} : z.all (fun y => y.2 || !aheadB y.1 e) = !((leftZ z).any fun o => aheadB o e) := by
  induction z with
  | nil => rfl
  | cons x z ih =>
    obtain ⟨o, d⟩ := x
    rw [leftZ_cons, List.all_cons, ih]
    cases d <;> simp
theorem split_at {α : Type} {l : List α} {i : Nat} {x : α} (h : l[i]? = some x) : l = l.take i ++ x :: l.drop (i + 1) := by
  have hlt : i < l.length := (List.getElem?_eq_some_iff.1 h).1
  have h2 : l.drop i = x :: l.drop (i + 1) := by rw [List.drop_eq_getElem_cons hlt, (List.getElem?_eq_some_iff.1 h).2]
  rw [← h2, List.take_append_drop]
theorem set_at {α : Type} {l : List α} {i : Nat} {x y : α} (h : l[i]? = some x) : l.set i y = l.take i ++ y :: l.drop (i + 1) := by
  have hlt : i < l.length := (List.getElem?_eq_some_iff.1 h).1
  rw [List.set_eq_take_append_cons_drop, if_pos hlt]
theorem left_split {e : LEvent} : ∀ {z : ZE} {A B : List LEvent}, leftZ z = A ++ e :: B → ∃ a b, z = a ++ (e, false) :: b ∧ leftZ a = A ∧ leftZ b = B
  | [], A, B, h => by simp [leftZ] at h
  | (o, true) :: z, A, B, h => by
    rw [leftZ_cons] at h
    obtain ⟨a, b, h1, h2, h3⟩ := left_split (z := z) (A := A) (B := B) (by simpa using h)
    exact ⟨(o, true) :: a, b, by rw [h1]; rfl, by rw [leftZ_cons, h2]; rfl, h3⟩
  | (o, false) :: z, [], B, h => by
    rw [leftZ_cons] at h
    simp only [Bool.false_eq_true, if_false, List.singleton_append, List.nil_append, List.cons.injEq] at h
    exact ⟨[], z, by rw [h.1]; rfl, rfl, h.2⟩
  | (o, false) :: z, p :: A, B, h => by
    rw [leftZ_cons] at h
    simp only [Bool.false_eq_true, if_false, List.singleton_append, List.cons_append, List.cons.injEq] at h
    obtain ⟨a, b, h1, h2, h3⟩ := left_split (z := z) (A := A) (B := B) h.2
    exact ⟨(o, false) :: a, b, by rw [h1]; rfl, by rw [leftZ_cons, h2, h.1]; rfl, h3⟩
theorem at_mid {α : Type} {a b : List α} {x : α} : (a ++ x :: b)[a.length]? = some x ∧ (a ++ x :: b).take a.length = a ∧ (a ++ x :: b).drop (a.length + 1) = b := by
  refine ⟨by simp, by simp, ?_⟩
  rw [List.drop_append]
  simp
/-- What the reference searches is the search of what is left. -/
theorem linD_search : ∀ {n : Nat} {s : LState} {z : ZE}, linD n s z = searchD n s (leftZ z) := by
  intro n
  induction n with
  | zero =>
    intro s z
    rw [linD, searchD, allZ_left]
    cases (leftZ z).any fun e => decide (e.done ≥ 0) <;> rfl
  | succ n ih =>
    intro s z
    cases ha : allZ z with
    | true =>
      rw [linD_all ha]
      rw [allZ_left] at ha
      rw [searchD, if_pos (by simpa using ha)]
    | false =>
      rw [linD_step ha]
      rw [allZ_left] at ha
      rw [searchD_step (by simpa using ha)]
      rw [Bool.eq_iff_iff, List.any_eq_true, List.any_eq_true]
      constructor
      · rintro ⟨i, hi, h⟩
        unfold tryZ at h
        cases hx : z[i]? with
        | none => rw [hx] at h; cases h
        | some x =>
          obtain ⟨e, d⟩ := x
          rw [hx] at h
          simp only [Bool.and_eq_true, freeZ] at h
          obtain ⟨⟨h1, h2⟩, h3, h4⟩ := h
          have hd : d = false := by simpa using h1
          subst hd
          have hz := split_at hx
          have hl : leftZ z = leftZ (z.take i) ++ e :: leftZ (z.drop (i + 1)) := by
            conv => lhs; rw [hz]
            rw [leftZ_append, leftZ_cons]; rfl
          obtain ⟨m1, m2, m3⟩ := at_mid (a := leftZ (z.take i)) (b := leftZ (z.drop (i + 1))) (x := e)
          rw [← hl] at m1 m2 m3
          refine ⟨(leftZ (z.take i)).length, List.mem_range.2 (List.getElem?_eq_some_iff.1 m1).1, ?_⟩
          rw [tryD_at m1, m2, m3]
          rw [freeZ_left] at h2
          rw [ih, set_at hx, leftZ_append, leftZ_cons] at h4
          simp only [Bool.and_eq_true]
          refine ⟨h2, ?_, by simpa using h4⟩
          by_cases hdn : e.done < 0
          · simp [hdn]
          · have : e.done ≥ 0 := by omega
            simp [this] at h3
            simp [h3]
      · rintro ⟨j, hj, h⟩
        cases hx : (leftZ z)[j]? with
        | none => unfold tryD at h; rw [hx] at h; cases h
        | some e =>
          rw [tryD_at hx] at h
          simp only [Bool.and_eq_true] at h
          obtain ⟨h2, h3, h4⟩ := h
          obtain ⟨a, b, hz, hA, hB⟩ := left_split (split_at hx)
          obtain ⟨m1, m2, m3⟩ := at_mid (a := a) (b := b) (x := (e, false))
          rw [← hz] at m1 m2 m3
          refine ⟨a.length, List.mem_range.2 (List.getElem?_eq_some_iff.1 m1).1, ?_⟩
          rw [tryZ_at m1]
          simp only [Bool.and_eq_true, freeZ]
          refine ⟨⟨rfl, by rw [freeZ_left]; exact h2⟩, ?_, ?_⟩
          · by_cases hdn : e.done < 0
            · have : ¬ e.done ≥ 0 := by omega
              simp [this]
            · simp [hdn] at h3
              simp [h3]
          · rw [ih, set_at m1, m2, m3, leftZ_append, leftZ_cons, hA, hB]
            simpa using h4
def cntZ (z : ZE) : Nat := (leftZ z).length
theorem cnt_set {z : ZE} {i : Nat} {e : LEvent} (h : z[i]? = some (e, false)) : cntZ (z.set i (e, true)) + 1 = cntZ z := by
  unfold cntZ
  rw [set_at h, leftZ_append, leftZ_cons]
  conv => rhs; rw [split_at h]
  rw [leftZ_append, leftZ_cons]
  simp
  omega
theorem cnt_none {z : ZE} (h : cntZ z = 0) : allZ z = true := by
  rw [allZ_left, List.eq_nil_of_length_eq_zero h]; rfl
theorem leftZ_fresh {es : List LEvent} : leftZ (es.zip (List.replicate es.length false)) = es := by
  induction es with
  | nil => rfl
  | cons e es ih =>
    rw [List.length_cons, List.replicate_succ, List.zip_cons_cons, leftZ_cons, ih]; rfl
theorem zip_set {α β : Type} : ∀ {l : List α} {m : List β} {i : Nat} {x : α} {y : β}, l[i]? = some x → (l.zip (m.set i y)) = (l.zip m).set i (x, y)
  | [], m, i, x, y, h => by simp at h
  | a :: l, [], i, x, y, h => by simp
  | a :: l, b :: m, 0, x, y, h => by simp at h; simp [h]
  | a :: l, b :: m, i + 1, x, y, h => by
    simp only [List.set_cons_succ, List.zip_cons_cons]
    rw [zip_set (by simpa using h)]
end Go.Proofs.YtchnnplcpidkiaaDoor
namespace Go.Proofs.YtchnnplcpidkiaaDoor
open Go.RowKit Go.Lib
set_option linter.unusedSimpArgs false
set_option linter.unusedVariables false
set_option maxRecDepth 20000
set_option maxHeartbeats 32000000

def sbool (b : Bool) : List Value := [.bool b]
theorem flat_bools {ds : List Bool} : ds.flatMap sbool = ds.map Value.bool := by
  induction ds with
  | nil => rfl
  | cons d ds ih => rw [List.flatMap_cons, ih]; rfl
theorem bools_one {ds : List Bool} : ∀ u ∈ ds.flatMap sbool, u.oneCell' = true := fun u hu => by
  rw [flat_bools] at hu
  obtain ⟨b, _, rfl⟩ := List.mem_map.1 hu
  rfl
theorem set_bools {cur : List Value} {n i : Nat} {ds : List Bool} (h : cur.take (n * 1) = ds.flatMap sbool) : (sset cur (0 + i * 1) (.bool true)).take (n * 1) = (ds.set i true).flatMap sbool := by
  rw [sset_eq, List.take_set, h, flat_bools, flat_bools, List.map_set, Nat.zero_add, Nat.mul_one]
theorem set_row {ob : Option Nat} {n cap o : Nat} {cur : List Value} {v : Value} (h : Row ob n cap 1 cur) : Row ob n cap 1 (sset cur o v) :=
  ⟨by rw [sset_eq, List.length_set]; exact h.len, h.le, h.max, h.nil⟩
theorem blt_row1 {ob : Option Nat} {n cap i : Nat} {cur : List Value} (h : Row ob n cap 1 cur) (hi : i < n) : Nat.blt (0 + i * 1) cur.length = true := by
  rw [Nat.blt_eq, h.len]
  have := h.le
  omega
def frZ (d : Bool) (e : LEvent) (z : ZE) : Bool := !d && z.all (fun y => y.2 || !aheadB y.1 e)
theorem frZ_nil {d : Bool} {e : LEvent} : frZ d e [] = !d := by simp [frZ]
theorem frZ_snoc {d : Bool} {e : LEvent} {z : ZE} {x : LEvent × Bool} : frZ d e (z ++ [x]) = (frZ d e z && (x.2 || !aheadB x.1 e)) := by
  simp [frZ, Bool.and_assoc]
theorem allZ_snoc {z : ZE} {x : LEvent × Bool} : allZ (z ++ [x]) = (allZ z && (x.2 || decide (x.1.done < 0))) := by
  simp [allZ]
theorem zip_at {hs : List (LEvent × Option Addr × Nat)} {ds : List Bool} {i : Nat} {y : LEvent × Option Addr × Nat} {d : Bool} (h : hs[i]? = some y) (h2 : ds[i]? = some d) : ((hs.map (·.1)).zip ds)[i]? = some (y.1, d) := by
  rw [List.getElem?_zip_eq_some]
  exact ⟨by rw [List.getElem?_map, h]; rfl, h2⟩

theorem reflin_any (n : Nat) : ∀ (F : Nat → Prop) (k0 : Nat) (cs : List Value) (s : LState) (A : Option Addr) (cap : Nat) (hs : List (LEvent × Option Addr × Nat)) (B : Option Addr) (cb : Nat) (ds : List Bool) (w : World), RState F w cs s → Fit2 k0 s → k0 + n ≤ 100 → SlF F w A hs.length cap 48 (hs.flatMap ecells) → EvL F w hs → hs.length ≤ 12 →
    SlF F w B hs.length cb 1 (ds.flatMap sbool) → ds.length = hs.length → cntZ ((hs.map (·.1)).zip ds) ≤ n → Tab F w →
    CallsTo 19 #[.agg cs.toArray, .slice A hs.length cap, .slice B hs.length cb] w (fun v _ => v = .bool (linD n s ((hs.map (·.1)).zip ds))) := by
  induction n using Nat.strongRecOn with
  | _ n ih =>
    intro F k0 cs s A cap hs B cb ds w h hfit hk0 hrow hev hn hB hdl hcnt htab
    have hRS := h
    have hsm := hfit.fit.size.small (by omega)
    obtain ⟨Ap, cp, Ar, cr, Am, cm, rfl, hp, hr, hm⟩ := h.form
    have hzl : ((hs.map (·.1)).zip ds).length = hs.length := by rw [List.length_zip, List.length_map, hdl, Nat.min_self]
    have hds : ∀ i, i < hs.length → ∃ d, ds[i]? = some d := fun i hi => ⟨ds[i], by simp [hdl, hi]⟩
    refine CallsTo.enter 102 (fun _ => True) F Tryd.func19 rfl rfl rfl rfl (by intros; first | trivial | assumption) ?_
    with_reducible refine JC.seq ?_
    with_reducible refine JC.region ?_
    refine JL.op (JO.box rfl rfl ?_); intro b3
    refine JL.op (JO.val (y_assign) rfl ?_)
    with_reducible refine JL.nil ?_
    with_reducible refine JQ.seq (JC.seq ?_)
    with_reducible refine JC.region ?_
    refine JL.op (JO.val (y_assign) rfl ?_)
    with_reducible refine JL.nil ?_
    with_reducible refine JQ.seq (JC.seq (JC.seq ?_))
    with_reducible refine JC.region ?_
    refine JL.op (JO.val (y_move) rfl ?_)
    refine JL.op (JO.val (y_len rfl rfl) rfl ?_)
    refine JL.op (JO.val (y_move) rfl ?_)
    with_reducible refine JL.nil ?_
    with_reducible refine JQ.seq (JC.block ?_)
    refine JC.loop (fun m E S F' w1' => ∃ (j : Nat), m = hs.length - j ∧ j ≤ hs.length ∧ S = [(some b3, 28, [.slice Ap s.ps.length cp, .slice Ar s.rs.length cr, .int .i64 s.ep, .slice Am s.ms.length cm])] ∧ F = F' ∧ w = w1' ∧ Has E [(1, .slice A hs.length cap), (2, .slice B hs.length cb), (3, .pointer (some ⟨b3, 0, none⟩)), (18, .slice A hs.length cap), (19, .int .i64 (hs.length : Nat)), (20, .int .i64 (j : Nat)), (7, .bool (allZ (((hs.map (·.1)).zip ds).take j)))])
      _ ⟨0, rfl, Nat.zero_le _, rfl, rfl, rfl, ⟨rfl, rfl, rfl, rfl, rfl, rfl, rfl, trivial⟩⟩ ?_
    rintro m E S F' w1' ⟨j, rfl, hj, rfl, rfl, rfl, hE⟩
    refine JC.env hE (fun E => ?_)
    clear hE
    with_reducible refine JC.seq ?_
    with_reducible refine JC.region ?_
    refine JL.op (JO.val (y_lss rfl rfl) rfl ?_)
    with_reducible refine JL.nil ?_
    with_reducible refine JQ.seq (JC.seq ?_)
    by_cases hlt : j < hs.length
    · have hd : decide ((j : Int) < (hs.length : Int)) = true := by simpa using hlt
      refine JC.cond_true (congrArg Value.bool hd) ?_
      obtain ⟨y, hy⟩ : ∃ y, hs[j]? = some y := ⟨hs[j], by simp [hlt]⟩
      obtain ⟨d, hd2⟩ := hds j hlt
      have hyok := (hev y (List.mem_of_getElem? hy)).1
      have hyl := ecells_len hyok.wf
      have hy1 := ecells_all1 hyok.wf
      obtain ⟨hev1, hev2⟩ := ev_at hyok.wf
      have hnx := allZ_snoc (z := ((hs.map (·.1)).zip ds).take j) (x := (y.1, d))
      rw [← take_snoc (zip_at hy hd2)] at hnx
      obtain ⟨b, o, hA, hat⟩ := SlF.elem hrow (fun y hy => ecells_len (hev y hy).1.wf) rfl hy
      obtain ⟨b', o', hA', hat'⟩ := SlF.elem hB (fun _ _ => rfl) hdl.symm hd2
      with_reducible refine JC.skip (JQ.seq (JC.seq (JC.block (JC.seq ?_))))
      with_reducible refine JC.region ?_
      refine JL.op (JO.val (y_move) rfl ?_)
      refine JL.op (JO.val (y_idx (b := b) (o := o) rfl rfl rfl rfl hA rfl hlt) rfl ?_)
      refine JL.op (JO.val (y_lddA rfl rfl hat (by first | rfl | assumption)) rfl ?_)
      refine JL.op (JO.alloc rfl rfl ?_); intro b9
      refine JL.op (JO.val (y_assign) rfl ?_)
      refine JL.op (JO.storeA 1 rfl rfl rfl rfl (by first | rfl | assumption) (by first | rfl | assumption) (by first | rfl | assumption) ?_)
      with_reducible refine JL.nil ?_
      with_reducible refine JQ.seq ?_
      refine JC.cutS [(1, .slice A hs.length cap), (2, .slice B hs.length cb), (3, .pointer (some ⟨b3, 0, none⟩)), (18, .slice A hs.length cap), (19, .int .i64 (hs.length : Nat)), (20, .int .i64 (j : Nat)), (7, .bool (allZ (((hs.map (·.1)).zip ds).take (j + 1))))] ?_ (fun E => ?_)
      · with_reducible refine JC.region ?_
        refine JL.op (JO.val (y_move) rfl ?_)
        refine JL.op (JO.val (y_move) rfl ?_)
        refine JL.split (d := 26) rfl (fun hg1 => ?_) (fun hg1 => ?_)
        · refine JL.op_do rfl rfl (congrArg Value.bool hg1) (JO.val (y_move) rfl ?_)
          refine JL.op_do rfl rfl (congrArg Value.bool hg1) (JO.val (y_move) rfl ?_)
          refine JL.op_do rfl rfl (congrArg Value.bool hg1) (JO.val (y_idx (b := b') (o := o') rfl rfl rfl rfl hA' rfl hlt) rfl ?_)
          refine JL.op_do rfl rfl (congrArg Value.bool hg1) (JO.val (y_ldd rfl rfl hat') rfl ?_)
          refine JL.op_do rfl rfl (congrArg Value.bool hg1) (JO.val (y_move) rfl ?_)
          refine JL.split (d := 31) rfl (fun hg6 => ?_) (fun hg6 => ?_)
          · refine JL.op_skip rfl rfl (congrArg Value.bool hg6) rfl ?_
            refine JL.op_skip rfl rfl (congrArg Value.bool hg6) rfl ?_
            refine JL.op_skip rfl rfl (congrArg Value.bool hg6) rfl ?_
            refine JL.op_do rfl rfl (congrArg Value.bool hg1) (JO.val (y_pick (congrArg Value.bool hg6)) rfl ?_)
            refine JL.op (JO.val (y_pick (congrArg Value.bool hg1)) rfl ?_)
            refine JL.op (JO.val (y_assign) rfl ?_)
            with_reducible refine JL.nil ?_
            exact JQ.has ⟨rfl, rfl, rfl, rfl, rfl, rfl, congrArg Value.bool (by rw [hnx, hg1, hg6]; simp), trivial⟩ (fun _ h => h)
          · refine JL.op_do rfl rfl (congrArg Value.bool hg6) (JO.val (y_fieldAddr rfl rfl rfl) rfl ?_)
            refine JL.op_do rfl rfl (congrArg Value.bool hg6) (JO.val (y_ld 1 rfl rfl rfl hev2) rfl ?_)
            refine JL.op_do rfl rfl (congrArg Value.bool hg6) (JO.val (y_lss rfl rfl) rfl ?_)
            refine JL.op_do rfl rfl (congrArg Value.bool hg1) (JO.val (y_pick (congrArg Value.bool hg6)) rfl ?_)
            refine JL.op (JO.val (y_pick (congrArg Value.bool hg1)) rfl ?_)
            refine JL.op (JO.val (y_assign) rfl ?_)
            with_reducible refine JL.nil ?_
            exact JQ.has ⟨rfl, rfl, rfl, rfl, rfl, rfl, congrArg Value.bool (by rw [hnx, hg1, hg6]; simp), trivial⟩ (fun _ h => h)
        · refine JL.op_skip rfl rfl (congrArg Value.bool hg1) rfl ?_
          refine JL.op_skip rfl rfl (congrArg Value.bool hg1) rfl ?_
          refine JL.op_skip rfl rfl (congrArg Value.bool hg1) rfl ?_
          refine JL.op_skip rfl rfl (congrArg Value.bool hg1) rfl ?_
          refine JL.op_skip rfl rfl (congrArg Value.bool hg1) rfl ?_
          refine JL.op_skipU rfl rfl rfl rfl ?_
          refine JL.op_skipU rfl rfl rfl rfl ?_
          refine JL.op_skipU rfl rfl rfl rfl ?_
          refine JL.op_skip rfl rfl (congrArg Value.bool hg1) rfl ?_
          refine JL.op (JO.val (y_pick (congrArg Value.bool hg1)) rfl ?_)
          refine JL.op (JO.val (y_assign) rfl ?_)
          with_reducible refine JL.nil ?_
          exact JQ.has ⟨rfl, rfl, rfl, rfl, rfl, rfl, congrArg Value.bool (by rw [hnx, hg1]; simp), trivial⟩ (fun _ h => h)
      with_reducible refine JQ.blk (JQ.seq ?_)
      with_reducible refine JC.region ?_
      refine JL.op (JO.val (y_add rfl rfl (natAdd hj (by omega))) rfl ?_)
      refine JL.op (JO.val (y_move) rfl ?_)
      with_reducible refine JL.nil ?_
      refine JQ.takeN 1 ?_
      exact JQ.loop (hs.length - (j + 1)) ⟨j + 1, rfl, hlt, rfl, rfl, rfl, ⟨rfl, rfl, rfl, rfl, rfl, rfl, rfl, trivial⟩⟩ (by omega)
    have hd : decide ((j : Int) < (hs.length : Int)) = false := by simpa using hlt
    refine JC.cond_false (congrArg Value.bool hd) ?_
    rw [List.take_of_length_le (show ((hs.map (·.1)).zip ds).length ≤ j by omega)]
    clear hlt hd hj
    with_reducible refine JC.exit (JQ.seq_exit (JQ.loop_exit (JQ.blk_here (JQ.seq (JC.seq (JC.seq ?_))))))
    with_reducible refine JC.region ?_
    refine JL.op (JO.val (y_move) rfl ?_)
    with_reducible refine JL.nil ?_
    with_reducible refine JQ.seq ?_
    refine JC.cond rfl (fun hg => ?_) (fun hg => ?_)
    · with_reducible refine JC.seq ?_
      with_reducible refine JC.region ?_
      refine JL.op (JO.val (y_assign) rfl ?_)
      with_reducible refine JL.nil ?_
      with_reducible refine JQ.seq (JC.ret (JQ.seq_ret ?_))
      exact ret_one rfl ResV.tmp (fun w _ => congrArg Value.bool (linD_all hg).symm)
    obtain ⟨nn, rfl⟩ : ∃ nn, n = nn + 1 := by
      cases n with
      | zero => rw [cnt_none (Nat.le_zero.1 hcnt)] at hg; cases hg
      | succ nn => exact ⟨nn, rfl⟩
    have hsD := linD_step (n := nn) (s := s) hg
    rw [hzl] at hsD
    with_reducible refine JC.skip (JQ.seq (JC.seq (JC.seq ?_)))
    with_reducible refine JC.region ?_
    refine JL.op (JO.val (y_move) rfl ?_)
    refine JL.op (JO.val (y_len rfl rfl) rfl ?_)
    refine JL.op (JO.val (y_move) rfl ?_)
    with_reducible refine JL.nil ?_
    with_reducible refine JQ.seq (JC.block ?_)
    refine JC.loop (fun m E S F' w1' => ∃ (i : Nat), m = hs.length - i ∧ i ≤ hs.length ∧ (List.range i).any (tryZ nn s ((hs.map (·.1)).zip ds)) = false ∧ S = [(some b3, 28, [.slice Ap s.ps.length cp, .slice Ar s.rs.length cr, .int .i64 s.ep, .slice Am s.ms.length cm])] ∧ Step F w F' w1' ∧ w.heap.size ≤ w1'.heap.size ∧ Has E [(1, .slice A hs.length cap), (2, .slice B hs.length cb), (3, .pointer (some ⟨b3, 0, none⟩)), (39, .slice A hs.length cap), (40, .int .i64 (hs.length : Nat)), (41, .int .i64 (i : Nat))])
      _ ⟨0, rfl, Nat.zero_le _, rfl, rfl, fun k hk hF => ⟨rfl, hF⟩, Nat.le_refl _, ⟨rfl, rfl, rfl, rfl, rfl, rfl, trivial⟩⟩ ?_
    rintro m E S F' w1' ⟨i, rfl, hi, hall, rfl, hst, hsw, hE⟩
    refine JC.env hE (fun E => ?_)
    clear hE
    with_reducible refine JC.seq ?_
    with_reducible refine JC.region ?_
    refine JL.op (JO.val (y_lss rfl rfl) rfl ?_)
    with_reducible refine JL.nil ?_
    with_reducible refine JQ.seq (JC.seq ?_)
    by_cases hlt : i < hs.length
    · have hd : decide ((i : Int) < (hs.length : Int)) = true := by simpa using hlt
      refine JC.cond_true (congrArg Value.bool hd) ?_
      obtain ⟨y, hy⟩ : ∃ y, hs[i]? = some y := ⟨hs[i], by simp [hlt]⟩
      obtain ⟨d, hd2⟩ := hds i hlt
      have hym := List.mem_of_getElem? hy
      have hyok := (hev y hym).1
      have hyl := ecells_len hyok.wf
      have hy1 := ecells_all1 hyok.wf
      have hyq := hyok.wf.req
      obtain ⟨hev1, hev2⟩ := ev_at hyok.wf
      have hza := zip_at hy hd2
      have htD := tryZ_at (n := nn) (s := s) hza
      have hnext : tryZ nn s ((hs.map (·.1)).zip ds) i = false → (List.range (i + 1)).any (tryZ nn s ((hs.map (·.1)).zip ds)) = false := fun h1 => by
        rw [List.range_succ, List.any_append, hall]; simp [h1]
      have hfound : tryZ nn s ((hs.map (·.1)).zip ds) i = true → linD (nn + 1) s ((hs.map (·.1)).zip ds) = true := fun h1 => by
        rw [hsD]; exact List.any_eq_true.2 ⟨i, List.mem_range.2 hlt, h1⟩
      obtain ⟨b, o, hA, hat⟩ := SlF.elem (SlF.step hrow hst (by omega)) (fun y hy => ecells_len (hev y hy).1.wf) rfl hy
      obtain ⟨b', o', hA', hat'⟩ := SlF.elem (SlF.step hB hst (by omega)) (fun _ _ => rfl) hdl.symm hd2
      with_reducible refine JC.skip (JQ.seq (JC.seq (JC.block (JC.seq ?_))))
      with_reducible refine JC.region ?_
      refine JL.op (JO.val (y_move) rfl ?_)
      refine JL.op (JO.val (y_idx (b := b) (o := o) rfl rfl rfl rfl hA rfl hlt) rfl ?_)
      refine JL.op (JO.val (y_lddA rfl rfl hat (by first | rfl | assumption)) rfl ?_)
      refine JL.op (JO.alloc rfl rfl ?_); intro b11
      refine JL.op (JO.val (y_assign) rfl ?_)
      refine JL.op (JO.storeA 1 rfl rfl rfl rfl (by first | rfl | assumption) (by first | rfl | assumption) (by first | rfl | assumption) ?_)
      with_reducible refine JL.nil ?_
      with_reducible refine JQ.seq (JC.seq ?_)
      with_reducible refine JC.region ?_
      refine JL.op (JO.val (y_move) rfl ?_)
      refine JL.op (JO.val (y_move) rfl ?_)
      refine JL.op (JO.val (y_idx (b := b') (o := o') rfl rfl rfl rfl hA' rfl hlt) rfl ?_)
      refine JL.op (JO.val (y_ldd rfl rfl hat') rfl ?_)
      refine JL.op (JO.val (y_not rfl) rfl ?_)
      refine JL.op (JO.val (y_assign) rfl ?_)
      with_reducible refine JL.nil ?_
      with_reducible refine JQ.seq (JC.seq (JC.seq ?_))
      with_reducible refine JC.region ?_
      refine JL.op (JO.val (y_move) rfl ?_)
      refine JL.op (JO.val (y_len rfl rfl) rfl ?_)
      refine JL.op (JO.val (y_move) rfl ?_)
      with_reducible refine JL.nil ?_
      with_reducible refine JQ.seq (JC.block ?_)
      refine JC.loop (fun m E S F2 w2 => ∃ (j : Nat), m = hs.length - j ∧ j ≤ hs.length ∧ S = [(some b3, 28, [.slice Ap s.ps.length cp, .slice Ar s.rs.length cr, .int .i64 s.ep, .slice Am s.ms.length cm]), (some b11, 90, ecells y)] ∧ F' = F2 ∧ w1' = w2 ∧ Has E [(1, .slice A hs.length cap), (2, .slice B hs.length cb), (3, .pointer (some ⟨b3, 0, none⟩)), (39, .slice A hs.length cap), (40, .int .i64 (hs.length : Nat)), (41, .int .i64 (i : Nat)), (10, .int .i64 (i : Nat)), (11, .pointer (some ⟨b11, 0, none⟩)), (51, .slice A hs.length cap), (52, .int .i64 (hs.length : Nat)), (53, .int .i64 (j : Nat)), (12, .bool (frZ d y.1 (((hs.map (·.1)).zip ds).take j)))])
        _ ⟨0, rfl, Nat.zero_le _, rfl, rfl, rfl, ⟨rfl, rfl, rfl, rfl, rfl, rfl, rfl, rfl, rfl, rfl, rfl, congrArg Value.bool frZ_nil.symm, trivial⟩⟩ ?_
      clear hA hat hA' hat'
      rintro m E S F2 w2 ⟨j, rfl, hj, rfl, rfl, rfl, hE⟩
      refine JC.env hE (fun E => ?_)
      clear hE
      with_reducible refine JC.seq ?_
      with_reducible refine JC.region ?_
      refine JL.op (JO.val (y_lss rfl rfl) rfl ?_)
      with_reducible refine JL.nil ?_
      with_reducible refine JQ.seq (JC.seq ?_)
      by_cases hlt2 : j < hs.length
      · have hd3 : decide ((j : Int) < (hs.length : Int)) = true := by simpa using hlt2
        refine JC.cond_true (congrArg Value.bool hd3) ?_
        obtain ⟨z, hz⟩ : ∃ z, hs[j]? = some z := ⟨hs[j], by simp [hlt2]⟩
        obtain ⟨dz, hdz⟩ := hds j hlt2
        have hzok := (hev z (List.mem_of_getElem? hz)).1
        have hzcl := ecells_len hzok.wf
        have hz1 := ecells_all1 hzok.wf
        have hnx := frZ_snoc (d := d) (e := y.1) (z := ((hs.map (·.1)).zip ds).take j) (x := (z.1, dz))
        rw [← take_snoc (zip_at hz hdz)] at hnx
        obtain ⟨b, o, hA, hat⟩ := SlF.elem (SlF.step hrow hst (by omega)) (fun y hy => ecells_len (hev y hy).1.wf) rfl hz
        obtain ⟨b', o', hA', hat'⟩ := SlF.elem (SlF.step hB hst (by omega)) (fun _ _ => rfl) hdl.symm hdz
        with_reducible refine JC.skip (JQ.seq (JC.seq (JC.block (JC.seq ?_))))
        with_reducible refine JC.region ?_
        refine JL.op (JO.val (y_move) rfl ?_)
        refine JL.op (JO.val (y_idx (b := b) (o := o) rfl rfl rfl rfl hA rfl hlt2) rfl ?_)
        refine JL.op (JO.val (y_lddA rfl rfl hat (by first | rfl | assumption)) rfl ?_)
        refine JL.op (JO.alloc rfl rfl ?_); intro b14
        refine JL.op (JO.val (y_assign) rfl ?_)
        refine JL.op (JO.storeA 2 rfl rfl rfl rfl (by first | rfl | assumption) (by first | rfl | assumption) (by first | rfl | assumption) ?_)
        with_reducible refine JL.nil ?_
        with_reducible refine JQ.seq ?_
        refine JC.cutS [(1, .slice A hs.length cap), (2, .slice B hs.length cb), (3, .pointer (some ⟨b3, 0, none⟩)), (39, .slice A hs.length cap), (40, .int .i64 (hs.length : Nat)), (41, .int .i64 (i : Nat)), (10, .int .i64 (i : Nat)), (11, .pointer (some ⟨b11, 0, none⟩)), (51, .slice A hs.length cap), (52, .int .i64 (hs.length : Nat)), (53, .int .i64 (j : Nat)), (12, .bool (frZ d y.1 (((hs.map (·.1)).zip ds).take (j + 1))))] ?_ (fun E => ?_)
        · with_reducible refine JC.region ?_
          refine JL.op (JO.val (y_move) rfl ?_)
          refine JL.op (JO.val (y_move) rfl ?_)
          refine JL.split (d := 59) rfl (fun hg1 => ?_) (fun hg1 => ?_)
          · refine JL.op_do rfl rfl (congrArg Value.bool hg1) (JO.val (y_move) rfl ?_)
            refine JL.op_do rfl rfl (congrArg Value.bool hg1) (JO.val (y_move) rfl ?_)
            refine JL.op_do rfl rfl (congrArg Value.bool hg1) (JO.val (y_idx (b := b') (o := o') rfl rfl rfl rfl hA' rfl hlt2) rfl ?_)
            refine JL.op_do rfl rfl (congrArg Value.bool hg1) (JO.val (y_ldd rfl rfl hat') rfl ?_)
            refine JL.op_do rfl rfl (congrArg Value.bool hg1) (JO.val (y_move) rfl ?_)
            refine JL.split (d := 64) rfl (fun hg6 => ?_) (fun hg6 => ?_)
            · refine JL.op_skip rfl rfl (congrArg Value.bool hg6) rfl ?_
              refine JL.op_skip rfl rfl (congrArg Value.bool hg6) rfl ?_
              refine JL.op_skip rfl rfl (congrArg Value.bool hg6) rfl ?_
              refine JL.op_skip rfl rfl (congrArg Value.bool hg6) rfl ?_
              refine JL.op_do rfl rfl (congrArg Value.bool hg1) (JO.val (y_pick (congrArg Value.bool hg6)) rfl ?_)
              refine JL.op (JO.val (y_pick (congrArg Value.bool hg1)) rfl ?_)
              refine JL.op (JO.val (y_assign) rfl ?_)
              with_reducible refine JL.nil ?_
              exact JQ.has ⟨rfl, rfl, rfl, rfl, rfl, rfl, rfl, rfl, rfl, rfl, rfl, congrArg Value.bool (by rw [hnx, hg1, hg6]; simp), trivial⟩ (fun _ h => h)
            · refine JL.op_do rfl rfl (congrArg Value.bool hg6) (JO.val (y_ldA 2 rfl rfl rfl hzcl) rfl ?_)
              refine JL.op_do rfl rfl (congrArg Value.bool hg6) (JO.val (y_ldA 1 rfl rfl rfl hyl) rfl ?_)
              refine JL.op_do rfl rfl (congrArg Value.bool hg6) (JO.callv (fun wc hc => ahead39 z y hzok.wf hyok.wf wc) rfl rfl rfl ?_)
              refine JL.op_do rfl rfl (congrArg Value.bool hg6) (JO.val (y_not rfl) rfl ?_)
              refine JL.op_do rfl rfl (congrArg Value.bool hg1) (JO.val (y_pick (congrArg Value.bool hg6)) rfl ?_)
              refine JL.op (JO.val (y_pick (congrArg Value.bool hg1)) rfl ?_)
              refine JL.op (JO.val (y_assign) rfl ?_)
              with_reducible refine JL.nil ?_
              exact JQ.has ⟨rfl, rfl, rfl, rfl, rfl, rfl, rfl, rfl, rfl, rfl, rfl, congrArg Value.bool (by rw [hnx, hg1, hg6]; simp), trivial⟩ (fun _ h => h)
          · refine JL.op_skip rfl rfl (congrArg Value.bool hg1) rfl ?_
            refine JL.op_skip rfl rfl (congrArg Value.bool hg1) rfl ?_
            refine JL.op_skip rfl rfl (congrArg Value.bool hg1) rfl ?_
            refine JL.op_skip rfl rfl (congrArg Value.bool hg1) rfl ?_
            refine JL.op_skip rfl rfl (congrArg Value.bool hg1) rfl ?_
            refine JL.op_skipU rfl rfl rfl rfl ?_
            refine JL.op_skipU rfl rfl rfl rfl ?_
            refine JL.op_skipU rfl rfl rfl rfl ?_
            refine JL.op_skipU rfl rfl rfl rfl ?_
            refine JL.op_skip rfl rfl (congrArg Value.bool hg1) rfl ?_
            refine JL.op (JO.val (y_pick (congrArg Value.bool hg1)) rfl ?_)
            refine JL.op (JO.val (y_assign) rfl ?_)
            with_reducible refine JL.nil ?_
            exact JQ.has ⟨rfl, rfl, rfl, rfl, rfl, rfl, rfl, rfl, rfl, rfl, rfl, congrArg Value.bool (by rw [hnx, hg1]; simp), trivial⟩ (fun _ h => h)
        with_reducible refine JQ.blk (JQ.seq ?_)
        with_reducible refine JC.region ?_
        refine JL.op (JO.val (y_add rfl rfl (natAdd hj (by omega))) rfl ?_)
        refine JL.op (JO.val (y_move) rfl ?_)
        with_reducible refine JL.nil ?_
        refine JQ.takeN 2 ?_
        exact JQ.loop (hs.length - (j + 1)) ⟨j + 1, rfl, hlt2, rfl, rfl, rfl, ⟨rfl, rfl, rfl, rfl, rfl, rfl, rfl, rfl, rfl, rfl, rfl, rfl, trivial⟩⟩ (by omega)
      have hd3 : decide ((j : Int) < (hs.length : Int)) = false := by simpa using hlt2
      refine JC.cond_false (congrArg Value.bool hd3) ?_
      rw [List.take_of_length_le (show ((hs.map (·.1)).zip ds).length ≤ j by omega)]
      have hfz : freeZ ((hs.map (·.1)).zip ds) (y.1, d) = frZ d y.1 ((hs.map (·.1)).zip ds) := rfl
      rw [hfz] at htD
      clear hlt2 hd3 hj hfz
      with_reducible refine JC.exit (JQ.seq_exit (JQ.loop_exit (JQ.blk_here (JQ.seq (JC.seq (JC.seq ?_))))))
      with_reducible refine JC.region ?_
      refine JL.op (JO.val (y_move) rfl ?_)
      refine JL.op (JO.val (y_not rfl) rfl ?_)
      with_reducible refine JL.nil ?_
      with_reducible refine JQ.seq ?_
      refine JC.cond rfl (fun hg2 => ?_) (fun hg2 => ?_)
      · with_reducible refine JC.exit (JQ.seq_exit (JQ.blk_here (JQ.seq ?_)))
        with_reducible refine JC.region ?_
        refine JL.op (JO.val (y_add rfl rfl (natAdd hi (by omega))) rfl ?_)
        refine JL.op (JO.val (y_move) rfl ?_)
        with_reducible refine JL.nil ?_
        refine JQ.takeN 1 ?_
        exact JQ.loop (hs.length - (i + 1)) ⟨i + 1, rfl, hlt, hnext (by rw [htD, show frZ d y.1 ((hs.map (·.1)).zip ds) = false by simpa using hg2]; rfl), rfl, hst, hsw, ⟨rfl, rfl, rfl, rfl, rfl, rfl, trivial⟩⟩ (by omega)
      have hfr : frZ d y.1 ((hs.map (·.1)).zip ds) = true := by simpa using hg2
      have hdf : d = false := by
        cases d with
        | false => rfl
        | true => simp [frZ] at hfr
      subst hdf
      rw [hfr, Bool.true_and] at htD
      with_reducible refine JC.skip (JQ.seq (JC.seq ?_))
      with_reducible refine JC.region ?_
      refine JL.op (JO.val (y_ldA 0 rfl rfl rfl rfl) rfl ?_)
      refine JL.op (JO.val (y_fieldAddr rfl rfl rfl) rfl ?_)
      refine JL.op (JO.val (y_ldP 1 rfl rfl rfl (ev_req hyok.wf) (by rw [hyl]; rfl)) rfl ?_)
      refine JL.op (JO.call _ (fun wc hc => refapply_any _ _ s y.1.req wc ((hRS.step hst).step hc.step) hfit.fit.wf hsm hyq ((htab.step hst).step hc.step)) rfl rfl rfl ?_)
      rintro wc3 v wn3 hst3 hsz3 hfr3 hbl3 hst03 ⟨cs3, ra3, rfl, hrb3, hrr3⟩
      replace hrb3 := hrb3.step (Step.weak (fun b hb => Or.elim hb id (hfr3 b)))
      replace hrr3 := hrr3.step (Step.weak (fun b hb => Or.elim hb id (hfr3 b)))
      obtain ⟨hl7, hl8⟩ := hrb3.four
      obtain ⟨A3, cap3, rfl, hrs3⟩ := hrr3.form
      have hsw3 : w.heap.size ≤ wn3.heap.size := Nat.le_trans hsw (Nat.le_trans hsz3 hbl3.size)
      replace hst3 := hst.trans hst3 hsw
      clear hst03
      refine JL.op (JO.val (y_move) rfl ?_)
      refine JL.op (JO.val (y_extract rfl rfl) rfl ?_)
      refine JL.op (JO.val (y_extract rfl rfl) rfl ?_)
      refine JL.op (JO.alloc rfl rfl ?_); intro b15
      refine JL.op (JO.alloc rfl rfl ?_); intro b16
      refine JL.op (JO.storeA 2 rfl rfl rfl rfl (by first | rfl | assumption) (by first | rfl | assumption) (by first | rfl | assumption) ?_)
      refine JL.op (JO.storeA 3 rfl rfl rfl rfl (by first | rfl | assumption) (by first | rfl | assumption) (by first | rfl | assumption) ?_)
      with_reducible refine JL.nil ?_
      have htame := applyD_tame (q := y.1.req) hfit.fit (by omega) hfit.tame
      with_reducible refine JQ.seq (JC.seq (JC.seq ?_))
      refine JC.cutS [(1, .slice A hs.length cap), (2, .slice B hs.length cb), (3, .pointer (some ⟨b3, 0, none⟩)), (39, .slice A hs.length cap), (40, .int .i64 (hs.length : Nat)), (41, .int .i64 (i : Nat)), (10, .int .i64 (i : Nat)), (11, .pointer (some ⟨b11, 0, none⟩)), (15, .pointer (some ⟨b15, 0, none⟩)), (90, .bool (decide (y.1.done ≥ 0) && !sameR (applyD s y.1.req).2 y.1.rep))] ?_ (fun E => ?_)
      · with_reducible refine JC.region ?_
        refine JL.op (JO.val (y_fieldAddr rfl rfl rfl) rfl ?_)
        refine JL.op (JO.val (y_ld 1 rfl rfl rfl hev2) rfl ?_)
        refine JL.op (JO.val (y_geq rfl rfl) rfl ?_)
        refine JL.op (JO.val (y_move) rfl ?_)
        refine JL.split (d := 84) rfl (fun hg3 => ?_) (fun hg3 => ?_)
        · refine JL.op_do rfl rfl (congrArg Value.bool hg3) (JO.val (y_ldA 3 rfl rfl rfl rfl) rfl ?_)
          refine JL.op_do rfl rfl (congrArg Value.bool hg3) (JO.val (y_fieldAddr rfl rfl rfl) rfl ?_)
          refine JL.op_do rfl rfl (congrArg Value.bool hg3) (JO.val (y_ldP 1 rfl rfl rfl (ev_rep hyok.wf) (by rw [hyl]; rfl)) rfl ?_)
          refine JL.op_do rfl rfl (congrArg Value.bool hg3) (JO.callv (fun wc hc => same9_any _ _ _ (applyD s y.1.req).2 y.1.rep wc ⟨A3, cap3, rfl, hrs3.step hc.step⟩ ⟨y.2.1, y.2.2, rfl, ((hev y hym).2.step hst3).step hc.step⟩ (Nat.le_trans htame.2.n (by decide))) rfl rfl rfl ?_)
          refine JL.op_do rfl rfl (congrArg Value.bool hg3) (JO.val (y_not rfl) rfl ?_)
          refine JL.op (JO.val (y_pick (congrArg Value.bool hg3)) rfl ?_)
          with_reducible refine JL.nil ?_
          exact JQ.has ⟨rfl, rfl, rfl, rfl, rfl, rfl, rfl, rfl, rfl, congrArg Value.bool (by rw [hg3]; rfl), trivial⟩ (fun _ h => h)
        · refine JL.op_skip rfl rfl (congrArg Value.bool hg3) rfl ?_
          refine JL.op_skip rfl rfl (congrArg Value.bool hg3) rfl ?_
          refine JL.op_skip rfl rfl (congrArg Value.bool hg3) rfl ?_
          refine JL.op_skip rfl rfl (congrArg Value.bool hg3) rfl ?_
          refine JL.op_skip rfl rfl (congrArg Value.bool hg3) rfl ?_
          refine JL.op (JO.val (y_pick (congrArg Value.bool hg3)) rfl ?_)
          with_reducible refine JL.nil ?_
          exact JQ.has ⟨rfl, rfl, rfl, rfl, rfl, rfl, rfl, rfl, rfl, congrArg Value.bool (by rw [hg3]; rfl), trivial⟩ (fun _ h => h)
      with_reducible refine JQ.seq ?_
      refine JC.cond rfl (fun hg3 => ?_) (fun hg3 => ?_)
      · with_reducible refine JC.exit (JQ.seq_exit (JQ.blk_here (JQ.seq ?_)))
        with_reducible refine JC.region ?_
        refine JL.op (JO.val (y_add rfl rfl (natAdd hi (by omega))) rfl ?_)
        refine JL.op (JO.val (y_move) rfl ?_)
        with_reducible refine JL.nil ?_
        refine JQ.takeN 1 ?_
        exact JQ.loop (hs.length - (i + 1)) ⟨i + 1, rfl, hlt, hnext (by rw [htD, hg3]; rfl), rfl, hst3, hsw3, ⟨rfl, rfl, rfl, rfl, rfl, rfl, trivial⟩⟩ (by omega)
      rw [hg3, Bool.not_false, Bool.true_and] at htD
      have hB3 := SlF.step hB hst3 (by omega)
      with_reducible refine JC.skip (JQ.seq (JC.seq ?_))
      with_reducible refine JC.region ?_
      refine JL.op (JO.build0 rfl rfl rfl ?_); intro b91
      refine JL.op (JO.val (y_move) rfl ?_)
      refine JL.op (JO.append 4 (ob := some b91) (n := 0) (cap := 0) (ds.flatMap sbool) rfl rfl rfl rfl rfl rfl rfl ⟨rfl, Nat.le_refl _, by simp [maxLen], fun h => by cases h⟩ hB3.len (fun h => (hB3.nil h).1) (fun w2 hc => hc.srcF hB3) bools_one (by unfold maxLen; omega) (by omega) ?_)
      intro ob capn cur hrown htkn _
      refine JL.op (JO.val (y_assign) rfl ?_)
      with_reducible refine JL.nil ?_
      rw [Nat.zero_add] at hrown htkn
      obtain ⟨bo, rfl⟩ := row_some hrown (by omega)
      replace htkn : cur.take (hs.length * 1) = ds.flatMap sbool := by simpa using htkn
      refine JQ.env (S := [(some b3, 28, [.slice Ap s.ps.length cp, .slice Ar s.rs.length cr, .int .i64 s.ep, .slice Am s.ms.length cm]), (some b11, 90, ecells y), (some b15, 28, cs3), (some b16, 45, rcells ((applyD s y.1.req).2, A3, cap3)), (some bo, 4, cur)]) (l := [(1, .slice A hs.length cap), (2, .slice B hs.length cb), (3, .pointer (some ⟨b3, 0, none⟩)), (39, .slice A hs.length cap), (40, .int .i64 (hs.length : Nat)), (41, .int .i64 (i : Nat)), (10, .int .i64 (i : Nat)), (11, .pointer (some ⟨b11, 0, none⟩)), (15, .pointer (some ⟨b15, 0, none⟩)), (17, .slice (some ⟨bo, 0, none⟩) hs.length capn)]) ⟨rfl, rfl, rfl, rfl, rfl, rfl, rfl, rfl, rfl, congrArg (fun k => Value.slice (some ⟨bo, 0, none⟩) k capn) (Nat.zero_add _), trivial⟩ (fun E => ?_)
      with_reducible refine JQ.seq (JC.seq ?_)
      with_reducible refine JC.region ?_
      refine JL.op (JO.val (y_move) rfl ?_)
      refine JL.op (JO.val (y_move) rfl ?_)
      refine JL.op (JO.val (y_idx (b := bo) (o := 0) rfl rfl rfl rfl rfl rfl hlt) rfl ?_)
      refine JL.op (JO.store1 4 rfl rfl rfl rfl rfl (blt_row1 hrown hlt) rfl ?_)
      with_reducible refine JL.nil ?_
      have hrow4 := set_row (o := 0 + i * 1) (v := .bool true) hrown
      have htk4 := set_bools (i := i) htkn
      have hz4 := zip_set (l := hs.map (·.1)) (m := ds) (i := i) (x := y.1) (y := true) (by rw [List.getElem?_map, hy]; rfl)
      have hc4 : cntZ ((hs.map (·.1)).zip (ds.set i true)) ≤ nn := by
        rw [hz4]
        have := cnt_set hza
        omega
      with_reducible refine JQ.seq (JC.seq ?_)
      with_reducible refine JC.region ?_
      refine JL.op (JO.val (y_ldA 2 rfl rfl rfl hl7) rfl ?_)
      refine JL.op (JO.val (y_move) rfl ?_)
      refine JL.op (JO.val (y_move) rfl ?_)
      refine JL.op (JO.callv (fun wc hc => ih nn (by omega) (fun _ => True) (k0 + 1) cs3 (applyD s y.1.req).1 A cap hs (some ⟨bo, 0, none⟩) capn (ds.set i true) wc ((hrb3.step hc.step).step (Step.weak fun _ _ => trivial)) (hfit.apply hyq (by omega)) (by omega) (SlF.step hrow ((hst3.trans hc.step hsw3).mono (fun _ h => h) (fun _ _ => trivial)) (by omega)) (hev.step ((hst3.trans hc.step hsw3).mono (fun _ h => h) (fun _ _ => trivial))) hn (hrow4.slF htk4 (fun b hb => ⟨trivial, (hc.own (some bo, 4, sset cur (0 + i * 1) (.bool true)) (List.mem_of_getElem? (i := 4) rfl) b hb).2⟩)) (by rw [List.length_set]; exact hdl) hc4 (htab.step ((hst3.trans hc.step hsw3).mono (fun _ h => h) (fun _ _ => trivial)))) rfl rfl rfl ?_)
      with_reducible refine JL.nil ?_
      rw [hz4]
      with_reducible refine JQ.seq ?_
      refine JC.cond rfl (fun hg4 => ?_) (fun hg4 => ?_)
      · with_reducible refine JC.seq ?_
        with_reducible refine JC.region ?_
        refine JL.op (JO.val (y_assign) rfl ?_)
        with_reducible refine JL.nil ?_
        with_reducible refine JQ.seq (JC.ret (JQ.blk_ret (JQ.seq_ret (JQ.loop_ret (JQ.blk_ret (JQ.seq_ret ?_))))))
        exact ret_one rfl ResV.tmp (fun w _ => congrArg Value.bool (hfound (by rw [htD]; exact hg4)).symm)
      · with_reducible refine JC.skip (JQ.blk (JQ.seq ?_))
        with_reducible refine JC.region ?_
        refine JL.op (JO.val (y_add rfl rfl (natAdd hi (by omega))) rfl ?_)
        refine JL.op (JO.val (y_move) rfl ?_)
        with_reducible refine JL.nil ?_
        refine JQ.takeN 1 ?_
        exact JQ.loop (hs.length - (i + 1)) ⟨i + 1, rfl, hlt, hnext (by rw [htD]; exact hg4), rfl, hst3, hsw3, ⟨rfl, rfl, rfl, rfl, rfl, rfl, trivial⟩⟩ (by omega)
    have hd : decide ((i : Int) < (hs.length : Int)) = false := by simpa using hlt
    refine JC.cond_false (congrArg Value.bool hd) ?_
    obtain rfl : i = hs.length := by omega
    with_reducible refine JC.exit (JQ.seq_exit (JQ.loop_exit (JQ.blk_here (JQ.seq (JC.seq ?_)))))
    with_reducible refine JC.region ?_
    refine JL.op (JO.val (y_assign) rfl ?_)
    with_reducible refine JL.nil ?_
    with_reducible refine JQ.seq (JC.ret ?_)
    exact ret_one rfl ResV.tmp (fun w _ => congrArg Value.bool (show false = linD (nn + 1) s ((hs.map (·.1)).zip ds) from by rw [hsD, hall]))
end Go.Proofs.YtchnnplcpidkiaaDoor
namespace Go.Proofs.YtchnnplcpidkiaaDoor
open Go.RowKit Go.Lib
set_option linter.unusedSimpArgs false
set_option linter.unusedVariables false
set_option maxRecDepth 20000
set_option maxHeartbeats 16000000

section
variable {X : Cx} {E : Env} {S : Sto} {F : Nat → Prop} {w1 : World} {d : Option Tmp} {t : TypeId} {pos : String} {af : Array Edge} {g : Option (Nat × Bool)}
theorem y_eqb {T T' : TypeId} {x y : Operand} {b c : Bool} (hT : T = 4) (hx : ev E x = .bool b) (hy : ev E y = .bool c) : Yields X ⟨d, .binOp .eql T x y T', t, pos, af, g⟩ E S F w1 (.bool (b == c)) := fun w _ => by
  subst hT
  simp [execOp, Sem.run_bind, hx, hy, eqGuard, binOp, run_equal_bool w 4 b c Tryd.underlying4]
end
theorem fresh_left {hs : List (LEvent × Option Addr × Nat)} : leftZ ((hs.map (·.1)).zip (List.replicate hs.length false)) = hs.map (·.1) := by
  have := leftZ_fresh (es := hs.map (·.1))
  rwa [List.length_map] at this
theorem linears_any (F : Nat → Prop) (cs : List Value) (s : LState) (Ae : Option Addr) (ce : Nat) (hs : List (LEvent × Option Addr × Nat)) (w : World) (h : RState F w cs s) (hwf : s.wf) (he : SlF F w Ae hs.length ce 48 (hs.flatMap ecells)) (hew : ∀ x ∈ hs, x.1.wf ∧ RStrs F w x.2.1 x.2.2 x.1.rep.vals) (htab : Tab F w) :
    CallsTo 6 #[.agg cs.toArray, .slice Ae hs.length ce] w (fun v _ => v = .bool true) := by
  have hRS := h
  have hl4 := h.four.1
  have hl5 := h.four.2
  refine CallsTo.enter 49 (fun _ => True) F Tryd.func6 rfl rfl rfl rfl (by intros; first | trivial | assumption) ?_
  with_reducible refine JC.seq ?_
  with_reducible refine JC.region ?_
  refine JL.op (JO.box rfl rfl ?_); intro b2
  refine JL.op (JO.val (y_assign) rfl ?_)
  with_reducible refine JL.nil ?_
  with_reducible refine JQ.seq (JC.seq (JC.seq ?_))
  with_reducible refine JC.region ?_
  refine JL.op (JO.callv (fun wc hc => alive14_any _ wc (htab.step hc.step)) rfl rfl rfl ?_)
  refine JL.op (JO.val (y_not rfl) rfl ?_)
  with_reducible refine JL.nil ?_
  with_reducible refine JQ.seq ?_
  refine JC.cond_false rfl ?_
  with_reducible refine JC.skip (JQ.seq (JC.seq (JC.seq ?_)))
  refine JC.cutI (fun E S F' w1' => ∃ gt : Bool, (gt = false → Meek2 s [] (hs.map (·.1)) ∧ (hs.length ≤ 5 ∨ hs.length > 8)) ∧ S = [(some b2, 28, cs)] ∧ Step F w F' w1' ∧ w.heap.size ≤ w1'.heap.size ∧ Has E [(1, .slice Ae hs.length ce), (2, .pointer (some ⟨b2, 0, none⟩)), (21, .bool gt)]) ?_ ?_
  · with_reducible refine JC.region ?_
    refine JL.op (JO.val (y_ldA 0 rfl rfl rfl hl4) rfl ?_)
    refine JL.op (JO.val (y_move) rfl ?_)
    refine JL.op (JO.call _ (fun wc hc => great24_any _ _ s none 0 [] Ae ce hs wc (hRS.step hc.step) hwf ⟨Nat.le_refl _, by simp [maxLen], rfl, fun _ => ⟨rfl, rfl⟩, fun h => absurd h (Nat.lt_irrefl 0)⟩ (fun q hq => by cases hq) (SlF.step he hc.step (by omega)) (fun x hx => ⟨(hew x hx).1, (hew x hx).2.step hc.step⟩)) rfl rfl rfl ?_)
    rintro wc v wn hst hsz hfr hbl hst0 ⟨g, rfl, hgr⟩
    refine JL.op (JO.val (y_move) rfl ?_)
    refine JL.split (d := 12) rfl (fun hg3 => ?_) (fun hg3 => ?_)
    · refine JL.op_skip rfl rfl (congrArg Value.bool hg3) rfl ?_
      refine JL.op_skip rfl rfl (congrArg Value.bool hg3) rfl ?_
      refine JL.op_skip rfl rfl (congrArg Value.bool hg3) rfl ?_
      refine JL.op_skip rfl rfl (congrArg Value.bool hg3) rfl ?_
      refine JL.op_skipU rfl rfl rfl rfl ?_
      refine JL.op_skipU rfl rfl rfl rfl ?_
      refine JL.op_skipU rfl rfl rfl rfl ?_
      refine JL.op_skip rfl rfl (congrArg Value.bool hg3) rfl ?_
      refine JL.op (JO.val (y_pick (congrArg Value.bool hg3)) rfl ?_)
      with_reducible refine JL.nil ?_
      exact JQ.inv ⟨true, fun h => absurd h (by decide), rfl, hst, Nat.le_trans hsz hbl.size, ⟨rfl, rfl, rfl, trivial⟩⟩
    · refine JL.op_do rfl rfl (congrArg Value.bool hg3) (JO.val (y_move) rfl ?_)
      refine JL.op_do rfl rfl (congrArg Value.bool hg3) (JO.val (y_len rfl rfl) rfl ?_)
      refine JL.op_do rfl rfl (congrArg Value.bool hg3) (JO.val (y_gtr rfl rfl) rfl ?_)
      refine JL.op_do rfl rfl (congrArg Value.bool hg3) (JO.val (y_move) rfl ?_)
      refine JL.split (d := 16) rfl (fun hg7 => ?_) (fun hg7 => ?_)
      · refine JL.op_do rfl rfl (congrArg Value.bool hg7) (JO.val (y_move) rfl ?_)
        refine JL.op_do rfl rfl (congrArg Value.bool hg7) (JO.val (y_len rfl rfl) rfl ?_)
        refine JL.op_do rfl rfl (congrArg Value.bool hg7) (JO.val (y_leq rfl rfl) rfl ?_)
        refine JL.op_do rfl rfl (congrArg Value.bool hg3) (JO.val (y_pick (congrArg Value.bool hg7)) rfl ?_)
        refine JL.op (JO.val (y_pick (congrArg Value.bool hg3)) rfl ?_)
        with_reducible refine JL.nil ?_
        exact JQ.inv ⟨decide ((hs.length : Int) ≤ 8), fun h => ⟨hgr hg3, .inr (by simp at h; omega)⟩, rfl, hst, Nat.le_trans hsz hbl.size, ⟨rfl, rfl, rfl, trivial⟩⟩
      · refine JL.op_skip rfl rfl (congrArg Value.bool hg7) rfl ?_
        refine JL.op_skip rfl rfl (congrArg Value.bool hg7) rfl ?_
        refine JL.op_skip rfl rfl (congrArg Value.bool hg7) rfl ?_
        refine JL.op_do rfl rfl (congrArg Value.bool hg3) (JO.val (y_pick (congrArg Value.bool hg7)) rfl ?_)
        refine JL.op (JO.val (y_pick (congrArg Value.bool hg3)) rfl ?_)
        with_reducible refine JL.nil ?_
        exact JQ.inv ⟨false, fun h => ⟨hgr hg3, .inl (by simp at hg7; omega)⟩, rfl, hst, Nat.le_trans hsz hbl.size, ⟨rfl, rfl, rfl, trivial⟩⟩
  rintro E S F1 w1 ⟨gt, hgt, rfl, hst, hsw, hE⟩
  refine JQ.env hE (fun E => ?_)
  clear hE
  with_reducible refine JQ.seq ?_
  refine JC.cond rfl (fun hg => ?_) (fun hg => ?_)
  · with_reducible refine JC.seq ?_
    with_reducible refine JC.region ?_
    refine JL.op (JO.val (y_assign) rfl ?_)
    with_reducible refine JL.nil ?_
    with_reducible refine JQ.seq (JC.ret (JQ.seq_ret ?_))
    exact ret_one rfl ResV.tmp (fun w _ => rfl)
  obtain ⟨hm, hlen⟩ := hgt hg
  have hn12 : hs.length ≤ 12 := by have := hm.ne; simpa using this
  have hfit : Fit2 0 s := ⟨⟨hwf, hm.meek.mild.sized, hm.meek.ord⟩, hm.tame⟩
  have hevl : EvL F w hs := fun x hx => ⟨⟨(hew x hx).1, hm.rep _ (List.mem_map_of_mem hx)⟩, (hew x hx).2⟩
  have hlin : ∀ F' w', Step F w F' w' → CallsTo 18 #[.agg cs.toArray, .slice Ae hs.length ce] w' (fun v _ => v = .tuple #[.bool (if hs.length > 8 then false else searchD hs.length s (hs.map (·.1))), .int .i64 (if hs.length > 8 then 11 else 0)]) := fun F' w' hst => linear18_any F' _ s Ae ce hs w' (hRS.step hst) hfit (SlF.step he hst (by omega)) (hevl.step hst) (htab.step hst)
  clear hgt hg
  with_reducible refine JC.skip (JQ.seq (JC.seq ?_))
  rcases hlen with h5 | h8
  · have h8 : ¬ hs.length > 8 := by omega
    rw [if_neg h8, if_neg h8] at hlin
    with_reducible refine JC.region ?_
    refine JL.op (JO.val (y_ldA 0 rfl rfl rfl hl4) rfl ?_)
    refine JL.op (JO.val (y_move) rfl ?_)
    refine JL.op (JO.callv (fun wc hc => hlin _ wc (hst.trans hc.step hsw)) rfl rfl rfl ?_)
    refine JL.op (JO.val (y_move) rfl ?_)
    refine JL.op (JO.val (y_extract rfl rfl) rfl ?_)
    refine JL.op (JO.val (y_extract rfl rfl) rfl ?_)
    refine JL.op (JO.val (y_assign) rfl ?_)
    refine JL.op (JO.val (y_assign) rfl ?_)
    with_reducible refine JL.nil ?_
    with_reducible refine JQ.seq (JC.seq (JC.seq ?_))
    with_reducible refine JC.region ?_
    refine JL.op (JO.val (y_move) rfl ?_)
    refine JL.op (JO.val (y_len rfl rfl) rfl ?_)
    refine JL.op (JO.val (y_gtr rfl rfl) rfl ?_)
    with_reducible refine JL.nil ?_
    have hd : decide ((hs.length : Int) > 8) = false := by simp; omega
    with_reducible refine JQ.seq ?_
    refine JC.cond_false (congrArg Value.bool hd) ?_
    have hfin : (searchD hs.length s (hs.map (·.1)) == linD hs.length s ((hs.map (·.1)).zip (List.replicate hs.length false))) = true := by
      rw [linD_search, fresh_left]; simp
    have hcnt : cntZ ((hs.map (·.1)).zip (List.replicate hs.length false)) ≤ hs.length := by
      unfold cntZ; rw [fresh_left, List.length_map]; exact Nat.le_refl _
    with_reducible refine JC.skip (JQ.seq (JC.seq ?_))
    refine JC.held [0] ?_
    refine JH.take 0 rfl (by kernel_rfl) (by kernel_rfl) (by kernel_rfl) (fun _ _ _ => y_move) rfl (by repeat (first | exact np_fun | exact np_inv | refine np_seq ?_ | refine np_blk ?_ | refine np_loop ?_)) (⟨rfl, trivial⟩) ?_
    refine JH.take 1 rfl (by kernel_rfl) (by kernel_rfl) (by kernel_rfl) (fun _ _ _ => y_eql rfl rfl) rfl (by repeat (first | exact np_fun | exact np_inv | refine np_seq ?_ | refine np_blk ?_ | refine np_loop ?_)) (⟨rfl, trivial⟩) ?_
    refine JH.take 2 rfl (by kernel_rfl) (by kernel_rfl) (by kernel_rfl) (fun _ _ _ => y_move) rfl (by repeat (first | exact np_fun | exact np_inv | refine np_seq ?_ | refine np_blk ?_ | refine np_loop ?_)) (⟨rfl, trivial⟩) ?_
    refine JH.take_do 3 rfl rfl rfl rfl (by kernel_rfl) (by kernel_rfl) (by kernel_rfl) (fun _ _ _ => y_move) rfl (by repeat (first | exact np_fun | exact np_inv | refine np_seq ?_ | refine np_blk ?_ | refine np_loop ?_)) (⟨rfl, trivial⟩) ?_
    refine JH.take_do 4 rfl rfl rfl rfl (by kernel_rfl) (by kernel_rfl) (by kernel_rfl) (fun _ _ _ => y_ldA 0 rfl rfl rfl hl4) rfl (by repeat (first | exact np_fun | exact np_inv | refine np_seq ?_ | refine np_blk ?_ | refine np_loop ?_)) (⟨rfl, trivial⟩) ?_
    refine JH.take_do 5 rfl rfl rfl rfl (by kernel_rfl) (by kernel_rfl) (by kernel_rfl) (fun _ _ _ => y_move) rfl (by repeat (first | exact np_fun | exact np_inv | refine np_seq ?_ | refine np_blk ?_ | refine np_loop ?_)) (⟨rfl, trivial⟩) ?_
    refine JH.take_do 6 rfl rfl rfl rfl (by kernel_rfl) (by kernel_rfl) (by kernel_rfl) (fun _ _ _ => y_move) rfl (by repeat (first | exact np_fun | exact np_inv | refine np_seq ?_ | refine np_blk ?_ | refine np_loop ?_)) (⟨rfl, trivial⟩) ?_
    refine JH.take_do 7 rfl rfl rfl rfl (by kernel_rfl) (by kernel_rfl) (by kernel_rfl) (fun _ _ _ => y_len rfl rfl) rfl (by repeat (first | exact np_fun | exact np_inv | refine np_seq ?_ | refine np_blk ?_ | refine np_loop ?_)) (⟨rfl, trivial⟩) ?_
    refine JH.one 8 (by kernel_rfl) (JI.op_do rfl rfl rfl rfl ?_)
    refine (JO.makeB (n := hs.length) rfl (by omega) rfl ?_)
    intro b45
    refine ⟨⟨rfl, trivial⟩, ?_⟩
    refine JH.one 9 (by kernel_rfl) (JI.op_do rfl rfl rfl rfl ?_)
    refine (JO.callv (fun wc hc => reflin_any hs.length (fun _ => True) 0 cs s Ae ce hs (some ⟨b45, 0, none⟩) hs.length (List.replicate hs.length false) wc (hRS.step ((hst.trans hc.step hsw).mono (fun _ h => h) (fun _ _ => trivial))) hfit (by omega) (SlF.step he ((hst.trans hc.step hsw).mono (fun _ h => h) (fun _ _ => trivial)) (by omega)) (hevl.step ((hst.trans hc.step hsw).mono (fun _ h => h) (fun _ _ => trivial))) hn12 (by rw [flat_bools, List.map_replicate]; exact hc.slF 1 rfl (by simp) (by omega)) (List.length_replicate ..) hcnt (htab.step ((hst.trans hc.step hsw).mono (fun _ h => h) (fun _ _ => trivial)))) rfl rfl rfl ?_)
    refine ⟨⟨rfl, trivial⟩, ?_⟩
    refine JH.take_do 10 rfl rfl rfl rfl (by kernel_rfl) (by kernel_rfl) (by kernel_rfl) (fun _ _ _ => y_eqb rfl rfl rfl) rfl (by repeat (first | exact np_fun | exact np_inv | refine np_seq ?_ | refine np_blk ?_ | refine np_loop ?_)) (⟨rfl, trivial⟩) ?_
    refine JH.take 11 rfl (by kernel_rfl) (by kernel_rfl) (by kernel_rfl) (fun _ _ _ => y_pick rfl) rfl (by repeat (first | exact np_fun | exact np_inv | refine np_seq ?_ | refine np_blk ?_ | refine np_loop ?_)) (⟨rfl, trivial⟩) ?_
    refine JH.take 12 rfl (by kernel_rfl) (by kernel_rfl) (by kernel_rfl) (fun _ _ _ => y_assign) rfl (by repeat (first | exact np_fun | exact np_inv | refine np_seq ?_ | refine np_blk ?_ | refine np_loop ?_)) (⟨rfl, trivial⟩) ?_
    refine JH.done (by kernel_rfl) ?_
    with_reducible refine JQ.seq (JC.ret ?_)
    exact ret_one rfl ResV.tmp (fun w _ => congrArg Value.bool hfin)
  · rw [if_pos h8, if_pos h8] at hlin
    with_reducible refine JC.region ?_
    refine JL.op (JO.val (y_ldA 0 rfl rfl rfl hl4) rfl ?_)
    refine JL.op (JO.val (y_move) rfl ?_)
    refine JL.op (JO.callv (fun wc hc => hlin _ wc (hst.trans hc.step hsw)) rfl rfl rfl ?_)
    refine JL.op (JO.val (y_move) rfl ?_)
    refine JL.op (JO.val (y_extract rfl rfl) rfl ?_)
    refine JL.op (JO.val (y_extract rfl rfl) rfl ?_)
    refine JL.op (JO.val (y_assign) rfl ?_)
    refine JL.op (JO.val (y_assign) rfl ?_)
    with_reducible refine JL.nil ?_
    with_reducible refine JQ.seq (JC.seq (JC.seq ?_))
    with_reducible refine JC.region ?_
    refine JL.op (JO.val (y_move) rfl ?_)
    refine JL.op (JO.val (y_len rfl rfl) rfl ?_)
    refine JL.op (JO.val (y_gtr rfl rfl) rfl ?_)
    with_reducible refine JL.nil ?_
    have hd : decide ((hs.length : Int) > 8) = true := by simp; omega
    with_reducible refine JQ.seq ?_
    refine JC.cond_true (congrArg Value.bool hd) ?_
    with_reducible refine JC.seq ?_
    with_reducible refine JC.region ?_
    refine JL.op (JO.val (y_move) rfl ?_)
    refine JL.op (JO.val (y_not rfl) rfl ?_)
    refine JL.op (JO.val (y_move) rfl ?_)
    refine JL.op_do rfl rfl rfl (JO.val (y_move) rfl ?_)
    refine JL.op_do rfl rfl rfl (JO.val (y_eql rfl rfl) rfl ?_)
    refine JL.op (JO.val (y_pick rfl) rfl ?_)
    refine JL.op (JO.val (y_assign) rfl ?_)
    with_reducible refine JL.nil ?_
    with_reducible refine JQ.seq (JC.ret (JQ.seq_ret ?_))
    exact ret_one rfl ResV.tmp (fun w _ => congrArg Value.bool (by simp))
end Go.Proofs.YtchnnplcpidkiaaDoor
