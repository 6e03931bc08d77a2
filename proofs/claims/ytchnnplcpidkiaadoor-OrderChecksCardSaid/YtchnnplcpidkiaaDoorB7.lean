/- The rules of the walk, seventh part: slices cut, copied, cleared; texts cut; append of zeros; slices.overlaps; no condition. -/
import Derived.Test.YtchnnplcpidkiaaDoorB6
import Derived.Lib.AppendZerosOnto
import Derived.Lib.Overlaps
namespace Go.Proofs.YtchnnplcpidkiaaDoor
open Go.RowKit
set_option linter.unusedSimpArgs false
set_option linter.unusedVariables false
set_option maxRecDepth 20000

section
variable {X : Cx} {ops : Array Oper} {l : List Oper} {E : Env} {S : Sto} {F : Nat → Prop} {w1 : World} {Q : Exit → Env → World → Prop} {w : World} {K : Kon}

/-! ### 1. Cutting -/
/-- A bound of a cut: its number. -/
def Bnd (E : Env) : Option Operand → Nat → Nat → Prop
  | none, dflt, v => v = dflt
  | some x, _, v => ∃ k, ev E x = .int k (v : Int)
theorem run_bound {k : IntKind} {v y : Nat} {code : BoundsCode} (h : v ≤ y) : (Instr.sliceBound (.int k (v : Int)) y code).run Tryd.prog w = .ok v w := by
  have h1 : (0 : Int) ≤ v ∧ (v : Int) ≤ y := by omega
  simp [Instr.sliceBound, Sem.run_bind, asIntOf, h]
theorem y_sl {d : Option Tmp} {t : TypeId} {pos : String} {af : Array Edge} {g : Option (Nat × Bool)} {T e : Nat} {x : Operand} {lo hi mx : Option Operand} {ag : Bool} {sz bt : Nat} {z : List Value} {A : Option Addr} {n c : Nat} {lv hv mv : Nat} {r : Value} (hs : sle T = some e) (hr : tyr e = some (ag, sz, bt, z))
    (hx : ev E x = .slice A n c) (hlo : Bnd E lo 0 lv) (hhi : Bnd E hi n hv) (hmx : Bnd E mx c mv) (hnn : (mx.isSome && hi.isNone) = false) (h1 : lv ≤ hv) (h2 : hv ≤ mv) (h3 : mv ≤ c)
    (hv' : Value.slice (if mv = lv then A else A.map (·.add (lv * sz))) (hv - lv) (mv - lv) = r) : Yields X ⟨d, .slice T x lo hi mx, t, pos, af, g⟩ E S F w1 r := fun w _ => by
  subst hv'
  have hz := (tyr_ok hr).sizeOf
  have hb : (Instr.sliceBounds true n c (lo.map (ev E)) (hi.map (ev E)) (mx.map (ev E))).run Tryd.prog w = .ok (lv, hv, mv) w := by
    cases lo <;> cases hi <;> cases mx <;> simp only [Bnd] at hlo hhi hmx <;> simp at hnn
    · subst hlo hhi hmx; simp [Instr.sliceBounds]
    · obtain ⟨k, hk⟩ := hhi; subst hlo hmx; simp [Instr.sliceBounds, Sem.run_bind, hk, run_bound h2]
    · obtain ⟨k, hk⟩ := hhi; obtain ⟨k2, hk2⟩ := hmx; subst hlo; simp [Instr.sliceBounds, Sem.run_bind, hk, hk2, run_bound h2, run_bound h3]
    · obtain ⟨k, hk⟩ := hlo; subst hhi hmx; simp [Instr.sliceBounds, Sem.run_bind, hk, run_bound h1]
    · obtain ⟨k, hk⟩ := hlo; obtain ⟨k2, hk2⟩ := hhi; subst hmx; simp [Instr.sliceBounds, Sem.run_bind, hk, hk2, run_bound h1, run_bound h2]
    · obtain ⟨k, hk⟩ := hlo; obtain ⟨k2, hk2⟩ := hhi; obtain ⟨k3, hk3⟩ := hmx; simp [Instr.sliceBounds, Sem.run_bind, hk, hk2, hk3, run_bound h1, run_bound h2, run_bound h3]
  simp only [execOp, Sem.run_bind, hx, Instr.sliceAt, run_underlying (sle_ok hs), Result.andThen_ok, Instr.slice, hb, hz, Sem.run_pure]
/-- The head of a text. -/
theorem y_head {d : Option Tmp} {t : TypeId} {pos : String} {af : Array Edge} {g : Option (Nat × Bool)} {T : Nat} {x y : Operand} {k : IntKind} {s : ByteArray} {n : Nat} (hT : T = 9) (hx : ev E x = .string s) (hy : ev E y = .int k (n : Int)) (hn : n ≤ s.size) :
    Yields X ⟨d, .slice T x none (some y) none, t, pos, af, g⟩ E S F w1 (.string (s.extract 0 n)) := fun w _ => by
  subst hT
  simp [execOp, Sem.run_bind, hx, hy, Instr.sliceAt, run_underlying Tryd.underlying9, Instr.slice, Instr.sliceBounds, run_bound hn]
theorem y_eqptr {d : Option Tmp} {t : TypeId} {pos : String} {af : Array Edge} {g : Option (Nat × Bool)} {T' : Nat} {x : Operand} {a : Addr} (hx : ev E x = .pointer (some a)) : Yields X ⟨d, .binOp .eql 116 x (.const (.pointer none)) T', t, pos, af, g⟩ E S F w1 (.bool false) := fun w _ => by
  have h := run_eql_pointer_nil (P := Tryd.prog) w 116 (some a) Tryd.underlying116
  simp only [execOp, Sem.run_bind, hx, show ev E (.const (.pointer none)) = .pointer none from rfl, run_guard_ptr, Result.andThen_ok]
  rw [h]
  rfl

/-! ### 2. Copies, clearing -/
section
variable {d : Nat} {ty : TypeId} {pos : String} {af : Array Edge}
/-- copy into a row of the call's own: q elements, whose cells are news. -/
theorem JO.copy (i : Nat) (q : Nat) (news : List Value) {s x : Operand} {t e : Nat} {ag : Bool} {sz bt : Nat} {z : List Value} {b o n cap m c : Nat} {cur : List Value} {A : Option Addr}
    (hx : ev E s = .slice (some ⟨b, o, none⟩) n cap) (hy : ev E x = .slice A m c) (hs : sle t = some e) (hr : tyr e = some (ag, sz, bt, z)) (hS : nth S i = some (some b, e, cur)) (hN : Nat.blt d X.N = true)
    (hq : q = Nat.min m n) (hl : news.length = q * sz) (hA : A = none → q = 0) (hsrc : ∀ w, Cur X S F w1 w → ∀ ad, A = some ad → ∀ j u, news[j]? = some u → w.cell? (ad.add j) = some u) (h1 : ∀ u ∈ news, u.oneCell' = true) (hfit : o + news.length ≤ cur.length)
    (h : K (upd E d (.int .i64 (q : Int))) (sset S i (some b, e, splice cur o news)) F w1) :
    JO X ⟨some d, .call { callee := .builtin .copy, args := #[s, x], argTypes := #[t, t] }, ty, pos, af, none⟩ E S F w1 K := fun w a Q' hc ha => by
  have hS' := hS
  rw [nth_eq] at hS'
  have hw := (hc.own _ (List.mem_of_getElem? hS') b rfl).2
  have hz := (tyr_ok hr).sizeOf
  have hst := run_storeCells_at Tryd.prog b o e news 0 cur.toArray w hw (by simpa using hfit) h1
  simp only [Nat.add_zero, List.toList_toArray] at hst
  have hrun : (execOp (ev E) ⟨some d, .call { callee := .builtin .copy, args := #[s, x], argTypes := #[t, t] }, ty, pos, af, none⟩).run Tryd.prog w = .ok (.value (.int .i64 (q : Int))) (w.setRow b (splice cur o news).toArray) := by
    have hf : (Builtin.firstCells sz (Nat.min m n) (.slice A m c)).run Tryd.prog w = .ok news.toArray w := by
      rw [← hq]
      cases A with
      | none =>
        have h0 := hA rfl
        have : news = [] := List.eq_nil_of_length_eq_zero (by rw [hl, h0]; simp)
        subst this
        exact run_firstCells_none w sz q m c
      | some ad => exact run_firstCells_some w sz q ad m c news hl (hsrc w hc ad rfl)
    subst hq
    simp [execOp, Sem.run_bind, resolve, invoke, builtin, hx, hy, Builtin.copy_, run_underlying (sle_ok hs), Builtin.lenOf, hz, hf, hst, goInt, splice]
  unfold Oper.wp
  rw [ha.eval, hrun]
  exact ⟨_, _, _, _, ha.put d _ hN, hc.set hS _, h⟩
theorem run_clear {t e : Nat} {ag : Bool} {sz bt : Nat} {z : List Value} {b o n cap : Nat} {cur : List Value} {ty : TypeId} (hs : sle t = some e) (hr : tyr e = some (ag, sz, bt, z)) (hw : w.heap[b]? = some (.cells cur.toArray e (0, 0))) (hz1 : allOne z = true) (hfit : o + n * sz ≤ cur.length) :
    ∃ cur' : List Value, cur'.length = cur.length ∧ cur'.take o = cur.take o ∧ (Builtin.clear_ #[t] ty #[.slice (some ⟨b, o, none⟩) n cap]).run Tryd.prog w = .ok (.tuple #[]) (w.setRow b cur'.toArray) := by
  obtain ⟨zv, h1, h2, _⟩ := (tyr_ok hr).zero
  have hzl := (tyr_ok hr).len
  cases n with
  | zero =>
    refine ⟨cur, rfl, rfl, ?_⟩
    rw [setRow_self w b cur.toArray e (0, 0) hw]
    simp [Builtin.clear_, run_underlying (sle_ok hs)]
  | succ n =>
    have hzc : ∀ u ∈ (Builtin.zeroCells zv.cells (n + 1)).toList, u.oneCell' = true := fun u hu => by
      have hsz : zv.cells.size = sz := by rw [h2]; simpa using hzl
      by_cases h0 : sz = 0
      · simp [Builtin.zeroCells, hsz, h0] at hu
      · simp only [Builtin.zeroCells, Array.toList_map, List.mem_map] at hu
        obtain ⟨j, _, rfl⟩ := hu
        have hlt : j % zv.cells.size < zv.cells.size := Nat.mod_lt _ (by omega)
        rw [getElem!_pos zv.cells _ hlt]
        refine allOne_mem hz1 _ ?_
        have h3 : zv.cells[j % zv.cells.size] ∈ zv.cells.toList := Array.getElem_mem_toList hlt
        rwa [show zv.cells.toList = z by rw [h2]] at h3
    have hlen : (Builtin.zeroCells zv.cells (n + 1)).toList.length = (n + 1) * sz := by
      rw [Array.length_toList, size_zeroCells, h2]; simp [hzl]
    have hst := run_storeCells_at Tryd.prog b o e (Builtin.zeroCells zv.cells (n + 1)).toList 0 cur.toArray w hw (by rw [hlen]; simpa using hfit) hzc
    simp only [Nat.add_zero, List.toList_toArray] at hst
    have hrun : (Builtin.clear_ #[t] ty #[.slice (some ⟨b, o, none⟩) (n + 1) cap]).run Tryd.prog w = .ok (.tuple #[]) (w.setRow b (cur.take o ++ (Builtin.zeroCells zv.cells (n + 1)).toList ++ cur.drop (o + (Builtin.zeroCells zv.cells (n + 1)).toList.length)).toArray) := by
      simp only [Builtin.clear_, Sem.run_bind]
      simp [run_underlying (sle_ok hs), h1]
      simp at hst
      simp [hst]
    refine ⟨cur.take o ++ (Builtin.zeroCells zv.cells (n + 1)).toList ++ cur.drop (o + (Builtin.zeroCells zv.cells (n + 1)).toList.length), ?_, ?_, hrun⟩
    · simp only [List.length_append, List.length_take, List.length_drop, hlen]; omega
    · rw [List.append_assoc, List.take_append_of_le_length (by simp; omega), List.take_take, Nat.min_self]
/-- clear of a part of a row of the call's own: what stands ahead of it stays. -/
theorem JO.clear (i : Nat) {s : Operand} {t e : Nat} {ag : Bool} {sz bt : Nat} {z : List Value} {b o n cap : Nat} {cur : List Value}
    (hx : ev E s = .slice (some ⟨b, o, none⟩) n cap) (hs : sle t = some e) (hr : tyr e = some (ag, sz, bt, z)) (hS : nth S i = some (some b, e, cur)) (hz1 : allOne z = true) (hfit : o + n * sz ≤ cur.length)
    (h : ∀ cur', cur'.length = cur.length → cur'.take o = cur.take o → K E (sset S i (some b, e, cur')) F w1) :
    JO X ⟨none, .call { callee := .builtin .clear, args := #[s], argTypes := #[t] }, ty, pos, af, none⟩ E S F w1 K := fun w a Q' hc ha => by
  have hS' := hS
  rw [nth_eq] at hS'
  have hw := (hc.own _ (List.mem_of_getElem? hS') b rfl).2
  obtain ⟨cur', h1, h2, h3⟩ := run_clear (ty := ty) (cap := cap) hs hr hw hz1 hfit
  have hrun : (execOp (ev E) ⟨none, .call { callee := .builtin .clear, args := #[s], argTypes := #[t] }, ty, pos, af, none⟩).run Tryd.prog w = .ok (.value (.tuple #[])) (w.setRow b cur'.toArray) := by
    simp [execOp, Sem.run_bind, resolve, invoke, builtin, hx, h3]
  unfold Oper.wp
  rw [ha.eval, hrun]
  exact ⟨_, _, _, _, ha.put_none _, hc.set hS _, h cur' h1 h2⟩

/-! ### 3. Append in place; append of zeros -/
theorem JO.appendIn (i : Nat) (news : List Value) {s x : Operand} {t e : Nat} {ag : Bool} {sz bt : Nat} {z : List Value} {b n cap m c : Nat} {cur : List Value} {A : Option Addr}
    (hx : ev E s = .slice (some ⟨b, 0, none⟩) n cap) (hy : ev E x = .slice A m c) (hs : sle t = some e) (hr : tyr e = some (ag, sz, bt, z)) (hS : nth S i = some (some b, e, cur)) (hN : Nat.blt d X.N = true) (hcur : cur.length = cap * sz) (hroom : n + m ≤ cap)
    (hl : news.length = m * sz) (hA : A = none → m = 0) (hsrc : ∀ w, Cur X S F w1 w → ∀ ad, A = some ad → ∀ j u, news[j]? = some u → w.cell? (ad.add j) = some u) (h1 : ∀ u ∈ news, u.oneCell' = true)
    (h : K (upd E d (.slice (some ⟨b, 0, none⟩) (n + m) cap)) (sset S i (some b, e, splice cur (n * sz) news)) F w1) :
    JO X ⟨some d, .call { callee := .builtin .append, args := #[s, x], argTypes := #[t, t] }, ty, pos, af, none⟩ E S F w1 K := fun w a Q' hc ha => by
  have hS' := hS
  rw [nth_eq] at hS'
  have hw := (hc.own _ (List.mem_of_getElem? hS') b rfl).2
  obtain ⟨zv, hz1, hz2, hz3⟩ := (tyr_ok hr).zero
  obtain ⟨ti, hi, hzi, hsi, hbi⟩ := info_parts hz3
  have ht := sle_ok hs
  have hfit : n * ti.size + news.length ≤ cur.toArray.size := by
    rw [hsi, hl]
    have := Nat.mul_le_mul_right sz hroom
    rw [Nat.add_mul] at this
    simp [hcur]; omega
  have hrun : (execOp (ev E) ⟨some d, .call { callee := .builtin .append, args := #[s, x], argTypes := #[t, t] }, ty, pos, af, none⟩).run Tryd.prog w = .ok (.value (.slice (some ⟨b, 0, none⟩) (n + m) cap)) (w.setRow b (splice cur (n * sz) news).toArray) := by
    cases A with
    | none =>
      have hm := hA rfl
      subst hm
      have hn : news = [] := List.eq_nil_of_length_eq_zero (by simpa using hl)
      subst hn
      have hsp : splice cur (n * sz) [] = cur := by simp [splice]
      rw [hsp, setRow_self w b cur.toArray e (0, 0) hw]
      have : n ≤ cap := by omega
      simp [execOp, Sem.run_bind, resolve, invoke, builtin, hx, hy, Builtin.append_, run_underlying ht, sizeOf, typeInfo, hi, Builtin.lenOf, Builtin.firstCells, this, storeCells]
    | some ad =>
      have hrr := run_append_room (P := Tryd.prog) w t ty e ti ht hi b n cap cur.toArray hw ad m c news (by rw [hsi]; exact hl) (hsrc w hc ad rfl) h1 hroom hfit
      simp [execOp, Sem.run_bind, resolve, invoke, builtin, hx, hy, hrr, hsi, splice]
  unfold Oper.wp
  rw [ha.eval, hrun]
  exact ⟨_, _, _, _, ha.put d _ hN, hc.set hS _, h⟩
/-- append(s, make([]T, m)...) where there is no room: a new row. -/
theorem JO.appendZ (i : Nat) {s x : Operand} {t e : Nat} {ag : Bool} {sz bt : Nat} {z : List Value} {b n cap m : Nat} {cur : List Value}
    (hx : ev E s = .slice (some ⟨b, 0, none⟩) n cap) (hy : ev E x = .int .i64 (m : Int)) (hs : sle t = some e) (hr : tyr e = some (ag, sz, bt, z)) (hsz : Nat.blt 0 sz = true) (hS : nth S i = some (some b, e, cur)) (hN : Nat.blt d X.N = true) (hcur : n * sz ≤ cur.length)
    (h0 : 0 < m) (hg : cap < n + m) (h63 : n + m ≤ maxLen) (hb : (n + m) * bt ≤ 140737488355328)
    (h : ∀ b' cap' cur', Row (some b') (n + m) cap' sz cur' → cur'.take (n * sz) = cur.take (n * sz) → K (upd E d (.slice (some ⟨b', 0, none⟩) (n + m) cap')) (S ++ [(some b', e, cur')]) F w1) :
    JO X ⟨some d, .call { callee := .builtin .append, args := #[s, x], argTypes := #[t, 3] }, ty, pos, af, none⟩ E S F w1 K := fun w a Q' hc ha => by
  obtain ⟨zv, hz1, hz2, hz3⟩ := (tyr_ok hr).zero
  obtain ⟨ti, hi, hzi, hsi, hbi⟩ := info_parts hz3
  have ht := sle_ok hs
  have hzl := (tyr_ok hr).len
  have hsz' : 0 < sz := by simpa [Nat.blt_eq] using hsz
  have hzs : zv.cells.size = sz := by rw [hz2]; simpa using hzl
  have hsmall : ((n + m : Nat) : Int) ≤ 9223372036854775807 := by simp only [maxLen] at h63; omega
  have htl : (cur.take (n * sz)).length = n * sz := by simp; omega
  have hold : (Builtin.firstCells ti.size n (.slice (some ⟨b, 0, none⟩) n cap)).run Tryd.prog w.drew = .ok (cur.take (n * sz)).toArray w.drew := by
    refine run_firstCells_some w.drew ti.size n ⟨b, 0, none⟩ n cap _ (by rw [hsi]; exact htl) fun j v hj => ?_
    rw [add_lit, Nat.zero_add]
    have := hc.cell hS j
    rw [List.getElem?_take] at hj
    split at hj
    · rw [← hj, ← this]; rfl
    · cases hj
  have hr2 := Lib.run_append_grow_zeros (P := Tryd.prog) w t 3 ty e ti zv .i64 .i64 ht Tryd.underlying3 hi hzi (some ⟨b, 0, none⟩) n cap (cur.take (n * sz)) hold m h0 (by omega) hg hsmall (by
    rw [hbi]
    have := Nat.mul_le_mul_right bt (show m ≤ n + m by omega)
    omega) (growslice_fits hg (by rw [hbi]; exact hb))
  have hge := grownCap_ge w (n + m) cap e
  have hcm : grownCap w (n + m) cap e ≤ maxLen := grownCap_le_maxLen w (n + m) cap e h63
  generalize hgc : grownCap w (n + m) cap e = gc at *
  have hcells : ((cur.take (n * sz)).toArray ++ Builtin.zeroCells zv.cells m ++ Builtin.zeroCells zv.cells (gc - (n + m))) = (cur.take (n * sz) ++ (Builtin.zeroCells zv.cells m).toList ++ (Builtin.zeroCells zv.cells (gc - (n + m))).toList).toArray := by
    apply Array.ext'; simp
  rw [hcells] at hr2
  have hrun : (execOp (ev E) ⟨some d, .call { callee := .builtin .append, args := #[s, x], argTypes := #[t, 3] }, ty, pos, af, none⟩).run Tryd.prog w = .ok (.value (.slice (some ⟨w.heap.size, 0, none⟩) (n + m) gc)) (w.drew.alloc (.cells (cur.take (n * sz) ++ (Builtin.zeroCells zv.cells m).toList ++ (Builtin.zeroCells zv.cells (gc - (n + m))).toList).toArray e (0, 0))) := by
    simp [execOp, Sem.run_bind, resolve, invoke, builtin, hx, hy, hr2]
  unfold Oper.wp
  rw [ha.eval, hrun]
  refine ⟨_, _, _, _, ha.put d _ hN, (hc.drew).alloc e _, h _ gc _ ⟨?_, hge, hcm, fun h => by cases h⟩ ?_⟩
  · simp only [List.length_append, htl, Array.length_toList, size_zeroCells, hzs, ← Nat.add_mul]
    congr 1; omega
  · rw [List.append_assoc, List.take_append_of_le_length (by rw [htl]; exact Nat.le_refl _), List.take_of_length_le (by rw [htl]; exact Nat.le_refl _)]

/-! ### 4. slices.overlaps at two rows -/
theorem JO.overlaps (i j : Nat) {f : FuncId} {fn : Func} {T e : Nat} {x y : Operand} {ts : Array TypeId} {b o n c b' o' n' c' : Nat} {cs cs' : List Value} {T1 T2 : Nat} {ag : Bool} {sz bt : Nat} {z : List Value}
    (hf : Tryd.prog.funcs[f]? = some fn) (hnm : (fn.name == "runtime.NumGoroutine") = false) (hb : fn.body.isNone = true) (hn : Extern.findNext fn = none) (he : Extern.find fn = some (Extern.SlicesOverlaps.overlaps #[T, T] #[4]))
    (hs : sle T = some e) (hr : tyr e = some (ag, sz, bt, z)) (hx : ev E x = .slice (some ⟨b, o, none⟩) n c) (hy : ev E y = .slice (some ⟨b', o', none⟩) n' c') (hS : nth S i = some (some b, T1, cs)) (hS' : nth S j = some (some b', T2, cs')) (hij : Nat.beq i j = false) (hne : cs'.length ≠ 0) (hN : Nat.blt d X.N = true)
    (h : K (upd E d (.bool false)) S F w1) :
    JO X ⟨some d, .call { callee := .value (.func f), args := #[x, y], argTypes := ts }, ty, pos, af, none⟩ E S F w1 K := fun w a Q' hc ha => by
  rw [nth_eq] at hS hS'
  have hw := (hc.own _ (List.mem_of_getElem? hS) b rfl).2
  have hw' := (hc.own _ (List.mem_of_getElem? hS') b' rfl).2
  have hbb : b ≠ b' := fun eb => by
    subst eb
    have := nodup_at (f := fun e : Ent => e.1) hc.nodup hS hS' rfl rfl
    subst this
    simp at hij
  have hov := Lib.run_overlaps_apart (P := Tryd.prog) w T 4 e (sle_ok hs) sz (tyr_ok hr).sizeOf ⟨b, o, none⟩ ⟨b', o', none⟩ n c n' c' hbb T1 T2 cs.length cs'.length
    (by simp [World.shape?, hw]) (by simp [World.shape?, hw']) hne (by simp [World.frozen?, hw]) (by simp [World.frozen?, hw])
  have hrun : (execOp (ev E) ⟨some d, .call { callee := .value (.func f), args := #[x, y], argTypes := ts }, ty, pos, af, none⟩).run Tryd.prog w = .ok (.value (.bool false)) w := by
    have h1 := run_callFunc_extern hf hnm hb hn he #[.slice (some ⟨b, o, none⟩) n c, .slice (some ⟨b', o', none⟩) n' c'] w
    rw [hov] at h1
    simp only [execOp, resolve, ev, Deferred.ofValue, Sem.run_bind, Sem.run_pure, Result.andThen_ok, invoke]
    simpa [hx, hy] using h1
  unfold Oper.wp
  rw [ha.eval, hrun]
  exact ⟨_, _, _, _, ha.put d _ hN, hc, h⟩
end
end
theorem ov89 : Extern.find Tryd.f89 = some (Extern.SlicesOverlaps.overlaps #[22, 22] #[4]) := by kernel_rfl
theorem ov53 : Extern.find Tryd.f53 = some (Extern.SlicesOverlaps.overlaps #[23, 23] #[4]) := by kernel_rfl
theorem ov94 : Extern.find Tryd.f94 = some (Extern.SlicesOverlaps.overlaps #[24, 24] #[4]) := by kernel_rfl
theorem on89 : Extern.findNext Tryd.f89 = none := by kernel_rfl
theorem on53 : Extern.findNext Tryd.f53 = none := by kernel_rfl
theorem on94 : Extern.findNext Tryd.f94 = none := by kernel_rfl
end Go.Proofs.YtchnnplcpidkiaaDoor
