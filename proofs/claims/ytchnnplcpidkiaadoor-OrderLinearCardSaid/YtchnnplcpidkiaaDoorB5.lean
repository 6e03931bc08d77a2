/- The rules of the walk, fifth part: append, structs that are built, calls, regions whose order is drawn; no condition. -/
import Derived.Test.YtchnnplcpidkiaaDoorB4
namespace Go.Proofs.YtchnnplcpidkiaaDoor
open Go.RowKit
set_option linter.unusedSimpArgs false
set_option linter.unusedVariables false
set_option maxRecDepth 20000

section
variable {X : Cx} {ops : Array Oper} {l : List Oper} {E : Env} {S : Sto} {F : Nat → Prop} {w1 : World} {Q : Exit → Env → World → Prop} {w : World} {K : Kon}

theorem prog_mixed : Tryd.prog.follows .mixedOrders = true := by kernel_rfl
/-! ### 1. Append -/
def mkA (b : Nat) : Addr := ⟨b, 0, none⟩
/-- A row of the call's own (or none): n elements of sz cells of room for cap. -/
structure Row (ob : Option Nat) (n cap sz : Nat) (cur : List Value) : Prop where
  len : cur.length = cap * sz
  le : n ≤ cap
  max : cap ≤ maxLen
  nil : ob = none → n = 0 ∧ cap = 0
theorem Row.none (sz : Nat) : Row none 0 0 sz [] := ⟨by simp, Nat.le_refl _, by simp [maxLen], fun _ => ⟨rfl, rfl⟩⟩
theorem run_appendS {i t e : Nat} {ty : TypeId} {ag : Bool} {sz bt : Nat} {z : List Value} {ob : Option Nat} {n cap m c : Nat} {cur news : List Value} {A : Option Addr}
    (hc : Cur X S F w1 w) (hs : sle t = some e) (hr : tyr e = some (ag, sz, bt, z)) (hsz : 0 < sz) (hS : nth S i = some (ob, e, cur)) (hrow : Row ob n cap sz cur)
    (hl : news.length = m * sz) (hA : A = none → m = 0) (hsrc : ∀ ad, A = some ad → ∀ j u, news[j]? = some u → w.cell? (ad.add j) = some u) (h1 : ∀ u ∈ news, u.oneCell' = true)
    (h63 : n + m ≤ maxLen) (hb : (n + m) * bt ≤ 140737488355328) :
    ∃ ob' cap' cur' w', (Builtin.append_ #[t, t] ty #[.slice (ob.map mkA) n cap, .slice A m c]).run Tryd.prog w = .ok (.slice (ob'.map mkA) (n + m) cap') w' ∧
      Row ob' (n + m) cap' sz cur' ∧ cur'.take ((n + m) * sz) = cur.take (n * sz) ++ news ∧ Cur X (sset S i (ob', e, cur')) F w1 w' ∧ (ob = none → m = 0 → ob' = none) ∧ (ob' = ob ∨ ∃ b, ob' = some b ∧ w.heap.size ≤ b) := by
  obtain ⟨zv, hz1, hz2, hz3⟩ := (tyr_ok hr).zero
  obtain ⟨ti, hi, hzi, hsi, hbi⟩ := info_parts hz3
  have ht := sle_ok hs
  have hzl := (tyr_ok hr).len
  have hzs : zv.cells.size = sz := by rw [hz2]; simpa using hzl
  have hsmall : ((n + m : Nat) : Int) ≤ 9223372036854775807 := by simp only [maxLen] at h63; omega
  have hl' : news.length = m * ti.size := by rw [hsi]; exact hl
  have hself : sset S i (ob, e, cur) = S := by
    rw [sset_eq]
    rw [nth_eq] at hS
    obtain ⟨hlt, he⟩ := List.getElem?_eq_some_iff.1 hS
    apply List.ext_getElem? 
    intro k
    rw [List.getElem?_set]
    split
    · rename_i hk; subst hk; exact hS.symm
    · rfl
  -- nothing to append, or no room
  have grow : ∀ (old : Nat), old < n + m → Row (some w.heap.size) (n + m) (grownCap w (n + m) old e) sz (cur.take (n * sz) ++ news ++ (Builtin.zeroCells zv.cells (grownCap w (n + m) old e - (n + m))).toList) ∧
      (cur.take (n * sz) ++ news ++ (Builtin.zeroCells zv.cells (grownCap w (n + m) old e - (n + m))).toList).take ((n + m) * sz) = cur.take (n * sz) ++ news ∧
      Cur X (sset S i (some w.heap.size, e, cur.take (n * sz) ++ news ++ (Builtin.zeroCells zv.cells (grownCap w (n + m) old e - (n + m))).toList)) F w1
        (w.drew.alloc (.cells (cur.take (n * sz) ++ news ++ (Builtin.zeroCells zv.cells (grownCap w (n + m) old e - (n + m))).toList).toArray e (0, 0))) := by
    intro old ho
    have hge := grownCap_ge w (n + m) old e
    have hcm : grownCap w (n + m) old e ≤ maxLen := grownCap_le_maxLen w (n + m) old e h63
    have htl : (cur.take (n * sz)).length = n * sz := by
      rw [List.length_take, hrow.len]
      have := Nat.mul_le_mul_right sz hrow.le
      omega
    refine ⟨⟨?_, hge, hcm, fun h => by cases h⟩, ?_, (hc.drew).renew i e _⟩
    · simp only [List.length_append, htl, hl, Array.length_toList, size_zeroCells, hzs, ← Nat.add_mul]
      congr 1
      omega
    · rw [List.take_append_of_le_length (by simp only [List.length_append, htl, hl, ← Nat.add_mul]; exact Nat.le_refl _)]
      rw [List.take_of_length_le (by simp only [List.length_append, htl, hl, ← Nat.add_mul]; exact Nat.le_refl _)]
  cases hob : ob with
  | none =>
    subst hob
    obtain ⟨rfl, rfl⟩ := hrow.nil rfl
    have hcur : cur = [] := List.eq_nil_of_length_eq_zero (by have := hrow.len; simpa using this)
    subst hcur
    by_cases hm : m = 0
    · subst hm
      have hn : news = [] := List.eq_nil_of_length_eq_zero (by simpa using hl)
      subst hn
      refine ⟨none, 0, [], w, ?_, Row.none sz, by simp, by rw [hself]; exact hc, fun _ _ => rfl, .inl rfl⟩
      cases A with
      | none => simp [Builtin.append_, run_underlying ht, sizeOf, typeInfo, hi, Builtin.lenOf, Builtin.firstCells, loadCells, loadCellsFrom]
      | some ad => simp [Builtin.append_, run_underlying ht, sizeOf, typeInfo, hi, Builtin.lenOf, Builtin.firstCells, loadCells, loadCellsFrom]
    · cases A with
      | none => exact absurd (hA rfl) hm
      | some ad =>
        have hrn := run_append_nil (P := Tryd.prog) w t ty e ti zv ht hi hzi ad m c news hl' (hsrc ad rfl) (by omega) (by simp only [maxLen] at h63; omega) (by rw [hbi]; simp only [Nat.zero_add] at hb; omega)
        obtain ⟨g1, g2, g3⟩ := grow 0 (by omega)
        refine ⟨some w.heap.size, _, _, _, ?_, g1, g2, g3, fun _ h => absurd h hm, .inr ⟨_, rfl, Nat.le_refl _⟩⟩
        simp only [Nat.zero_add, Nat.zero_mul, List.take_zero, List.nil_append, Option.map_none, Option.map_some] at hrn ⊢
        rw [hrn]
        congr 3
        apply Array.ext'
        simp
  | some b =>
    subst hob
    have hS' := hS
    rw [nth_eq] at hS'
    have hw := (hc.own _ (List.mem_of_getElem? hS') b rfl).2
    have hcs : cur.toArray.size = cap * ti.size := by rw [hsi]; simpa using hrow.len
    by_cases hroom : n + m ≤ cap
    · have hfit : n * ti.size + news.length ≤ cur.toArray.size := by rw [hl', hcs, ← Nat.add_mul]; exact Nat.mul_le_mul_right _ hroom
      have htl : (cur.take (n * sz)).length = n * sz := by
        rw [List.length_take, hrow.len]
        have := Nat.mul_le_mul_right sz hrow.le
        omega
      have hrow' : Row (some b) (n + m) cap sz (cur.take (n * sz) ++ news ++ cur.drop (n * sz + news.length)) := ⟨by
        rw [hsi] at hfit
        simp only [List.length_append, htl, List.length_drop, List.size_toArray, hrow.len] at hfit ⊢; omega, hroom, hrow.max, fun h => by cases h⟩
      have htk : (cur.take (n * sz) ++ news ++ cur.drop (n * sz + news.length)).take ((n + m) * sz) = cur.take (n * sz) ++ news := by
        rw [List.take_append_of_le_length (by simp only [List.length_append, htl, hl, ← Nat.add_mul]; exact Nat.le_refl _)]
        rw [List.take_of_length_le (by simp only [List.length_append, htl, hl, ← Nat.add_mul]; exact Nat.le_refl _)]
      cases A with
      | none =>
        have hm := hA rfl
        subst hm
        have hn : news = [] := List.eq_nil_of_length_eq_zero (by simpa using hl)
        subst hn
        refine ⟨some b, cap, cur, w, ?_, ⟨hrow.len, by simpa using hrow.le, hrow.max, fun h => by cases h⟩, by simp, by rw [hself]; exact hc, (fun h => by cases h), .inl rfl⟩
        simp [Builtin.append_, run_underlying ht, sizeOf, typeInfo, hi, Builtin.lenOf, Builtin.firstCells, hrow.le, storeCells, mkA]
      | some ad =>
        have hrr := run_append_room (P := Tryd.prog) w t ty e ti ht hi b n cap cur.toArray hw ad m c news hl' (hsrc ad rfl) h1 hroom hfit
        refine ⟨some b, cap, _, _, ?_, hrow', htk, hc.set hS _, (fun h => by cases h), .inl rfl⟩
        simp only [Option.map_some, mkA, hrr, hsi, List.toList_toArray]
    · cases A with
      | none =>
        have hm := hA rfl
        have := hrow.le
        omega
      | some ad =>
        have hle : (cur.take (n * sz)).length = n * ti.size := by
          rw [hsi, List.length_take, hrow.len]
          have := Nat.mul_le_mul_right sz hrow.le
          omega
        have holds : ∀ j v, (cur.take (n * sz))[j]? = some v → w.cell? ((⟨b, 0, none⟩ : Addr).add j) = some v := fun j v hj => by
          rw [add_lit, Nat.zero_add, hc.cell hS]
          rw [List.getElem?_take] at hj
          split at hj
          · exact hj
          · cases hj
        have hrg := run_append_grow (P := Tryd.prog) w t ty e ti zv ht hi hzi ⟨b, 0, none⟩ n cap (cur.take (n * sz)) hle holds ad m c news hl' (hsrc ad rfl) (by omega) hsmall
          (growslice_fits (by omega) (by rw [hbi]; exact hb))
        obtain ⟨g1, g2, g3⟩ := grow cap (by omega)
        refine ⟨some w.heap.size, _, _, _, ?_, g1, g2, g3, (fun h => by cases h), .inr ⟨_, rfl, Nat.le_refl _⟩⟩
        simp only [Option.map_some, mkA, hrg]
        congr 3
        apply Array.ext'
        simp
section
variable {d : Nat} {ty : TypeId} {pos : String} {af : Array Edge}
theorem JO.append (i : Nat) {s x : Operand} {t e : Nat} {ag : Bool} {sz bt : Nat} {z : List Value} {ob : Option Nat} {n cap m c : Nat} {cur : List Value} (news : List Value) {A : Option Addr}
    (hx : ev E s = .slice (ob.map mkA) n cap) (hy : ev E x = .slice A m c) (hs : sle t = some e) (hr : tyr e = some (ag, sz, bt, z)) (hsz : Nat.blt 0 sz = true) (hS : nth S i = some (ob, e, cur)) (hN : Nat.blt d X.N = true) (hrow : Row ob n cap sz cur)
    (hl : news.length = m * sz) (hA : A = none → m = 0) (hsrc : ∀ w, Cur X S F w1 w → ∀ ad, A = some ad → ∀ j u, news[j]? = some u → w.cell? (ad.add j) = some u) (h1 : ∀ u ∈ news, u.oneCell' = true)
    (h63 : n + m ≤ maxLen) (hb : (n + m) * bt ≤ 140737488355328)
    (h : ∀ ob' cap' cur', Row ob' (n + m) cap' sz cur' → cur'.take ((n + m) * sz) = cur.take (n * sz) ++ news → (ob = none → m = 0 → ob' = none) → K (upd E d (.slice (ob'.map mkA) (n + m) cap')) (sset S i (ob', e, cur')) F w1) :
    JO X ⟨some d, .call { callee := .builtin .append, args := #[s, x], argTypes := #[t, t] }, ty, pos, af, none⟩ E S F w1 K := fun w a Q' hc ha => by
  obtain ⟨ob', cap', cur', w', h2, h3, h4, h5, h6, h7⟩ := run_appendS (ty := ty) (c := c) hc hs hr (by simpa [Nat.blt_eq] using hsz) hS hrow hl hA (hsrc w hc) h1 h63 hb
  have hrun : (execOp (ev E) ⟨some d, .call { callee := .builtin .append, args := #[s, x], argTypes := #[t, t] }, ty, pos, af, none⟩).run Tryd.prog w = .ok (.value (.slice (ob'.map mkA) (n + m) cap')) w' := by
    simp [execOp, Sem.run_bind, resolve, invoke, builtin, hx, hy, h2]
  unfold Oper.wp
  rw [ha.eval, hrun]
  exact ⟨_, _, _, _, ha.put d _ hN, h5, h ob' cap' cur' h3 h4 h6⟩

/-! ### 2. Calls -/
theorem run_call {g : FuncId} {x : Operand} {xs : Array Operand} {ts : Array TypeId} {dst : Option Tmp} {caps args : List Value} (hx : ev E x = .func (.func g) #[] caps.toArray) (hargs : xs.toList.map (ev E) ++ caps = args)
    (hf : ∃ fn, Tryd.prog.funcs[g]? = some fn ∧ (fn.name == "runtime.NumGoroutine") = false ∧ fn.body.isNone = false) :
    (execOp (ev E) ⟨dst, .call { callee := .value x, args := xs, argTypes := ts }, ty, pos, af, none⟩).run Tryd.prog w = .ok (.enter g args.toArray) w := by
  obtain ⟨fn, h1, h2, h3⟩ := hf
  have he : (#[] ++ xs.map (ev E) ++ caps.toArray) = args.toArray := by
    subst hargs
    apply Array.ext'
    simp
  simp only [execOp, resolve, hx, Deferred.ofValue, Sem.run_bind, Sem.run_pure, Result.andThen_ok, invoke, he]
  have h2' : ¬ fn.name = "runtime.NumGoroutine" := by simpa using h2
  have h3' : ¬ fn.body = none := fun e => by rw [e] at h3; cases h3
  simp [callFunc, Sem.run_bind, h1, h2', h3']
/-- A call that leaves old memory alone. -/
theorem JO.call (R : World → Value → World → Prop) {g : FuncId} {x : Operand} {xs : Array Operand} {ts : Array TypeId} {caps : List Value} {args : List Value} (hcall : ∀ w, Cur X S F w1 w → CallsTo g args.toArray w (R w)) (hx : ev E x = .func (.func g) #[] caps.toArray) (hargs : xs.toList.map (ev E) ++ caps = args) (hN : Nat.blt d X.N = true)
    (h : ∀ w v w', Step F w1 (Al X S) w' → w1.heap.size ≤ w.heap.size → (∀ b, w.heap.size ≤ b → Al X S b) → Below w.heap.size w w' → Step F w1 (Al X S) w → R w v w' → K (upd E d v) S (Al X S) w') :
    JO X ⟨some d, .call { callee := .value x, args := xs, argTypes := ts }, ty, pos, af, none⟩ E S F w1 K := fun w a Q' hc ha => by
  have hrun := run_call (dst := some d) (ts := ts) (ty := ty) (pos := pos) (af := af) (w := w) hx hargs (hcall w hc).1
  unfold Oper.wp
  rw [ha.eval, hrun, Oper.upon_enter]
  refine (hcall w hc).2.mono fun e w' ⟨v, he, hb, hR⟩ => ?_
  subst he
  have hl := hc.later hb
  exact ⟨_, _, _, _, ha.put d v hN, hl.rebase, h w v w' hl.step hc.size (fun b hbb => ⟨.inr (Nat.le_trans hc.below.size hbb), fun hm => absurd (hc.lt hm) (by omega)⟩) hb hc.step hR⟩
/-- A call that writes to the blocks of the entries ks. -/
theorem JO.callM (ks : List Nat) (md : List Nat) (R : World → Value → World → Prop) {g : FuncId} {x : Operand} {xs : Array Operand} {ts : Array TypeId} {caps : List Value} {args : List Value} (hcall : ∀ w, Cur X S F w1 w → CallsM md g args.toArray w (R w)) (hx : ev E x = .func (.func g) #[] caps.toArray) (hargs : xs.toList.map (ev E) ++ caps = args) (hN : Nat.blt d X.N = true)
    (hmd : ∀ b ∈ md, ∃ e ∈ S, e.1 = some b) (hks : (blks S).Nodup → ∀ e ∈ blank ks S, ∀ b, e.1 = some b → b ∉ md)
    (h : ∀ w v w', Cur X S F w1 w → Cur X (blank ks S) (Al X S) w' w' → Step F w1 (Al X S) w' → w1.heap.size ≤ w.heap.size → (∀ b, w.heap.size ≤ b → Al X S b) → w.heap.size ≤ w'.heap.size → R w v w' →
      ∃ S' F', Cur X S' F' w' w' ∧ K (upd E d v) S' F' w') :
    JO X ⟨some d, .call { callee := .value x, args := xs, argTypes := ts }, ty, pos, af, none⟩ E S F w1 K := fun w a Q' hc ha => by
  have hrun := run_call (dst := some d) (ts := ts) (ty := ty) (pos := pos) (af := af) (w := w) hx hargs (hcall w hc).1
  unfold Oper.wp
  rw [ha.eval, hrun, Oper.upon_enter]
  refine (hcall w hc).2.mono fun e w' ⟨v, he, hb, hR⟩ => ?_
  subst he
  obtain ⟨S', F', h1, h2⟩ := h w v w' hc (hc.laterM ks hb hmd (hks hc.nodup)) (hc.stepM hb hmd) hc.size (fun b hbb => ⟨.inr (Nat.le_trans hc.below.size hbb), fun hm => absurd (hc.lt hm) (by omega)⟩) hb.size hR
  exact ⟨_, S', F', _, ha.put d v hN, h1, h2⟩
/-- A call whose result is known beforehand, and which only makes memory of its own. -/
theorem JO.callv {v : Value} {g : FuncId} {x : Operand} {xs : Array Operand} {ts : Array TypeId} {caps : List Value} {args : List Value} (hcall : ∀ w, Cur X S F w1 w → CallsTo g args.toArray w (fun v' _ => v' = v)) (hx : ev E x = .func (.func g) #[] caps.toArray) (hargs : xs.toList.map (ev E) ++ caps = args) (hN : Nat.blt d X.N = true)
    (h : K (upd E d v) S F w1) :
    JO X ⟨some d, .call { callee := .value x, args := xs, argTypes := ts }, ty, pos, af, none⟩ E S F w1 K := fun w a Q' hc ha => by
  have hrun := run_call (dst := some d) (ts := ts) (ty := ty) (pos := pos) (af := af) (w := w) hx hargs (hcall w hc).1
  unfold Oper.wp
  rw [ha.eval, hrun, Oper.upon_enter]
  refine (hcall w hc).2.mono fun e w' ⟨v', he, hb, hR⟩ => ?_
  subst he hR
  exact ⟨_, _, _, _, ha.put d _ hN, hc.later hb, h⟩
end

/-! ### 3. A struct that is built -/
def Fills (pl : List (Nat × Nat)) (E : Env) : List (Nat × Operand) → List Value → List Value → Prop
  | [], z, r => z = r
  | (i, x) :: ps, z, r => ∃ o n vs, nth pl i = some (o, n) ∧ (ev E x).cells = vs.toArray ∧ vs.length = n ∧ Nat.ble (o + n) z.length = true ∧ Fills pl E ps (splice z o vs) r
theorem fill_fills {pl : List (Nat × Nat)} : ∀ {ps : List (Nat × Operand)} {z r : List Value}, Fills pl E ps z r → Instr.fill (fun i => nth pl i) z.toArray (ps.map fun p => (p.1, ev E p.2)) = some r.toArray
  | [], z, r, h => by rw [show z = r from h]; rfl
  | (i, x) :: ps, z, r, ⟨o, n, vs, h1, h2, h3, h4, h5⟩ => by
    show Instr.fill _ _ ((i, ev E x) :: _) = _
    rw [fill_one (place := fun i => nth pl i) h1 h2 h3 (by simpa using h4)]
    exact fill_fills h5
def plc (T : Nat) : Option (List (Nat × Nat)) :=
  bif Nat.beq T 26 then some [(0, 1), (1, 1)] else
  bif Nat.beq T 28 then some [(0, 1), (1, 1), (2, 2)] else
  bif Nat.beq T 39 then some [(0, 1), (1, 1), (2, 1), (3, 1), (4, 36)] else
  bif Nat.beq T 41 then some [(0, 1), (1, 1), (2, 40)] else
  bif Nat.beq T 45 then some [(0, 1), (1, 1), (2, 1), (3, 1)] else
  bif Nat.beq T 53 then some [(0, 1), (1, 1)] else
  bif Nat.beq T 55 then some [(0, 1), (1, 33)] else
  bif Nat.beq T 90 then some [(0, 42), (42, 4), (46, 1), (47, 1)] else
  bif Nat.beq T 94 then some [(0, 1), (1, 1)] else
  bif Nat.beq T 119 then some [(0, 1)] else
  none
theorem plc_ok {T : Nat} {pl : List (Nat × Nat)} (h : plc T = some pl) : ∃ fs, Tryd.prog.underlying T = some (.struct fs) ∧ ∀ w, (fs.mapM (m := Sem) fun f => do pure (f.offset, ← Go.sizeOf f.type)).run Tryd.prog w = .ok pl.toArray w := by
  unfold plc at h
  rcases beq_split h with ⟨rfl, h⟩ | h
  · cases h; exact ⟨_, Tryd.underlying26, fun w => by simp [Sem.run_bind, Tryd.sizeOf3, Tryd.sizeOf24]⟩
  rcases beq_split h with ⟨rfl, h⟩ | h
  · cases h; exact ⟨_, Tryd.underlying28, fun w => by simp [Sem.run_bind, Tryd.sizeOf22, Tryd.sizeOf23, Tryd.sizeOf26]⟩
  rcases beq_split h with ⟨rfl, h⟩ | h
  · cases h; exact ⟨_, Tryd.underlying39, fun w => by simp [Sem.run_bind, Tryd.sizeOf3, Tryd.sizeOf9, Tryd.sizeOf37]⟩
  rcases beq_split h with ⟨rfl, h⟩ | h
  · cases h; exact ⟨_, Tryd.underlying41, fun w => by simp [Sem.run_bind, Tryd.sizeOf3, Tryd.sizeOf39]⟩
  rcases beq_split h with ⟨rfl, h⟩ | h
  · cases h; exact ⟨_, Tryd.underlying45, fun w => by simp [Sem.run_bind, Tryd.sizeOf3, Tryd.sizeOf42, Tryd.sizeOf43]⟩
  rcases beq_split h with ⟨rfl, h⟩ | h
  · cases h; exact ⟨_, Tryd.underlying53, fun w => by simp [Sem.run_bind, Tryd.sizeOf9]⟩
  rcases beq_split h with ⟨rfl, h⟩ | h
  · cases h; exact ⟨_, Tryd.underlying55, fun w => by simp [Sem.run_bind, Tryd.sizeOf3, Tryd.sizeOf35]⟩
  rcases beq_split h with ⟨rfl, h⟩ | h
  · cases h; exact ⟨_, Tryd.underlying90, fun w => by simp [Sem.run_bind, Tryd.sizeOf3, Tryd.sizeOf41, Tryd.sizeOf45]⟩
  rcases beq_split h with ⟨rfl, h⟩ | h
  · cases h; exact ⟨_, Tryd.underlying94, fun w => by simp [Sem.run_bind, Tryd.sizeOf3]⟩
  rcases beq_split h with ⟨rfl, h⟩ | h
  · cases h; exact ⟨_, Tryd.underlying119, fun w => by simp [Sem.run_bind, Tryd.sizeOf117]⟩
  cases h
theorem y_build {d : Option Tmp} {t : TypeId} {pos : String} {af : Array Edge} {g : Option (Nat × Bool)} {T : Nat} {ps : List (Nat × Operand)} {pl : List (Nat × Nat)} {ag : Bool} {sz bt : Nat} {z r : List Value} (hp : plc T = some pl) (hr : tyr T = some (ag, sz, bt, z)) (hf : Fills pl E ps z r) :
    Yields X ⟨d, .build T ps.toArray, t, pos, af, g⟩ E S F w1 (.agg r.toArray) := fun w _ => by
  obtain ⟨zv, h1, h2⟩ := zero_of hr
  obtain ⟨fs, h3, h4⟩ := plc_ok hp
  have h5 := fill_fills hf
  have h6 : (fun i => nth pl i) = (fun i => (pl.toArray)[i]?) := by funext i; simp [nth_eq]
  rw [h6] at h5
  have h7 : (ps.toArray.map fun (p : Nat × Operand) => (p.1, ev E p.2)).toList = ps.map fun p => (p.1, ev E p.2) := by simp
  simp only [execOp, Sem.run_bind, Instr.build, h1, h2, run_underlying h3, Result.andThen_ok, h4]
  rw [show (Array.map (fun x => (x.fst, ev E x.snd)) ps.toArray).toList = ps.map fun p => (p.1, ev E p.2) from h7, h5]
  rfl

/-! ### 4. Regions whose order is drawn -/
def JT (X : Cx) (ops : Array Oper) (l : List Oper) (E : Env) (S : Sto) (F : Nat → Prop) (w1 : World) (Q : Exit → Env → World → Prop) : Prop :=
  ∀ a, Agree X.N a E → wpQuiet Tryd.prog ops (Cur X S F w1) (fun a' => ∀ w', Cur X S F w1 w' → lft X.N Q .normal a' w') l a
theorem JC.quiet {id : Nat} {l : List Oper} (hB : Region.lexB .any l.toArray = true) (h : JT X l.toArray l E S F w1 Q) : JC X (.region id l.toArray true) E S F w1 Q := fun w a hc ha =>
  wp_region_quiet (C := Cur X S F w1) prog_mixed hB hc.drew (by simpa using h a ha)
theorem JT.nil (h : JQ X Q .normal E S F w1) : JT X ops [] E S F w1 Q := fun a ha => wpQuiet_nil fun w' hc => ⟨E, ha, h w' hc⟩
theorem JT.val {d : Nat} {op : Op} {t : TypeId} {pos : String} {af : Array Edge} {v : Value} (hy : Yields X ⟨some d, op, t, pos, af, none⟩ E S F w1 v) (hN : Nat.blt d X.N = true)
    (h : JT X ops l (upd E d v) S F w1 Q) : JT X ops (⟨some d, op, t, pos, af, none⟩ :: l) E S F w1 Q := fun a ha =>
  wpQuiet_step fun K hK => by
    rw [if_pos (by simp [Region.wanted])]
    refine ⟨v, fun w hc => ?_, hK _ (h _ (ha.put d v hN))⟩
    unfold Oper.quietAt
    rw [ha.eval, hy w hc]
    exact ⟨rfl, rfl⟩
theorem yielded_of {a : Act} {E : Env} {N j d : Nat} {b : Bool} {oj : Oper} (ha : Agree N a E) (hj : ops[j]? = some oj) (hd : oj.dst = some d) (hb : E d = .bool b) : yielded ops a.tmps j = some b := by
  have h2 := getD_bool ((ha.get d).trans hb)
  simp [yielded, hj, hd, h2]
theorem JT.val_do {d : Nat} {op : Op} {t : TypeId} {pos : String} {af : Array Edge} {j : Nat} {b : Bool} {oj : Oper} {dj : Nat} {v : Value}
    (hj : ops[j]? = some oj) (hd : oj.dst = some dj) (hb : E dj = .bool b) (hy : Yields X ⟨some d, op, t, pos, af, some (j, b)⟩ E S F w1 v) (hN : Nat.blt d X.N = true)
    (h : JT X ops l (upd E d v) S F w1 Q) : JT X ops (⟨some d, op, t, pos, af, some (j, b)⟩ :: l) E S F w1 Q := fun a ha =>
  wpQuiet_step fun K hK => by
    rw [if_pos (by simp [Region.wanted, yielded_of ha hj hd hb])]
    refine ⟨v, fun w hc => ?_, hK _ (h _ (ha.put d v hN))⟩
    unfold Oper.quietAt
    rw [ha.eval, hy w hc]
    exact ⟨rfl, rfl⟩
theorem JT.skip {d : Nat} {op : Op} {t : TypeId} {pos : String} {af : Array Edge} {j : Nat} {b : Bool} {oj : Oper} {dj : Nat}
    (hj : ops[j]? = some oj) (hd : oj.dst = some dj) (hb : E dj = .bool (!b)) (hN : Nat.blt d X.N = true)
    (h : JT X ops l (upd E d undef) S F w1 Q) : JT X ops (⟨some d, op, t, pos, af, some (j, b)⟩ :: l) E S F w1 Q := fun a ha =>
  wpQuiet_step fun K hK => by
    rw [if_neg (by simp [Region.wanted, yielded_of ha hj hd hb])]
    exact hK _ (h _ (ha.put d undef hN))
theorem JT.callv {d : Nat} {ty : TypeId} {pos : String} {af : Array Edge} {v : Value} {g : FuncId} {x : Operand} {xs : Array Operand} {ts : Array TypeId} {caps : List Value} {args : List Value} (hcall : ∀ w, Cur X S F w1 w → CallsTo g args.toArray w (fun v' _ => v' = v)) (hx : ev E x = .func (.func g) #[] caps.toArray) (hargs : xs.toList.map (ev E) ++ caps = args) (hN : Nat.blt d X.N = true)
    (hf : ∃ fn, Tryd.prog.funcs[g]? = some fn ∧ (fn.name == "runtime.NumGoroutine") = false ∧ fn.body.isNone = false)
    (h : JT X ops l (upd E d v) S F w1 Q) : JT X ops (⟨some d, .call { callee := .value x, args := xs, argTypes := ts }, ty, pos, af, none⟩ :: l) E S F w1 Q := fun a ha =>
  wpQuiet_step fun K hK => by
    rw [if_pos (by simp [Region.wanted])]
    refine ⟨v, fun w hc => ?_, hK _ (h _ (ha.put d v hN))⟩
    unfold Oper.quietAt
    rw [ha.eval, run_call hx hargs hf]
    refine ⟨rfl, (hcall w hc).2.mono fun e w' ⟨v', he, hb, hR⟩ => ?_⟩
    subst he hR
    exact ⟨rfl, hc.later hb⟩
/-- Whatever order is picked from here on. -/
def JA (X : Cx) (ops : Array Oper) (fuel : Nat) (listed : Array Bool) (E : Env) (S : Sto) (F : Nat → Prop) (w1 : World) (Q : Exit → Env → World → Prop) : Prop :=
  ∀ w a, Cur X S F w1 w → Agree X.N a E → wpAny Tryd.prog .any ops (lft X.N Q) fuel listed a w
def Each {α : Type} : List α → (α → Prop) → Prop
  | [], _ => True
  | i :: r, p => p i ∧ Each r p
theorem Each.mem {α : Type} {p : α → Prop} : ∀ {l : List α}, Each l p → ∀ i ∈ l, p i
  | _ :: _, h, i, hi => by
    rcases List.mem_cons.1 hi with rfl | h1
    · exact h.1
    · exact Each.mem h.2 i h1
def JI (X : Cx) (ops : Array Oper) (i : Nat) (E : Env) (S : Sto) (F : Nat → Prop) (w1 : World) (K : Kon) : Prop :=
  ∃ o, ops[i]? = some o ∧ ((o.guard = none ∧ JO X o E S F w1 K) ∨ (∃ j b oj d, o.guard = some (j, b) ∧ ops[j]? = some oj ∧ oj.dst = some d ∧ E d = .bool b ∧ JO X { o with guard := none } E S F w1 K) ∨
    (∃ j b oj d dst, o.guard = some (j, b) ∧ ops[j]? = some oj ∧ oj.dst = some d ∧ E d = .bool (!b) ∧ o.dst = some dst ∧ Nat.blt dst X.N = true ∧ K (upd E dst undef) S F w1))
theorem JC.any {id : Nat} {l : List Oper} (h : JA X l.toArray l.toArray.size (Array.replicate l.toArray.size false) E S F w1 Q) : JC X (.region id l.toArray true) E S F w1 Q := fun w a hc ha =>
  wp_region_any prog_mixed (h _ a hc.drew ha)
theorem JA.step {fuel : Nat} {listed : Array Bool} {rs : List Nat} (hr : Region.ready .any ops listed = rs) (hne : rs ≠ [])
    (h : Each rs fun i => JI X ops i E S F w1 (fun E' S' F' w1' => JA X ops fuel (listed.setIfInBounds i true) E' S' F' w1' Q)) : JA X ops (fuel + 1) listed E S F w1 Q := fun w a hc ha => by
  refine ⟨fun h0 => absurd (hr.symm.trans h0) hne, fun i hi => ?_⟩
  rw [hr] at hi
  obtain ⟨o, ho, hh⟩ := h.mem i hi
  unfold wpOp
  simp only [ho]
  rcases hh with ⟨hg, hj⟩ | ⟨j, b, oj, d, hg, hoj, hd, hb, hj⟩ | ⟨j, b, oj, d, dst, hg, hoj, hd, hb, hdst, hN, hk⟩
  · rw [if_pos (by simp [Region.wanted, hg])]
    exact .inl (hj.wp_mono hc ha fun E' S' F' w1' a' w' h1 h2 h3 => h3 w' a' h2 h1)
  · rw [if_pos (by simp [Region.wanted, hg, yielded_of ha hoj hd hb])]
    have : o.wp Tryd.prog a w = { o with guard := none }.wp Tryd.prog a w := rfl
    rw [this]
    exact .inl (hj.wp_mono hc ha fun E' S' F' w1' a' w' h1 h2 h3 => h3 w' a' h2 h1)
  · rw [if_neg (by simp [Region.wanted, hg, yielded_of ha hoj hd hb])]
    rw [hdst]
    exact hk w _ hc (ha.put dst undef hN)
theorem JA.done {fuel : Nat} {listed : Array Bool} (hr : Region.ready .any ops listed = []) (h : JQ X Q .normal E S F w1) : JA X ops fuel listed E S F w1 Q := fun w a hc ha => by
  cases fuel with
  | zero => exact ⟨hr, E, ha, h w hc⟩
  | succ fuel => exact ⟨fun _ => ⟨E, ha, h w hc⟩, fun i hi => by rw [hr] at hi; cases hi⟩
theorem JI.op {i : Nat} {dst : Option Tmp} {op : Op} {t : TypeId} {pos : String} {af : Array Edge} (hi : ops[i]? = some ⟨dst, op, t, pos, af, none⟩) (h : JO X ⟨dst, op, t, pos, af, none⟩ E S F w1 K) : JI X ops i E S F w1 K := ⟨_, hi, .inl ⟨rfl, h⟩⟩
end
end Go.Proofs.YtchnnplcpidkiaaDoor
