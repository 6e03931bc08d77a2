/- How the data of the registry lie in memory; no condition. -/
import Derived.Test.YtchnnplcpidkiaaDoorB5
namespace Go.Proofs.YtchnnplcpidkiaaDoor
open Go.RowKit
set_option linter.unusedSimpArgs false
set_option linter.unusedVariables false
set_option maxRecDepth 20000

/-! ### 1. The data -/
structure LKey where
  root : List Value
  h : Int
structure LMember where
  id : Int
  key : LKey
structure LPair where
  k : ByteArray
  v : ByteArray
structure LReply where
  client : Int
  num : Int
  code : Int
  vals : List ByteArray
structure LState where
  ps : List LPair
  rs : List LReply
  ep : Int
  ms : List LMember
structure LChange where
  kind : Int
  id : Int
  new : Int
  key : LKey
structure LOp where
  kind : Int
  key : ByteArray
  val : ByteArray
  old : ByteArray
  chg : LChange
structure LReq where
  client : Int
  num : Int
  op : LOp
structure LEvent where
  req : LReq
  rep : LReply
  called : Int
  done : Int
def LKey.cells (k : LKey) : List Value := k.root ++ [.int .i64 k.h]
def LMember.cells (m : LMember) : List Value := .int .i64 m.id :: m.key.cells
def LPair.cells (p : LPair) : List Value := [.string p.k, .string p.v]
def LChange.cells (c : LChange) : List Value := .int .i64 c.kind :: .int .i64 c.id :: .int .i64 c.new :: c.key.cells
def LOp.cells (o : LOp) : List Value := .int .i64 o.kind :: .string o.key :: .string o.val :: .string o.old :: o.chg.cells
def LReq.cells (q : LReq) : List Value := .int .i64 q.client :: .int .i64 q.num :: q.op.cells
/-- A reply's cells, its texts' slice beginning at A, with room for cap. -/
def rcells (h : LReply × Option Addr × Nat) : List Value := [.int .i64 h.1.client, .int .i64 h.1.num, .int .i64 h.1.code, .slice h.2.1 h.1.vals.length h.2.2]
def ecells (h : LEvent × Option Addr × Nat) : List Value := h.1.req.cells ++ rcells (h.1.rep, h.2) ++ [.int .i64 h.1.called, .int .i64 h.1.done]

def I64 (x : Int) : Prop := -9223372036854775808 ≤ x ∧ x ≤ 9223372036854775807
def isU8 (v : Value) : Prop := ∃ n : Int, v = .int .u8 n ∧ 0 ≤ n ∧ n ≤ 255
structure LKey.wf (k : LKey) : Prop where
  len : k.root.length = 32
  u8 : ∀ v ∈ k.root, isU8 v
  h : I64 k.h
structure LMember.wf (m : LMember) : Prop where
  id : I64 m.id
  key : m.key.wf
structure LChange.wf (c : LChange) : Prop where
  kind : I64 c.kind
  id : I64 c.id
  new : I64 c.new
  key : c.key.wf
/-- The longest text. -/
def strMax : Nat := 140737488355328
structure LOp.wf (o : LOp) : Prop where
  kind : I64 o.kind
  key : o.key.size ≤ strMax
  val : o.val.size ≤ strMax
  old : o.old.size ≤ strMax
  chg : o.chg.wf
structure LReq.wf (q : LReq) : Prop where
  client : I64 q.client
  num : I64 q.num
  op : q.op.wf
structure LPair.wf (p : LPair) : Prop where
  k : p.k.size ≤ strMax
  v : p.v.size ≤ strMax
structure LReply.wf (r : LReply) : Prop where
  client : I64 r.client
  num : I64 r.num
  code : I64 r.code
  vals : ∀ v ∈ r.vals, v.size ≤ strMax
structure LEvent.wf (e : LEvent) : Prop where
  req : e.req.wf
  rep : e.rep.wf
  called : I64 e.called
  done : I64 e.done
structure LState.wf (s : LState) : Prop where
  ps : ∀ p ∈ s.ps, p.wf
  rs : ∀ r ∈ s.rs, r.wf
  ep : I64 s.ep
  ms : ∀ m ∈ s.ms, m.wf
theorem LKey.len_cells {k : LKey} (h : k.wf) : k.cells.length = 33 := by simp [LKey.cells, h.len]
theorem LMember.len_cells {m : LMember} (h : m.wf) : m.cells.length = 34 := by simp [LMember.cells, LKey.len_cells h.key]
theorem LChange.len_cells {c : LChange} (h : c.wf) : c.cells.length = 36 := by simp [LChange.cells, LKey.len_cells h.key]
theorem LOp.len_cells {o : LOp} (h : o.wf) : o.cells.length = 40 := by simp [LOp.cells, LChange.len_cells h.chg]
theorem LReq.len_cells {q : LReq} (h : q.wf) : q.cells.length = 42 := by simp [LReq.cells, LOp.len_cells h.op]
theorem ecells_len {h : LEvent × Option Addr × Nat} (hw : h.1.wf) : (ecells h).length = 48 := by simp [ecells, LReq.len_cells hw.req, rcells]
theorem isU8.one {v : Value} (h : isU8 v) : v.oneCell' = true := by obtain ⟨n, rfl, _⟩ := h; rfl
theorem LKey.one {k : LKey} (h : k.wf) : ∀ u ∈ k.cells, u.oneCell' = true := fun u hu => by
  rcases List.mem_append.1 hu with h1 | h1
  · exact (h.u8 u h1).one
  · rw [List.mem_singleton.1 h1]; rfl
theorem LMember.one {m : LMember} (h : m.wf) : ∀ u ∈ m.cells, u.oneCell' = true := fun u hu => by
  rcases List.mem_cons.1 hu with rfl | h1
  · rfl
  · exact LKey.one h.key u h1
theorem LChange.one {c : LChange} (h : c.wf) : ∀ u ∈ c.cells, u.oneCell' = true := fun u hu => by
  simp only [LChange.cells, List.mem_cons] at hu
  rcases hu with rfl | rfl | rfl | h1
  · rfl
  · rfl
  · rfl
  · exact LKey.one h.key u h1
theorem LOp.one {o : LOp} (h : o.wf) : ∀ u ∈ o.cells, u.oneCell' = true := fun u hu => by
  simp only [LOp.cells, List.mem_cons] at hu
  rcases hu with rfl | rfl | rfl | rfl | h1
  · rfl
  · rfl
  · rfl
  · rfl
  · exact LChange.one h.chg u h1
theorem LReq.one {q : LReq} (h : q.wf) : ∀ u ∈ q.cells, u.oneCell' = true := fun u hu => by
  simp only [LReq.cells, List.mem_cons] at hu
  rcases hu with rfl | rfl | h1
  · rfl
  · rfl
  · exact LOp.one h.op u h1
theorem LPair.one (p : LPair) : ∀ u ∈ p.cells, u.oneCell' = true := fun u hu => by
  simp only [LPair.cells, List.mem_cons, List.not_mem_nil, or_false] at hu
  rcases hu with rfl | rfl <;> rfl
theorem rcells_one (h : LReply × Option Addr × Nat) : ∀ u ∈ rcells h, u.oneCell' = true := fun u hu => by
  simp only [rcells, List.mem_cons, List.not_mem_nil, or_false] at hu
  rcases hu with rfl | rfl | rfl | rfl <;> rfl
theorem ecells_one {h : LEvent × Option Addr × Nat} (hw : h.1.wf) : ∀ u ∈ ecells h, u.oneCell' = true := fun u hu => by
  simp only [ecells, List.mem_append] at hu
  rcases hu with (h1 | h1) | h1
  · exact LReq.one hw.req u h1
  · exact rcells_one _ u h1
  · simp only [List.mem_cons, List.not_mem_nil, or_false] at h1
    rcases h1 with rfl | rfl <;> rfl
theorem nth_append_right {α : Type} {l m : List α} {i : Nat} {v : α} (h : nth m i = some v) : nth (l ++ m) (l.length + i) = some v := by
  rw [nth_eq] at h ⊢
  rw [List.getElem?_append_right (by omega)]
  simpa using h
theorem LKey.nth32 {k : LKey} (h : k.wf) : nth k.cells 32 = some (.int .i64 k.h) := by
  have := nth_append_right (l := k.root) (m := [.int .i64 k.h]) (i := 0) (v := .int .i64 k.h) rfl
  rw [h.len] at this
  exact this
theorem LMember.nth33 {m : LMember} (h : m.wf) : nth m.cells 33 = some (.int .i64 m.key.h) := LKey.nth32 h.key

/-! ### 2. Slices -/
structure SlF (F : Nat → Prop) (w : World) (A : Option Addr) (n cap sz : Nat) (cs : List Value) : Prop where
  le : n ≤ cap
  max : cap ≤ maxLen
  len : cs.length = n * sz
  nil : A = none → n = 0 ∧ cap = 0
  pos : 0 < n → ∃ b o, A = some ⟨b, o, none⟩ ∧ At F w b o cs
theorem SlF.step {F F' : Nat → Prop} {w w' : World} {A : Option Addr} {n cap sz : Nat} {cs : List Value} (h : SlF F w A n cap sz cs) (hs : Step F w F' w') (hz : 0 < sz) : SlF F' w' A n cap sz cs :=
  ⟨h.le, h.max, h.len, h.nil, fun hn => by
    obtain ⟨b, o, h1, h2⟩ := h.pos hn
    refine ⟨b, o, h1, h2.step hs fun e => ?_⟩
    have h3 := h.len
    rw [e] at h3
    have := Nat.mul_pos hn hz
    simp at h3
    omega⟩
theorem flatMap_length {α : Type} {f : α → List Value} {sz : Nat} : ∀ {xs : List α}, (∀ x ∈ xs, (f x).length = sz) → (xs.flatMap f).length = xs.length * sz
  | [], _ => by simp
  | x :: xs, h => by
    rw [List.flatMap_cons, List.length_append, h x (by simp), flatMap_length (fun y hy => h y (by simp [hy])), List.length_cons, Nat.add_mul]
    omega
theorem flatMap_at {α : Type} {f : α → List Value} {sz : Nat} : ∀ {xs : List α} {i j : Nat} {x : α} {v : Value}, (∀ x ∈ xs, (f x).length = sz) → xs[i]? = some x → (f x)[j]? = some v → (xs.flatMap f)[i * sz + j]? = some v
  | [], i, _, _, _, _, hi, _ => by simp at hi
  | y :: xs, 0, j, x, v, h, hi, hj => by
    simp only [List.getElem?_cons_zero, Option.some.injEq] at hi
    subst hi
    have hlt : j < (f y).length := (List.getElem?_eq_some_iff.1 hj).1
    rw [List.flatMap_cons, Nat.zero_mul, Nat.zero_add, List.getElem?_append_left hlt]
    exact hj
  | y :: xs, i + 1, j, x, v, h, hi, hj => by
    simp only [List.getElem?_cons_succ] at hi
    have hy := h y (by simp)
    rw [List.flatMap_cons, List.getElem?_append_right (by rw [hy, Nat.add_mul]; omega), hy, show (i + 1) * sz + j - sz = i * sz + j by rw [Nat.add_mul]; omega]
    exact flatMap_at (fun z hz => h z (by simp [hz])) hi hj
theorem At.elem {α : Type} {f : α → List Value} {sz : Nat} {F : Nat → Prop} {w : World} {b o i : Nat} {xs : List α} {x : α} (h : At F w b o (xs.flatMap f)) (hf : ∀ x ∈ xs, (f x).length = sz) (hi : xs[i]? = some x) : At F w b (o + i * sz) (f x) :=
  ⟨h.1, fun j u hj => by
    have := h.2 (i * sz + j) u (flatMap_at hf hi hj)
    rwa [← Nat.add_assoc] at this⟩
theorem At.cell1 {F : Nat → Prop} {w : World} {b o j : Nat} {vs : List Value} {v : Value} (h : At F w b o vs) (hj : nth vs j = some v) : At F w b (o + j) [v] :=
  ⟨h.1, fun i u hi => by
    cases i with
    | zero =>
      simp only [List.getElem?_cons_zero, Option.some.injEq] at hi
      subst hi
      rw [nth_eq] at hj
      exact h.2 j _ hj
    | succ i => simp at hi⟩
theorem At.part {F : Nat → Prop} {w : World} {b o j n : Nat} {vs : List Value} (h : At F w b o vs) : At F w b (o + j) ((vs.drop j).take n) :=
  ⟨h.1, fun i u hi => by
    rw [List.getElem?_take] at hi
    split at hi
    · rw [List.getElem?_drop] at hi
      have := h.2 (j + i) u hi
      rwa [← Nat.add_assoc] at this
    · cases hi⟩
/-- An element of a slice, in old memory. -/
theorem SlF.elem {α : Type} {f : α → List Value} {sz : Nat} {F : Nat → Prop} {w : World} {A : Option Addr} {n cap i : Nat} {xs : List α} {x : α} (h : SlF F w A n cap sz (xs.flatMap f)) (hf : ∀ x ∈ xs, (f x).length = sz) (hn : n = xs.length) (hi : xs[i]? = some x) :
    ∃ b o, A = some ⟨b, o, none⟩ ∧ At F w b (o + i * sz) (f x) := by
  have hlt : i < xs.length := (List.getElem?_eq_some_iff.1 hi).1
  obtain ⟨b, o, h1, h2⟩ := h.pos (by omega)
  exact ⟨b, o, h1, h2.elem hf hi⟩

/-! ### 3. What a value reads as -/
def sstr (s : ByteArray) : List Value := [.string s]
def RStrs (F : Nat → Prop) (w : World) (A : Option Addr) (cap : Nat) (ss : List ByteArray) : Prop := SlF F w A ss.length cap 1 (ss.flatMap sstr)
def RPairs (F : Nat → Prop) (w : World) (A : Option Addr) (cap : Nat) (ps : List LPair) : Prop := SlF F w A ps.length cap 2 (ps.flatMap LPair.cells)
def RMems (F : Nat → Prop) (w : World) (A : Option Addr) (cap : Nat) (ms : List LMember) : Prop := SlF F w A ms.length cap 34 (ms.flatMap LMember.cells)
def RReqs (F : Nat → Prop) (w : World) (A : Option Addr) (cap : Nat) (qs : List LReq) : Prop := SlF F w A qs.length cap 42 (qs.flatMap LReq.cells)
/-- Replies with the slices of their texts. -/
def RHs (F : Nat → Prop) (w : World) (hs : List (LReply × Option Addr × Nat)) : Prop := ∀ h ∈ hs, RStrs F w h.2.1 h.2.2 h.1.vals
def RReps (F : Nat → Prop) (w : World) (A : Option Addr) (cap : Nat) (rs : List LReply) : Prop := ∃ hs : List (LReply × Option Addr × Nat), hs.map (·.1) = rs ∧ SlF F w A rs.length cap 4 (hs.flatMap rcells) ∧ RHs F w hs
def REvs (F : Nat → Prop) (w : World) (A : Option Addr) (cap : Nat) (es : List LEvent) : Prop := ∃ hs : List (LEvent × Option Addr × Nat), hs.map (·.1) = es ∧ SlF F w A es.length cap 48 (hs.flatMap ecells) ∧ ∀ h ∈ hs, RStrs F w h.2.1 h.2.2 h.1.rep.vals
structure RState (F : Nat → Prop) (w : World) (cs : List Value) (s : LState) : Prop where
  form : ∃ Ap cp Ar cr Am cm, cs = [.slice Ap s.ps.length cp, .slice Ar s.rs.length cr, .int .i64 s.ep, .slice Am s.ms.length cm] ∧ RPairs F w Ap cp s.ps ∧ RReps F w Ar cr s.rs ∧ RMems F w Am cm s.ms
structure RReply (F : Nat → Prop) (w : World) (cs : List Value) (r : LReply) : Prop where
  form : ∃ A cap, cs = rcells (r, A, cap) ∧ RStrs F w A cap r.vals
section
variable {F F' : Nat → Prop} {w w' : World} {A : Option Addr} {cap : Nat}
theorem RStrs.step {ss : List ByteArray} (h : RStrs F w A cap ss) (hs : Step F w F' w') : RStrs F' w' A cap ss := SlF.step h hs (by omega)
theorem RPairs.step {ps : List LPair} (h : RPairs F w A cap ps) (hs : Step F w F' w') : RPairs F' w' A cap ps := SlF.step h hs (by omega)
theorem RMems.step {ms : List LMember} (h : RMems F w A cap ms) (hs : Step F w F' w') : RMems F' w' A cap ms := SlF.step h hs (by omega)
theorem RReqs.step {qs : List LReq} (h : RReqs F w A cap qs) (hs : Step F w F' w') : RReqs F' w' A cap qs := SlF.step h hs (by omega)
theorem RHs.step {hs : List (LReply × Option Addr × Nat)} (h : RHs F w hs) (hst : Step F w F' w') : RHs F' w' hs := fun x hx => (h x hx).step hst
theorem RReps.step {rs : List LReply} (h : RReps F w A cap rs) (hst : Step F w F' w') : RReps F' w' A cap rs :=
  let ⟨hs, h1, h2, h3⟩ := h
  ⟨hs, h1, h2.step hst (by omega), h3.step hst⟩
theorem REvs.step {es : List LEvent} (h : REvs F w A cap es) (hst : Step F w F' w') : REvs F' w' A cap es :=
  let ⟨hs, h1, h2, h3⟩ := h
  ⟨hs, h1, h2.step hst (by omega), fun x hx => (h3 x hx).step hst⟩
theorem RState.step {cs : List Value} {s : LState} (h : RState F w cs s) (hst : Step F w F' w') : RState F' w' cs s :=
  let ⟨⟨Ap, cp, Ar, cr, Am, cm, h1, h2, h3, h4⟩⟩ := h
  ⟨Ap, cp, Ar, cr, Am, cm, h1, h2.step hst, h3.step hst, h4.step hst⟩
theorem RReply.step {cs : List Value} {r : LReply} (h : RReply F w cs r) (hst : Step F w F' w') : RReply F' w' cs r :=
  let ⟨⟨A, cap, h1, h2⟩⟩ := h
  ⟨A, cap, h1, h2.step hst⟩
theorem Step.weak (h : ∀ k, F k → F' k) : Step F w F' w := fun k _ hF => ⟨rfl, h k hF⟩
theorem sstr_len {l : List ByteArray} : ∀ s ∈ l, (sstr s).length = 1 := fun _ _ => rfl
theorem pair_len {ps : List LPair} : ∀ p ∈ ps, (LPair.cells p).length = 2 := fun _ _ => rfl
theorem rcells_len {hs : List (LReply × Option Addr × Nat)} : ∀ h ∈ hs, (rcells h).length = 4 := fun _ _ => rfl
/-- A row of the call's own, as a slice that reads. -/
theorem Row.slF {ob : Option Nat} {n sz : Nat} {cur cs : List Value} {T : Nat} (hr : Row ob n cap sz cur) (htk : cur.take (n * sz) = cs) (hF : ∀ b, ob = some b → F b ∧ w.heap[b]? = some (.cells cur.toArray T (0, 0))) : SlF F w (ob.map mkA) n cap sz cs := by
  refine ⟨hr.le, hr.max, ?_, fun h => ?_, fun hn => ?_⟩
  · rw [← htk, List.length_take, hr.len]
    have := Nat.mul_le_mul_right sz hr.le
    omega
  · cases ob with
    | none => exact hr.nil rfl
    | some b => cases h
  · cases ob with
    | none => have := (hr.nil rfl).1; omega
    | some b =>
      obtain ⟨h1, h2⟩ := hF b rfl
      refine ⟨b, 0, rfl, h1, fun j u hj => ?_⟩
      rw [Nat.zero_add]
      rw [← htk, List.getElem?_take] at hj
      split at hj
      · simp [World.cell?, h2, hj]
      · cases hj
end

theorem LKey.all1 {k : LKey} (h : k.wf) : allOne k.cells = true := allOne_of (LKey.one h)
theorem LMember.all1 {m : LMember} (h : m.wf) : allOne m.cells = true := allOne_of (LMember.one h)
theorem LChange.all1 {c : LChange} (h : c.wf) : allOne c.cells = true := allOne_of (LChange.one h)
theorem LOp.all1 {o : LOp} (h : o.wf) : allOne o.cells = true := allOne_of (LOp.one h)
theorem LReq.all1 {q : LReq} (h : q.wf) : allOne q.cells = true := allOne_of (LReq.one h)
theorem ecells_all1 {h : LEvent × Option Addr × Nat} (hw : h.1.wf) : allOne (ecells h) = true := allOne_of (ecells_one hw)
end Go.Proofs.YtchnnplcpidkiaaDoor
