/- The rules of the walk: one lemma for each kind of operation, by unification; no condition. -/
import Derived.Test.YtchnnplcpidkiaaDoorProg
import Derived.WalkKit
import Derived.KernelRfl
import Derived.Orders
import Derived.Deep.Quiet
namespace Go.Proofs.YtchnnplcpidkiaaDoor
open Go.RowKit

/-! ### 1. Slots -/
abbrev Env := Nat → Value
def upd (E : Env) (d : Nat) (v : Value) : Env := fun i => bif Nat.beq i d then v else E i
def ev (E : Env) : Operand → Value
  | .tmp t => E t
  | .const v => v
  | .global g => .pointer (some ⟨g, 0, none⟩)
  | .func f => .func (.func f) #[] #[]
def nth {α : Type} : List α → Nat → Option α
  | [], _ => none
  | a :: _, 0 => some a
  | _ :: l, n + 1 => nth l n
theorem nth_eq {α : Type} (l : List α) (n : Nat) : nth l n = l[n]? := by
  induction l generalizing n with
  | nil => simp [nth]
  | cons a l ih => cases n <;> simp [nth, ih]
def sset {α : Type} : List α → Nat → α → List α
  | [], _, _ => []
  | _ :: l, 0, v => v :: l
  | a :: l, n + 1, v => a :: sset l n v
theorem sset_eq {α : Type} (l : List α) (n : Nat) (v : α) : sset l n v = l.set n v := by
  induction l generalizing n with
  | nil => simp [sset]
  | cons a l ih => cases n <;> simp [sset, ih]
def ofL (l : List Value) : Env := fun i => (nth l i).getD undef

structure Agree (N : Nat) (a : Act) (E : Env) : Prop where
  size : a.tmps.size = N
  defers : a.defers = []
  get : ∀ i, a.tmps.getD i undef = E i
theorem Agree.eval {N : Nat} {a : Act} {E : Env} (h : Agree N a E) : a.eval = ev E := by
  funext x
  cases x with
  | tmp t => exact h.get t
  | const v => rfl
  | global g => rfl
  | func f => rfl
theorem Agree.put {N : Nat} {a : Act} {E : Env} (h : Agree N a E) (d : Nat) (v : Value) (hd : Nat.blt d N = true) : Agree N (a.put (some d) v) (upd E d v) := by
  have hlt : d < a.tmps.size := by rw [h.size]; simpa [Nat.blt_eq] using hd
  refine ⟨by simp [Act.put, h.size], by simp [Act.put, h.defers], fun i => ?_⟩
  unfold upd
  by_cases e : i = d
  · subst e
    simp [Act.put, hlt]
  · have hb : Nat.beq i d = false := by
      cases hq : Nat.beq i d with
      | true => exact absurd (Nat.eq_of_beq_eq_true hq) e
      | false => rfl
    rw [hb]
    have := h.get i
    simp only [Act.put, cond_false]
    rw [← this]
    simp [Ne.symm e]
theorem Agree.put_none {N : Nat} {a : Act} {E : Env} (h : Agree N a E) (v : Value) : Agree N (a.put none v) E := h

/-! ### 2. The world -/
abbrev Ent := Option Nat × Nat × List Value
abbrev Sto := List Ent
def blks (S : Sto) : List Nat := S.filterMap (·.1)
/-- Of the blocks that were there all but those of md are as they were. -/
structure BelowM (md : List Nat) (w w' : World) : Prop where
  os : w'.os = w.os
  tape : w'.tape = w.tape
  output : w'.output = w.output
  size : w.heap.size ≤ w'.heap.size
  block : ∀ k, k < w.heap.size → k ∉ md → w'.heap[k]? = w.heap[k]?
theorem BelowM.refl (md : List Nat) (w : World) : BelowM md w w := ⟨rfl, rfl, rfl, Nat.le_refl _, fun _ _ _ => rfl⟩
theorem BelowM.alloc {md : List Nat} {w w' : World} (h : BelowM md w w') (o : Obj) : BelowM md w (w'.alloc o) :=
  ⟨h.os, h.tape, h.output, Nat.le_trans h.size (by simp), fun k hk hm => (Below.heap_alloc w' o k (Nat.lt_of_lt_of_le hk h.size)).trans (h.block k hk hm)⟩
theorem BelowM.setRow {md : List Nat} {w w' : World} (h : BelowM md w w') {b : Nat} (hb : w.heap.size ≤ b ∨ b ∈ md) (cs : Array Value) : BelowM md w (w'.setRow b cs) :=
  ⟨h.os, h.tape, h.output, by simpa using h.size, fun k hk hm => (setRow_other w' b k cs (fun e => by subst e; rcases hb with hb | hb; exact absurd hk (Nat.not_lt.2 hb); exact hm hb)).trans (h.block k hk hm)⟩
theorem BelowM.later {md : List Nat} {w w' w'' : World} (h : BelowM md w w') (hb : Below w'.heap.size w' w'') : BelowM md w w'' :=
  ⟨hb.os.trans h.os, hb.tape.trans h.tape, hb.output.trans h.output, Nat.le_trans h.size hb.size, fun k hk hm => (hb.block k (Nat.lt_of_lt_of_le hk h.size)).trans (h.block k hk hm)⟩
theorem BelowM.laterM {md md' : List Nat} {w w' w'' : World} (h : BelowM md w w') (hb : BelowM md' w' w'') (hm' : ∀ b ∈ md', w.heap.size ≤ b ∨ b ∈ md) : BelowM md w w'' :=
  ⟨hb.os.trans h.os, hb.tape.trans h.tape, hb.output.trans h.output, Nat.le_trans h.size hb.size, fun k hk hm => (hb.block k (Nat.lt_of_lt_of_le hk h.size) (fun hk' => by
    rcases hm' k hk' with h1 | h1
    · exact absurd hk (Nat.not_lt.2 h1)
    · exact hm h1)).trans (h.block k hk hm)⟩
theorem BelowM.nil {w w' : World} (h : BelowM [] w w') : Below w.heap.size w w' := ⟨h.os, h.tape, h.output, h.size, fun k hk => h.block k hk (by simp)⟩
structure Cx where
  N : Nat
  F0 : Nat → Prop
  w0 : World
  md : List Nat := []
def Al (X : Cx) (S : Sto) : Nat → Prop := fun k => (X.F0 k ∨ X.w0.heap.size ≤ k) ∧ k ∉ blks S
/-- What stood in w in blocks of F stands in w', in blocks of F'. -/
def Step (F : Nat → Prop) (w : World) (F' : Nat → Prop) (w' : World) : Prop := ∀ k, k < w.heap.size → F k → (w'.heap[k]? = w.heap[k]? ∧ F' k)
structure Cur (X : Cx) (S : Sto) (F : Nat → Prop) (w1 w : World) : Prop where
  below : BelowM X.md X.w0 w
  size : w1.heap.size ≤ w.heap.size
  own : ∀ e ∈ S, ∀ b, e.1 = some b → (X.w0.heap.size ≤ b ∨ b ∈ X.md) ∧ w.heap[b]? = some (.cells e.2.2.toArray e.2.1 (0, 0))
  nodup : (blks S).Nodup
  step : Step F w1 (Al X S) w
theorem Step.trans {F F' F'' : Nat → Prop} {w w' w'' : World} (h : Step F w F' w') (k : Step F' w' F'' w'') (hs : w.heap.size ≤ w'.heap.size) : Step F w F'' w'' := fun b hb hF =>
  let ⟨h1, h2⟩ := h b hb hF
  let ⟨k1, k2⟩ := k b (Nat.lt_of_lt_of_le hb hs) h2
  ⟨k1.trans h1, k2⟩
theorem Step.and {F F' : Nat → Prop} {w w' : World} (h : Step F w F' w') (p : Nat → Prop) : Step (fun k => F k ∧ p k) w (fun k => F' k ∧ p k) w' := fun b hb hF =>
  let ⟨h1, h2⟩ := h b hb hF.1
  ⟨h1, h2, hF.2⟩
theorem Step.mono {F F' G G' : Nat → Prop} {w w' : World} (h : Step F w F' w') (h1 : ∀ k, G k → F k) (h2 : ∀ k, F' k → G' k) : Step G w G' w' := fun b hb hG =>
  let ⟨h3, h4⟩ := h b hb (h1 b hG)
  ⟨h3, h2 b h4⟩
theorem Step.lt {F F' : Nat → Prop} {w w' : World} (h : Step F w F' w') : Step F w (fun k => F' k ∧ k < w.heap.size) w' := fun b hb hF =>
  let ⟨h3, h4⟩ := h b hb hF
  ⟨h3, h4, hb⟩
theorem Step.of_below {F : Nat → Prop} {w w' : World} (h : Below w.heap.size w w') : Step F w F w' := fun b hb hF => ⟨h.block b hb, hF⟩

theorem blks_mem {S : Sto} {b : Nat} : b ∈ blks S ↔ ∃ e ∈ S, e.1 = some b := by simp [blks]
theorem Cur.lt {X : Cx} {S : Sto} {F : Nat → Prop} {w1 w : World} (h : Cur X S F w1 w) {b : Nat} (hb : b ∈ blks S) : b < w.heap.size := by
  obtain ⟨e, he, h1⟩ := blks_mem.1 hb
  exact (Array.getElem?_eq_some_iff.1 (h.own e he b h1).2).1
theorem Cur.own0 {X : Cx} {S : Sto} {F : Nat → Prop} {w1 w : World} (h : Cur X S F w1 w) (hm : X.md = []) (e : Ent) (he : e ∈ S) (b : Nat) (hb : e.1 = some b) : X.w0.heap.size ≤ b ∧ w.heap[b]? = some (.cells e.2.2.toArray e.2.1 (0, 0)) := by
  obtain ⟨h1, h2⟩ := h.own e he b hb
  rw [hm] at h1
  exact ⟨h1.resolve_right (by simp), h2⟩

/-! ### 3. The judgements -/
def lft (N : Nat) (Q : Exit → Env → World → Prop) : Exit → Act → World → Prop := fun e a w => ∃ E, Agree N a E ∧ Q e E w
def JC (X : Cx) (c : Code) (E : Env) (S : Sto) (F : Nat → Prop) (w1 : World) (Q : Exit → Env → World → Prop) : Prop :=
  ∀ w a, Cur X S F w1 w → Agree X.N a E → c.wp Tryd.prog (lft X.N Q) a w
def JL (X : Cx) (ops : Array Oper) (l : List Oper) (E : Env) (S : Sto) (F : Nat → Prop) (w1 : World) (Q : Exit → Env → World → Prop) : Prop :=
  ∀ w a, Cur X S F w1 w → Agree X.N a E → wpList Tryd.prog ops (lft X.N Q) l a w
def JQ (X : Cx) (Q : Exit → Env → World → Prop) (e : Exit) (E : Env) (S : Sto) (F : Nat → Prop) (w1 : World) : Prop := ∀ w, Cur X S F w1 w → Q e E w
abbrev Kon := Env → Sto → (Nat → Prop) → World → Prop
/-- One operation: behind it K holds of what is known then. -/
def JO (X : Cx) (o : Oper) (E : Env) (S : Sto) (F : Nat → Prop) (w1 : World) (K : Kon) : Prop :=
  ∀ w a (Q : Exit → Act → World → Prop), Cur X S F w1 w → Agree X.N a E →
    o.wp Tryd.prog a w (fun a' w' => ∃ E' S' F' w1', Agree X.N a' E' ∧ Cur X S' F' w1' w' ∧ K E' S' F' w1') Q
/-- The operation's value, in every world of those that are known so. -/
def Yields (X : Cx) (o : Oper) (E : Env) (S : Sto) (F : Nat → Prop) (w1 : World) (v : Value) : Prop :=
  ∀ w, Cur X S F w1 w → (execOp (ev E) o).run Tryd.prog w = .ok (.value v) w

section
variable {X : Cx} {ops : Array Oper} {l : List Oper} {E : Env} {S : Sto} {F : Nat → Prop} {w1 : World} {Q : Exit → Env → World → Prop}

theorem getD_bool {t : Array Value} {d : Nat} {b : Bool} (h : t.getD d undef = .bool b) : t[d]? = some (.bool b) := by
  rw [Array.getD_eq_getD_getElem?] at h
  cases hq : t[d]? with
  | none => rw [hq] at h; cases h
  | some v => rw [hq] at h; exact congrArg some h
theorem JO.wp_mono {o : Oper} {K : Kon} (h : JO X o E S F w1 K) {w : World} {a : Act} {K' : Act → World → Prop} {Q' : Exit → Act → World → Prop} (hc : Cur X S F w1 w) (ha : Agree X.N a E)
    (hk : ∀ E' S' F' w1' a' w', Agree X.N a' E' → Cur X S' F' w1' w' → K E' S' F' w1' → K' a' w') : o.wp Tryd.prog a w K' Q' :=
  Oper.wp_mono (fun a' w' ⟨E', S', F', w1', h1, h2, h3⟩ => hk E' S' F' w1' a' w' h1 h2 h3) (h w a Q' hc ha)
theorem JL.nil (h : JQ X Q .normal E S F w1) : JL X ops [] E S F w1 Q := fun w _ hc ha => ⟨E, ha, h w hc⟩
theorem JL.op {dst : Option Tmp} {op : Op} {t : TypeId} {pos : String} {af : Array Edge}
    (h : JO X ⟨dst, op, t, pos, af, none⟩ E S F w1 (fun E' S' F' w1' => JL X ops l E' S' F' w1' Q)) : JL X ops (⟨dst, op, t, pos, af, none⟩ :: l) E S F w1 Q := fun _ _ hc ha =>
  wpList_plain rfl fun _ hK => h.wp_mono hc ha fun _ _ _ _ a' w' h1 h2 h3 => hK a' w' (h3 w' a' h2 h1)
/-- A guarded operation that is carried out. -/
theorem JL.op_do {dst : Option Tmp} {op : Op} {t : TypeId} {pos : String} {af : Array Edge} {j : Nat} {b : Bool} {oj : Oper} {d : Nat}
    (hj : ops[j]? = some oj) (hd : oj.dst = some d) (hb : E d = .bool b)
    (h : JO X ⟨dst, op, t, pos, af, none⟩ E S F w1 (fun E' S' F' w1' => JL X ops l E' S' F' w1' Q)) : JL X ops (⟨dst, op, t, pos, af, some (j, b)⟩ :: l) E S F w1 Q := fun w a hc ha => by
  have hy : yielded ops a.tmps j = some b := by
    have h2 := getD_bool ((ha.get d).trans hb)
    simp [yielded, hj, hd, h2]
  refine wpList_step fun K hK => ?_
  rw [if_pos (by simp [Region.wanted, hy])]
  exact h.wp_mono hc ha fun _ _ _ _ a' w' h1 h2 h3 => hK a' w' (h3 w' a' h2 h1)
theorem JL.op_skip {dst : Tmp} {op : Op} {t : TypeId} {pos : String} {af : Array Edge} {j : Nat} {b : Bool} {oj : Oper} {d : Nat}
    (hj : ops[j]? = some oj) (hd : oj.dst = some d) (hb : E d = .bool (!b)) (hN : Nat.blt dst X.N = true)
    (h : JL X ops l (upd E dst undef) S F w1 Q) : JL X ops (⟨some dst, op, t, pos, af, some (j, b)⟩ :: l) E S F w1 Q := fun w a hc ha => by
  have hy : yielded ops a.tmps j = some (!b) := by
    have h2 := getD_bool ((ha.get d).trans hb)
    simp [yielded, hj, hd, h2]
  refine wpList_step fun K hK => ?_
  rw [if_neg (by simp [Region.wanted, hy])]
  exact hK _ _ (h w _ hc (ha.put dst undef hN))
theorem JO.val {d : Nat} {op : Op} {t : TypeId} {pos : String} {af : Array Edge} {v : Value} {K : Kon} (hy : Yields X ⟨some d, op, t, pos, af, none⟩ E S F w1 v) (hN : Nat.blt d X.N = true)
    (h : K (upd E d v) S F w1) : JO X ⟨some d, op, t, pos, af, none⟩ E S F w1 K := fun w a Q' hc ha => by
  unfold Oper.wp
  rw [ha.eval, hy w hc]
  exact ⟨_, _, _, _, ha.put d v hN, hc, h⟩

/-! ### 4. Code -/
def kseq (X : Cx) (y : Code) (Q : Exit → Env → World → Prop) : Exit → Env → World → Prop := fun e E w =>
  match e with
  | .normal => ∀ a, Agree X.N a E → y.wp Tryd.prog (lft X.N Q) a w
  | e => Q e E w
def kblk (id : Nat) (Q : Exit → Env → World → Prop) : Exit → Env → World → Prop := fun e E w =>
  match e with
  | .exit id' => if id' = id then Q .normal E w else Q (.exit id') E w
  | e => Q e E w
theorem JC.seq {x y : Code} (h : JC X x E S F w1 (kseq X y Q)) : JC X (.seq x y) E S F w1 Q := fun w a hc ha =>
  wp_seq (Code.wp_mono (fun e a' w' ⟨E', h1, h2⟩ => by
    cases e with
    | normal => exact h2 a' h1
    | _ => exact ⟨E', h1, h2⟩) (h w a hc ha))
theorem JQ.seq {y : Code} (h : JC X y E S F w1 Q) : JQ X (kseq X y Q) .normal E S F w1 := fun w hc a ha => h w a hc ha
theorem JQ.seq_ret {y : Code} (h : JQ X Q .ret E S F w1) : JQ X (kseq X y Q) .ret E S F w1 := h
theorem JQ.seq_exit {y : Code} {id : Nat} (h : JQ X Q (.exit id) E S F w1) : JQ X (kseq X y Q) (.exit id) E S F w1 := h
theorem JC.skip (h : JQ X Q .normal E S F w1) : JC X .skip E S F w1 Q := fun w _ hc ha => wp_skip ⟨E, ha, h w hc⟩
theorem JC.ret (h : JQ X Q .ret E S F w1) : JC X .ret E S F w1 Q := fun w _ hc ha => wp_ret ⟨E, ha, h w hc⟩
theorem JC.exit {id : Nat} (h : JQ X Q (.exit id) E S F w1) : JC X (.exit id) E S F w1 Q := fun w _ hc ha => wp_exit ⟨E, ha, h w hc⟩
theorem JC.cond_true {c : Operand} {x y : Code} (he : ev E c = .bool true) (h : JC X x E S F w1 Q) : JC X (.cond c x y) E S F w1 Q := fun w a hc ha =>
  wp_cond_true (by rw [ha.eval]; exact he) (h w a hc ha)
theorem JC.cond_false {c : Operand} {x y : Code} (he : ev E c = .bool false) (h : JC X y E S F w1 Q) : JC X (.cond c x y) E S F w1 Q := fun w a hc ha =>
  wp_cond_false (by rw [ha.eval]; exact he) (h w a hc ha)
theorem JC.cond {c : Operand} {x y : Code} {b : Bool} (he : ev E c = .bool b) (ht : b = true → JC X x E S F w1 Q) (hf : b = false → JC X y E S F w1 Q) : JC X (.cond c x y) E S F w1 Q := by
  cases b
  · exact JC.cond_false he (hf rfl)
  · exact JC.cond_true he (ht rfl)
theorem JC.block {id : Nat} {c : Code} (h : JC X c E S F w1 (kblk id Q)) : JC X (.block id c) E S F w1 Q := fun w a hc ha =>
  wp_block (Code.wp_mono (fun e a' w' ⟨E', h1, h2⟩ => by
    cases e with
    | exit id' =>
      simp only [Exit.inBlock]
      simp only [kblk] at h2
      split
      · rename_i hid; rw [if_pos hid] at h2; exact ⟨E', h1, h2⟩
      · rename_i hid; rw [if_neg hid] at h2; exact ⟨E', h1, h2⟩
    | _ => exact ⟨E', h1, h2⟩) (h w a hc ha))
theorem JQ.blk {id : Nat} (h : JQ X Q .normal E S F w1) : JQ X (kblk id Q) .normal E S F w1 := h
theorem JQ.blk_ret {id : Nat} (h : JQ X Q .ret E S F w1) : JQ X (kblk id Q) .ret E S F w1 := h
theorem JQ.blk_here {id : Nat} (h : JQ X Q .normal E S F w1) : JQ X (kblk id Q) (.exit id) E S F w1 := fun w hc => by
  simp only [kblk, if_true]; exact h w hc
theorem JQ.blk_on {id id' : Nat} (hne : Nat.beq id' id = false) (h : JQ X Q (.exit id') E S F w1) : JQ X (kblk id Q) (.exit id') E S F w1 := fun w hc => by
  have : id' ≠ id := fun e => by subst e; simp at hne
  simp only [kblk, if_neg this]; exact h w hc
theorem JC.region {id : Nat} {l : List Oper} (h : JL X l.toArray l E S F w1 Q) : JC X (.region id l.toArray false) E S F w1 Q := fun w a hc ha => wp_region_lit (h w a hc ha)
/-- What is known may be said with fewer words. -/
theorem JC.weaken {c : Code} {S' : Sto} {F' : Nat → Prop} {w1' : World} (hw : ∀ w, Cur X S F w1 w → Cur X S' F' w1' w) (h : JC X c E S' F' w1' Q) : JC X c E S F w1 Q := fun w a hc ha => h w a (hw w hc) ha
theorem JQ.weaken {e : Exit} {S' : Sto} {F' : Nat → Prop} {w1' : World} (hw : ∀ w, Cur X S F w1 w → Cur X S' F' w1' w) (h : JQ X Q e E S' F' w1') : JQ X Q e E S F w1 := fun w hc => h w (hw w hc)

/-! ### 5. Loops -/
def Has (E : Env) : List (Nat × Value) → Prop
  | [] => True
  | (d, v) :: r => E d = v ∧ Has E r
def upds (E : Env) : List (Nat × Value) → Env
  | [] => E
  | (d, v) :: r => upd (upds E r) d v
theorem upd_self {E : Env} {d : Nat} {v : Value} (h : E d = v) : upd E d v = E := by
  funext i
  unfold upd
  cases hq : Nat.beq i d with
  | false => rfl
  | true => rw [Nat.eq_of_beq_eq_true hq]; exact h.symm
theorem upds_self {E : Env} : ∀ {l : List (Nat × Value)}, Has E l → upds E l = E
  | [], _ => rfl
  | (d, v) :: r, h => by
    show upd (upds E r) d v = E
    rw [upds_self h.2]
    exact upd_self h.1
theorem JC.env {c : Code} {l : List (Nat × Value)} (hh : Has E l) (h : ∀ E', JC X c (upds E' l) S F w1 Q) : JC X c E S F w1 Q := by
  have := h E
  rwa [upds_self hh] at this
theorem JQ.env {e : Exit} {l : List (Nat × Value)} (hh : Has E l) (h : ∀ E', JQ X Q e (upds E' l) S F w1) : JQ X Q e E S F w1 := by
  have := h E
  rwa [upds_self hh] at this
/-- A round's end: the relation holds with a smaller number. -/
def kloop (X : Cx) (I : Nat → Env → Sto → (Nat → Prop) → World → Prop) (m : Nat) (Q : Exit → Env → World → Prop) : Exit → Env → World → Prop := fun e E w =>
  match e with
  | .normal => ∃ m' S F w1, m' < m ∧ I m' E S F w1 ∧ Cur X S F w1 w
  | e => Q e E w
theorem least_of {p : Nat → Prop} (h : ∃ n, p n) : ∃ n, p n ∧ ∀ k, p k → n ≤ k := by
  obtain ⟨n, hn⟩ := h
  induction n using Nat.strongRecOn with
  | _ n ih =>
    by_cases hk : ∃ k, k < n ∧ p k
    · obtain ⟨k, h1, h2⟩ := hk; exact ih k h1 h2
    · exact ⟨n, hn, fun k h1 => Nat.le_of_not_lt fun h2 => hk ⟨k, h2, h1⟩⟩
open Classical in
noncomputable def leastM (p : Nat → Prop) : Nat := if h : ∃ n, p n then Classical.choose (least_of h) else 0
theorem leastM_spec {p : Nat → Prop} (h : ∃ n, p n) : p (leastM p) ∧ ∀ k, p k → leastM p ≤ k := by
  unfold leastM
  rw [dif_pos h]
  exact Classical.choose_spec (least_of h)
theorem JC.loop {c : Code} (I : Nat → Env → Sto → (Nat → Prop) → World → Prop) (m0 : Nat) (h0 : I m0 E S F w1)
    (round : ∀ m E S F w1, I m E S F w1 → JC X c E S F w1 (kloop X I m Q)) : JC X (.loop c) E S F w1 Q := fun w a hc ha =>
  wp_loop (fun a w => ∃ m E S F w1, I m E S F w1 ∧ Cur X S F w1 w ∧ Agree X.N a E) (fun a w => leastM fun m => ∃ E S F w1, I m E S F w1 ∧ Cur X S F w1 w ∧ Agree X.N a E) ⟨m0, E, S, F, w1, h0, hc, ha⟩
    fun a w hI => by
      obtain ⟨⟨E, S, F, w1, hI, hc, ha⟩, _⟩ := leastM_spec hI
      refine Code.wp_mono (fun e a' w' ⟨E', h1, h2⟩ => ?_) (round _ E S F w1 hI w a hc ha)
      cases e with
      | normal =>
        obtain ⟨m', S', F', w1', h3, h4, h5⟩ := h2
        have hx : ∃ m E S F w1, I m E S F w1 ∧ Cur X S F w1 w' ∧ Agree X.N a' E := ⟨m', E', S', F', w1', h4, h5, h1⟩
        exact ⟨hx, Nat.lt_of_le_of_lt ((leastM_spec hx).2 m' ⟨E', S', F', w1', h4, h5, h1⟩) h3⟩
      | _ => exact ⟨E', h1, h2⟩
theorem JQ.loop {I : Nat → Env → Sto → (Nat → Prop) → World → Prop} {m : Nat} (m' : Nat) (hI : I m' E S F w1) (hm : m' < m) : JQ X (kloop X I m Q) .normal E S F w1 := fun _ hc => ⟨m', S, F, w1, hm, hI, hc⟩
theorem JQ.loop_exit {I : Nat → Env → Sto → (Nat → Prop) → World → Prop} {m id : Nat} (h : JQ X Q (.exit id) E S F w1) : JQ X (kloop X I m Q) (.exit id) E S F w1 := h
theorem JQ.loop_ret {I : Nat → Env → Sto → (Nat → Prop) → World → Prop} {m : Nat} (h : JQ X Q .ret E S F w1) : JQ X (kloop X I m Q) .ret E S F w1 := h

/-! ### 6. A function -/
def rv (E : Env) : ResultVar → Sem Value
  | .tmp t => pure (E t)
  | .cell a t => do loadVar t (← asAddr (E a))
def resE (rs : Array ResultVar) (E : Env) : Sem Value := do
  let vs ← rs.mapM (rv E)
  pure (if h : vs.size = 1 then vs[0] else .tuple vs)
def kfun (fn : Func) (md : List Nat) (w0 : World) (R : Value → World → Prop) : Exit → Env → World → Prop := fun e E w =>
  match e with
  | .normal | .ret => ∃ v, (resE fn.results E).run Tryd.prog w = .ok v w ∧ BelowM md w0 w ∧ R v w
  | _ => False
/-- The call returns; of what was there nothing has turned. -/
def CallsTo (f : FuncId) (args : Array Value) (w : World) (R : Value → World → Prop) : Prop :=
  (∃ fn, Tryd.prog.funcs[f]? = some fn ∧ (fn.name == "runtime.NumGoroutine") = false ∧ fn.body.isNone = false) ∧ Calls Tryd.prog f args w (fun e w' => ∃ v, e = .returned v ∧ Below w.heap.size w w' ∧ R v w')
theorem ofL_getD (l : List Value) (n i : Nat) : (l.toArray ++ Array.replicate n undef).getD i undef = ofL l i := by
  simp only [ofL, nth_eq]
  by_cases h : i < l.length
  · simp [Array.getElem?_append, h]
  · have h2 : l[i]? = none := by simp; omega
    simp only [h2, Option.getD_none, Array.getD_eq_getD_getElem?]
    rw [Array.getElem?_append]
    split
    · rename_i h3; simp at h3; omega
    · rw [Array.getElem?_replicate]
      split <;> rfl
/-- The call returns; all but the blocks of md is as it was. -/
def CallsM (md : List Nat) (f : FuncId) (args : Array Value) (w : World) (R : Value → World → Prop) : Prop :=
  (∃ fn, Tryd.prog.funcs[f]? = some fn ∧ (fn.name == "runtime.NumGoroutine") = false ∧ fn.body.isNone = false) ∧ Calls Tryd.prog f args w (fun e w' => ∃ v, e = .returned v ∧ BelowM md w w' ∧ R v w')
theorem CallsM.enter {f : FuncId} {fn : Func} {c : Code} {l : List Value} {w : World} {R : Value → World → Prop} (md : List Nat) (S0 : Sto) (N : Nat) (F0 F : Nat → Prop) (hf : Tryd.prog.funcs[f]? = some fn) (hb : fn.body = some c)
    (hnm : (fn.name == "runtime.NumGoroutine") = false) (hN : fn.ntmps = N) (hn : Nat.ble l.length N = true) (hS0 : ∀ e ∈ S0, ∀ b, e.1 = some b → b ∈ md ∧ w.heap[b]? = some (.cells e.2.2.toArray e.2.1 (0, 0))) (hnd : (blks S0).Nodup) (hF : ∀ k, k < w.heap.size → F k → F0 k ∧ k ∉ blks S0)
    (h : JC ⟨N, F0, w, md⟩ c (ofL l) S0 F w (kfun fn md w R)) : CallsM md f l.toArray w R := by
  subst hN
  have hn' : l.length ≤ fn.ntmps := by simpa using hn
  refine ⟨⟨fn, hf, hnm, by rw [hb]; rfl⟩, ?_⟩
  refine calls_of_wp hf hb (Code.wp_mono (fun e a w' ⟨E, h1, h2⟩ => ?_) (h w _ ⟨BelowM.refl _ _, Nat.le_refl _, fun e he b hb => ⟨.inr (hS0 e he b hb).1, (hS0 e he b hb).2⟩, hnd, fun k hk hF' => ⟨rfl, .inl (hF k hk hF').1, (hF k hk hF').2⟩⟩
    ⟨by simp; omega, rfl, fun i => ofL_getD l _ i⟩))
  have hres : ∀ rs : Array ResultVar, resE rs E = (do
      let vs ← rs.mapM fun
        | .tmp t => pure (a.tmps.getD t undef)
        | .cell a' t => do loadVar t (← asAddr (a.tmps.getD a' undef))
      pure (if h : vs.size = 1 then vs[0] else .tuple vs)) := fun rs => by
    have hE : E = fun i => a.tmps.getD i undef := (funext h1.get).symm
    rw [hE]
    unfold resE
    congr 2
  cases e with
  | normal =>
    obtain ⟨v, h3, h4, h5⟩ := h2
    exact ⟨h1.defers, v, by rw [hres] at h3; exact h3, v, rfl, h4, h5⟩
  | ret =>
    obtain ⟨v, h3, h4, h5⟩ := h2
    exact ⟨h1.defers, v, by rw [hres] at h3; exact h3, v, rfl, h4, h5⟩
  | _ => exact h2.elim
theorem CallsTo.enter {f : FuncId} {fn : Func} {c : Code} {l : List Value} {w : World} {R : Value → World → Prop} (N : Nat) (F0 F : Nat → Prop) (hf : Tryd.prog.funcs[f]? = some fn) (hb : fn.body = some c)
    (hnm : (fn.name == "runtime.NumGoroutine") = false) (hN : fn.ntmps = N) (hn : Nat.ble l.length N = true) (hF : ∀ k, k < w.heap.size → F k → F0 k)
    (h : JC ⟨N, F0, w, []⟩ c (ofL l) [] F w (kfun fn [] w R)) : CallsTo f l.toArray w R :=
  let ⟨h1, h2⟩ := CallsM.enter [] [] N F0 F hf hb hnm hN hn (fun e he => absurd he (by simp)) (by simp [blks]) (fun k hk hk' => ⟨hF k hk hk', by simp [blks]⟩) h
  ⟨h1, h2.mono fun _ _ ⟨v, h3, h4, h5⟩ => ⟨v, h3, h4.nil, h5⟩⟩
/-- What a result variable gives. -/
def ResV (X : Cx) (E : Env) (S : Sto) (F : Nat → Prop) (w1 : World) (r : ResultVar) (v : Value) : Prop :=
  ∀ w, Cur X S F w1 w → (rv E r).run Tryd.prog w = .ok v w
theorem ResV.tmp {t : Tmp} : ResV X E S F w1 (.tmp t) (E t) := fun _ _ => rfl
theorem ret_one {fn : Func} {R : Value → World → Prop} {r : ResultVar} {v : Value} (hr : fn.results = #[r]) (h1 : ResV X E S F w1 r v) (h : ∀ w, Cur X S F w1 w → R v w) :
    JQ X (kfun fn X.md X.w0 R) .ret E S F w1 := fun w hc => by
  refine ⟨v, ?_, hc.below, h w hc⟩
  have h2 := h1 w hc
  simp [resE, hr, h2]
theorem ret_two {fn : Func} {R : Value → World → Prop} {r s : ResultVar} {v u : Value} (hr : fn.results = #[r, s]) (h1 : ResV X E S F w1 r v) (h2 : ResV X E S F w1 s u) (h : ∀ w, Cur X S F w1 w → R (.tuple #[v, u]) w) :
    JQ X (kfun fn X.md X.w0 R) .ret E S F w1 := fun w hc => by
  refine ⟨.tuple #[v, u], ?_, hc.below, h w hc⟩
  have h3 := h1 w hc
  have h4 := h2 w hc
  simp [resE, hr, h3, h4]
theorem ret_three {fn : Func} {R : Value → World → Prop} {r s t : ResultVar} {v u x : Value} (hr : fn.results = #[r, s, t]) (h1 : ResV X E S F w1 r v) (h2 : ResV X E S F w1 s u) (h2' : ResV X E S F w1 t x) (h : ∀ w, Cur X S F w1 w → R (.tuple #[v, u, x]) w) :
    JQ X (kfun fn X.md X.w0 R) .ret E S F w1 := fun w hc => by
  refine ⟨.tuple #[v, u, x], ?_, hc.below, h w hc⟩
  have h3 := h1 w hc
  have h4 := h2 w hc
  have h5 := h2' w hc
  simp [resE, hr, h3, h4, h5]
theorem ret_none {fn : Func} {R : Value → World → Prop} (hr : fn.results = #[]) (h : ∀ w, Cur X S F w1 w → R (.tuple #[]) w) :
    JQ X (kfun fn X.md X.w0 R) .ret E S F w1 := fun w hc => by
  refine ⟨.tuple #[], ?_, hc.below, h w hc⟩
  simp [resE, hr]
theorem ret_normal {fn : Func} {R : Value → World → Prop} (h : JQ X (kfun fn X.md X.w0 R) .ret E S F w1) : JQ X (kfun fn X.md X.w0 R) .normal E S F w1 := h
end
end Go.Proofs.YtchnnplcpidkiaaDoor
