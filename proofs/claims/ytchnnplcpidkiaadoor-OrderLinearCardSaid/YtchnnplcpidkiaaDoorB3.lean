/- The rules of the walk, third part: what each operation yields; no condition. -/
import Derived.Test.YtchnnplcpidkiaaDoorB2
import Derived.Lib.SliceRun
namespace Go.Proofs.YtchnnplcpidkiaaDoor
open Go.RowKit
set_option linter.unusedSimpArgs false
set_option linter.unusedVariables false

section
variable {X : Cx} {E : Env} {S : Sto} {F : Nat → Prop} {w1 : World} {d : Option Tmp} {t : TypeId} {pos : String} {af : Array Edge} {g : Option (Nat × Bool)}

theorem y_move {x : Operand} : Yields X ⟨d, .move x, t, pos, af, g⟩ E S F w1 (ev E x) := fun _ _ => rfl
theorem y_assign {x : Operand} : Yields X ⟨d, .assign x, t, pos, af, g⟩ E S F w1 (ev E x) := fun _ _ => rfl
theorem y_pick {c x y : Operand} {b : Bool} (hc : ev E c = .bool b) : Yields X ⟨d, .pick c x y, t, pos, af, g⟩ E S F w1 (bif b then ev E x else ev E y) := fun w _ => by
  cases b <;> simp [execOp, hc, asBool]
theorem run_guard_int {op : BinOp} {T : TypeId} {x y : Operand} {k k' : IntKind} {m n : Int} {w : World} : (eqGuard op T x y (.int k m) (.int k' n)).run Tryd.prog w = .ok () w := by
  unfold eqGuard; split <;> rfl
theorem run_guard_str {op : BinOp} {T : TypeId} {x y : Operand} {m n : ByteArray} {w : World} : (eqGuard op T x y (.string m) (.string n)).run Tryd.prog w = .ok () w := by
  unfold eqGuard; split <;> rfl
theorem run_guard_slice {op : BinOp} {T : TypeId} {x y : Operand} {A B : Option Addr} {n c n' c' : Nat} {w : World} : (eqGuard op T x y (.slice A n c) (.slice B n' c')).run Tryd.prog w = .ok () w := by
  unfold eqGuard; split <;> rfl
theorem run_guard_ptr {op : BinOp} {T : TypeId} {x y : Operand} {A B : Option Addr} {w : World} : (eqGuard op T x y (.pointer A) (.pointer B)).run Tryd.prog w = .ok () w := by
  unfold eqGuard; split <;> rfl
theorem y_bin {op : BinOp} {T T' : TypeId} {x y : Operand} {k : IntKind} {m n : Int} {v : Value} (hx : ev E x = .int k m) (hy : ev E y = .int k n) (h : ∀ w, (binOp op T (.int k m) (.int k n)).run Tryd.prog w = .ok v w) :
    Yields X ⟨d, .binOp op T x y T', t, pos, af, g⟩ E S F w1 v := fun w _ => by
  simp [execOp, Sem.run_bind, hx, hy, run_guard_int, h]
theorem y_lss {T T' : TypeId} {x y : Operand} {k : IntKind} {m n : Int} (hx : ev E x = .int k m) (hy : ev E y = .int k n) : Yields X ⟨d, .binOp .lss T x y T', t, pos, af, g⟩ E S F w1 (.bool (decide (m < n))) := y_bin hx hy fun w => by simp [binOp, Op.intCmp]
theorem y_leq {T T' : TypeId} {x y : Operand} {k : IntKind} {m n : Int} (hx : ev E x = .int k m) (hy : ev E y = .int k n) : Yields X ⟨d, .binOp .leq T x y T', t, pos, af, g⟩ E S F w1 (.bool (decide (m ≤ n))) := y_bin hx hy fun w => by simp [binOp, Op.intCmp]
theorem y_gtr {T T' : TypeId} {x y : Operand} {k : IntKind} {m n : Int} (hx : ev E x = .int k m) (hy : ev E y = .int k n) : Yields X ⟨d, .binOp .gtr T x y T', t, pos, af, g⟩ E S F w1 (.bool (decide (m > n))) := y_bin hx hy fun w => by simp [binOp, Op.intCmp]
theorem y_geq {T T' : TypeId} {x y : Operand} {k : IntKind} {m n : Int} (hx : ev E x = .int k m) (hy : ev E y = .int k n) : Yields X ⟨d, .binOp .geq T x y T', t, pos, af, g⟩ E S F w1 (.bool (decide (m ≥ n))) := y_bin hx hy fun w => by simp [binOp, Op.intCmp]
theorem y_eql {T T' : TypeId} {x y : Operand} {k : IntKind} {m n : Int} (hx : ev E x = .int k m) (hy : ev E y = .int k n) : Yields X ⟨d, .binOp .eql T x y T', t, pos, af, g⟩ E S F w1 (.bool (decide (m = n))) := y_bin hx hy fun w => by
  simp [binOp, Op.intCmp]
  rfl
theorem y_neq {T T' : TypeId} {x y : Operand} {k : IntKind} {m n : Int} (hx : ev E x = .int k m) (hy : ev E y = .int k n) : Yields X ⟨d, .binOp .neq T x y T', t, pos, af, g⟩ E S F w1 (.bool (decide (m ≠ n))) := y_bin hx hy fun w => by
  simp [binOp, Op.intCmp, bne]
  rfl
theorem y_add {T T' : TypeId} {x y : Operand} {k : IntKind} {m n r : Int} (hx : ev E x = .int k m) (hy : ev E y = .int k n) (hr : k.wrap (m + n) = r) : Yields X ⟨d, .binOp .add T x y T', t, pos, af, g⟩ E S F w1 (.int k r) := y_bin hx hy fun w => by
  subst hr; simp [binOp, Op.intArith]
theorem y_sub {T T' : TypeId} {x y : Operand} {k : IntKind} {m n r : Int} (hx : ev E x = .int k m) (hy : ev E y = .int k n) (hr : k.wrap (m - n) = r) : Yields X ⟨d, .binOp .sub T x y T', t, pos, af, g⟩ E S F w1 (.int k r) := y_bin hx hy fun w => by
  subst hr; simp [binOp, Op.intArith]
theorem y_shr {T T' : TypeId} {x y : Operand} {k yk : IntKind} {m n r : Int} (hx : ev E x = .int k m) (hy : ev E y = .int yk n) (hn : 0 ≤ n) (hr : m.fdiv (2 ^ (min n.toNat k.bits)) = r) : Yields X ⟨d, .binOp .shr T x y T', t, pos, af, g⟩ E S F w1 (.int k r) := fun w _ => by
  subst hr
  simp [execOp, Sem.run_bind, hx, hy, run_guard_int, binOp, Op.shift, show ¬ n < 0 by omega]
theorem y_not {T : TypeId} {x : Operand} {b : Bool} (hx : ev E x = .bool b) : Yields X ⟨d, .unOp .not T x, t, pos, af, g⟩ E S F w1 (.bool (!b)) := fun w _ => by
  simp [execOp, Sem.run_bind, hx, Op.unary]
theorem y_eqs {T T' : TypeId} {x y : Operand} {m n : ByteArray} (hx : ev E x = .string m) (hy : ev E y = .string n) : Yields X ⟨d, .binOp .eql T x y T', t, pos, af, g⟩ E S F w1 (.bool (m.toList == n.toList)) := fun w _ => by
  simp [execOp, Sem.run_bind, hx, hy, run_guard_str, binOp, Op.stringOp]
theorem y_nes {T T' : TypeId} {x y : Operand} {m n : ByteArray} (hx : ev E x = .string m) (hy : ev E y = .string n) : Yields X ⟨d, .binOp .neq T x y T', t, pos, af, g⟩ E S F w1 (.bool (!(m.toList == n.toList))) := fun w _ => by
  simp only [execOp, Sem.run_bind, hx, hy, run_guard_str, Result.andThen_ok, binOp, Op.stringOp, Sem.run_pure]
theorem y_lts {T T' : TypeId} {x y : Operand} {m n : ByteArray} (hx : ev E x = .string m) (hy : ev E y = .string n) : Yields X ⟨d, .binOp .lss T x y T', t, pos, af, g⟩ E S F w1 (.bool (Op.bytesLess m.toList n.toList)) := fun w _ => by
  simp [execOp, Sem.run_bind, hx, hy, run_guard_str, binOp, Op.stringOp]
theorem y_gts {T T' : TypeId} {x y : Operand} {m n : ByteArray} (hx : ev E x = .string m) (hy : ev E y = .string n) : Yields X ⟨d, .binOp .gtr T x y T', t, pos, af, g⟩ E S F w1 (.bool (!(Op.bytesLess m.toList n.toList || m.toList == n.toList))) := fun w _ => by
  simp only [execOp, Sem.run_bind, hx, hy, run_guard_str, Result.andThen_ok, binOp, Op.stringOp, Sem.run_pure]
theorem y_ges {T T' : TypeId} {x y : Operand} {m n : ByteArray} (hx : ev E x = .string m) (hy : ev E y = .string n) : Yields X ⟨d, .binOp .geq T x y T', t, pos, af, g⟩ E S F w1 (.bool (!(Op.bytesLess m.toList n.toList))) := fun w _ => by
  simp only [execOp, Sem.run_bind, hx, hy, run_guard_str, Result.andThen_ok, binOp, Op.stringOp, Sem.run_pure]
theorem y_eqnil {T T' e : TypeId} {x : Operand} {A : Option Addr} {n c : Nat} (hs : sle T = some e) (hx : ev E x = .slice A n c) : Yields X ⟨d, .binOp .eql T x (.const (.slice none 0 0)) T', t, pos, af, g⟩ E S F w1 (.bool A.isNone) := fun w _ => by
  have h := Lib.run_eql_slice_nil (P := Tryd.prog) w T e A n c 0 0 (sle_ok hs)
  simp only [execOp, Sem.run_bind, hx, show ev E (.const (.slice none 0 0)) = .slice none 0 0 from rfl, run_guard_slice, Result.andThen_ok, h, Sem.run_pure]
theorem y_len {T e : TypeId} {x : Operand} {A : Option Addr} {n c : Nat} (hs : sle T = some e) (hx : ev E x = .slice A n c) : Yields X ⟨d, .call { callee := .builtin .len, args := #[x], argTypes := #[T] }, t, pos, af, g⟩ E S F w1 (.int .i64 n) := fun w _ => by
  simp [execOp, Sem.run_bind, resolve, invoke, builtin, hx, Builtin.len_, run_underlying (sle_ok hs), goInt]
theorem y_lens {T : TypeId} {x : Operand} {s : ByteArray} (hT : T = 9) (hx : ev E x = .string s) : Yields X ⟨d, .call { callee := .builtin .len, args := #[x], argTypes := #[T] }, t, pos, af, g⟩ E S F w1 (.int .i64 s.size) := fun w _ => by
  subst hT
  simp [execOp, Sem.run_bind, resolve, invoke, builtin, hx, Builtin.len_, run_underlying Tryd.underlying9, goInt]
theorem y_cap {T e : TypeId} {x : Operand} {A : Option Addr} {n c : Nat} (hs : sle T = some e) (hx : ev E x = .slice A n c) : Yields X ⟨d, .call { callee := .builtin .cap, args := #[x], argTypes := #[T] }, t, pos, af, g⟩ E S F w1 (.int .i64 c) := fun w _ => by
  simp [execOp, Sem.run_bind, resolve, invoke, builtin, hx, Builtin.cap_, run_underlying (sle_ok hs), goInt]
theorem y_extract {x : Operand} {i : Nat} {l : List Value} {v : Value} (hx : ev E x = .tuple l.toArray) (hv : nth l i = some v) : Yields X ⟨d, .extract x i, t, pos, af, g⟩ E S F w1 v := fun w _ => by
  rw [nth_eq] at hv
  simp [execOp, Sem.run_bind, hx, Instr.extract, hv]
theorem y_fieldAddr {T i : Nat} {x : Operand} {b o n : Nat} (hx : ev E x = .pointer (some ⟨b, o, none⟩)) (hi : Nat.ble i 9 = true) (hf : fof T i = some n) : Yields X ⟨d, .fieldAddr T x i, t, pos, af, g⟩ E S F w1 (.pointer (some ⟨b, o + n, none⟩)) := fun w _ => by
  simp only [execOp, Sem.run_bind, hx, fof_ok hi hf, Result.andThen_ok, Sem.run_pure]
theorem y_idx {T e : TypeId} {x y : Operand} {ag : Bool} {sz bt : Nat} {z : List Value} {A : Option Addr} {b o n c : Nat} {k : IntKind} {i : Int} {j : Nat} (hs : sle T = some e) (hr : tyr e = some (ag, sz, bt, z))
    (hx : ev E x = .slice A n c) (hy : ev E y = .int k i) (hA : A = some ⟨b, o, none⟩) (hj : i = (j : Int)) (hn : j < n) : Yields X ⟨d, .indexAddr T x y, t, pos, af, g⟩ E S F w1 (.pointer (some ⟨b, o + j * sz, none⟩)) := fun w _ => by
  subst hA hj
  have h2 := (tyr_ok hr).sizeOf
  have : (0 : Int) ≤ (j : Int) ∧ (j : Int) < (n : Int) := by omega
  simp [execOp, Sem.run_bind, hx, hy, Instr.indexAt, asIntOf, run_underlying (sle_ok hs), hn, h2, add_lit]
theorem y_conv {T T' : TypeId} {x : Operand} {k k' k'' : IntKind} {m r : Int} (hx : ev E x = .int k m) (h1 : ∀ w, (underlying T).run Tryd.prog w = .ok (.int k'') w) (h2 : ∀ w, (underlying T').run Tryd.prog w = .ok (.int k') w) (hr : k'.wrap m = r) : Yields X ⟨d, .convert T T' x, t, pos, af, g⟩ E S F w1 (.int k' r) := fun w _ => by
  subst hr
  simp [execOp, Sem.run_bind, hx, convert, h1, h2, Conv.intToInt]

/-! ### Loads -/
theorem Cur.cell {w : World} (hc : Cur X S F w1 w) {i b T : Nat} {cs : List Value} (hS : nth S i = some (some b, T, cs)) (j : Nat) : w.cell? ⟨b, j, none⟩ = cs[j]? := by
  rw [nth_eq] at hS
  have := (hc.own _ (List.mem_of_getElem? hS) b rfl).2
  simp [World.cell?, this]
theorem run_loadVar_cells {T : Nat} {sz bt : Nat} {z cs : List Value} {w : World} {a : Addr} (hr : tyr T = some (true, sz, bt, z)) (hn : cs.length = sz) (hc : ∀ j v, cs[j]? = some v → w.cell? (a.add j) = some v) :
    (loadVar T a).run Tryd.prog w = .ok (.agg cs.toArray) w := by
  have hl := run_loadCells_list (P := Tryd.prog) w a cs hc
  have h1 := (tyr_ok hr).isAgg
  have h2 := (tyr_ok hr).sizeOf
  rw [hn] at hl
  simp [loadVar, Sem.run_bind, h1, h2, hl]
theorem run_loadVar_one {T : Nat} {sz bt : Nat} {z : List Value} {v : Value} {w : World} {a : Addr} (hr : tyr T = some (false, sz, bt, z)) (hc : w.cell? a = some v) :
    (loadVar T a).run Tryd.prog w = .ok v w := by
  have h1 := (tyr_ok hr).isAgg
  simp [loadVar, Sem.run_bind, h1, Go.load, Sem.run, hc]
/-- A cell of a block of the call's own. -/
theorem y_ld (i : Nat) {T T' : Nat} {x : Operand} {b o sz bt : Nat} {z cs : List Value} {v : Value} (hx : ev E x = .pointer (some ⟨b, o, none⟩)) (hr : tyr T = some (false, sz, bt, z)) (hS : nth S i = some (some b, T', cs)) (hv : nth cs o = some v) :
    Yields X ⟨d, .load T x, t, pos, af, g⟩ E S F w1 v := fun w hc => by
  have h := hc.cell hS o
  rw [nth_eq] at hv
  rw [hv] at h
  simp only [execOp, Sem.run_bind, hx, Instr.loadAt, Instr.sureAddr, Sem.run_pure, Result.andThen_ok, run_loadVar_one hr h]
/-- A whole block of the call's own. -/
theorem y_ldA (i : Nat) {T T' : Nat} {x : Operand} {b sz bt : Nat} {z cs : List Value} (hx : ev E x = .pointer (some ⟨b, 0, none⟩)) (hr : tyr T = some (true, sz, bt, z)) (hS : nth S i = some (some b, T', cs)) (hn : cs.length = sz) :
    Yields X ⟨d, .load T x, t, pos, af, g⟩ E S F w1 (.agg cs.toArray) := fun w hc => by
  have h : ∀ j v, cs[j]? = some v → w.cell? ((⟨b, 0, none⟩ : Addr).add j) = some v := fun j v hv => by rw [add_lit, Nat.zero_add, hc.cell hS]; exact hv
  simp only [execOp, Sem.run_bind, hx, Instr.loadAt, Instr.sureAddr, Sem.run_pure, Result.andThen_ok, run_loadVar_cells hr hn h]
/-- A part of a block of the call's own. -/
theorem y_ldP (i : Nat) {T T' : Nat} {x : Operand} {b o sz bt : Nat} {z cs vs : List Value} (hx : ev E x = .pointer (some ⟨b, o, none⟩)) (hr : tyr T = some (true, sz, bt, z)) (hS : nth S i = some (some b, T', cs)) (hv : (cs.drop o).take sz = vs) (hn' : Nat.ble (o + sz) cs.length = true) :
    Yields X ⟨d, .load T x, t, pos, af, g⟩ E S F w1 (.agg vs.toArray) := fun w hc => by
  have h : ∀ j v, vs[j]? = some v → w.cell? ((⟨b, o, none⟩ : Addr).add j) = some v := fun j v hj => by
    subst hv
    rw [add_lit, hc.cell hS]
    rw [List.getElem?_take] at hj
    split at hj
    · simpa using hj
    · cases hj
  have hn : o + sz ≤ cs.length := by simpa using hn'
  have hl : vs.length = sz := by subst hv; simp; omega
  simp only [execOp, Sem.run_bind, hx, Instr.loadAt, Instr.sureAddr, Sem.run_pure, Result.andThen_ok, run_loadVar_cells hr hl h]
def At (F : Nat → Prop) (w : World) (b o : Nat) (vs : List Value) : Prop := F b ∧ ∀ j u, vs[j]? = some u → w.cell? ⟨b, o + j, none⟩ = some u
theorem lt_of_cell {w : World} {b o : Nat} {v : Value} (h : w.cell? ⟨b, o, none⟩ = some v) : b < w.heap.size := by
  unfold World.cell? at h
  cases hq : w.heap[b]? with
  | none => simp [hq] at h
  | some x => exact (Array.getElem?_eq_some_iff.1 hq).1
theorem cell_eq {w w' : World} {b : Nat} (h : w'.heap[b]? = w.heap[b]?) (o : Nat) : w'.cell? ⟨b, o, none⟩ = w.cell? ⟨b, o, none⟩ := by simp [World.cell?, h]
theorem At.step {F F' : Nat → Prop} {w w' : World} {b o : Nat} {vs : List Value} (h : At F w b o vs) (hs : Step F w F' w') (hne : vs ≠ []) : At F' w' b o vs := by
  have hlt : b < w.heap.size := by
    cases vs with
    | nil => exact absurd rfl hne
    | cons v r => exact lt_of_cell (h.2 0 v rfl)
  obtain ⟨h1, h2⟩ := hs b hlt h.1
  exact ⟨h2, fun j u hj => (cell_eq h1 _).trans (h.2 j u hj)⟩
theorem Cur.at {w : World} (hc : Cur X S F w1 w) {b o : Nat} {vs : List Value} (h : At F w1 b o vs) : ∀ j u, vs[j]? = some u → w.cell? ⟨b, o + j, none⟩ = some u := fun j u hj => by
  have h0 := h.2 j u hj
  obtain ⟨h1, _⟩ := hc.step b (lt_of_cell h0) h.1
  exact (cell_eq h1 _).trans h0
/-- A cell of old memory. -/
theorem y_ldd {T : Nat} {x : Operand} {b o sz bt : Nat} {z : List Value} {v : Value} (hx : ev E x = .pointer (some ⟨b, o, none⟩)) (hr : tyr T = some (false, sz, bt, z)) (ha : At F w1 b o [v]) :
    Yields X ⟨d, .load T x, t, pos, af, g⟩ E S F w1 v := fun w hc => by
  have h : w.cell? ⟨b, o, none⟩ = some v := hc.at ha 0 v rfl
  simp only [execOp, Sem.run_bind, hx, Instr.loadAt, Instr.sureAddr, Sem.run_pure, Result.andThen_ok, run_loadVar_one hr h]
theorem y_lddA {T : Nat} {x : Operand} {b o sz bt : Nat} {z vs : List Value} (hx : ev E x = .pointer (some ⟨b, o, none⟩)) (hr : tyr T = some (true, sz, bt, z)) (ha : At F w1 b o vs) (hn : vs.length = sz) :
    Yields X ⟨d, .load T x, t, pos, af, g⟩ E S F w1 (.agg vs.toArray) := fun w hc => by
  have h : ∀ j v, vs[j]? = some v → w.cell? ((⟨b, o, none⟩ : Addr).add j) = some v := fun j v hj => by rw [add_lit]; exact hc.at ha j v hj
  simp only [execOp, Sem.run_bind, hx, Instr.loadAt, Instr.sureAddr, Sem.run_pure, Result.andThen_ok, run_loadVar_cells hr hn h]

/-! ### Results that lie in a block of the call's own -/
theorem ResV.cellA (i : Nat) {tm : Tmp} {T T' b sz bt : Nat} {z cs : List Value} (hx : E tm = .pointer (some ⟨b, 0, none⟩)) (hr : tyr T = some (true, sz, bt, z)) (hS : nth S i = some (some b, T', cs)) (hn : cs.length = sz) : ResV X E S F w1 (.cell tm T) (.agg cs.toArray) := fun w hc => by
  have h : ∀ j v, cs[j]? = some v → w.cell? ((⟨b, 0, none⟩ : Addr).add j) = some v := fun j v hv => by rw [add_lit, Nat.zero_add, hc.cell hS]; exact hv
  simp [rv, hx, asAddr, run_loadVar_cells hr hn h]

/-! ### A struct that is built -/
def splice (z : List Value) (o : Nat) (vs : List Value) : List Value := z.take o ++ vs ++ z.drop (o + vs.length)
end
end Go.Proofs.YtchnnplcpidkiaaDoor
