/- Equality of two pairs, two members: what the rule needs; no condition but that the data are well formed. -/
import Derived.Test.YtchnnplcpidkiaaDoorC8
import Derived.DeepKeys
namespace Go.Proofs.YtchnnplcpidkiaaDoor
open Go.RowKit
set_option linter.unusedSimpArgs false
set_option linter.unusedVariables false
set_option maxRecDepth 20000

theorem mapM_some {α β : Type} {f : α → Option β} : ∀ {l : List α}, (∀ x ∈ l, ∃ y, f x = some y) → ∃ ys, l.mapM f = some ys
  | [], _ => ⟨[], rfl⟩
  | x :: l, h => by
    obtain ⟨y, hy⟩ := h x (by simp)
    obtain ⟨ys, hys⟩ := mapM_some (fun z hz => h z (List.mem_cons_of_mem _ hz))
    exact ⟨y :: ys, by simp [List.mapM_cons, hy, hys]⟩
theorem cells3 : Tryd.prog.cellsOf 3 = 1 := by kernel_rfl
theorem cells9 : Tryd.prog.cellsOf 9 = 1 := by kernel_rfl
theorem cells5 : Tryd.prog.cellsOf 5 = 1 := by kernel_rfl
theorem cells33 : Tryd.prog.cellsOf 33 = 32 := by kernel_rfl
theorem cells35 : Tryd.prog.cellsOf 35 = 33 := by kernel_rfl
theorem cells53 : Tryd.prog.cellsOf 53 = 2 := by kernel_rfl
theorem cells55 : Tryd.prog.cellsOf 55 = 34 := by kernel_rfl
/-- The cells of type t are those of a key. -/
def KL (d : Nat) (t : TypeId) (cs : List Value) : Prop := ∃ la, Tryd.prog.keyLits d t cs = some la
theorem kl_str {d : Nat} {s : ByteArray} (h : s.size ≤ strMax) : KL (d + 1) 9 [.string s] :=
  ⟨[.string s.data.toList], by unfold Program.keyLits; rw [Tryd.underlying9]; simp only; rw [if_pos (by unfold strMax at h; unfold maxLen; omega)]⟩
theorem kl_int {d : Nat} {n : Int} (h : I64 n) : KL (d + 1) 3 [.int .i64 n] :=
  ⟨[.int .i64 n], by
    unfold Program.keyLits; rw [Tryd.underlying3]; simp only
    rw [if_pos ⟨trivial, by
      have h1 : IntKind.i64.min = -9223372036854775808 := by kernel_rfl
      have h2 : IntKind.i64.max = 9223372036854775807 := by kernel_rfl
      simp only [Lit.wf, h1, h2]; simpa [I64] using h⟩]⟩
theorem kl_u8 {d : Nat} {v : Value} (h : isU8 v) : KL (d + 1) 5 [v] := by
  obtain ⟨n, rfl, h1, h2⟩ := h
  refine ⟨[.int .u8 n], ?_⟩
  unfold Program.keyLits; rw [Tryd.underlying5]; simp only
  rw [if_pos ⟨trivial, by
      have e1 : IntKind.u8.min = 0 := by kernel_rfl
      have e2 : IntKind.u8.max = 255 := by kernel_rfl
      simp only [Lit.wf, e1, e2]; simp; omega⟩]
theorem kl_struct {d : Nat} {t : TypeId} {fs : Array Field} {cs : List Value} (hu : Tryd.prog.underlying t = some (.struct fs)) (hl : cs.length = Tryd.prog.cellsOf t) (hn : fs.all (·.name != "_") = true) (h : ∀ f ∈ fs.toList, KL d f.type ((cs.drop f.offset).take (Tryd.prog.cellsOf f.type))) : KL (d + 1) t cs := by
  obtain ⟨ys, hys⟩ := mapM_some h
  refine ⟨ys.flatten, ?_⟩
  unfold Program.keyLits
  rw [hu]
  cases cs <;> simp only <;> rw [if_pos ⟨hl, hn⟩, hys] <;> rfl
theorem kl_array {d : Nat} {t e : TypeId} {n : Nat} {cs : List Value} (hu : Tryd.prog.underlying t = some (.array n e)) (hl : cs.length = Tryd.prog.cellsOf t) (h : ∀ i < n, KL d e ((cs.drop (i * Tryd.prog.cellsOf e)).take (Tryd.prog.cellsOf e))) : KL (d + 1) t cs := by
  obtain ⟨ys, hys⟩ := mapM_some (l := List.range n) (f := fun i => Tryd.prog.keyLits d e ((cs.drop (i * Tryd.prog.cellsOf e)).take (Tryd.prog.cellsOf e))) (fun i hi => h i (List.mem_range.1 hi))
  refine ⟨ys.flatten, ?_⟩
  unfold Program.keyLits
  rw [hu]
  cases cs <;> simp only <;> rw [if_pos hl, hys] <;> rfl
theorem kl_pair {d : Nat} {p : LPair} (h : p.wf) : KL (d + 2) 53 p.cells := by
  refine kl_struct Tryd.underlying53 cells53.symm (by simp) fun f hf => ?_
  simp only [List.mem_cons, List.not_mem_nil, or_false] at hf
  rcases hf with rfl | rfl
  · show KL (d + 1) 9 _; rw [cells9]; exact kl_str h.k
  · show KL (d + 1) 9 _; rw [cells9]; exact kl_str h.v
theorem kl_root {d : Nat} {k : LKey} (h : k.wf) : KL (d + 2) 33 k.root := by
  refine kl_array Tryd.underlying33 (by rw [cells33]; exact h.len) fun i hi => ?_
  rw [cells5, Nat.mul_one]
  have hi' : i < k.root.length := by rw [h.len]; exact hi
  rw [List.drop_eq_getElem_cons hi']
  exact kl_u8 (h.u8 _ (List.getElem_mem hi'))
theorem kl_key {d : Nat} {k : LKey} (h : k.wf) : KL (d + 3) 35 k.cells := by
  refine kl_struct Tryd.underlying35 (by rw [cells35]; exact LKey.len_cells h) (by simp) fun f hf => ?_
  simp only [List.mem_cons, List.not_mem_nil, or_false] at hf
  rcases hf with rfl | rfl
  · show KL (d + 2) 33 _
    rw [cells33]
    have : (k.cells.drop 0).take 32 = k.root := by rw [List.drop_zero]; exact List.take_left' h.len
    rw [this]
    exact kl_root h
  · show KL (d + 2) 3 _
    rw [cells3]
    have : k.cells.drop 32 = [.int .i64 k.h] := List.drop_left' h.len
    rw [this]
    exact kl_int h.h
theorem kl_member {d : Nat} {m : LMember} (h : m.wf) : KL (d + 4) 55 m.cells := by
  refine kl_struct Tryd.underlying55 (by rw [cells55]; exact LMember.len_cells h) (by simp) fun f hf => ?_
  simp only [List.mem_cons, List.not_mem_nil, or_false] at hf
  rcases hf with rfl | rfl
  · show KL (d + 3) 3 _
    rw [cells3]
    exact kl_int h.id
  · show KL (d + 3) 35 _
    rw [cells35]
    have : (m.cells.drop 1).take 33 = m.key.cells := by
      show m.key.cells.take 33 = _
      exact List.take_of_length_le (by rw [LKey.len_cells h.key]; omega)
    rw [this]
    exact kl_key h.key
theorem kt53 : Tryd.prog.keyTypeAt 4 53 = true := by kernel_rfl
theorem kt55 : Tryd.prog.keyTypeAt 4 55 = true := by kernel_rfl
section
variable {X : Cx} {E : Env} {S : Sto} {F : Nat → Prop} {w1 : World}
variable {d : Option Tmp} {t : TypeId} {pos : String} {af : Array Edge} {g : Option (Nat × Bool)}
/-- x != x at a struct. -/
theorem y_neqSame {T T' : TypeId} {x y : Operand} {cs : List Value} {fs : Array Field} (hk : Tryd.prog.keyTypeAt 4 T = true) (hg : Tryd.prog.eqGuardType Tryd.prog.depth T = false) (hu : Tryd.prog.underlying T = some (.struct fs)) (hl : cs.length = Tryd.prog.cellsOf T) (h : KL 4 T cs) (hx : ev E x = .agg cs.toArray) (hy : ev E y = .agg cs.toArray) :
    Yields X ⟨d, .binOp .neq T x y T', t, pos, af, g⟩ E S F w1 (.bool false) := fun w _ => by
  obtain ⟨la, hla⟩ := h
  have hf : (Value.agg cs.toArray).formed Tryd.prog T = true := by simp [Value.formed, hu, hl]
  obtain ⟨r, hr, hiff⟩ := run_equalIn_deep (P := Tryd.prog) 9996 4 T hk w 4 4 (.agg cs.toArray) (.agg cs.toArray) la la hf hf (by simpa [Value.cells] using hla) (by simpa [Value.cells] using hla)
  have hr' : r = true := hiff.2 rfl
  subst hr'
  have hb : (binOp .neq T (.agg cs.toArray) (.agg cs.toArray)).run Tryd.prog w = .ok (.bool false) w := by
    rw [run_neq_struct, hr]; rfl
  simp [execOp, Sem.run_bind, hx, hy, run_eqGuard_agg (P := Tryd.prog) w .neq T x y _ _ hg, hb]
end
end Go.Proofs.YtchnnplcpidkiaaDoor
