/- The rules of the walk, second part: the tables of the types, and the operations that only compute or read; no condition. -/
import Derived.Test.YtchnnplcpidkiaaDoorB1
namespace Go.Proofs.YtchnnplcpidkiaaDoor
open Go.RowKit

/-! ### 1. Types -/
structure TyRow (T : Nat) (agg : Bool) (sz bt : Nat) (z : List Value) : Prop where
  isAgg : ∀ w, (Go.isAgg T).run Tryd.prog w = .ok agg w
  sizeOf : ∀ w, (Go.sizeOf T).run Tryd.prog w = .ok sz w
  zero : ∃ zv, (∀ w, (zeroValue T).run Tryd.prog w = .ok zv w) ∧ zv.cells = z.toArray ∧ (Tryd.prog.info? T).map (fun i => (i.zero, i.size, i.bytes)) = some (some zv, sz, bt)
  len : z.length = sz
theorem row2 : TyRow 2 false 1 8 ([.int .i64 0]) := ⟨Tryd.isAgg2, Tryd.sizeOf2, ⟨_, Tryd.zeroValue2, rfl, by kernel_rfl⟩, rfl⟩
theorem row3 : TyRow 3 false 1 8 ([.int .i64 0]) := ⟨Tryd.isAgg3, Tryd.sizeOf3, ⟨_, Tryd.zeroValue3, rfl, by kernel_rfl⟩, rfl⟩
theorem row4 : TyRow 4 false 1 1 ([.bool false]) := ⟨Tryd.isAgg4, Tryd.sizeOf4, ⟨_, Tryd.zeroValue4, rfl, by kernel_rfl⟩, rfl⟩
theorem row5 : TyRow 5 false 1 1 ([.int .u8 0]) := ⟨Tryd.isAgg5, Tryd.sizeOf5, ⟨_, Tryd.zeroValue5, rfl, by kernel_rfl⟩, rfl⟩
theorem row9 : TyRow 9 false 1 16 ([.string ⟨#[]⟩]) := ⟨Tryd.isAgg9, Tryd.sizeOf9, ⟨_, Tryd.zeroValue9, rfl, by kernel_rfl⟩, rfl⟩
theorem row22 : TyRow 22 false 1 24 ([.slice none 0 0]) := ⟨Tryd.isAgg22, Tryd.sizeOf22, ⟨_, Tryd.zeroValue22, rfl, by kernel_rfl⟩, rfl⟩
theorem row23 : TyRow 23 false 1 24 ([.slice none 0 0]) := ⟨Tryd.isAgg23, Tryd.sizeOf23, ⟨_, Tryd.zeroValue23, rfl, by kernel_rfl⟩, rfl⟩
theorem row24 : TyRow 24 false 1 24 ([.slice none 0 0]) := ⟨Tryd.isAgg24, Tryd.sizeOf24, ⟨_, Tryd.zeroValue24, rfl, by kernel_rfl⟩, rfl⟩
theorem row26 : TyRow 26 true 2 32 ([.int .i64 0, .slice none 0 0]) := ⟨Tryd.isAgg26, Tryd.sizeOf26, ⟨_, Tryd.zeroValue26, rfl, by kernel_rfl⟩, rfl⟩
theorem row28 : TyRow 28 true 4 80 ([.slice none 0 0, .slice none 0 0, .int .i64 0, .slice none 0 0]) := ⟨Tryd.isAgg28, Tryd.sizeOf28, ⟨_, Tryd.zeroValue28, rfl, by kernel_rfl⟩, rfl⟩
theorem row29 : TyRow 29 false 1 24 ([.slice none 0 0]) := ⟨Tryd.isAgg29, Tryd.sizeOf29, ⟨_, Tryd.zeroValue29, rfl, by kernel_rfl⟩, rfl⟩
theorem row33 : TyRow 33 true 32 32 (List.replicate 32 (.int .u8 0)) := ⟨Tryd.isAgg33, Tryd.sizeOf33, ⟨_, Tryd.zeroValue33, rfl, by kernel_rfl⟩, rfl⟩
theorem row35 : TyRow 35 true 33 40 (List.replicate 32 (.int .u8 0) ++ [.int .i64 0]) := ⟨Tryd.isAgg35, Tryd.sizeOf35, ⟨_, Tryd.zeroValue35, rfl, by kernel_rfl⟩, rfl⟩
theorem row37 : TyRow 37 true 36 64 ([.int .i64 0, .int .i64 0, .int .i64 0] ++ (List.replicate 32 (.int .u8 0) ++ [.int .i64 0])) := ⟨Tryd.isAgg37, Tryd.sizeOf37, ⟨_, Tryd.zeroValue37, rfl, by kernel_rfl⟩, rfl⟩
theorem row39 : TyRow 39 true 40 120 ([.int .i64 0, .string ⟨#[]⟩, .string ⟨#[]⟩, .string ⟨#[]⟩, .int .i64 0, .int .i64 0, .int .i64 0] ++ (List.replicate 32 (.int .u8 0) ++ [.int .i64 0])) := ⟨Tryd.isAgg39, Tryd.sizeOf39, ⟨_, Tryd.zeroValue39, rfl, by kernel_rfl⟩, rfl⟩
theorem row41 : TyRow 41 true 42 136 ([.int .i64 0, .int .i64 0, .int .i64 0, .string ⟨#[]⟩, .string ⟨#[]⟩, .string ⟨#[]⟩, .int .i64 0, .int .i64 0, .int .i64 0] ++ (List.replicate 32 (.int .u8 0) ++ [.int .i64 0])) := ⟨Tryd.isAgg41, Tryd.sizeOf41, ⟨_, Tryd.zeroValue41, rfl, by kernel_rfl⟩, rfl⟩
theorem row42 : TyRow 42 false 1 8 ([.int .i64 0]) := ⟨Tryd.isAgg42, Tryd.sizeOf42, ⟨_, Tryd.zeroValue42, rfl, by kernel_rfl⟩, rfl⟩
theorem row43 : TyRow 43 false 1 24 ([.slice none 0 0]) := ⟨Tryd.isAgg43, Tryd.sizeOf43, ⟨_, Tryd.zeroValue43, rfl, by kernel_rfl⟩, rfl⟩
theorem row45 : TyRow 45 true 4 48 ([.int .i64 0, .int .i64 0, .int .i64 0, .slice none 0 0]) := ⟨Tryd.isAgg45, Tryd.sizeOf45, ⟨_, Tryd.zeroValue45, rfl, by kernel_rfl⟩, rfl⟩
theorem row53 : TyRow 53 true 2 32 ([.string ⟨#[]⟩, .string ⟨#[]⟩]) := ⟨Tryd.isAgg53, Tryd.sizeOf53, ⟨_, Tryd.zeroValue53, rfl, by kernel_rfl⟩, rfl⟩
theorem row55 : TyRow 55 true 34 48 ([.int .i64 0] ++ (List.replicate 32 (.int .u8 0) ++ [.int .i64 0])) := ⟨Tryd.isAgg55, Tryd.sizeOf55, ⟨_, Tryd.zeroValue55, rfl, by kernel_rfl⟩, rfl⟩
theorem row57 : TyRow 57 false 1 24 ([.slice none 0 0]) := ⟨Tryd.isAgg57, Tryd.sizeOf57, ⟨_, Tryd.zeroValue57, rfl, by kernel_rfl⟩, rfl⟩
theorem row65 : TyRow 65 false 1 24 ([.slice none 0 0]) := ⟨Tryd.isAgg65, Tryd.sizeOf65, ⟨_, Tryd.zeroValue65, rfl, by kernel_rfl⟩, rfl⟩
theorem row90 : TyRow 90 true 48 200 ([.int .i64 0, .int .i64 0, .int .i64 0, .string ⟨#[]⟩, .string ⟨#[]⟩, .string ⟨#[]⟩, .int .i64 0, .int .i64 0, .int .i64 0] ++ (List.replicate 32 (.int .u8 0) ++ [.int .i64 0]) ++ [.int .i64 0, .int .i64 0, .int .i64 0, .slice none 0 0, .int .i64 0, .int .i64 0]) := ⟨Tryd.isAgg90, Tryd.sizeOf90, ⟨_, Tryd.zeroValue90, rfl, by kernel_rfl⟩, rfl⟩
theorem row94 : TyRow 94 true 2 16 ([.int .i64 0, .int .i64 0]) := ⟨Tryd.isAgg94, Tryd.sizeOf94, ⟨_, Tryd.zeroValue94, rfl, by kernel_rfl⟩, rfl⟩
theorem row117 : TyRow 117 false 1 24 ([.slice none 0 0]) := ⟨Tryd.isAgg117, Tryd.sizeOf117, ⟨_, Tryd.zeroValue117, rfl, by kernel_rfl⟩, rfl⟩
theorem row119 : TyRow 119 true 1 24 ([.slice none 0 0]) := ⟨Tryd.isAgg119, Tryd.sizeOf119, ⟨_, Tryd.zeroValue119, rfl, by kernel_rfl⟩, rfl⟩
theorem row129 : TyRow 129 false 1 8 ([.int .u64 0]) := ⟨Tryd.isAgg129, Tryd.sizeOf129, ⟨_, Tryd.zeroValue129, rfl, by kernel_rfl⟩, rfl⟩
theorem row152 : TyRow 152 false 1 24 ([.slice none 0 0]) := ⟨Tryd.isAgg152, Tryd.sizeOf152, ⟨_, Tryd.zeroValue152, rfl, by kernel_rfl⟩, rfl⟩
theorem row153 : TyRow 153 false 1 8 ([.int .u64 0]) := ⟨Tryd.isAgg153, Tryd.sizeOf153, ⟨_, Tryd.zeroValue153, rfl, by kernel_rfl⟩, rfl⟩
def tyr (T : Nat) : Option (Bool × Nat × Nat × List Value) :=
  bif Nat.beq T 2 then some (false, 1, 8, [.int .i64 0]) else
  bif Nat.beq T 3 then some (false, 1, 8, [.int .i64 0]) else
  bif Nat.beq T 4 then some (false, 1, 1, [.bool false]) else
  bif Nat.beq T 5 then some (false, 1, 1, [.int .u8 0]) else
  bif Nat.beq T 9 then some (false, 1, 16, [.string ⟨#[]⟩]) else
  bif Nat.beq T 22 then some (false, 1, 24, [.slice none 0 0]) else
  bif Nat.beq T 23 then some (false, 1, 24, [.slice none 0 0]) else
  bif Nat.beq T 24 then some (false, 1, 24, [.slice none 0 0]) else
  bif Nat.beq T 26 then some (true, 2, 32, [.int .i64 0, .slice none 0 0]) else
  bif Nat.beq T 28 then some (true, 4, 80, [.slice none 0 0, .slice none 0 0, .int .i64 0, .slice none 0 0]) else
  bif Nat.beq T 29 then some (false, 1, 24, [.slice none 0 0]) else
  bif Nat.beq T 33 then some (true, 32, 32, List.replicate 32 (.int .u8 0)) else
  bif Nat.beq T 35 then some (true, 33, 40, List.replicate 32 (.int .u8 0) ++ [.int .i64 0]) else
  bif Nat.beq T 37 then some (true, 36, 64, [.int .i64 0, .int .i64 0, .int .i64 0] ++ (List.replicate 32 (.int .u8 0) ++ [.int .i64 0])) else
  bif Nat.beq T 39 then some (true, 40, 120, [.int .i64 0, .string ⟨#[]⟩, .string ⟨#[]⟩, .string ⟨#[]⟩, .int .i64 0, .int .i64 0, .int .i64 0] ++ (List.replicate 32 (.int .u8 0) ++ [.int .i64 0])) else
  bif Nat.beq T 41 then some (true, 42, 136, [.int .i64 0, .int .i64 0, .int .i64 0, .string ⟨#[]⟩, .string ⟨#[]⟩, .string ⟨#[]⟩, .int .i64 0, .int .i64 0, .int .i64 0] ++ (List.replicate 32 (.int .u8 0) ++ [.int .i64 0])) else
  bif Nat.beq T 42 then some (false, 1, 8, [.int .i64 0]) else
  bif Nat.beq T 43 then some (false, 1, 24, [.slice none 0 0]) else
  bif Nat.beq T 45 then some (true, 4, 48, [.int .i64 0, .int .i64 0, .int .i64 0, .slice none 0 0]) else
  bif Nat.beq T 53 then some (true, 2, 32, [.string ⟨#[]⟩, .string ⟨#[]⟩]) else
  bif Nat.beq T 55 then some (true, 34, 48, [.int .i64 0] ++ (List.replicate 32 (.int .u8 0) ++ [.int .i64 0])) else
  bif Nat.beq T 57 then some (false, 1, 24, [.slice none 0 0]) else
  bif Nat.beq T 65 then some (false, 1, 24, [.slice none 0 0]) else
  bif Nat.beq T 90 then some (true, 48, 200, [.int .i64 0, .int .i64 0, .int .i64 0, .string ⟨#[]⟩, .string ⟨#[]⟩, .string ⟨#[]⟩, .int .i64 0, .int .i64 0, .int .i64 0] ++ (List.replicate 32 (.int .u8 0) ++ [.int .i64 0]) ++ [.int .i64 0, .int .i64 0, .int .i64 0, .slice none 0 0, .int .i64 0, .int .i64 0]) else
  bif Nat.beq T 94 then some (true, 2, 16, [.int .i64 0, .int .i64 0]) else
  bif Nat.beq T 117 then some (false, 1, 24, [.slice none 0 0]) else
  bif Nat.beq T 119 then some (true, 1, 24, [.slice none 0 0]) else
  bif Nat.beq T 129 then some (false, 1, 8, [.int .u64 0]) else
  bif Nat.beq T 152 then some (false, 1, 24, [.slice none 0 0]) else
  bif Nat.beq T 153 then some (false, 1, 8, [.int .u64 0]) else
  none
theorem beq_split {α : Type} {a b : Nat} {x : α} {y : Option α} {v : α} (h : (bif Nat.beq a b then some x else y) = some v) : (a = b ∧ x = v) ∨ y = some v := by
  cases hq : Nat.beq a b with
  | true => rw [hq] at h; exact .inl ⟨Nat.eq_of_beq_eq_true hq, Option.some.inj h⟩
  | false => rw [hq] at h; exact .inr h
theorem tyr_ok {T : Nat} {a : Bool} {s b : Nat} {z : List Value} (h : tyr T = some (a, s, b, z)) : TyRow T a s b z := by
  unfold tyr at h
  rcases beq_split h with ⟨rfl, h⟩ | h
  · cases h; exact row2
  rcases beq_split h with ⟨rfl, h⟩ | h
  · cases h; exact row3
  rcases beq_split h with ⟨rfl, h⟩ | h
  · cases h; exact row4
  rcases beq_split h with ⟨rfl, h⟩ | h
  · cases h; exact row5
  rcases beq_split h with ⟨rfl, h⟩ | h
  · cases h; exact row9
  rcases beq_split h with ⟨rfl, h⟩ | h
  · cases h; exact row22
  rcases beq_split h with ⟨rfl, h⟩ | h
  · cases h; exact row23
  rcases beq_split h with ⟨rfl, h⟩ | h
  · cases h; exact row24
  rcases beq_split h with ⟨rfl, h⟩ | h
  · cases h; exact row26
  rcases beq_split h with ⟨rfl, h⟩ | h
  · cases h; exact row28
  rcases beq_split h with ⟨rfl, h⟩ | h
  · cases h; exact row29
  rcases beq_split h with ⟨rfl, h⟩ | h
  · cases h; exact row33
  rcases beq_split h with ⟨rfl, h⟩ | h
  · cases h; exact row35
  rcases beq_split h with ⟨rfl, h⟩ | h
  · cases h; exact row37
  rcases beq_split h with ⟨rfl, h⟩ | h
  · cases h; exact row39
  rcases beq_split h with ⟨rfl, h⟩ | h
  · cases h; exact row41
  rcases beq_split h with ⟨rfl, h⟩ | h
  · cases h; exact row42
  rcases beq_split h with ⟨rfl, h⟩ | h
  · cases h; exact row43
  rcases beq_split h with ⟨rfl, h⟩ | h
  · cases h; exact row45
  rcases beq_split h with ⟨rfl, h⟩ | h
  · cases h; exact row53
  rcases beq_split h with ⟨rfl, h⟩ | h
  · cases h; exact row55
  rcases beq_split h with ⟨rfl, h⟩ | h
  · cases h; exact row57
  rcases beq_split h with ⟨rfl, h⟩ | h
  · cases h; exact row65
  rcases beq_split h with ⟨rfl, h⟩ | h
  · cases h; exact row90
  rcases beq_split h with ⟨rfl, h⟩ | h
  · cases h; exact row94
  rcases beq_split h with ⟨rfl, h⟩ | h
  · cases h; exact row117
  rcases beq_split h with ⟨rfl, h⟩ | h
  · cases h; exact row119
  rcases beq_split h with ⟨rfl, h⟩ | h
  · cases h; exact row129
  rcases beq_split h with ⟨rfl, h⟩ | h
  · cases h; exact row152
  rcases beq_split h with ⟨rfl, h⟩ | h
  · cases h; exact row153
  cases h
def sle (T : Nat) : Option Nat :=
  bif Nat.beq T 22 then some 53 else
  bif Nat.beq T 23 then some 45 else
  bif Nat.beq T 24 then some 55 else
  bif Nat.beq T 29 then some 41 else
  bif Nat.beq T 43 then some 9 else
  bif Nat.beq T 57 then some 90 else
  bif Nat.beq T 65 then some 4 else
  bif Nat.beq T 117 then some 5 else
  bif Nat.beq T 152 then some 3 else
  none
theorem sle_ok {T e : Nat} (h : sle T = some e) : Tryd.prog.underlying T = some (.slice e) := by
  unfold sle at h
  rcases beq_split h with ⟨rfl, h⟩ | h
  · cases h; exact Tryd.underlying22
  rcases beq_split h with ⟨rfl, h⟩ | h
  · cases h; exact Tryd.underlying23
  rcases beq_split h with ⟨rfl, h⟩ | h
  · cases h; exact Tryd.underlying24
  rcases beq_split h with ⟨rfl, h⟩ | h
  · cases h; exact Tryd.underlying29
  rcases beq_split h with ⟨rfl, h⟩ | h
  · cases h; exact Tryd.underlying43
  rcases beq_split h with ⟨rfl, h⟩ | h
  · cases h; exact Tryd.underlying57
  rcases beq_split h with ⟨rfl, h⟩ | h
  · cases h; exact Tryd.underlying65
  rcases beq_split h with ⟨rfl, h⟩ | h
  · cases h; exact Tryd.underlying117
  rcases beq_split h with ⟨rfl, h⟩ | h
  · cases h; exact Tryd.underlying152
  cases h
theorem add_lit (b o n : Nat) : (⟨b, o, none⟩ : Addr).add n = ⟨b, o + n, none⟩ := by unfold Addr.add; split <;> simp_all
def fof (T i : Nat) : Option Nat :=
  bif Nat.beq (100 * T + i) 2600 then some 0 else
  bif Nat.beq (100 * T + i) 2601 then some 1 else
  bif Nat.beq (100 * T + i) 2800 then some 0 else
  bif Nat.beq (100 * T + i) 2801 then some 1 else
  bif Nat.beq (100 * T + i) 2802 then some 2 else
  bif Nat.beq (100 * T + i) 3500 then some 0 else
  bif Nat.beq (100 * T + i) 3501 then some 32 else
  bif Nat.beq (100 * T + i) 3700 then some 0 else
  bif Nat.beq (100 * T + i) 3701 then some 1 else
  bif Nat.beq (100 * T + i) 3702 then some 2 else
  bif Nat.beq (100 * T + i) 3703 then some 3 else
  bif Nat.beq (100 * T + i) 3900 then some 0 else
  bif Nat.beq (100 * T + i) 3901 then some 1 else
  bif Nat.beq (100 * T + i) 3902 then some 2 else
  bif Nat.beq (100 * T + i) 3903 then some 3 else
  bif Nat.beq (100 * T + i) 3904 then some 4 else
  bif Nat.beq (100 * T + i) 4100 then some 0 else
  bif Nat.beq (100 * T + i) 4101 then some 1 else
  bif Nat.beq (100 * T + i) 4102 then some 2 else
  bif Nat.beq (100 * T + i) 4500 then some 0 else
  bif Nat.beq (100 * T + i) 4501 then some 1 else
  bif Nat.beq (100 * T + i) 4502 then some 2 else
  bif Nat.beq (100 * T + i) 4503 then some 3 else
  bif Nat.beq (100 * T + i) 5300 then some 0 else
  bif Nat.beq (100 * T + i) 5301 then some 1 else
  bif Nat.beq (100 * T + i) 5500 then some 0 else
  bif Nat.beq (100 * T + i) 5501 then some 1 else
  bif Nat.beq (100 * T + i) 9000 then some 0 else
  bif Nat.beq (100 * T + i) 9001 then some 42 else
  bif Nat.beq (100 * T + i) 9002 then some 46 else
  bif Nat.beq (100 * T + i) 9003 then some 47 else
  bif Nat.beq (100 * T + i) 9400 then some 0 else
  bif Nat.beq (100 * T + i) 9401 then some 1 else
  bif Nat.beq (100 * T + i) 11900 then some 0 else
  none
theorem fof_ok {T i n : Nat} (hi : Nat.ble i 9 = true) (h : fof T i = some n) (w : World) (b o : Nat) : (Instr.fieldAt T (.pointer (some ⟨b, o, none⟩)) i).run Tryd.prog w = .ok (.pointer (some ⟨b, o + n, none⟩)) w := by
  have hi' : i ≤ 9 := by simpa using hi
  unfold fof at h
  rcases beq_split h with ⟨e, h⟩ | h
  · obtain ⟨rfl, rfl⟩ : T = 26 ∧ i = 0 := by omega
    cases h; simp [Instr.fieldAt, Sem.run_bind, Tryd.runUnderlying26, Instr.sureAddr, fieldPlace, Tryd.sizeOf3, add_lit]
  rcases beq_split h with ⟨e, h⟩ | h
  · obtain ⟨rfl, rfl⟩ : T = 26 ∧ i = 1 := by omega
    cases h; simp [Instr.fieldAt, Sem.run_bind, Tryd.runUnderlying26, Instr.sureAddr, fieldPlace, Tryd.sizeOf24, add_lit]
  rcases beq_split h with ⟨e, h⟩ | h
  · obtain ⟨rfl, rfl⟩ : T = 28 ∧ i = 0 := by omega
    cases h; simp [Instr.fieldAt, Sem.run_bind, Tryd.runUnderlying28, Instr.sureAddr, fieldPlace, Tryd.sizeOf22, add_lit]
  rcases beq_split h with ⟨e, h⟩ | h
  · obtain ⟨rfl, rfl⟩ : T = 28 ∧ i = 1 := by omega
    cases h; simp [Instr.fieldAt, Sem.run_bind, Tryd.runUnderlying28, Instr.sureAddr, fieldPlace, Tryd.sizeOf23, add_lit]
  rcases beq_split h with ⟨e, h⟩ | h
  · obtain ⟨rfl, rfl⟩ : T = 28 ∧ i = 2 := by omega
    cases h; simp [Instr.fieldAt, Sem.run_bind, Tryd.runUnderlying28, Instr.sureAddr, fieldPlace, Tryd.sizeOf26, add_lit]
  rcases beq_split h with ⟨e, h⟩ | h
  · obtain ⟨rfl, rfl⟩ : T = 35 ∧ i = 0 := by omega
    cases h; simp [Instr.fieldAt, Sem.run_bind, Tryd.runUnderlying35, Instr.sureAddr, fieldPlace, Tryd.sizeOf33, add_lit]
  rcases beq_split h with ⟨e, h⟩ | h
  · obtain ⟨rfl, rfl⟩ : T = 35 ∧ i = 1 := by omega
    cases h; simp [Instr.fieldAt, Sem.run_bind, Tryd.runUnderlying35, Instr.sureAddr, fieldPlace, Tryd.sizeOf3, add_lit]
  rcases beq_split h with ⟨e, h⟩ | h
  · obtain ⟨rfl, rfl⟩ : T = 37 ∧ i = 0 := by omega
    cases h; simp [Instr.fieldAt, Sem.run_bind, Tryd.runUnderlying37, Instr.sureAddr, fieldPlace, Tryd.sizeOf3, add_lit]
  rcases beq_split h with ⟨e, h⟩ | h
  · obtain ⟨rfl, rfl⟩ : T = 37 ∧ i = 1 := by omega
    cases h; simp [Instr.fieldAt, Sem.run_bind, Tryd.runUnderlying37, Instr.sureAddr, fieldPlace, Tryd.sizeOf3, add_lit]
  rcases beq_split h with ⟨e, h⟩ | h
  · obtain ⟨rfl, rfl⟩ : T = 37 ∧ i = 2 := by omega
    cases h; simp [Instr.fieldAt, Sem.run_bind, Tryd.runUnderlying37, Instr.sureAddr, fieldPlace, Tryd.sizeOf3, add_lit]
  rcases beq_split h with ⟨e, h⟩ | h
  · obtain ⟨rfl, rfl⟩ : T = 37 ∧ i = 3 := by omega
    cases h; simp [Instr.fieldAt, Sem.run_bind, Tryd.runUnderlying37, Instr.sureAddr, fieldPlace, Tryd.sizeOf35, add_lit]
  rcases beq_split h with ⟨e, h⟩ | h
  · obtain ⟨rfl, rfl⟩ : T = 39 ∧ i = 0 := by omega
    cases h; simp [Instr.fieldAt, Sem.run_bind, Tryd.runUnderlying39, Instr.sureAddr, fieldPlace, Tryd.sizeOf3, add_lit]
  rcases beq_split h with ⟨e, h⟩ | h
  · obtain ⟨rfl, rfl⟩ : T = 39 ∧ i = 1 := by omega
    cases h; simp [Instr.fieldAt, Sem.run_bind, Tryd.runUnderlying39, Instr.sureAddr, fieldPlace, Tryd.sizeOf9, add_lit]
  rcases beq_split h with ⟨e, h⟩ | h
  · obtain ⟨rfl, rfl⟩ : T = 39 ∧ i = 2 := by omega
    cases h; simp [Instr.fieldAt, Sem.run_bind, Tryd.runUnderlying39, Instr.sureAddr, fieldPlace, Tryd.sizeOf9, add_lit]
  rcases beq_split h with ⟨e, h⟩ | h
  · obtain ⟨rfl, rfl⟩ : T = 39 ∧ i = 3 := by omega
    cases h; simp [Instr.fieldAt, Sem.run_bind, Tryd.runUnderlying39, Instr.sureAddr, fieldPlace, Tryd.sizeOf9, add_lit]
  rcases beq_split h with ⟨e, h⟩ | h
  · obtain ⟨rfl, rfl⟩ : T = 39 ∧ i = 4 := by omega
    cases h; simp [Instr.fieldAt, Sem.run_bind, Tryd.runUnderlying39, Instr.sureAddr, fieldPlace, Tryd.sizeOf37, add_lit]
  rcases beq_split h with ⟨e, h⟩ | h
  · obtain ⟨rfl, rfl⟩ : T = 41 ∧ i = 0 := by omega
    cases h; simp [Instr.fieldAt, Sem.run_bind, Tryd.runUnderlying41, Instr.sureAddr, fieldPlace, Tryd.sizeOf3, add_lit]
  rcases beq_split h with ⟨e, h⟩ | h
  · obtain ⟨rfl, rfl⟩ : T = 41 ∧ i = 1 := by omega
    cases h; simp [Instr.fieldAt, Sem.run_bind, Tryd.runUnderlying41, Instr.sureAddr, fieldPlace, Tryd.sizeOf3, add_lit]
  rcases beq_split h with ⟨e, h⟩ | h
  · obtain ⟨rfl, rfl⟩ : T = 41 ∧ i = 2 := by omega
    cases h; simp [Instr.fieldAt, Sem.run_bind, Tryd.runUnderlying41, Instr.sureAddr, fieldPlace, Tryd.sizeOf39, add_lit]
  rcases beq_split h with ⟨e, h⟩ | h
  · obtain ⟨rfl, rfl⟩ : T = 45 ∧ i = 0 := by omega
    cases h; simp [Instr.fieldAt, Sem.run_bind, Tryd.runUnderlying45, Instr.sureAddr, fieldPlace, Tryd.sizeOf3, add_lit]
  rcases beq_split h with ⟨e, h⟩ | h
  · obtain ⟨rfl, rfl⟩ : T = 45 ∧ i = 1 := by omega
    cases h; simp [Instr.fieldAt, Sem.run_bind, Tryd.runUnderlying45, Instr.sureAddr, fieldPlace, Tryd.sizeOf3, add_lit]
  rcases beq_split h with ⟨e, h⟩ | h
  · obtain ⟨rfl, rfl⟩ : T = 45 ∧ i = 2 := by omega
    cases h; simp [Instr.fieldAt, Sem.run_bind, Tryd.runUnderlying45, Instr.sureAddr, fieldPlace, Tryd.sizeOf42, add_lit]
  rcases beq_split h with ⟨e, h⟩ | h
  · obtain ⟨rfl, rfl⟩ : T = 45 ∧ i = 3 := by omega
    cases h; simp [Instr.fieldAt, Sem.run_bind, Tryd.runUnderlying45, Instr.sureAddr, fieldPlace, Tryd.sizeOf43, add_lit]
  rcases beq_split h with ⟨e, h⟩ | h
  · obtain ⟨rfl, rfl⟩ : T = 53 ∧ i = 0 := by omega
    cases h; simp [Instr.fieldAt, Sem.run_bind, Tryd.runUnderlying53, Instr.sureAddr, fieldPlace, Tryd.sizeOf9, add_lit]
  rcases beq_split h with ⟨e, h⟩ | h
  · obtain ⟨rfl, rfl⟩ : T = 53 ∧ i = 1 := by omega
    cases h; simp [Instr.fieldAt, Sem.run_bind, Tryd.runUnderlying53, Instr.sureAddr, fieldPlace, Tryd.sizeOf9, add_lit]
  rcases beq_split h with ⟨e, h⟩ | h
  · obtain ⟨rfl, rfl⟩ : T = 55 ∧ i = 0 := by omega
    cases h; simp [Instr.fieldAt, Sem.run_bind, Tryd.runUnderlying55, Instr.sureAddr, fieldPlace, Tryd.sizeOf3, add_lit]
  rcases beq_split h with ⟨e, h⟩ | h
  · obtain ⟨rfl, rfl⟩ : T = 55 ∧ i = 1 := by omega
    cases h; simp [Instr.fieldAt, Sem.run_bind, Tryd.runUnderlying55, Instr.sureAddr, fieldPlace, Tryd.sizeOf35, add_lit]
  rcases beq_split h with ⟨e, h⟩ | h
  · obtain ⟨rfl, rfl⟩ : T = 90 ∧ i = 0 := by omega
    cases h; simp [Instr.fieldAt, Sem.run_bind, Tryd.runUnderlying90, Instr.sureAddr, fieldPlace, Tryd.sizeOf41, add_lit]
  rcases beq_split h with ⟨e, h⟩ | h
  · obtain ⟨rfl, rfl⟩ : T = 90 ∧ i = 1 := by omega
    cases h; simp [Instr.fieldAt, Sem.run_bind, Tryd.runUnderlying90, Instr.sureAddr, fieldPlace, Tryd.sizeOf45, add_lit]
  rcases beq_split h with ⟨e, h⟩ | h
  · obtain ⟨rfl, rfl⟩ : T = 90 ∧ i = 2 := by omega
    cases h; simp [Instr.fieldAt, Sem.run_bind, Tryd.runUnderlying90, Instr.sureAddr, fieldPlace, Tryd.sizeOf3, add_lit]
  rcases beq_split h with ⟨e, h⟩ | h
  · obtain ⟨rfl, rfl⟩ : T = 90 ∧ i = 3 := by omega
    cases h; simp [Instr.fieldAt, Sem.run_bind, Tryd.runUnderlying90, Instr.sureAddr, fieldPlace, Tryd.sizeOf3, add_lit]
  rcases beq_split h with ⟨e, h⟩ | h
  · obtain ⟨rfl, rfl⟩ : T = 94 ∧ i = 0 := by omega
    cases h; simp [Instr.fieldAt, Sem.run_bind, Tryd.runUnderlying94, Instr.sureAddr, fieldPlace, Tryd.sizeOf3, add_lit]
  rcases beq_split h with ⟨e, h⟩ | h
  · obtain ⟨rfl, rfl⟩ : T = 94 ∧ i = 1 := by omega
    cases h; simp [Instr.fieldAt, Sem.run_bind, Tryd.runUnderlying94, Instr.sureAddr, fieldPlace, Tryd.sizeOf3, add_lit]
  rcases beq_split h with ⟨e, h⟩ | h
  · obtain ⟨rfl, rfl⟩ : T = 119 ∧ i = 0 := by omega
    cases h; simp [Instr.fieldAt, Sem.run_bind, Tryd.runUnderlying119, Instr.sureAddr, fieldPlace, Tryd.sizeOf117, add_lit]
  cases h
end Go.Proofs.YtchnnplcpidkiaaDoor
