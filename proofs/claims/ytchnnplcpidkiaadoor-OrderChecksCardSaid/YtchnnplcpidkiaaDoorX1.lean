/- Contracts of maps, of Same and of the writer of replies; conditions: the bounds that each theorem names (M1, C25, C26, W1, W2, W3, W4, put together). -/
import Derived.Test.YtchnnplcpidkiaaDoorC23
import Derived.DeepKeys4
import Derived.Maps.Keyed
import Derived.Lib.AppendStr
import Derived.Laws.BytesString
namespace Go.Proofs.YtchnnplcpidkiaaDoor
open Go.RowKit
set_option linter.unusedSimpArgs false
set_option linter.unusedVariables false
set_option maxRecDepth 20000

theorem laidOutT : laidOutB Tryd.prog = true := by kernel_rfl
theorem small94 : (94 : Nat) < Tryd.prog.types.size := of_decide_eq_true (by kernel_rfl)
theorem kt94 : Tryd.prog.keyTypeAt 4 94 = true := by kernel_rfl
theorem key94 : Tryd.prog.keyType 94 = true := by kernel_rfl
theorem cells94 : Tryd.prog.cellsOf 94 = 2 := by kernel_rfl
theorem types_pos : ∃ m, Tryd.prog.types.size = m + 1 := ⟨Tryd.prog.types.size - 1, by have := small94; omega⟩
theorem keyed94 : Maps.Keyed Tryd.prog 94 := Maps.Keyed.of_law (deep_law_laid laidOutT (m := 4) (by omega) small94 kt94 (by rw [Tryd.underlying94]))
/-- A key. -/
def kv (k : Int × Int) : Value := .agg [.int .i64 k.1, .int .i64 k.2].toArray
theorem kv_inj {k l : Int × Int} (h : kv k = kv l) : k = l := by
  simp only [kv, Value.agg.injEq] at h
  have h1 := congrArg Array.toList h
  simp at h1
  exact Prod.ext h1.1 h1.2
theorem kl_name {d : Nat} {k : Int × Int} (h1 : I64 k.1) (h2 : I64 k.2) : KL (d + 2) 94 [.int .i64 k.1, .int .i64 k.2] := by
  refine kl_struct Tryd.underlying94 cells94.symm (by simp) fun f hf => ?_
  simp only [List.mem_cons, List.not_mem_nil, or_false] at hf
  rcases hf with rfl | rfl
  · show KL (d + 1) 3 _; rw [cells3]; exact kl_int h1
  · show KL (d + 1) 3 _; rw [cells3]; exact kl_int h2
theorem keyOf_kv {k : Int × Int} (h1 : I64 k.1) (h2 : I64 k.2) : ∃ l, keyOf Tryd.prog 94 (kv k) = some l := by
  obtain ⟨m, hm⟩ := types_pos
  obtain ⟨la, hla⟩ := kl_name (d := m) (k := k) h1 h2
  have hf : (kv k).formed Tryd.prog 94 = true := by simp [kv, Value.formed, Tryd.underlying94, cells94]
  refine ⟨.string (keyBytes la), ?_⟩
  unfold keyOf
  rw [Tryd.underlying94]
  simp only [key94, hf, Bool.and_self, if_true]
  rw [hm, show m + 1 + 1 = m + 2 by omega, show (kv k).cells.toList = [.int .i64 k.1, .int .i64 k.2] by simp [kv, Value.cells], hla]
  rfl
/-- The map in block b gives g. -/
structure MapAt (w : World) (b : Nat) (g : Int × Int → Option Value) : Prop where
  form : ∃ es clock, w.heap[b]? = some (.map es clock) ∧ (∀ e ∈ es.toList, ∃ k : Int × Int, (I64 k.1 ∧ I64 k.2) ∧ e.key = kv k ∧ g k = some e.val) ∧ (∀ k v, g k = some v → ∃ e ∈ es.toList, e.key = kv k) ∧ es.toList.Pairwise (fun a b => a.key ≠ b.key)
def MapIs (F : Nat → Prop) (w : World) (b : Nat) (g : Int × Int → Option Value) : Prop := F b ∧ MapAt w b g
theorem MapAt.lt {w : World} {b : Nat} {g : Int × Int → Option Value} (h : MapAt w b g) : b < w.heap.size := by
  obtain ⟨es, clock, h1, _⟩ := h.form
  exact (Array.getElem?_eq_some_iff.1 h1).1
theorem MapIs.step {F F' : Nat → Prop} {w w' : World} {b : Nat} {g : Int × Int → Option Value} (h : MapIs F w b g) (hs : Step F w F' w') : MapIs F' w' b g := by
  obtain ⟨h1, h2⟩ := hs b h.2.lt h.1
  obtain ⟨es, clock, h3, h4⟩ := h.2.form
  exact ⟨h2, es, clock, h1.trans h3, h4⟩
theorem run_look {w : World} {b T e : Nat} {g : Int × Int → Option Value} {k : Int × Int} {z : Value} (hm : MapAt w b g) (ht : Tryd.prog.underlying T = some (.map 94 e)) (hz : (zeroValue e).run Tryd.prog w = .ok z w) (h1 : I64 k.1) (h2 : I64 k.2) (c : Bool) :
    (Instr.lookup T (.map (some b)) (kv k) c).run Tryd.prog w = .ok (if c then .tuple #[(g k).getD z, .bool (g k).isSome] else (g k).getD z) w := by
  obtain ⟨es, clock, hb, h3, h4, h5⟩ := hm.form
  obtain ⟨kl, hkey⟩ := keyOf_kv h1 h2
  rcases keyed94.find w hkey es.toList (fun x hx => by
    obtain ⟨k', h6, h7, _⟩ := h3 x hx
    rw [h7]; exact keyOf_kv h6.1 h6.2) with ⟨h6, h7⟩ | ⟨j, e0, h6, h7, h8⟩
  · have hg : g k = none := by
      cases hg : g k with
      | none => rfl
      | some v =>
        obtain ⟨x, hx, hx2⟩ := h4 k v hg
        exact absurd hx2 (h7 x hx)
    rw [hg]
    simp [Instr.lookup, run_underlying ht, MapKept.run_getObj_map hb, keyed94.check w _ hkey, h6, hz, Result.andThen]
  · have hg : g k = some e0.val := by
      obtain ⟨k', _, h9, h10⟩ := h3 e0 (List.mem_of_getElem? h7)
      have : k' = k := kv_inj (h9.symm.trans h8)
      rw [← this]; exact h10
    rw [hg]
    simp [Instr.lookup, run_underlying ht, MapKept.run_getObj_map hb, keyed94.check w _ hkey, h6, Result.andThen]
def gput (g : Int × Int → Option Value) (k : Int × Int) (v : Value) : Int × Int → Option Value := fun k' => if k' = k then some v else g k'
theorem heap_setBlock {w : World} {b : Nat} {o : Obj} (hb : b < w.heap.size) : (ChangeMaps.setBlock w b o).heap[b]? = some o := by
  simp [ChangeMaps.setBlock, hb]
theorem run_upd {w : World} {b T e : Nat} {g : Int × Int → Option Value} {k : Int × Int} {v : Value} (hm : MapAt w b g) (ht : Tryd.prog.underlying T = some (.map 94 e)) (h1 : I64 k.1) (h2 : I64 k.2) :
    ∃ o, (Instr.mapUpdate T (.map (some b)) (kv k) v).run Tryd.prog w = .ok () (ChangeMaps.setBlock w b o) ∧ MapAt (ChangeMaps.setBlock w b o) b (gput g k v) := by
  have hlt := hm.lt
  obtain ⟨es, clock, hb, h3, h4, h5⟩ := hm.form
  obtain ⟨kl, hkey⟩ := keyOf_kv h1 h2
  rcases keyed94.find w hkey es.toList (fun x hx => by
    obtain ⟨k', h6, h7, _⟩ := h3 x hx
    rw [h7]; exact keyOf_kv h6.1 h6.2) with ⟨h6, h7⟩ | ⟨j, e0, h6, h7, h8⟩
  · refine ⟨.map (es.push ⟨kv k, v, clock⟩) (clock + 1), ?_, _, _, heap_setBlock hlt, ?_, ?_, ?_⟩
    · simp [Instr.mapUpdate, run_underlying ht, MapKept.run_getObj_map hb, keyed94.check w _ hkey, h6, MapKept.run_setObj_map _ hb, Result.andThen, ChangeMaps.setBlock]
    · intro x hx
      rw [Array.toList_push] at hx
      rcases List.mem_append.1 hx with hx | hx
      · obtain ⟨k', h9, h10, h11⟩ := h3 x hx
        refine ⟨k', h9, h10, ?_⟩
        unfold gput
        rw [if_neg (fun e => h7 x hx (by rw [h10, e]))]
        exact h11
      · rw [List.mem_singleton.1 hx]
        exact ⟨k, ⟨h1, h2⟩, rfl, by simp [gput]⟩
    · intro k' v' hg
      rw [Array.toList_push]
      unfold gput at hg
      split at hg
      · rename_i he
        exact ⟨_, List.mem_append_right _ (List.mem_singleton.2 rfl), by rw [he]⟩
      · obtain ⟨x, hx, hx2⟩ := h4 k' v' hg
        exact ⟨x, List.mem_append_left _ hx, hx2⟩
    · rw [Array.toList_push]
      refine List.pairwise_append.2 ⟨h5, List.pairwise_singleton _ _, fun x hx y hy => ?_⟩
      rw [List.mem_singleton.1 hy]
      exact h7 x hx
  · have hj : es[j]? = some e0 := by simpa using h7
    have hlist : (es.modify j (fun e' => { e' with key := kv k, val := v })).toList = es.toList.set j { e0 with key := kv k, val := v } := by rw [Array.toList_modify, ChangeMaps.modify_eq_set _ _ _ _ h7]
    have hjl : j < es.toList.length := (List.getElem?_eq_some_iff.1 h7).1
    have who : ∀ x ∈ es.toList.set j { e0 with key := kv k, val := v }, x = { e0 with key := kv k, val := v } ∨ (x ∈ es.toList ∧ x.key ≠ kv k) := by
      intro x hx
      obtain ⟨i, hi, ex⟩ := List.getElem_of_mem hx
      rw [List.getElem_set] at ex
      split at ex
      · exact Or.inl ex.symm
      · rename_i hne
        have hi' : i < es.toList.length := by simpa using hi
        refine Or.inr ⟨ex ▸ List.getElem_mem hi', ?_⟩
        rw [← h8, ← ex]
        have hje : es.toList[j] = e0 := (List.getElem?_eq_some_iff.1 h7).2
        have hke : e0.key = es.toList[j].key := by rw [hje]
        rw [hke]
        rcases Nat.lt_or_gt_of_ne hne with hlt2 | hlt2
        · exact fun he => List.pairwise_iff_getElem.1 h5 j i hjl hi' hlt2 he.symm
        · exact List.pairwise_iff_getElem.1 h5 i j hi' hjl hlt2
    refine ⟨.map (es.modify j (fun e' => { e' with key := kv k, val := v })) clock, ?_, _, _, heap_setBlock hlt, ?_, ?_, ?_⟩
    · simp [Instr.mapUpdate, run_underlying ht, MapKept.run_getObj_map hb, keyed94.check w _ hkey, h6, hj, h8, keyed94.stays w hkey, MapKept.run_setObj_map _ hb, Result.andThen, ChangeMaps.setBlock]
    · intro x hx
      rw [hlist] at hx
      rcases who x hx with rfl | ⟨hx', hne⟩
      · exact ⟨k, ⟨h1, h2⟩, rfl, by simp [gput]⟩
      · obtain ⟨k', h9, h10, h11⟩ := h3 x hx'
        refine ⟨k', h9, h10, ?_⟩
        unfold gput
        rw [if_neg (fun e => hne (by rw [h10, e]))]
        exact h11
    · intro k' v' hg
      rw [hlist]
      unfold gput at hg
      have hnew : ({ e0 with key := kv k, val := v } : MapEntry) ∈ es.toList.set j { e0 with key := kv k, val := v } := List.mem_iff_getElem.2 ⟨j, by simpa using hjl, by simp⟩
      split at hg
      · rename_i he
        exact ⟨_, hnew, by rw [he]⟩
      · rename_i hne
        obtain ⟨x, hx, hx2⟩ := h4 k' v' hg
        obtain ⟨i, hi, ex⟩ := List.getElem_of_mem hx
        refine ⟨x, List.mem_iff_getElem.2 ⟨i, by simpa using hi, ?_⟩, hx2⟩
        rw [List.getElem_set, if_neg, ex]
        intro e
        subst e
        have hje : es.toList[j] = e0 := (List.getElem?_eq_some_iff.1 h7).2
        rw [hje] at ex
        rw [← ex, h8] at hx2
        exact hne (kv_inj hx2).symm
    · rw [hlist]
      have hmap : (es.toList.set j { e0 with key := kv k, val := v }).map (·.key) = es.toList.map (·.key) := by
        rw [List.map_set]
        have hje : es.toList[j] = e0 := (List.getElem?_eq_some_iff.1 h7).2
        refine List.ext_getElem (by simp) fun i hi1 hi2 => ?_
        rw [List.getElem_set]
        split
        · rename_i he
          subst he
          rw [List.getElem_map, hje, h8]
        · rfl
      have h9 : (es.toList.map (·.key)).Pairwise (· ≠ ·) := List.pairwise_map.2 h5
      rw [← hmap] at h9
      exact List.pairwise_map.1 h9
section
variable {X : Cx} {E : Env} {S : Sto} {F : Nat → Prop} {w1 : World}
theorem JO.makeMap {d : Nat} {T : Nat} {t : TypeId} {pos : String} {af : Array Edge} {K : Kon} (hN : Nat.blt d X.N = true)
    (h : ∀ b w', X.w0.heap.size ≤ b → w1.heap.size ≤ b → MapIs (Al X S) w' b (fun _ => none) → Step F w1 (Al X S) w' → w1.heap.size ≤ w'.heap.size → K (upd E d (.map (some b))) S (Al X S) w') : JO X ⟨some d, .makeMap T none, t, pos, af, none⟩ E S F w1 K := fun w a Q' hc ha => by
  have hrun : (execOp (ev E) ⟨some d, .makeMap T none, t, pos, af, none⟩).run Tryd.prog w = .ok (.value (.map (some w.heap.size))) (w.alloc (.map #[] 0)) := by
    simp [execOp, Sem.run_bind, Instr.makeMap, newObj, Sem.run]
  have hb : BelowM X.md X.w0 (w.alloc (.map #[] 0)) := hc.below.alloc _
  have hsame : ∀ k, k < w.heap.size → (w.alloc (.map #[] 0)).heap[k]? = w.heap[k]? := fun k hk => Below.heap_alloc w _ k hk
  have hown : ∀ e ∈ S, ∀ b, e.1 = some b → (X.w0.heap.size ≤ b ∨ b ∈ X.md) ∧ (w.alloc (.map #[] 0)).heap[b]? = some (.cells e.2.2.toArray e.2.1 (0, 0)) := fun e he b hbb => by
    obtain ⟨h1, h2⟩ := hc.own e he b hbb
    exact ⟨h1, (hsame b (Array.getElem?_eq_some_iff.1 h2).1).trans h2⟩
  have hst : Step F w1 (Al X S) (w.alloc (.map #[] 0)) := fun k hk hF => by
    obtain ⟨h1, h2⟩ := hc.step k hk hF
    exact ⟨(hsame k (Nat.lt_of_lt_of_le hk hc.size)).trans h1, h2⟩
  have hsz : w.heap.size ≤ (w.alloc (.map #[] 0)).heap.size := by simp
  unfold Oper.wp
  rw [ha.eval, hrun]
  refine ⟨_, _, _, _, ha.put d _ hN, ⟨hb, Nat.le_refl _, hown, hc.nodup, fun _ _ h => ⟨rfl, h⟩⟩, h w.heap.size _ hc.below.size hc.size ⟨⟨.inr hc.below.size, fun hm => absurd (hc.lt hm) (Nat.lt_irrefl _)⟩, ⟨#[], 0, by show (w.heap.push _)[w.heap.size]? = _; rw [Array.getElem?_push_size], fun e he => absurd he (by simp), fun k v hg => (by cases hg), List.Pairwise.nil⟩⟩ hst (Nat.le_trans hc.size hsz)⟩
theorem JO.mapUpd {T e : Nat} {t : TypeId} {pos : String} {af : Array Edge} {K : Kon} {m x y : Operand} {b : Nat} {g : Int × Int → Option Value} {k : Int × Int} (hm : MapIs F w1 b g) (hb0 : X.w0.heap.size ≤ b) (ht : Tryd.prog.underlying T = some (.map 94 e)) (h1 : I64 k.1) (h2 : I64 k.2) (hx : ev E m = .map (some b)) (hk : ev E x = kv k)
    (h : ∀ w', MapIs (Al X S) w' b (gput g k (ev E y)) → Step (fun k => F k ∧ k ≠ b) w1 (Al X S) w' → w1.heap.size ≤ w'.heap.size → K E S (Al X S) w') : JO X ⟨none, .mapUpdate T m x y, t, pos, af, none⟩ E S F w1 K := fun w a Q' hc ha => by
  have hm' := hm.step hc.step
  obtain ⟨o, hr, hm2⟩ := run_upd (v := ev E y) hm'.2 ht h1 h2
  have hrun : (execOp (ev E) ⟨none, .mapUpdate T m x y, t, pos, af, none⟩).run Tryd.prog w = .ok .skip (ChangeMaps.setBlock w b o) := by
    simp [execOp, Sem.run_bind, hx, hk, hr]
  have hsame : ∀ k, k ≠ b → (ChangeMaps.setBlock w b o).heap[k]? = w.heap[k]? := fun k hk => by
    simp only [ChangeMaps.setBlock, Array.getElem?_setIfInBounds]
    rw [if_neg (fun e => hk e.symm)]
  have hsz : (ChangeMaps.setBlock w b o).heap.size = w.heap.size := by simp [ChangeMaps.setBlock]
  have hb : BelowM X.md X.w0 (ChangeMaps.setBlock w b o) := ⟨hc.below.os, hc.below.tape, hc.below.output, by rw [hsz]; exact hc.below.size, fun k hk hmd => (hsame k (by omega)).trans (hc.below.block k hk hmd)⟩
  have hown : ∀ e ∈ S, ∀ b', e.1 = some b' → (X.w0.heap.size ≤ b' ∨ b' ∈ X.md) ∧ (ChangeMaps.setBlock w b o).heap[b']? = some (.cells e.2.2.toArray e.2.1 (0, 0)) := fun e he b' hbb => by
    obtain ⟨h3, h4⟩ := hc.own e he b' hbb
    exact ⟨h3, (hsame b' (fun e' => hm'.1.2 (e' ▸ blks_mem.2 ⟨e, he, hbb⟩))).trans h4⟩
  have hst : Step (fun k => F k ∧ k ≠ b) w1 (Al X S) (ChangeMaps.setBlock w b o) := fun k hk hF => by
    obtain ⟨h3, h4⟩ := hc.step k hk hF.1
    exact ⟨(hsame k hF.2).trans h3, h4⟩
  unfold Oper.wp
  rw [ha.eval, hrun]
  exact ⟨_, _, _, _, ha.put_none _, ⟨hb, Nat.le_refl _, hown, hc.nodup, fun _ _ h => ⟨rfl, h⟩⟩, h _ ⟨hm'.1, hm2⟩ hst (by rw [hsz]; exact hc.size)⟩
theorem y_look {d : Option Tmp} {t : TypeId} {pos : String} {af : Array Edge} {gd : Option (Nat × Bool)} {T e sz bt : Nat} {ag : Bool} {z : List Value} {m x : Operand} {b : Nat} {g : Int × Int → Option Value} {k : Int × Int} (c : Bool) (zv : Value) (hm : MapIs F w1 b g) (ht : Tryd.prog.underlying T = some (.map 94 e)) (hz : ∀ w, (zeroValue e).run Tryd.prog w = .ok zv w) (h1 : I64 k.1) (h2 : I64 k.2) (hx : ev E m = .map (some b)) (hk : ev E x = kv k) :
    Yields X ⟨d, .lookup T m x c, t, pos, af, gd⟩ E S F w1 (if c then .tuple #[(g k).getD zv, .bool (g k).isSome] else (g k).getD zv) := fun w hc => by
  have := run_look (hm.step hc.step).2 ht (hz w) h1 h2 c
  simp [execOp, Sem.run_bind, hx, hk, this]
end
end Go.Proofs.YtchnnplcpidkiaaDoor
namespace Go.Proofs.YtchnnplcpidkiaaDoor
open Go.RowKit
set_option linter.unusedSimpArgs false
set_option linter.unusedVariables false
set_option maxRecDepth 20000
set_option maxHeartbeats 16000000

def sameR (a b : LReply) : Bool := decide (a.client = b.client) && (decide (a.num = b.num) && (decide (a.code = b.code) && decide (a.vals = b.vals)))
theorem texts_any (F : Nat → Prop) (A B : Option Addr) (cap cap' : Nat) (ss tt : List ByteArray) (w : World) (h : RStrs F w A cap ss) (h' : RStrs F w B cap' tt) (hn : ss.length ≤ 100000) :
    CallsTo 36 #[.slice A ss.length cap, .slice B tt.length cap'] w (fun v _ => v = .bool (decide (ss = tt))) := by
  refine CallsTo.enter 26 (fun _ => True) F Tryd.func36 rfl rfl rfl rfl (by intros; first | trivial | assumption) ?_
  with_reducible refine JC.seq ?_
  with_reducible refine JC.region ?_
  refine JL.op (JO.val (y_assign) rfl ?_)
  with_reducible refine JL.nil ?_
  with_reducible refine JQ.seq (JC.seq (JC.seq ?_))
  with_reducible refine JC.region ?_
  refine JL.op (JO.val (y_move) rfl ?_)
  refine JL.op (JO.val (y_len rfl rfl) rfl ?_)
  refine JL.op (JO.val (y_move) rfl ?_)
  refine JL.op (JO.val (y_len rfl rfl) rfl ?_)
  refine JL.op (JO.val (y_neq rfl rfl) rfl ?_)
  with_reducible refine JL.nil ?_
  with_reducible refine JQ.seq ?_
  refine JC.cond rfl (fun hg => ?_) (fun hg => ?_)
  · have hne : ss ≠ tt := fun e => by subst e; simp at hg
    with_reducible refine JC.seq ?_
    with_reducible refine JC.region ?_
    refine JL.op (JO.val (y_assign) rfl ?_)
    with_reducible refine JL.nil ?_
    with_reducible refine JQ.seq (JC.ret (JQ.seq_ret ?_))
    exact ret_one rfl ResV.tmp (fun w _ => congrArg Value.bool (by simp [hne]))
  have hll : ss.length = tt.length := by simp at hg; omega
  with_reducible refine JC.skip (JQ.seq (JC.seq (JC.seq ?_)))
  with_reducible refine JC.region ?_
  refine JL.op (JO.val (y_move) rfl ?_)
  refine JL.op (JO.val (y_len rfl rfl) rfl ?_)
  refine JL.op (JO.val (y_move) rfl ?_)
  with_reducible refine JL.nil ?_
  with_reducible refine JQ.seq (JC.block ?_)
  refine JC.loop (fun m E S F' w1' => ∃ k : Nat, m = ss.length - k ∧ k ≤ ss.length ∧ ss.take k = tt.take k ∧ S = [] ∧ F' = F ∧ w1' = w ∧ Has E [(0, .slice A ss.length cap), (1, .slice B tt.length cap'), (12, .int .i64 (ss.length : Nat)), (13, .int .i64 (k : Nat))])
    _ ⟨0, rfl, Nat.zero_le _, rfl, rfl, rfl, rfl, ⟨rfl, rfl, rfl, rfl, trivial⟩⟩ ?_
  rintro m E S F' w1' ⟨k, rfl, hk, htk, rfl, rfl, rfl, hE⟩
  refine JC.env hE (fun E => ?_)
  with_reducible refine JC.seq ?_
  with_reducible refine JC.region ?_
  refine JL.op (JO.val (y_lss rfl rfl) rfl ?_)
  with_reducible refine JL.nil ?_
  with_reducible refine JQ.seq (JC.seq ?_)
  by_cases hlt : k < ss.length
  · have hd : decide ((k : Int) < (ss.length : Int)) = true := by simpa using hlt
    refine JC.cond_true (congrArg Value.bool hd) ?_
    obtain ⟨x, hx⟩ : ∃ x, ss[k]? = some x := ⟨ss[k], by simp [hlt]⟩
    obtain ⟨y, hy⟩ : ∃ y, tt[k]? = some y := ⟨tt[k]'(by omega), List.getElem?_eq_getElem (by omega)⟩
    obtain ⟨b, o, hA, hat⟩ := SlF.elem h (fun s _ => rfl) rfl hx
    obtain ⟨b', o', hA', hat'⟩ := SlF.elem h' (fun s _ => rfl) rfl hy
    with_reducible refine JC.skip (JQ.seq (JC.seq (JC.block (JC.seq ?_))))
    with_reducible refine JC.region ?_
    refine JL.op (JO.val (y_move) rfl ?_)
    refine JL.op (JO.val (y_assign) rfl ?_)
    with_reducible refine JL.nil ?_
    with_reducible refine JQ.seq (JC.seq ?_)
    refine JC.quiet (by kernel_rfl) ?_
    first | refine JT.val (y_move) rfl ?_
    first | refine JT.val (y_move) rfl ?_
    refine JT.val (y_idx (b := b) (o := o) rfl rfl rfl rfl hA rfl hlt) rfl ?_
    refine JT.val (y_ldd rfl rfl hat) rfl ?_
    first | refine JT.val (y_move) rfl ?_
    first | refine JT.val (y_move) rfl ?_
    refine JT.val (y_idx (b := b') (o := o') rfl rfl rfl rfl hA' rfl (hll ▸ hlt)) rfl ?_
    refine JT.val (y_ldd rfl rfl hat') rfl ?_
    first | refine JT.val (y_nes rfl rfl) rfl ?_
    refine JT.nil ?_
    with_reducible refine JQ.seq ?_
    refine JC.cond (b := !(x.toList == y.toList)) rfl (fun hg2 => ?_) (fun hg2 => ?_)
    · have hne : ss ≠ tt := fun e => by
        subst e
        rw [hx] at hy; cases hy
        simp at hg2
      with_reducible refine JC.seq ?_
      with_reducible refine JC.region ?_
      refine JL.op (JO.val (y_assign) rfl ?_)
      with_reducible refine JL.nil ?_
      with_reducible refine JQ.seq (JC.ret (JQ.blk_ret (JQ.seq_ret (JQ.loop_ret (JQ.blk_ret (JQ.seq_ret ?_))))))
      exact ret_one rfl ResV.tmp (fun w _ => congrArg Value.bool (by simp [hne]))
    · have hxy : x = y := by rw [beq_key] at hg2; simpa using hg2
      with_reducible refine JC.skip (JQ.blk (JQ.seq ?_))
      with_reducible refine JC.region ?_
      refine JL.op (JO.val (y_add rfl rfl (natAdd hk hn)) rfl ?_)
      refine JL.op (JO.val (y_move) rfl ?_)
      with_reducible refine JL.nil ?_
      exact JQ.loop (ss.length - (k + 1)) ⟨k + 1, rfl, hlt, by rw [take_snoc hx, take_snoc hy, htk, hxy], rfl, rfl, rfl, ⟨rfl, rfl, rfl, rfl, trivial⟩⟩ (by omega)
  · have hd : decide ((k : Int) < (ss.length : Int)) = false := by simpa using hlt
    refine JC.cond_false (congrArg Value.bool hd) ?_
    obtain rfl : k = ss.length := by omega
    have he : ss = tt := by
      rw [List.take_length] at htk
      rw [hll, List.take_length] at htk
      exact htk
    with_reducible refine JC.exit (JQ.seq_exit (JQ.loop_exit (JQ.blk_here (JQ.seq (JC.seq ?_)))))
    with_reducible refine JC.region ?_
    refine JL.op (JO.val (y_assign) rfl ?_)
    with_reducible refine JL.nil ?_
    with_reducible refine JQ.seq (JC.ret ?_)
    exact ret_one rfl ResV.tmp (fun w _ => congrArg Value.bool (by simp [he]))
theorem same9_any (F : Nat → Prop) (cs cs' : List Value) (r r' : LReply) (w : World) (h : RReply F w cs r) (h' : RReply F w cs' r') (hn : r.vals.length ≤ 100000) :
    CallsTo 12 #[.agg cs.toArray, .agg cs'.toArray] w (fun v _ => v = .bool (sameR r r')) := by
  obtain ⟨A, cap, rfl, hs⟩ := h.form
  obtain ⟨B, cap', rfl, hs'⟩ := h'.form
  refine CallsTo.enter 31 (fun _ => True) F Tryd.func12 rfl rfl rfl rfl (by intros; first | trivial | assumption) ?_
  with_reducible refine JC.seq ?_
  with_reducible refine JC.region ?_
  refine JL.op (JO.box rfl rfl ?_); intro b2
  refine JL.op (JO.box rfl rfl ?_); intro b3
  refine JL.op (JO.val (y_assign) rfl ?_)
  with_reducible refine JL.nil ?_
  with_reducible refine JQ.seq (JC.seq ?_)
  refine JC.cutS [(4, .bool (sameR r r'))] ?_ (fun E => ?_)
  · with_reducible refine JC.region ?_
    refine JL.op (JO.val (y_fieldAddr rfl rfl rfl) rfl ?_)
    refine JL.op (JO.val (y_ld 0 rfl rfl rfl rfl) rfl ?_)
    refine JL.op (JO.val (y_fieldAddr rfl rfl rfl) rfl ?_)
    refine JL.op (JO.val (y_ld 1 rfl rfl rfl rfl) rfl ?_)
    refine JL.op (JO.val (y_eql rfl rfl) rfl ?_)
    refine JL.op (JO.val (y_move) rfl ?_)
    refine JL.split (d := 10) rfl (fun hg5 => ?_) (fun hg5 => ?_)
    · refine JL.op_do rfl rfl (congrArg Value.bool hg5) (JO.val (y_fieldAddr rfl rfl rfl) rfl ?_)
      refine JL.op_do rfl rfl (congrArg Value.bool hg5) (JO.val (y_ld 0 rfl rfl rfl rfl) rfl ?_)
      refine JL.op_do rfl rfl (congrArg Value.bool hg5) (JO.val (y_fieldAddr rfl rfl rfl) rfl ?_)
      refine JL.op_do rfl rfl (congrArg Value.bool hg5) (JO.val (y_ld 1 rfl rfl rfl rfl) rfl ?_)
      refine JL.op_do rfl rfl (congrArg Value.bool hg5) (JO.val (y_eql rfl rfl) rfl ?_)
      refine JL.op (JO.val (y_pick (congrArg Value.bool hg5)) rfl ?_)
      refine JL.op (JO.val (y_move) rfl ?_)
      refine JL.split (d := 17) rfl (fun hg12 => ?_) (fun hg12 => ?_)
      · refine JL.op_do rfl rfl (congrArg Value.bool hg12) (JO.val (y_fieldAddr rfl rfl rfl) rfl ?_)
        refine JL.op_do rfl rfl (congrArg Value.bool hg12) (JO.val (y_ld 0 rfl rfl rfl rfl) rfl ?_)
        refine JL.op_do rfl rfl (congrArg Value.bool hg12) (JO.val (y_fieldAddr rfl rfl rfl) rfl ?_)
        refine JL.op_do rfl rfl (congrArg Value.bool hg12) (JO.val (y_ld 1 rfl rfl rfl rfl) rfl ?_)
        refine JL.op_do rfl rfl (congrArg Value.bool hg12) (JO.val (y_eql rfl rfl) rfl ?_)
        refine JL.op (JO.val (y_pick (congrArg Value.bool hg12)) rfl ?_)
        refine JL.op (JO.val (y_move) rfl ?_)
        refine JL.split (d := 24) rfl (fun hg19 => ?_) (fun hg19 => ?_)
        · refine JL.op_do rfl rfl (congrArg Value.bool hg19) (JO.val (y_fieldAddr rfl rfl rfl) rfl ?_)
          refine JL.op_do rfl rfl (congrArg Value.bool hg19) (JO.val (y_ld 0 rfl rfl rfl rfl) rfl ?_)
          refine JL.op_do rfl rfl (congrArg Value.bool hg19) (JO.val (y_fieldAddr rfl rfl rfl) rfl ?_)
          refine JL.op_do rfl rfl (congrArg Value.bool hg19) (JO.val (y_ld 1 rfl rfl rfl rfl) rfl ?_)
          refine JL.op_do rfl rfl (congrArg Value.bool hg19) (JO.callv (fun wc hc => texts_any _ A B cap cap' r.vals r'.vals wc (hs.step hc.step) (hs'.step hc.step) hn) rfl rfl rfl ?_)
          refine JL.op (JO.val (y_pick (congrArg Value.bool hg19)) rfl ?_)
          refine JL.op (JO.val (y_assign) rfl ?_)
          with_reducible refine JL.nil ?_
          exact JQ.has ⟨congrArg Value.bool (by unfold sameR; rw [hg5, hg12, hg19]; simp), trivial⟩ (fun _ h => h)
        · refine JL.op_skip rfl rfl (congrArg Value.bool hg19) rfl ?_
          refine JL.op_skip rfl rfl (congrArg Value.bool hg19) rfl ?_
          refine JL.op_skip rfl rfl (congrArg Value.bool hg19) rfl ?_
          refine JL.op_skip rfl rfl (congrArg Value.bool hg19) rfl ?_
          refine JL.op_skip rfl rfl (congrArg Value.bool hg19) rfl ?_
          refine JL.op (JO.val (y_pick (congrArg Value.bool hg19)) rfl ?_)
          refine JL.op (JO.val (y_assign) rfl ?_)
          with_reducible refine JL.nil ?_
          exact JQ.has ⟨congrArg Value.bool (by unfold sameR; rw [hg5, hg12, hg19]; simp), trivial⟩ (fun _ h => h)
      · refine JL.op_skip rfl rfl (congrArg Value.bool hg12) rfl ?_
        refine JL.op_skip rfl rfl (congrArg Value.bool hg12) rfl ?_
        refine JL.op_skip rfl rfl (congrArg Value.bool hg12) rfl ?_
        refine JL.op_skip rfl rfl (congrArg Value.bool hg12) rfl ?_
        refine JL.op_skip rfl rfl (congrArg Value.bool hg12) rfl ?_
        refine JL.op (JO.val (y_pick (congrArg Value.bool hg12)) rfl ?_)
        refine JL.op (JO.val (y_move) rfl ?_)
        refine JL.op_skip rfl rfl rfl rfl ?_
        refine JL.op_skip rfl rfl rfl rfl ?_
        refine JL.op_skip rfl rfl rfl rfl ?_
        refine JL.op_skip rfl rfl rfl rfl ?_
        refine JL.op_skip rfl rfl rfl rfl ?_
        refine JL.op (JO.val (y_pick rfl) rfl ?_)
        refine JL.op (JO.val (y_assign) rfl ?_)
        with_reducible refine JL.nil ?_
        exact JQ.has ⟨congrArg Value.bool (by unfold sameR; rw [hg5, hg12]; rfl), trivial⟩ (fun _ h => h)
    · refine JL.op_skip rfl rfl (congrArg Value.bool hg5) rfl ?_
      refine JL.op_skip rfl rfl (congrArg Value.bool hg5) rfl ?_
      refine JL.op_skip rfl rfl (congrArg Value.bool hg5) rfl ?_
      refine JL.op_skip rfl rfl (congrArg Value.bool hg5) rfl ?_
      refine JL.op_skip rfl rfl (congrArg Value.bool hg5) rfl ?_
      refine JL.op (JO.val (y_pick (congrArg Value.bool hg5)) rfl ?_)
      refine JL.op (JO.val (y_move) rfl ?_)
      refine JL.op_skip rfl rfl rfl rfl ?_
      refine JL.op_skip rfl rfl rfl rfl ?_
      refine JL.op_skip rfl rfl rfl rfl ?_
      refine JL.op_skip rfl rfl rfl rfl ?_
      refine JL.op_skip rfl rfl rfl rfl ?_
      refine JL.op (JO.val (y_pick rfl) rfl ?_)
      refine JL.op (JO.val (y_move) rfl ?_)
      refine JL.op_skip rfl rfl rfl rfl ?_
      refine JL.op_skip rfl rfl rfl rfl ?_
      refine JL.op_skip rfl rfl rfl rfl ?_
      refine JL.op_skip rfl rfl rfl rfl ?_
      refine JL.op_skip rfl rfl rfl rfl ?_
      refine JL.op (JO.val (y_pick rfl) rfl ?_)
      refine JL.op (JO.val (y_assign) rfl ?_)
      with_reducible refine JL.nil ?_
      exact JQ.has ⟨congrArg Value.bool (by unfold sameR; rw [hg5]; rfl), trivial⟩ (fun _ h => h)
  with_reducible refine JQ.seq (JC.ret ?_)
  exact ret_one rfl ResV.tmp (fun w _ => rfl)
/-- a was done before b was called. -/
def aheadB (a b : LEvent) : Bool := decide (a.done ≥ 0) && decide (a.done < b.called)
def EvAt (h : LEvent × Option Addr × Nat) : Prop := nth (ecells h) 46 = some (.int .i64 h.1.called) ∧ nth (ecells h) 47 = some (.int .i64 h.1.done)
theorem ev_at {h : LEvent × Option Addr × Nat} (hw : h.1.wf) : EvAt h := by
  have hl : (h.1.req.cells ++ rcells (h.1.rep, h.2)).length = 46 := by simp [LReq.len_cells hw.req, rcells]
  have h1 := nth_append_right (l := h.1.req.cells ++ rcells (h.1.rep, h.2)) (m := [.int .i64 h.1.called, .int .i64 h.1.done]) (i := 0) (v := .int .i64 h.1.called) rfl
  have h2 := nth_append_right (l := h.1.req.cells ++ rcells (h.1.rep, h.2)) (m := [.int .i64 h.1.called, .int .i64 h.1.done]) (i := 1) (v := .int .i64 h.1.done) rfl
  rw [hl] at h1 h2
  exact ⟨h1, h2⟩
theorem ahead39 (a b : LEvent × Option Addr × Nat) (ha : a.1.wf) (hb : b.1.wf) (w : World) : CallsTo 39 #[.agg (ecells a).toArray, .agg (ecells b).toArray] w (fun v _ => v = .bool (aheadB a.1 b.1)) := by
  obtain ⟨ha1, ha2⟩ := ev_at ha
  obtain ⟨hb1, hb2⟩ := ev_at hb
  refine CallsTo.enter 15 (fun _ => True) (fun _ => True) Tryd.func39 rfl rfl rfl rfl (by intros; first | trivial | assumption) ?_
  with_reducible refine JC.seq ?_
  with_reducible refine JC.region ?_
  refine JL.op (JO.box rfl rfl ?_); intro b2
  refine JL.op (JO.box rfl rfl ?_); intro b3
  refine JL.op (JO.val (y_assign) rfl ?_)
  with_reducible refine JL.nil ?_
  with_reducible refine JQ.seq (JC.seq ?_)
  refine JC.cutS [(4, .bool (aheadB a.1 b.1))] ?_ (fun E => ?_)
  · with_reducible refine JC.region ?_
    refine JL.op (JO.val (y_fieldAddr rfl rfl rfl) rfl ?_)
    refine JL.op (JO.val (y_ld 0 rfl rfl rfl ha2) rfl ?_)
    refine JL.op (JO.val (y_geq rfl rfl) rfl ?_)
    refine JL.op (JO.val (y_move) rfl ?_)
    refine JL.split (d := 8) rfl (fun hg3 => ?_) (fun hg3 => ?_)
    · refine JL.op_do rfl rfl (congrArg Value.bool hg3) (JO.val (y_fieldAddr rfl rfl rfl) rfl ?_)
      refine JL.op_do rfl rfl (congrArg Value.bool hg3) (JO.val (y_ld 1 rfl rfl rfl hb1) rfl ?_)
      refine JL.op_do rfl rfl (congrArg Value.bool hg3) (JO.val (y_fieldAddr rfl rfl rfl) rfl ?_)
      refine JL.op_do rfl rfl (congrArg Value.bool hg3) (JO.val (y_ld 0 rfl rfl rfl ha2) rfl ?_)
      refine JL.op_do rfl rfl (congrArg Value.bool hg3) (JO.val (y_gtr rfl rfl) rfl ?_)
      refine JL.op (JO.val (y_pick (congrArg Value.bool hg3)) rfl ?_)
      refine JL.op (JO.val (y_assign) rfl ?_)
      with_reducible refine JL.nil ?_
      exact JQ.has ⟨congrArg Value.bool (by unfold aheadB; rw [hg3]; simp), trivial⟩ (fun _ h => h)
    · refine JL.op_skip rfl rfl (congrArg Value.bool hg3) rfl ?_
      refine JL.op_skip rfl rfl (congrArg Value.bool hg3) rfl ?_
      refine JL.op_skip rfl rfl (congrArg Value.bool hg3) rfl ?_
      refine JL.op_skip rfl rfl (congrArg Value.bool hg3) rfl ?_
      refine JL.op_skip rfl rfl (congrArg Value.bool hg3) rfl ?_
      refine JL.op (JO.val (y_pick (congrArg Value.bool hg3)) rfl ?_)
      refine JL.op (JO.val (y_assign) rfl ?_)
      with_reducible refine JL.nil ?_
      exact JQ.has ⟨congrArg Value.bool (by unfold aheadB; rw [hg3]; simp), trivial⟩ (fun _ h => h)
  with_reducible refine JQ.seq (JC.ret ?_)
  exact ret_one rfl ResV.tmp (fun w _ => rfl)
theorem ahead64 (a b : LEvent × Option Addr × Nat) (ha : a.1.wf) (hb : b.1.wf) (w : World) : CallsTo 64 #[.agg (ecells a).toArray, .agg (ecells b).toArray] w (fun v _ => v = .bool (aheadB a.1 b.1)) := by
  obtain ⟨ha1, ha2⟩ := ev_at ha
  obtain ⟨hb1, hb2⟩ := ev_at hb
  refine CallsTo.enter 15 (fun _ => True) (fun _ => True) Tryd.func64 rfl rfl rfl rfl (by intros; first | trivial | assumption) ?_
  with_reducible refine JC.seq ?_
  with_reducible refine JC.region ?_
  refine JL.op (JO.box rfl rfl ?_); intro b2
  refine JL.op (JO.box rfl rfl ?_); intro b3
  refine JL.op (JO.val (y_assign) rfl ?_)
  with_reducible refine JL.nil ?_
  with_reducible refine JQ.seq (JC.seq ?_)
  refine JC.cutS [(4, .bool (aheadB a.1 b.1))] ?_ (fun E => ?_)
  · with_reducible refine JC.region ?_
    refine JL.op (JO.val (y_fieldAddr rfl rfl rfl) rfl ?_)
    refine JL.op (JO.val (y_ld 0 rfl rfl rfl ha2) rfl ?_)
    refine JL.op (JO.val (y_geq rfl rfl) rfl ?_)
    refine JL.op (JO.val (y_move) rfl ?_)
    refine JL.split (d := 8) rfl (fun hg3 => ?_) (fun hg3 => ?_)
    · refine JL.op_do rfl rfl (congrArg Value.bool hg3) (JO.val (y_fieldAddr rfl rfl rfl) rfl ?_)
      refine JL.op_do rfl rfl (congrArg Value.bool hg3) (JO.val (y_ld 0 rfl rfl rfl ha2) rfl ?_)
      refine JL.op_do rfl rfl (congrArg Value.bool hg3) (JO.val (y_fieldAddr rfl rfl rfl) rfl ?_)
      refine JL.op_do rfl rfl (congrArg Value.bool hg3) (JO.val (y_ld 1 rfl rfl rfl hb1) rfl ?_)
      refine JL.op_do rfl rfl (congrArg Value.bool hg3) (JO.val (y_lss rfl rfl) rfl ?_)
      refine JL.op (JO.val (y_pick (congrArg Value.bool hg3)) rfl ?_)
      refine JL.op (JO.val (y_assign) rfl ?_)
      with_reducible refine JL.nil ?_
      exact JQ.has ⟨congrArg Value.bool (by unfold aheadB; rw [hg3]; simp), trivial⟩ (fun _ h => h)
    · refine JL.op_skip rfl rfl (congrArg Value.bool hg3) rfl ?_
      refine JL.op_skip rfl rfl (congrArg Value.bool hg3) rfl ?_
      refine JL.op_skip rfl rfl (congrArg Value.bool hg3) rfl ?_
      refine JL.op_skip rfl rfl (congrArg Value.bool hg3) rfl ?_
      refine JL.op_skip rfl rfl (congrArg Value.bool hg3) rfl ?_
      refine JL.op (JO.val (y_pick (congrArg Value.bool hg3)) rfl ?_)
      refine JL.op (JO.val (y_assign) rfl ?_)
      with_reducible refine JL.nil ?_
      exact JQ.has ⟨congrArg Value.bool (by unfold aheadB; rw [hg3]; simp), trivial⟩ (fun _ h => h)
  with_reducible refine JQ.seq (JC.ret ?_)
  exact ret_one rfl ResV.tmp (fun w _ => rfl)
end Go.Proofs.YtchnnplcpidkiaaDoor
namespace Go.Proofs.YtchnnplcpidkiaaDoor
open Go.RowKit
set_option linter.unusedSimpArgs false
set_option linter.unusedVariables false
set_option maxRecDepth 20000
set_option maxHeartbeats 16000000
section
variable {X : Cx} {ops : Array Oper} {l : List Oper} {E : Env} {S : Sto} {F : Nat → Prop} {w1 : World} {Q : Exit → Env → World → Prop} {d : Nat} {ty : TypeId} {pos : String} {af : Array Edge} {K : Kon}
theorem JO.del_65 {α : Type} (i : Nat) (f : α → List Value) {b cap p : Nat} {cur : List Value} {ys : List α} {T1 : Nat} {cs1 : List Value} {x : Operand} {xs : Array Operand} {ts : Array TypeId} {caps : List Value} (hx : ev E x = .func (.func 65) #[] caps.toArray)
    (hargs : xs.toList.map (ev E) ++ caps = [.slice (some ⟨b, 0, none⟩) ys.length cap, .int .i64 (p : Nat), .int .i64 ((p + 1 : Nat) : Int)]) (hN : Nat.blt d X.N = true) (hS : nth S i = some (some b, 90, cur)) (hB : nth (blank [i, i] S) i = some (none, T1, cs1))
    (hrow : Row (some b) ys.length cap 48 cur) (htk : cur.take (ys.length * 48) = ys.flatMap f) (hf : ∀ z ∈ ys, (f z).length = 48) (hfo : ∀ z ∈ ys, ∀ u ∈ f z, u.oneCell' = true) (hp : p < ys.length) (hn : ys.length ≤ 100000)
    (h : ∀ cur' F' w', Row (some b) (ys.take p ++ ys.drop (p + 1)).length cap 48 cur' → cur'.take ((ys.take p ++ ys.drop (p + 1)).length * 48) = (ys.take p ++ ys.drop (p + 1)).flatMap f → Step F w1 F' w' → w1.heap.size ≤ w'.heap.size → K (upd E d (.slice (some ⟨b, 0, none⟩) (ys.take p ++ ys.drop (p + 1)).length cap)) (sset (blank [i, i] S) i (some b, 90, cur')) F' w') :
    JO X ⟨some d, .call { callee := .value x, args := xs, argTypes := ts }, ty, pos, af, none⟩ E S F w1 K := by
  obtain ⟨m, hnm⟩ : ∃ m, ys.length = p + 1 + m := ⟨ys.length - (p + 1), by omega⟩
  have hlen : (ys.take p ++ ys.drop (p + 1)).length = p + m := by simp; omega
  have hSi := hS
  rw [nth_eq] at hSi
  have hpy : ys[p]? = some ys[p] := by simp [hp]
  have hcut : ys.flatMap f = (ys.take p).flatMap f ++ f ys[p] ++ (ys.drop (p + 1)).flatMap f := by
    rw [flat_cut (p := p), List.drop_eq_getElem_cons hp, List.flatMap_cons, List.append_assoc]
  refine JO.callRow i [i, i] [b] 90 (fun v ob' cur' => ob' = some b ∧ v = .slice (some ⟨b, 0, none⟩) (ys.take p ++ ys.drop (p + 1)).length cap ∧ Row (some b) (ys.take p ++ ys.drop (p + 1)).length cap 48 cur' ∧ cur'.take ((ys.take p ++ ys.drop (p + 1)).length * 48) = (ys.take p ++ ys.drop (p + 1)).flatMap f) (fun w hc => ?_) hx hargs hN ?_ ?_ hS hB (fun b' hb => by simpa [eq_comm] using hb) ?_
  · have hbv := (hc.own _ (List.mem_of_getElem? hSi) b rfl).2
    have := delete_65 b p m cap cur ((ys.take p).flatMap f) (f ys[p]) ((ys.drop (p + 1)).flatMap f) w (by rw [← hnm]; exact hrow) (by rw [flatMap_length (fun z hz => hf z (List.mem_of_mem_take hz)), List.length_take, Nat.min_eq_left (by omega)]) (hf _ (List.getElem_mem hp)) (by rw [flatMap_length (fun z hz => hf z (List.mem_of_mem_drop hz)), List.length_drop, hnm, Nat.add_sub_cancel_left])
      (by rw [← hnm, htk]; exact hcut) (by omega) hbv (allOne_of (flatMap_one fun z hz => hfo z (List.mem_of_mem_drop hz)))
    rw [← hnm] at this
    refine calls_mono this fun v w' ⟨cur', h1, h2, h3, h4⟩ => ⟨some b, cur', ⟨rfl, by rw [hlen]; exact h1, by rw [hlen]; exact h2, ?_⟩, fun b' hb => by cases hb; exact ⟨.inl rfl, h4⟩⟩
    rw [hlen, h3, List.flatMap_append]
  · intro b' hb
    exact ⟨_, List.mem_of_getElem? hSi, by simpa [eq_comm] using hb⟩
  · intro hnd e he b' hb hm
    obtain ⟨k, hk1, hk2, hk3⟩ := blank2 he hb
    exact hk1 (nodup_at (f := fun e : Ent => e.1) hnd hk3 hSi hb (by simpa [eq_comm] using hm))
  · rintro v ob' cur' F' w' ⟨rfl, rfl, h2, h3⟩ hst hsz
    exact h cur' F' w' h2 h3 hst hsz
end
section
variable {X : Cx} {E : Env} {S : Sto} {F : Nat → Prop} {w1 : World}
variable {d : Option Tmp} {t : TypeId} {pos : String} {af : Array Edge} {g : Option (Nat × Bool)}
theorem y_makeFunc {fn : Fn} {l : List Operand} : Yields X ⟨d, .makeFunc fn #[] l.toArray, t, pos, af, g⟩ E S F w1 (.func fn #[] (l.map (ev E)).toArray) := fun w _ => by
  simp [execOp, Sem.run_bind, Instr.makeFunc]
end
theorem idx_any {α : Type} {p : α → Bool} {xs : List α} : decide (placeI (idx p xs) ≥ 0) = xs.any p := by
  cases hi : idx p xs with
  | none =>
    have : ¬ xs.any p = true := fun h => by obtain ⟨i, hi2⟩ := idx_some.2 h; rw [hi] at hi2; cases hi2
    simp [placeI, this]
  | some i =>
    have : xs.any p = true := idx_some.1 ⟨i, hi⟩
    simp [placeI, this]
theorem indexFunc_any (F : Nat → Prop) (A : Option Addr) (n cap : Nat) (hs : List (LEvent × Option Addr × Nat)) (g : FuncId) (caps : List Value) (p : LEvent × Option Addr × Nat → Bool) (w : World) (h : SlF F w A n cap 48 (hs.flatMap ecells)) (hl : n = hs.length) (hw : ∀ x ∈ hs, x.1.wf) (hn : n ≤ 100000)
    (hcall : ∀ (F' : Nat → Prop) w', Step F w F' w' → ∀ x ∈ hs, CallsTo g ([Value.agg (ecells x).toArray] ++ caps).toArray w' (fun v _ => v = .bool (p x))) :
    CallsTo 87 #[.slice A n cap, .func (.func g) #[] caps.toArray] w (fun v _ => v = .int .i64 (placeI (idx p hs))) := by
  subst hl
  refine CallsTo.enter 19 (fun _ => True) F Tryd.func87 rfl rfl rfl rfl (by intros; first | trivial | assumption) ?_
  with_reducible refine JC.seq ?_
  with_reducible refine JC.region ?_
  refine JL.op (JO.val (y_assign) rfl ?_)
  with_reducible refine JL.nil ?_
  with_reducible refine JQ.seq (JC.seq (JC.seq ?_))
  with_reducible refine JC.region ?_
  refine JL.op (JO.val (y_move) rfl ?_)
  refine JL.op (JO.val (y_len rfl rfl) rfl ?_)
  refine JL.op (JO.val (y_move) rfl ?_)
  with_reducible refine JL.nil ?_
  with_reducible refine JQ.seq (JC.block ?_)
  refine JC.loop (fun m E S F' w1' => ∃ k : Nat, m = hs.length - k ∧ k ≤ hs.length ∧ (hs.take k).all (fun x => !p x) = true ∧ S = [] ∧ F' = F ∧ w1' = w ∧ Has E [(0, .slice A hs.length cap), (1, .func (.func g) #[] caps.toArray), (7, .int .i64 (hs.length : Nat)), (8, .int .i64 (k : Nat))])
    _ ⟨0, rfl, Nat.zero_le _, rfl, rfl, rfl, rfl, ⟨rfl, rfl, rfl, rfl, trivial⟩⟩ ?_
  rintro m E S F' w1' ⟨k, rfl, hk, hall, rfl, rfl, rfl, hE⟩
  refine JC.env hE (fun E => ?_)
  with_reducible refine JC.seq ?_
  with_reducible refine JC.region ?_
  refine JL.op (JO.val (y_lss rfl rfl) rfl ?_)
  with_reducible refine JL.nil ?_
  with_reducible refine JQ.seq (JC.seq ?_)
  by_cases hlt : k < hs.length
  · have hd : decide ((k : Int) < (hs.length : Int)) = true := by simpa using hlt
    refine JC.cond_true (congrArg Value.bool hd) ?_
    obtain ⟨x, hx⟩ : ∃ x, hs[k]? = some x := ⟨hs[k], by simp [hlt]⟩
    have hxm := List.mem_of_getElem? hx
    have hxl := ecells_len (hw x hxm)
    have hx1 := ecells_all1 (hw x hxm)
    obtain ⟨b, o, hA, hat⟩ := SlF.elem h (fun y hy => ecells_len (hw y hy)) rfl hx
    with_reducible refine JC.skip (JQ.seq (JC.seq (JC.block (JC.seq ?_))))
    with_reducible refine JC.region ?_
    refine JL.op (JO.val (y_move) rfl ?_)
    refine JL.op (JO.val (y_assign) rfl ?_)
    with_reducible refine JL.nil ?_
    with_reducible refine JQ.seq (JC.seq ?_)
    with_reducible refine JC.region ?_
    refine JL.op (JO.val (y_move) rfl ?_)
    refine JL.op (JO.val (y_move) rfl ?_)
    refine JL.op (JO.val (y_move) rfl ?_)
    refine JL.op (JO.val (y_idx (b := b) (o := o) rfl rfl rfl rfl hA rfl hlt) rfl ?_)
    refine JL.op (JO.val (y_lddA rfl rfl hat (by first | rfl | assumption)) rfl ?_)
    refine JL.op (JO.callv (fun wc hc => hcall _ wc hc.step x hxm) rfl rfl rfl ?_)
    with_reducible refine JL.nil ?_
    with_reducible refine JQ.seq ?_
    refine JC.cond rfl (fun hg => ?_) (fun hg => ?_)
    · with_reducible refine JC.seq ?_
      with_reducible refine JC.region ?_
      refine JL.op (JO.val (y_move) rfl ?_)
      refine JL.op (JO.val (y_assign) rfl ?_)
      with_reducible refine JL.nil ?_
      with_reducible refine JQ.seq (JC.ret (JQ.blk_ret (JQ.seq_ret (JQ.loop_ret (JQ.blk_ret (JQ.seq_ret ?_))))))
      exact ret_one rfl ResV.tmp (fun w _ => by rw [idx_here hall hx hg]; rfl)
    · with_reducible refine JC.skip (JQ.blk (JQ.seq ?_))
      with_reducible refine JC.region ?_
      refine JL.op (JO.val (y_add rfl rfl (natAdd hk hn)) rfl ?_)
      refine JL.op (JO.val (y_move) rfl ?_)
      with_reducible refine JL.nil ?_
      exact JQ.loop (hs.length - (k + 1)) ⟨k + 1, rfl, hlt, by rw [take_snoc hx, List.all_append, hall]; simp [hg], rfl, rfl, rfl, ⟨rfl, rfl, rfl, rfl, trivial⟩⟩ (by omega)
  · have hd : decide ((k : Int) < (hs.length : Int)) = false := by simpa using hlt
    refine JC.cond_false (congrArg Value.bool hd) ?_
    obtain rfl : k = hs.length := by omega
    rw [List.take_length] at hall
    with_reducible refine JC.exit (JQ.seq_exit (JQ.loop_exit (JQ.blk_here (JQ.seq (JC.seq ?_)))))
    with_reducible refine JC.region ?_
    refine JL.op (JO.val (y_assign) rfl ?_)
    with_reducible refine JL.nil ?_
    with_reducible refine JQ.seq (JC.ret ?_)
    exact ret_one rfl ResV.tmp (fun w _ => by rw [idx_none hall]; rfl)
theorem contains_any (F : Nat → Prop) (A : Option Addr) (n cap : Nat) (hs : List (LEvent × Option Addr × Nat)) (g : FuncId) (caps : List Value) (p : LEvent × Option Addr × Nat → Bool) (w : World) (h : SlF F w A n cap 48 (hs.flatMap ecells)) (hl : n = hs.length) (hw : ∀ x ∈ hs, x.1.wf) (hn : n ≤ 100000)
    (hcall : ∀ (F' : Nat → Prop) w', Step F w F' w' → ∀ x ∈ hs, CallsTo g ([Value.agg (ecells x).toArray] ++ caps).toArray w' (fun v _ => v = .bool (p x))) :
    CallsTo 61 #[.slice A n cap, .func (.func g) #[] caps.toArray] w (fun v _ => v = .bool (hs.any p)) := by
  refine CallsTo.enter 9 (fun _ => True) F Tryd.func61 rfl rfl rfl rfl (by intros; first | trivial | assumption) ?_
  with_reducible refine JC.seq ?_
  with_reducible refine JC.region ?_
  refine JL.op (JO.val (y_assign) rfl ?_)
  with_reducible refine JL.nil ?_
  with_reducible refine JQ.seq (JC.seq ?_)
  with_reducible refine JC.region ?_
  refine JL.op (JO.val (y_move) rfl ?_)
  refine JL.op (JO.val (y_move) rfl ?_)
  refine JL.op (JO.callv (fun wc hc => indexFunc_any _ A n cap hs g caps p wc (SlF.step h hc.step (by omega)) hl hw hn (fun F' w' hst => hcall F' w' (hc.step.trans hst hc.size))) rfl rfl rfl ?_)
  refine JL.op (JO.val (y_geq rfl rfl) rfl ?_)
  refine JL.op (JO.val (y_assign) rfl ?_)
  with_reducible refine JL.nil ?_
  with_reducible refine JQ.seq (JC.ret ?_)
  exact ret_one rfl ResV.tmp (fun w _ => congrArg Value.bool idx_any)
theorem search1_any (x : LEvent × Option Addr × Nat) (hx : x.1.wf) (w : World) : CallsTo 62 #[.agg (ecells x).toArray] w (fun v _ => v = .bool (decide (x.1.done ≥ 0))) := by
  obtain ⟨h1, h2⟩ := ev_at hx
  refine CallsTo.enter 6 (fun _ => True) (fun _ => True) Tryd.func62 rfl rfl rfl rfl (by intros; first | trivial | assumption) ?_
  with_reducible refine JC.seq ?_
  with_reducible refine JC.region ?_
  refine JL.op (JO.box rfl rfl ?_); intro b1
  refine JL.op (JO.val (y_assign) rfl ?_)
  with_reducible refine JL.nil ?_
  with_reducible refine JQ.seq (JC.seq ?_)
  with_reducible refine JC.region ?_
  refine JL.op (JO.val (y_fieldAddr rfl rfl rfl) rfl ?_)
  refine JL.op (JO.val (y_ld 0 rfl rfl rfl h2) rfl ?_)
  refine JL.op (JO.val (y_geq rfl rfl) rfl ?_)
  refine JL.op (JO.val (y_assign) rfl ?_)
  with_reducible refine JL.nil ?_
  with_reducible refine JQ.seq (JC.ret ?_)
  exact ret_one rfl ResV.tmp (fun w _ => rfl)
theorem search2_any (F : Nat → Prop) (x e : LEvent × Option Addr × Nat) (b : Nat) (hx : x.1.wf) (he : e.1.wf) (w : World) (h : At F w b 0 (ecells e)) : CallsTo 63 #[.agg (ecells x).toArray, .pointer (some ⟨b, 0, none⟩)] w (fun v _ => v = .bool (aheadB x.1 e.1)) := by
  have hxl := ecells_len hx
  have hx1 := ecells_all1 hx
  have hel := ecells_len he
  have he1 := ecells_all1 he
  refine CallsTo.enter 7 (fun _ => True) F Tryd.func63 rfl rfl rfl rfl (by intros; first | trivial | assumption) ?_
  with_reducible refine JC.seq ?_
  with_reducible refine JC.region ?_
  refine JL.op (JO.box rfl rfl ?_); intro b2
  refine JL.op (JO.val (y_assign) rfl ?_)
  with_reducible refine JL.nil ?_
  with_reducible refine JQ.seq (JC.seq ?_)
  with_reducible refine JC.region ?_
  refine JL.op (JO.val (y_ldA 0 rfl rfl rfl (by first | rfl | assumption)) rfl ?_)
  refine JL.op (JO.val (y_lddA rfl rfl h (by first | rfl | assumption)) rfl ?_)
  refine JL.op (JO.callv (fun wc hc => ahead64 x e hx he wc) rfl rfl rfl ?_)
  refine JL.op (JO.val (y_assign) rfl ?_)
  with_reducible refine JL.nil ?_
  with_reducible refine JQ.seq (JC.ret ?_)
  exact ret_one rfl ResV.tmp (fun w _ => rfl)
end Go.Proofs.YtchnnplcpidkiaaDoor
namespace Go.Proofs.YtchnnplcpidkiaaDoor
open Go.RowKit Go.Lib
set_option linter.unusedSimpArgs false
set_option linter.unusedVariables false
set_option maxRecDepth 20000
section
variable {X : Cx} {E : Env} {S : Sto} {F : Nat → Prop} {w1 w : World}
/-- The bytes of a text. -/
theorem strCells_len {s : ByteArray} : (strCells s).length = s.size := strCells_length s
theorem run_appendStr {i b n cap : Nat} {ty : TypeId} {cur : List Value} {s : ByteArray} (hc : Cur X S F w1 w) (hS : nth S i = some (some b, 5, cur)) (hrow : Row (some b) n cap 1 cur) (h63 : n + s.size ≤ maxLen) (hb : n + s.size ≤ 140737488355328) :
    ∃ b' cap' cur' w', (Builtin.append_ #[117, 9] ty #[.slice (some ⟨b, 0, none⟩) n cap, .string s]).run Tryd.prog w = .ok (.slice (some ⟨b', 0, none⟩) (n + s.size) cap') w' ∧
      Row (some b') (n + s.size) cap' 1 cur' ∧ cur'.take ((n + s.size) * 1) = cur.take (n * 1) ++ strCells s ∧ Cur X (sset S i (some b', 5, cur')) F w1 w' ∧ (b' = b ∨ w.heap.size ≤ b') := by
  have hr : tyr 5 = some (false, 1, 1, [.int .u8 0]) := rfl
  obtain ⟨zv, hz1, hz2, hz3⟩ := (tyr_ok hr).zero
  obtain ⟨ti, hi, hzi, hsi, hbi⟩ := info_parts hz3
  have hzs : zv.cells.size = 1 := by rw [hz2]; rfl
  have hS' := hS
  rw [nth_eq] at hS'
  have hw := (hc.own _ (List.mem_of_getElem? hS') b rfl).2
  have hlen := hrow.len
  have hle := hrow.le
  rw [Nat.mul_one] at hlen
  by_cases hroom : n + s.size ≤ cap
  · refine ⟨b, cap, _, _, run_append_room_string (P := Tryd.prog) w 117 9 ty 5 ti Tryd.underlying117 Tryd.underlying9 hi hsi b n cap cur.toArray hw s hroom (by simp [hlen]; omega), ⟨?_, hroom, hrow.max, fun h => by cases h⟩, ?_, hc.set hS _, .inl rfl⟩
    · simp [strCells_length]; omega
    · simp only [List.toList_toArray, Nat.mul_one]
      rw [List.take_append_of_le_length (by simp [strCells_length]; omega), List.take_of_length_le (by simp [strCells_length]; omega)]
  · have holds : ∀ j v, (cur.take n)[j]? = some v → w.cell? ((⟨b, 0, none⟩ : Addr).add j) = some v := fun j v hj => by
      rw [add_lit, Nat.zero_add, hc.cell hS]
      rw [List.getElem?_take] at hj
      split at hj
      · exact hj
      · cases hj
    have hge := grownCap_ge w (n + s.size) cap 5
    have hcm : grownCap w (n + s.size) cap 5 ≤ maxLen := grownCap_le_maxLen w (n + s.size) cap 5 h63
    refine ⟨w.heap.size, grownCap w (n + s.size) cap 5, cur.take n ++ strCells s ++ (Builtin.zeroCells zv.cells (grownCap w (n + s.size) cap 5 - (n + s.size))).toList, _,
      run_append_grow_string (P := Tryd.prog) w 117 9 ty 5 ti zv Tryd.underlying117 Tryd.underlying9 hi hzi ⟨b, 0, none⟩ n cap (cur.take n) (by rw [hsi]; simp; omega) holds s (by omega) (by simp only [maxLen] at h63; omega) (growslice_fits (by omega) (by rw [hbi]; omega)), ⟨?_, hge, hcm, fun h => by cases h⟩, ?_, ?_, .inr (Nat.le_refl _)⟩
    · simp only [List.length_append, List.length_take, strCells_length, Array.length_toList, size_zeroCells, hzs]; omega
    · rw [Nat.mul_one, Nat.mul_one, List.take_append_of_le_length (by simp [strCells_length]; omega), List.take_of_length_le (by simp [strCells_length]; omega)]
    · have h1 := (hc.drew).renew i 5 (cur.take n ++ strCells s ++ (Builtin.zeroCells zv.cells (grownCap w (n + s.size) cap 5 - (n + s.size))).toList)
      have h2 : (cur.take n).toArray ++ (strCells s).toArray ++ Builtin.zeroCells zv.cells (grownCap w (n + s.size) cap 5 - (n + s.size)) = (cur.take n ++ strCells s ++ (Builtin.zeroCells zv.cells (grownCap w (n + s.size) cap 5 - (n + s.size))).toList).toArray := by
        apply Array.ext'
        simp
      rw [h2]
      exact h1
section
variable {d : Nat} {ty : TypeId} {pos : String} {af : Array Edge} {K : Kon}
theorem JO.appendStr (i : Nat) {x y : Operand} {b n cap : Nat} {cur : List Value} {s : ByteArray} (hx : ev E x = .slice (some ⟨b, 0, none⟩) n cap) (hy : ev E y = .string s) (hS : nth S i = some (some b, 5, cur)) (hN : Nat.blt d X.N = true) (hrow : Row (some b) n cap 1 cur) (h63 : n + s.size ≤ maxLen) (hb : n + s.size ≤ 140737488355328)
    (h : ∀ b' cap' cur', Row (some b') (n + s.size) cap' 1 cur' → cur'.take ((n + s.size) * 1) = cur.take (n * 1) ++ strCells s → K (upd E d (.slice (some ⟨b', 0, none⟩) (n + s.size) cap')) (sset S i (some b', 5, cur')) F w1) :
    JO X ⟨some d, .call { callee := .builtin .append, args := #[x, y], argTypes := #[117, 9] }, ty, pos, af, none⟩ E S F w1 K := fun w a Q' hc ha => by
  obtain ⟨b', cap', cur', w', h2, h3, h4, h5, _⟩ := run_appendStr (ty := ty) hc hS hrow h63 hb
  have hrun : (execOp (ev E) ⟨some d, .call { callee := .builtin .append, args := #[x, y], argTypes := #[117, 9] }, ty, pos, af, none⟩).run Tryd.prog w = .ok (.value (.slice (some ⟨b', 0, none⟩) (n + s.size) cap')) w' := by
    simp [execOp, Sem.run_bind, resolve, invoke, builtin, hx, hy, h2]
  unfold Oper.wp
  rw [ha.eval, hrun]
  exact ⟨_, _, _, _, ha.put d _ hN, h5, h b' cap' cur' h3 h4⟩
end
end
theorem add_twice' {b o j : Nat} : (⟨b, o, none⟩ : Addr).add j = ⟨b, o + j, none⟩ := by
  unfold Addr.add
  by_cases h2 : j = 0
  · subst h2; rw [if_pos rfl]; rfl
  · rw [if_neg h2]
/-- The text of so many bytes. -/
def bstr (ns : List Int) : ByteArray := ns.foldl (fun r n => r.push (UInt8.ofNat n.toNat)) ByteArray.empty
section
variable {X : Cx} {E : Env} {S : Sto} {F : Nat → Prop} {w1 : World}
variable {d : Option Tmp} {t : TypeId} {pos : String} {af : Array Edge} {g : Option (Nat × Bool)}
theorem y_b2s {x : Operand} {b o n c : Nat} {ns : List Int} (hx : ev E x = .slice (some ⟨b, o, none⟩) n c) (hn : ns.length = n) (h : ∀ w, Cur X S F w1 w → ∀ (j : Nat) m, ns[j]? = some m → w.cell? ⟨b, o + j, none⟩ = some (.int .u8 m)) : Yields X ⟨d, .convert 117 9 x, t, pos, af, g⟩ E S F w1 (.string (bstr ns)) := fun w hc => by
  have h1 := run_loadCells_list (P := Tryd.prog) w ⟨b, o, none⟩ (ns.map (Value.int .u8)) (fun j v hj => by
    rw [List.getElem?_map] at hj
    obtain ⟨m, hm, rfl⟩ := Option.map_eq_some_iff.1 hj
    have h2 := h w hc j m hm
    have h3 : (⟨b, o, none⟩ : Addr).add j = ⟨b, o + j, none⟩ := add_twice' 
    rw [h3]; exact h2)
  rw [List.length_map, hn] at h1
  have h2 := run_bytesToString (P := Tryd.prog) w ⟨b, o, none⟩ n c ns h1
  simp [execOp, Sem.run_bind, hx, convert, run_underlying Tryd.underlying117, run_underlying Tryd.underlying9, run_underlying Tryd.underlying5, h2, bstr]
end
/-- The cells of so many bytes. -/
def bcells (ns : List Int) : List Value := ns.map (Value.int .u8)
/-- What a call that writes to a Writer leaves. -/
structure WrOut (bw : Nat) (ob : Option Nat) (bs : List Int) (w : World) (v : Value) (w' : World) : Prop where
  form : ∃ ob' cap' cur', v = .tuple #[] ∧ w'.heap[bw]? = some (.cells [.slice (ob'.map mkA) bs.length cap'].toArray 119 (0, 0)) ∧ Row ob' bs.length cap' 1 cur' ∧ cur'.take (bs.length * 1) = bcells bs ∧ ∀ b, ob' = some b → (ob = some b ∨ w.heap.size ≤ b) ∧ w'.heap[b]? = some (.cells cur'.toArray 5 (0, 0))
section
variable {X : Cx} {E : Env} {S : Sto} {F : Nat → Prop} {w1 : World}
variable {d : Nat} {ty : TypeId} {pos : String} {af : Array Edge} {K : Kon}
theorem JO.callW (i j : Nat) {bw : Nat} {ob : Option Nat} {bs : List Int} {st0 cur0 : List Value} {g : FuncId} {x : Operand} {xs : Array Operand} {ts : Array TypeId} {caps : List Value} {args : List Value} (hij : i ≠ j) (hSi : nth S i = some (some bw, 119, st0)) (hSj : nth S j = some (ob, 5, cur0))
    (hcall : ∀ w, Cur X S F w1 w → CallsM (bw :: ob.toList) g args.toArray w (fun v w' => WrOut bw ob bs w v w')) (hx : ev E x = .func (.func g) #[] caps.toArray) (hargs : xs.toList.map (ev E) ++ caps = args) (hN : Nat.blt d X.N = true) {T0 T1 : Nat} {cs0 cs1 : List Value} (hBi : nth (blank [i, j] S) i = some (none, T0, cs0))
    (hBj : ∀ cap' (ob' : Option Nat), nth (sset (blank [i, j] S) i (some bw, 119, [.slice (ob'.map mkA) bs.length cap'])) j = some (none, T1, cs1))
    (h : ∀ ob' cap' cur' F' w', Row ob' bs.length cap' 1 cur' → cur'.take (bs.length * 1) = bcells bs → Step F w1 F' w' → w1.heap.size ≤ w'.heap.size → K (upd E d (.tuple #[])) (sset (sset (blank [i, j] S) i (some bw, 119, [.slice (ob'.map mkA) bs.length cap'])) j (ob', 5, cur')) F' w') :
    JO X ⟨some d, .call { callee := .value x, args := xs, argTypes := ts }, ty, pos, af, none⟩ E S F w1 K := by
  have hSi' := hSi
  have hSj' := hSj
  rw [nth_eq] at hSi' hSj'
  have hmi := List.mem_of_getElem? hSi'
  have hmj := List.mem_of_getElem? hSj'
  refine JO.callM [i, j] (bw :: ob.toList) (fun w v w' => WrOut bw ob bs w v w') hcall hx hargs hN ?_ ?_ ?_
  · intro b hb
    rcases List.mem_cons.1 hb with h1 | h1
    · exact ⟨_, hmi, by rw [h1]⟩
    · exact ⟨_, hmj, by simpa using h1⟩
  · intro hnd e he b hb hm
    obtain ⟨k, hk1, hk2, hk3⟩ := blank2 he hb
    rcases List.mem_cons.1 hm with h1 | h1
    · exact hk1 (nodup_at (f := fun e : Ent => e.1) hnd hk3 hSi' hb (by rw [h1]))
    · exact hk2 (nodup_at (f := fun e : Ent => e.1) hnd hk3 hSj' hb (by simpa using h1))
  · rintro wc v w' hc hc' hst hsz hfr hsz' ⟨ob', cap', cur', rfl, hbw, hrow, htk, hob⟩
    have hnot : ∀ b, (b = bw ∨ ob = some b) → b ∉ blks (blank [i, j] S) := fun b hb hm => by
      obtain ⟨e, he, h1⟩ := blks_mem.1 hm
      obtain ⟨k, hk1, hk2, hk3⟩ := blank2 he h1
      rcases hb with hb | hb
      · exact hk1 (nodup_at (f := fun e : Ent => e.1) hc.nodup hk3 hSi' h1 (by rw [hb]))
      · exact hk2 (nodup_at (f := fun e : Ent => e.1) hc.nodup hk3 hSj' h1 hb)
    have hold : ∀ b, b ∈ blks (blank [i, j] S) → b ∈ blks S := fun b hm => by
      obtain ⟨e, he, h1⟩ := blks_mem.1 hm
      obtain ⟨k, hk1, hk2, hk3⟩ := blank2 he h1
      exact blks_mem.2 ⟨_, List.mem_of_getElem? hk3, h1⟩
    have hbwlt : bw < wc.heap.size := hc.lt (blks_mem.2 ⟨_, hmi, rfl⟩)
    have h1 := hc'.put i hBi (some bw) 119 [.slice (ob'.map mkA) bs.length cap'] (fun b hb => by cases hb; exact ⟨hbw, (hc.own _ hmi bw rfl).1, hnot bw (.inl rfl)⟩)
    have h2 := h1.put j (hBj cap' ob') ob' 5 cur' (fun b hb => by
      obtain ⟨h3, h4⟩ := hob b hb
      refine ⟨h4, ?_, fun hm => ?_⟩
      · rcases h3 with h3 | h3
        · exact (hc.own _ hmj b h3).1
        · exact .inl (Nat.le_trans hc.below.size h3)
      · rcases blks_sset_sub hm with hm | hm
        · rcases h3 with h3 | h3
          · exact hnot b (.inr h3) hm
          · exact absurd (hc.lt (hold b hm)) (Nat.not_lt.2 h3)
        · have hbb : bw = b := by simpa using hm
          rcases h3 with h3 | h3
          · exact hij (nodup_at (f := fun e : Ent => e.1) hc.nodup hSi' hSj' rfl (by rw [← hbb] at h3; exact h3))
          · omega)
    refine ⟨_, _, h2.rebase, h ob' cap' cur' _ _ hrow htk (fun k hk hF => ?_) (Nat.le_trans hsz hsz')⟩
    obtain ⟨h3, h4⟩ := hst k hk hF
    refine ⟨h3, h4.1, fun hm => ?_⟩
    rcases blks_sset_sub hm with hm | hm
    · rcases blks_sset_sub hm with hm | hm
      · exact h4.2 (hold k hm)
      · exact h4.2 (blks_mem.2 ⟨_, hmi, hm⟩)
    · rcases (hob k hm).1 with h5 | h5
      · exact h4.2 (blks_mem.2 ⟨_, hmj, h5⟩)
      · have := Nat.lt_of_lt_of_le hk hsz; omega
end
end Go.Proofs.YtchnnplcpidkiaaDoor
namespace Go.Proofs.YtchnnplcpidkiaaDoor
open Go.RowKit Go.Lib
set_option linter.unusedSimpArgs false
set_option linter.unusedVariables false
set_option maxRecDepth 20000
set_option maxHeartbeats 16000000

/-- A number's byte at bit i. -/
def byteAt (n i : Int) : Int := IntKind.u8.wrap ((IntKind.u64.wrap n).fdiv (2 ^ (min i.toNat IntKind.u64.bits)))
def be8 (n : Int) : List Int := (List.range 8).map (fun j : Nat => byteAt n (56 - 8 * (j : Int)))
def be4 (n : Int) : List Int := [IntKind.u8.wrap (n.fdiv (2 ^ (min 24 IntKind.i64.bits))), IntKind.u8.wrap (n.fdiv (2 ^ (min 16 IntKind.i64.bits))), IntKind.u8.wrap (n.fdiv (2 ^ (min 8 IntKind.i64.bits))), IntKind.u8.wrap n]
def sbytes (s : ByteArray) : List Int := s.data.toList.map (fun b => (b.toNat : Int))
def txt (s : ByteArray) : List Int := be4 (s.size : Int) ++ sbytes s
def encR (r : LReply) : List Int := [r.client, r.num, r.code, (r.vals.length : Int)].flatMap be8 ++ r.vals.flatMap txt
theorem bcells_append {a b : List Int} : bcells (a ++ b) = bcells a ++ bcells b := List.map_append
theorem be8_at {n : Int} {j : Nat} (h : j < 8) : (be8 n)[j]? = some (byteAt n (56 - 8 * (j : Int))) := by
  unfold be8
  rw [List.getElem?_map, List.getElem?_range h]; rfl
theorem be8_len {n : Int} : (be8 n).length = 8 := by simp [be8]
theorem sbytes_cells {s : ByteArray} : strCells s = bcells (sbytes s) := by simp [strCells, bcells, sbytes]
theorem sbytes_len {s : ByteArray} : (sbytes s).length = s.size := by simp [sbytes]
theorem wr_nodup {bw : Nat} {ob : Option Nat} {c1 c2 : List Value} (hne : ob ≠ some bw) : (blks ([(some bw, 119, c1), (ob, 5, c2)] : Sto)).Nodup := by
  cases ob with
  | none => simp [blks]
  | some b => simp [blks]; intro h; exact hne (by rw [h])
theorem wr_own {bw : Nat} {ob : Option Nat} {c1 c2 : List Value} {w : World} (hbw : w.heap[bw]? = some (.cells c1.toArray 119 (0, 0))) (hob : ∀ b, ob = some b → w.heap[b]? = some (.cells c2.toArray 5 (0, 0))) : ∀ e ∈ ([(some bw, 119, c1), (ob, 5, c2)] : Sto), ∀ b, e.1 = some b → b ∈ bw :: ob.toList ∧ w.heap[b]? = some (.cells e.2.2.toArray e.2.1 (0, 0)) := fun e he b hb => by
  simp only [List.mem_cons, List.not_mem_nil, or_false] at he
  rcases he with rfl | rfl
  · simp only [Option.some.injEq] at hb; subst hb; exact ⟨by simp, hbw⟩
  · simp only at hb; exact ⟨by simp [hb], hob b hb⟩
theorem wr_F {F : Nat → Prop} {bw : Nat} {ob : Option Nat} {c1 c2 : List Value} {w : World} (hF : ∀ k, F k → k ≠ bw ∧ ob ≠ some k) : ∀ k, k < w.heap.size → F k → True ∧ k ∉ blks ([(some bw, 119, c1), (ob, 5, c2)] : Sto) := fun k _ hk => ⟨trivial, fun hm => by
  obtain ⟨e, he, h1⟩ := blks_mem.1 hm
  simp only [List.mem_cons, List.not_mem_nil, or_false] at he
  rcases he with rfl | rfl
  · simp only [Option.some.injEq] at h1; exact (hF k hk).1 h1.symm
  · exact (hF k hk).2 h1⟩
/-- What the writer's two entries give at the end. -/
theorem wr_out {X : Cx} {S : Sto} {F : Nat → Prop} {w1 w w' : World} {bw : Nat} {ob ob' : Option Nat} {bs : List Int} {cap' : Nat} {cur' : List Value} (hX : X.w0 = w) (hmd : X.md = bw :: ob.toList) (hc : Cur X S F w1 w') (h0 : nth S 0 = some (some bw, 119, [.slice (ob'.map mkA) bs.length cap'])) (h1 : nth S 1 = some (ob', 5, cur')) (hrow : Row ob' bs.length cap' 1 cur') (htk : cur'.take (bs.length * 1) = bcells bs) : WrOut bw ob bs w (.tuple #[]) w' := by
  rw [nth_eq] at h0 h1
  refine ⟨ob', cap', cur', rfl, (hc.own _ (List.mem_of_getElem? h0) bw rfl).2, hrow, htk, fun b hb => ?_⟩
  obtain ⟨h2, h3⟩ := hc.own _ (List.mem_of_getElem? h1) b hb
  refine ⟨?_, h3⟩
  rw [hX, hmd] at h2
  rcases h2 with h2 | h2
  · exact .inr h2
  · rcases List.mem_cons.1 h2 with h4 | h4
    · exact absurd (nodup_at (f := fun e : Ent => e.1) hc.nodup h0 h1 rfl (by rw [← h4]; exact hb)) (by omega)
    · exact .inl (by simpa using h4)
theorem row_some {ob : Option Nat} {n cap sz : Nat} {cur : List Value} (h : Row ob n cap sz cur) (hn : 0 < n) : ∃ b, ob = some b := by
  cases ob with
  | none => have := (h.nil rfl).1; omega
  | some b => exact ⟨b, rfl⟩
theorem num_any (F : Nat → Prop) (bw : Nat) (ob : Option Nat) (cap : Nat) (cur : List Value) (bs : List Int) (A : Option Addr) (c : Nat) (ns : List Int) (w : World) (hbw : w.heap[bw]? = some (.cells [.slice (ob.map mkA) bs.length cap].toArray 119 (0, 0))) (hob : ∀ b, ob = some b → w.heap[b]? = some (.cells cur.toArray 5 (0, 0))) (hne : ob ≠ some bw) (hrow : Row ob bs.length cap 1 cur) (htk : cur.take (bs.length * 1) = bcells bs)
    (h : SlF F w A ns.length c 1 (ns.flatMap fun n => [Value.int .i64 n])) (hF : ∀ k, F k → k ≠ bw ∧ ob ≠ some k) (hn : ns.length ≤ 100000) (hb : bs.length ≤ 100000000000) :
    CallsM (bw :: ob.toList) 85 #[.pointer (some ⟨bw, 0, none⟩), .slice A ns.length c] w (fun v w' => WrOut bw ob (bs ++ ns.flatMap be8) w v w') := by
  have hS0 := wr_own hbw hob
  have hnd := wr_nodup (c1 := [.slice (ob.map mkA) bs.length cap]) (c2 := cur) hne
  have hF2 := wr_F (c1 := [.slice (ob.map mkA) bs.length cap]) (c2 := cur) (w := w) hF
  refine CallsM.enter (bw :: ob.toList) [(some bw, 119, [.slice (ob.map mkA) bs.length cap]), (ob, 5, cur)] 34 (fun _ => True) F Tryd.func85 rfl rfl rfl rfl hS0 hnd hF2 ?_
  with_reducible refine JC.seq (JC.seq ?_)
  with_reducible refine JC.region ?_
  refine JL.op (JO.val (y_move) rfl ?_)
  refine JL.op (JO.val (y_eqptr rfl) rfl ?_)
  with_reducible refine JL.nil ?_
  with_reducible refine JQ.seq ?_
  refine JC.cond_false rfl ?_
  with_reducible refine JC.skip (JQ.seq (JC.seq ?_))
  with_reducible refine JC.region ?_
  refine JL.op (JO.val (y_move) rfl ?_)
  refine JL.op (JO.val (y_len rfl rfl) rfl ?_)
  refine JL.op (JO.val (y_move) rfl ?_)
  with_reducible refine JL.nil ?_
  with_reducible refine JQ.seq (JC.block ?_)
  refine JC.loop (fun m E S F' w1' => ∃ k ob' cap' cur' bs', m = ns.length - k ∧ k ≤ ns.length ∧ bs' = bs ++ (ns.take k).flatMap be8 ∧ bs'.length ≤ bs.length + 8 * k ∧ Row ob' bs'.length cap' 1 cur' ∧ cur'.take (bs'.length * 1) = bcells bs' ∧ S = [(some bw, 119, [.slice (ob'.map mkA) bs'.length cap']), (ob', 5, cur')] ∧ F' = F ∧ w1' = w ∧ Has E [(0, .pointer (some ⟨bw, 0, none⟩)), (9, .slice A ns.length c), (10, .int .i64 (ns.length : Nat)), (11, .int .i64 (k : Nat))])
    _ ⟨0, ob, cap, cur, bs, rfl, Nat.zero_le _, by simp, Nat.le_refl _, hrow, htk, rfl, rfl, rfl, ⟨rfl, rfl, rfl, rfl, trivial⟩⟩ ?_
  clear hrow htk
  rintro m E S F' w1' ⟨k, ob', cap', cur', bs', rfl, hk, hbs', hbl, hrow, htk, rfl, rfl, rfl, hE⟩
  refine JC.env hE (fun E => ?_)
  with_reducible refine JC.seq ?_
  with_reducible refine JC.region ?_
  refine JL.op (JO.val (y_lss rfl rfl) rfl ?_)
  with_reducible refine JL.nil ?_
  with_reducible refine JQ.seq (JC.seq ?_)
  by_cases hlt : k < ns.length
  · have hd : decide ((k : Int) < (ns.length : Int)) = true := by simpa using hlt
    refine JC.cond_true (congrArg Value.bool hd) ?_
    obtain ⟨n, hx⟩ : ∃ n, ns[k]? = some n := ⟨ns[k], by simp [hlt]⟩
    obtain ⟨b, o, hA, hat⟩ := SlF.elem h (fun n _ => rfl) rfl hx
    with_reducible refine JC.skip (JQ.seq (JC.seq (JC.block (JC.seq ?_))))
    with_reducible refine JC.region ?_
    refine JL.op (JO.val (y_idx (b := b) (o := o) rfl rfl rfl rfl hA rfl hlt) rfl ?_)
    refine JL.op (JO.val (y_ldd rfl rfl hat) rfl ?_)
    refine JL.op (JO.val (y_assign) rfl ?_)
    with_reducible refine JL.nil ?_
    with_reducible refine JQ.seq (JC.seq ?_)
    with_reducible refine JC.region ?_
    refine JL.op (JO.val (y_assign) rfl ?_)
    with_reducible refine JL.nil ?_
    with_reducible refine JQ.seq (JC.block ?_)
    refine JC.loop (fun m E S F2 w2 => ∃ j ob2 cap2 cur2 bs2, m = 8 - j ∧ j ≤ 8 ∧ bs2 = bs' ++ (be8 n).take j ∧ bs2.length ≤ bs'.length + j ∧ Row ob2 bs2.length cap2 1 cur2 ∧ cur2.take (bs2.length * 1) = bcells bs2 ∧ S = [(some bw, 119, [.slice (ob2.map mkA) bs2.length cap2]), (ob2, 5, cur2)] ∧ F2 = F' ∧ w2 = w1' ∧ Has E [(0, .pointer (some ⟨bw, 0, none⟩)), (5, .int .i64 n), (6, .int .i64 (56 - 8 * (j : Int))), (9, .slice A ns.length c), (10, .int .i64 (ns.length : Nat)), (11, .int .i64 (k : Nat))])
      _ ⟨0, ob', cap', cur', bs', rfl, Nat.zero_le _, by simp, Nat.le_refl _, hrow, htk, rfl, rfl, rfl, ⟨rfl, rfl, rfl, rfl, rfl, rfl, trivial⟩⟩ ?_
    clear hrow htk
    rintro m E S F2 w2 ⟨j, ob2, cap2, cur2, bs2, rfl, hj, hbs2, hbl2, hrow, htk, rfl, rfl, rfl, hE⟩
    refine JC.env hE (fun E => ?_)
    with_reducible refine JC.seq (JC.seq ?_)
    with_reducible refine JC.region ?_
    refine JL.op (JO.val (y_move) rfl ?_)
    refine JL.op (JO.val (y_geq rfl rfl) rfl ?_)
    with_reducible refine JL.nil ?_
    with_reducible refine JQ.seq ?_
    by_cases hlt2 : j < 8
    · have hd : decide ((56 - 8 * (j : Int)) ≥ 0) = true := decide_eq_true (by omega)
      refine JC.cond_true (congrArg Value.bool hd) ?_
      with_reducible refine JC.skip (JQ.seq (JC.seq (JC.block ?_)))
      refine JC.cutI (fun E S F3 w3 => ∃ ob3 cap3 cur3 bs3, bs3 = bs2 ++ [byteAt n (56 - 8 * (j : Int))] ∧ Row ob3 bs3.length cap3 1 cur3 ∧ cur3.take (bs3.length * 1) = bcells bs3 ∧ S = [(some bw, 119, [.slice (ob3.map mkA) bs3.length cap3]), (ob3, 5, cur3)] ∧ F3 = F2 ∧ w3 = w2 ∧ Has E [(0, .pointer (some ⟨bw, 0, none⟩)), (5, .int .i64 n), (6, .int .i64 (56 - 8 * (j : Int))), (9, .slice A ns.length c), (10, .int .i64 (ns.length : Nat)), (11, .int .i64 (k : Nat))]) ?_ ?_
      · skip
        refine JC.held [] ?_
        refine JH.take 0 rfl (by kernel_rfl) (by kernel_rfl) (by kernel_rfl) (fun _ _ _ => y_move) rfl (by repeat (first | exact np_fun | exact np_inv | refine np_seq ?_ | refine np_blk ?_ | refine np_loop ?_)) (trivial) ?_
        refine JH.take 1 rfl (by kernel_rfl) (by kernel_rfl) (by kernel_rfl) (fun _ _ _ => y_move) rfl (by repeat (first | exact np_fun | exact np_inv | refine np_seq ?_ | refine np_blk ?_ | refine np_loop ?_)) (trivial) ?_
        refine JH.take 2 rfl (by kernel_rfl) (by kernel_rfl) (by kernel_rfl) (fun _ _ _ => y_nilCheck rfl) rfl (by repeat (first | exact np_fun | exact np_inv | refine np_seq ?_ | refine np_blk ?_ | refine np_loop ?_)) (trivial) ?_
        refine JH.take 3 rfl (by kernel_rfl) (by kernel_rfl) (by kernel_rfl) (fun _ _ _ => y_fieldAddr rfl rfl rfl) rfl (by repeat (first | exact np_fun | exact np_inv | refine np_seq ?_ | refine np_blk ?_ | refine np_loop ?_)) (trivial) ?_
        refine JH.take 5 rfl (by kernel_rfl) (by kernel_rfl) (by kernel_rfl) (fun _ _ _ => y_move) rfl (by repeat (first | exact np_fun | exact np_inv | refine np_seq ?_ | refine np_blk ?_ | refine np_loop ?_)) (trivial) ?_
        refine JH.take 6 rfl (by kernel_rfl) (by kernel_rfl) (by kernel_rfl) (fun _ _ _ => y_conv rfl (run_underlying Tryd.underlying3) (run_underlying Tryd.underlying153) rfl) rfl (by repeat (first | exact np_fun | exact np_inv | refine np_seq ?_ | refine np_blk ?_ | refine np_loop ?_)) (trivial) ?_
        refine JH.take 7 rfl (by kernel_rfl) (by kernel_rfl) (by kernel_rfl) (fun _ _ _ => y_move) rfl (by repeat (first | exact np_fun | exact np_inv | refine np_seq ?_ | refine np_blk ?_ | refine np_loop ?_)) (trivial) ?_
        refine JH.take 8 rfl (by kernel_rfl) (by kernel_rfl) (by kernel_rfl) (fun _ _ _ => y_shr rfl rfl (by omega) rfl) rfl (by repeat (first | exact np_fun | exact np_inv | refine np_seq ?_ | refine np_blk ?_ | refine np_loop ?_)) (trivial) ?_
        refine JH.take 9 rfl (by kernel_rfl) (by kernel_rfl) (by kernel_rfl) (fun _ _ _ => y_conv rfl (run_underlying Tryd.underlying153) (run_underlying Tryd.underlying5) rfl) rfl (by repeat (first | exact np_fun | exact np_inv | refine np_seq ?_ | refine np_blk ?_ | refine np_loop ?_)) (trivial) ?_
        refine JH.two 4 10 (by kernel_rfl) (JI.op rfl ?_) (JI.op rfl ?_)
        · refine (JO.val (y_ld 0 rfl rfl rfl rfl) rfl ?_)
          refine ⟨trivial, ?_⟩
          refine JH.one 10 (by kernel_rfl) (JI.op rfl ?_)
          refine (JO.build1 rfl rfl rfl (by first | rfl | assumption) rfl rfl ?_); intro b29
          refine ⟨trivial, ?_⟩
          refine JH.one 11 (by kernel_rfl) (JI.op rfl ?_)
          refine (JO.append 1 (ob := ob2) [.int .u8 (byteAt n (56 - 8 * (j : Int)))] rfl rfl rfl rfl rfl rfl rfl hrow (by first | rfl | omega) (fun h => by cases h) (fun w2 hc => hc.src (i := 2) rfl) (allOne_mem rfl) (by unfold maxLen; omega) (by omega) ?_)
          intro ob3 cap3 cur3 hrow3 htk3 _
          refine ⟨trivial, ?_⟩
          refine JH.take 12 rfl (by kernel_rfl) (by kernel_rfl) (by kernel_rfl) (fun _ _ _ => y_nilCheck rfl) rfl (by repeat (first | exact np_fun | exact np_inv | refine np_seq ?_ | refine np_blk ?_ | refine np_loop ?_)) (trivial) ?_
          refine JH.take 13 rfl (by kernel_rfl) (by kernel_rfl) (by kernel_rfl) (fun _ _ _ => y_fieldAddr rfl rfl rfl) rfl (by repeat (first | exact np_fun | exact np_inv | refine np_seq ?_ | refine np_blk ?_ | refine np_loop ?_)) (trivial) ?_
          refine JH.one 14 (by kernel_rfl) (JI.op rfl ?_)
          refine (JO.store1 0 rfl rfl rfl rfl rfl rfl rfl ?_)
          refine ⟨trivial, ?_⟩
          refine JH.done (by kernel_rfl) ?_
          refine JQ.takeN 2 (JQ.inv ⟨ob3, cap3, cur3, _, rfl, ?_, ?_, ?_, rfl, rfl, ⟨rfl, rfl, rfl, rfl, rfl, rfl, trivial⟩⟩)
          · rw [List.length_append]; exact hrow3
          · rw [List.length_append, bcells_append, ← htk]; exact htk3
          · rw [List.length_append]; rfl
        · refine (JO.build1 rfl rfl rfl (by first | rfl | assumption) rfl rfl ?_); intro b29
          refine ⟨trivial, ?_⟩
          refine JH.one 4 (by kernel_rfl) (JI.op rfl ?_)
          refine (JO.val (y_ld 0 rfl rfl rfl rfl) rfl ?_)
          refine ⟨trivial, ?_⟩
          refine JH.one 11 (by kernel_rfl) (JI.op rfl ?_)
          refine (JO.append 1 (ob := ob2) [.int .u8 (byteAt n (56 - 8 * (j : Int)))] rfl rfl rfl rfl rfl rfl rfl hrow (by first | rfl | omega) (fun h => by cases h) (fun w2 hc => hc.src (i := 2) rfl) (allOne_mem rfl) (by unfold maxLen; omega) (by omega) ?_)
          intro ob3 cap3 cur3 hrow3 htk3 _
          refine ⟨trivial, ?_⟩
          refine JH.take 12 rfl (by kernel_rfl) (by kernel_rfl) (by kernel_rfl) (fun _ _ _ => y_nilCheck rfl) rfl (by repeat (first | exact np_fun | exact np_inv | refine np_seq ?_ | refine np_blk ?_ | refine np_loop ?_)) (trivial) ?_
          refine JH.take 13 rfl (by kernel_rfl) (by kernel_rfl) (by kernel_rfl) (fun _ _ _ => y_fieldAddr rfl rfl rfl) rfl (by repeat (first | exact np_fun | exact np_inv | refine np_seq ?_ | refine np_blk ?_ | refine np_loop ?_)) (trivial) ?_
          refine JH.one 14 (by kernel_rfl) (JI.op rfl ?_)
          refine (JO.store1 0 rfl rfl rfl rfl rfl rfl rfl ?_)
          refine ⟨trivial, ?_⟩
          refine JH.done (by kernel_rfl) ?_
          refine JQ.takeN 2 (JQ.inv ⟨ob3, cap3, cur3, _, rfl, ?_, ?_, ?_, rfl, rfl, ⟨rfl, rfl, rfl, rfl, rfl, rfl, trivial⟩⟩)
          · rw [List.length_append]; exact hrow3
          · rw [List.length_append, bcells_append, ← htk]; exact htk3
          · rw [List.length_append]; rfl
      · rintro E S F3 w3 ⟨ob3, cap3, cur3, bs3, hbs3, hrow3, htk3, rfl, rfl, rfl, hE⟩
        refine JQ.env hE (fun E => ?_)
        with_reducible refine JQ.blk (JQ.seq ?_)
        with_reducible refine JC.region ?_
        refine JL.op (JO.val (y_move) rfl ?_)
        refine JL.op (JO.val (y_sub (r := 56 - 8 * ((j + 1 : Nat) : Int)) rfl rfl (by rw [wrap_in (by omega) (by omega)]; omega)) rfl ?_)
        refine JL.op (JO.val (y_assign) rfl ?_)
        with_reducible refine JL.nil ?_
        exact JQ.loop (8 - (j + 1)) ⟨j + 1, ob3, cap3, cur3, bs3, rfl, hlt2, by rw [take_snoc (be8_at hlt2), ← List.append_assoc, ← hbs2, hbs3], by rw [hbs3, List.length_append]; simp; omega, hrow3, htk3, rfl, rfl, rfl, ⟨rfl, rfl, rfl, rfl, rfl, rfl, trivial⟩⟩ (by omega)
    · have hd : decide ((56 - 8 * (j : Int)) ≥ 0) = false := decide_eq_false (by omega)
      refine JC.cond_false (congrArg Value.bool hd) ?_
      obtain rfl : j = 8 := by omega
      rw [List.take_of_length_le (by rw [be8_len]; omega)] at hbs2
      with_reducible refine JC.exit (JQ.seq_exit (JQ.loop_exit (JQ.blk_here (JQ.blk (JQ.seq ?_)))))
      with_reducible refine JC.region ?_
      refine JL.op (JO.val (y_add rfl rfl (natAdd hk hn)) rfl ?_)
      refine JL.op (JO.val (y_move) rfl ?_)
      with_reducible refine JL.nil ?_
      exact JQ.loop (ns.length - (k + 1)) ⟨k + 1, ob2, cap2, cur2, bs2, rfl, hlt, by rw [take_snoc hx, List.flatMap_append, ← List.append_assoc, ← hbs', hbs2]; simp, by omega, hrow, htk, rfl, rfl, rfl, ⟨rfl, rfl, rfl, rfl, trivial⟩⟩ (by omega)
  · have hd : decide ((k : Int) < (ns.length : Int)) = false := by simpa using hlt
    refine JC.cond_false (congrArg Value.bool hd) ?_
    obtain rfl : k = ns.length := by omega
    rw [List.take_length] at hbs'
    with_reducible refine JC.exit (JQ.seq_exit (JQ.loop_exit (JQ.blk_here ?_)))
    refine ret_normal (ret_none rfl (fun w' hc => ?_))
    rw [← hbs']
    exact wr_out rfl rfl hc rfl rfl hrow htk
end Go.Proofs.YtchnnplcpidkiaaDoor
namespace Go.Proofs.YtchnnplcpidkiaaDoor
open Go.RowKit Go.Lib
set_option linter.unusedSimpArgs false
set_option linter.unusedVariables false
set_option maxRecDepth 20000
set_option maxHeartbeats 16000000

theorem txt_len {s : ByteArray} : (txt s).length = 4 + s.size := by simp [txt, be4, sbytes_len]; omega
theorem text_any (F : Nat → Prop) (bw : Nat) (ob : Option Nat) (cap : Nat) (cur : List Value) (bs : List Int) (A : Option Addr) (c : Nat) (ss : List ByteArray) (w : World) (hbw : w.heap[bw]? = some (.cells [.slice (ob.map mkA) bs.length cap].toArray 119 (0, 0))) (hob : ∀ b, ob = some b → w.heap[b]? = some (.cells cur.toArray 5 (0, 0))) (hne : ob ≠ some bw) (hrow : Row ob bs.length cap 1 cur) (htk : cur.take (bs.length * 1) = bcells bs)
    (h : RStrs F w A c ss) (hF : ∀ k, F k → k ≠ bw ∧ ob ≠ some k) (hn : ss.length ≤ 100000) (hsz : ∀ s ∈ ss, s.size ≤ 100000) (hb : bs.length ≤ 100000000) :
    CallsM (bw :: ob.toList) 86 #[.pointer (some ⟨bw, 0, none⟩), .slice A ss.length c] w (fun v w' => WrOut bw ob (bs ++ ss.flatMap txt) w v w') := by
  have hS0 := wr_own hbw hob
  have hnd := wr_nodup (c1 := [.slice (ob.map mkA) bs.length cap]) (c2 := cur) hne
  have hF2 := wr_F (c1 := [.slice (ob.map mkA) bs.length cap]) (c2 := cur) (w := w) hF
  refine CallsM.enter (bw :: ob.toList) [(some bw, 119, [.slice (ob.map mkA) bs.length cap]), (ob, 5, cur)] 47 (fun _ => True) F Tryd.func86 rfl rfl rfl rfl hS0 hnd hF2 ?_
  with_reducible refine JC.seq (JC.seq ?_)
  with_reducible refine JC.region ?_
  refine JL.op (JO.val (y_move) rfl ?_)
  refine JL.op (JO.val (y_eqptr rfl) rfl ?_)
  with_reducible refine JL.nil ?_
  with_reducible refine JQ.seq ?_
  refine JC.cond_false rfl ?_
  with_reducible refine JC.skip (JQ.seq (JC.seq ?_))
  with_reducible refine JC.region ?_
  refine JL.op (JO.val (y_move) rfl ?_)
  refine JL.op (JO.val (y_len rfl rfl) rfl ?_)
  refine JL.op (JO.val (y_move) rfl ?_)
  with_reducible refine JL.nil ?_
  with_reducible refine JQ.seq (JC.block ?_)
  refine JC.loop (fun m E S F' w1' => ∃ k ob' cap' cur' bs', m = ss.length - k ∧ k ≤ ss.length ∧ bs' = bs ++ (ss.take k).flatMap txt ∧ bs'.length ≤ bs.length + 100004 * k ∧ Row ob' bs'.length cap' 1 cur' ∧ cur'.take (bs'.length * 1) = bcells bs' ∧ S = [(some bw, 119, [.slice (ob'.map mkA) bs'.length cap']), (ob', 5, cur')] ∧ F' = F ∧ w1' = w ∧ Has E [(0, .pointer (some ⟨bw, 0, none⟩)), (9, .slice A ss.length c), (10, .int .i64 (ss.length : Nat)), (11, .int .i64 (k : Nat))])
    _ ⟨0, ob, cap, cur, bs, rfl, Nat.zero_le _, by simp, Nat.le_refl _, hrow, htk, rfl, rfl, rfl, ⟨rfl, rfl, rfl, rfl, trivial⟩⟩ ?_
  clear hrow htk
  rintro m E S F' w1' ⟨k, ob', cap', cur', bs', rfl, hk, hbs', hbl, hrow, htk, rfl, rfl, rfl, hE⟩
  refine JC.env hE (fun E => ?_)
  with_reducible refine JC.seq ?_
  with_reducible refine JC.region ?_
  refine JL.op (JO.val (y_lss rfl rfl) rfl ?_)
  with_reducible refine JL.nil ?_
  with_reducible refine JQ.seq (JC.seq ?_)
  by_cases hlt : k < ss.length
  · have hd : decide ((k : Int) < (ss.length : Int)) = true := by simpa using hlt
    refine JC.cond_true (congrArg Value.bool hd) ?_
    obtain ⟨s, hx⟩ : ∃ s, ss[k]? = some s := ⟨ss[k], by simp [hlt]⟩
    have hss := hsz s (List.mem_of_getElem? hx)
    obtain ⟨b, o, hA, hat⟩ := SlF.elem h (fun s _ => rfl) rfl hx
    with_reducible refine JC.skip (JQ.seq (JC.seq (JC.block (JC.seq ?_))))
    with_reducible refine JC.region ?_
    refine JL.op (JO.val (y_idx (b := b) (o := o) rfl rfl rfl rfl hA rfl hlt) rfl ?_)
    refine JL.op (JO.val (y_ldd rfl rfl hat) rfl ?_)
    refine JL.op (JO.val (y_assign) rfl ?_)
    with_reducible refine JL.nil ?_
    with_reducible refine JQ.seq (JC.seq ?_)
    with_reducible refine JC.region ?_
    refine JL.op (JO.val (y_move) rfl ?_)
    refine JL.op (JO.val (y_lens rfl rfl) rfl ?_)
    refine JL.op (JO.val (y_assign) rfl ?_)
    with_reducible refine JL.nil ?_
    with_reducible refine JQ.seq (JC.seq ?_)
    with_reducible refine JC.region ?_
    refine JL.op (JO.val (y_move) rfl ?_)
    refine JL.op (JO.val (y_move) rfl ?_)
    refine JL.op (JO.val (y_nilCheck rfl) rfl ?_)
    refine JL.op (JO.val (y_fieldAddr rfl rfl rfl) rfl ?_)
    refine JL.op (JO.val (y_ld 0 rfl rfl rfl rfl) rfl ?_)
    refine JL.op (JO.val (y_move) rfl ?_)
    refine JL.op (JO.val (y_shr rfl rfl (by omega) rfl) rfl ?_)
    refine JL.op (JO.val (y_conv rfl (run_underlying Tryd.underlying3) (run_underlying Tryd.underlying5) rfl) rfl ?_)
    refine JL.op (JO.val (y_move) rfl ?_)
    refine JL.op (JO.val (y_shr rfl rfl (by omega) rfl) rfl ?_)
    refine JL.op (JO.val (y_conv rfl (run_underlying Tryd.underlying3) (run_underlying Tryd.underlying5) rfl) rfl ?_)
    refine JL.op (JO.val (y_move) rfl ?_)
    refine JL.op (JO.val (y_shr rfl rfl (by omega) rfl) rfl ?_)
    refine JL.op (JO.val (y_conv rfl (run_underlying Tryd.underlying3) (run_underlying Tryd.underlying5) rfl) rfl ?_)
    refine JL.op (JO.val (y_move) rfl ?_)
    refine JL.op (JO.val (y_conv rfl (run_underlying Tryd.underlying3) (run_underlying Tryd.underlying5) rfl) rfl ?_)
    refine JL.op (JO.buildN rfl rfl (⟨_, _, rfl, rfl, rfl, rfl, ⟨_, _, rfl, rfl, rfl, rfl, ⟨_, _, rfl, rfl, rfl, rfl, ⟨_, _, rfl, rfl, rfl, rfl, rfl⟩⟩⟩⟩) rfl rfl rfl ?_); intro b33
    refine JL.op (JO.append 1 (ob := ob') (bcells (be4 (s.size : Int))) rfl rfl rfl rfl rfl rfl rfl hrow (by first | rfl | omega) (fun h => by cases h) (fun w2 hc => hc.src (i := 2) rfl) (allOne_mem rfl) (by unfold maxLen; omega) (by omega) ?_)
    intro ob3 cap3 cur3 hrow3 htk3 _
    obtain ⟨b3, rfl⟩ := row_some hrow3 (by omega)
    refine JL.op (JO.val (y_nilCheck rfl) rfl ?_)
    refine JL.op (JO.val (y_fieldAddr rfl rfl rfl) rfl ?_)
    refine JL.op (JO.store1 0 rfl rfl rfl rfl rfl rfl rfl ?_)
    with_reducible refine JL.nil ?_
    refine JQ.takeN 2 ?_
    have htk4 : cur3.take ((bs'.length + 4) * 1) = bcells (bs' ++ be4 (s.size : Int)) := by rw [htk3, htk, bcells_append]
    with_reducible refine JQ.seq ?_
    with_reducible refine JC.region ?_
    refine JL.op (JO.val (y_move) rfl ?_)
    refine JL.op (JO.val (y_move) rfl ?_)
    refine JL.op (JO.val (y_nilCheck rfl) rfl ?_)
    refine JL.op (JO.val (y_fieldAddr rfl rfl rfl) rfl ?_)
    refine JL.op (JO.val (y_ld 0 rfl rfl rfl rfl) rfl ?_)
    refine JL.op (JO.val (y_move) rfl ?_)
    refine JL.op (JO.appendStr 1 rfl rfl rfl rfl hrow3 (by unfold maxLen; omega) (by omega) ?_)
    intro b4 cap4 cur4 hrow4 htk5
    refine JL.op (JO.val (y_nilCheck rfl) rfl ?_)
    refine JL.op (JO.val (y_fieldAddr rfl rfl rfl) rfl ?_)
    refine JL.op (JO.store1 0 rfl rfl rfl rfl rfl rfl rfl ?_)
    with_reducible refine JL.nil ?_
    with_reducible refine JQ.blk (JQ.seq ?_)
    with_reducible refine JC.region ?_
    refine JL.op (JO.val (y_add rfl rfl (natAdd hk hn)) rfl ?_)
    refine JL.op (JO.val (y_move) rfl ?_)
    with_reducible refine JL.nil ?_
    have hbs4 : bs' ++ txt s = bs ++ (ss.take (k + 1)).flatMap txt := by rw [take_snoc hx, List.flatMap_append, ← List.append_assoc, ← hbs']; simp
    have hl4 : (bs' ++ txt s).length = bs'.length + 4 + s.size := by rw [List.length_append, txt_len]; omega
    refine JQ.takeN 2 ?_
    refine JQ.loop (ss.length - (k + 1)) ⟨k + 1, some b4, cap4, cur4, bs' ++ txt s, rfl, hlt, hbs4, by rw [hl4]; omega, by rw [hl4]; exact hrow4, ?_, by rw [hl4]; rfl, rfl, rfl, ⟨rfl, rfl, rfl, rfl, trivial⟩⟩ (by omega)
    rw [hl4, htk5, htk4, sbytes_cells, ← bcells_append, List.append_assoc]; rfl
  · have hd : decide ((k : Int) < (ss.length : Int)) = false := by simpa using hlt
    refine JC.cond_false (congrArg Value.bool hd) ?_
    obtain rfl : k = ss.length := by omega
    rw [List.take_length] at hbs'
    with_reducible refine JC.exit (JQ.seq_exit (JQ.loop_exit (JQ.blk_here ?_)))
    refine ret_normal (ret_none rfl (fun w' hc => ?_))
    rw [← hbs']
    exact wr_out rfl rfl hc rfl rfl hrow htk
theorem Cur.apart {X : Cx} {S : Sto} {F : Nat → Prop} {w1 w : World} (hc : Cur X S F w1 w) {i j a T T' : Nat} {ob : Option Nat} {c c' : List Value} (hi : nth S i = some (some a, T, c)) (hj : nth S j = some (ob, T', c')) (hij : i ≠ j) : ob ≠ some a := fun e => by
  rw [nth_eq] at hi hj
  exact hij (nodup_at (f := fun e : Ent => e.1) hc.nodup hi hj rfl e)
theorem Al.ne {X : Cx} {S : Sto} {i T k : Nat} {ob : Option Nat} {c : List Value} (h : Al X S k) (hi : nth S i = some (ob, T, c)) : ob ≠ some k := fun e => by
  rw [nth_eq] at hi
  exact h.2 (blks_mem.2 ⟨_, List.mem_of_getElem? hi, e⟩)
theorem ints_row {ns : List Int} : (ns.flatMap fun n => [Value.int .i64 n]) = ns.map (Value.int .i64) := by
  induction ns with
  | nil => rfl
  | cons n ns ih => simp [ih]
theorem encR_len {r : LReply} (hn : r.vals.length ≤ 1000) (hsz : ∀ s ∈ r.vals, s.size ≤ 100000) : 0 < (encR r).length ∧ (encR r).length ≤ 200000000 := by
  have h1 : ∀ ss : List ByteArray, (∀ s ∈ ss, s.size ≤ 100000) → (ss.flatMap txt).length ≤ 100004 * ss.length := by
    intro ss
    induction ss with
    | nil => intro _; simp
    | cons s ss ih =>
      intro h
      have h2 := ih (fun x hx => h x (by simp [hx]))
      have h3 := h s (by simp)
      rw [List.flatMap_cons, List.length_append, txt_len, List.length_cons]
      omega
  have h2 := h1 r.vals hsz
  have h3 : ([r.client, r.num, r.code, (r.vals.length : Int)].flatMap be8).length = 32 := by simp [be8_len]
  unfold encR
  rw [List.length_append, h3]
  omega
theorem write_any (F : Nat → Prop) (bw : Nat) (ob : Option Nat) (cap : Nat) (cur : List Value) (bs : List Int) (cs : List Value) (r : LReply) (w : World) (hbw : w.heap[bw]? = some (.cells [.slice (ob.map mkA) bs.length cap].toArray 119 (0, 0))) (hob : ∀ b, ob = some b → w.heap[b]? = some (.cells cur.toArray 5 (0, 0))) (hne : ob ≠ some bw) (hrow : Row ob bs.length cap 1 cur) (htk : cur.take (bs.length * 1) = bcells bs)
    (h : RReply F w cs r) (hF : ∀ k, F k → k ≠ bw ∧ ob ≠ some k) (hn : r.vals.length ≤ 1000) (hsz : ∀ s ∈ r.vals, s.size ≤ 100000) (hb : bs.length ≤ 1000) :
    CallsM (bw :: ob.toList) 59 #[.pointer (some ⟨bw, 0, none⟩), .agg cs.toArray] w (fun v w' => WrOut bw ob (bs ++ encR r) w v w') := by
  obtain ⟨A, c, rfl, hs⟩ := h.form
  have hS0 := wr_own hbw hob
  have hnd := wr_nodup (c1 := [.slice (ob.map mkA) bs.length cap]) (c2 := cur) hne
  have hF2 := wr_F (c1 := [.slice (ob.map mkA) bs.length cap]) (c2 := cur) (w := w) hF
  refine CallsM.enter (bw :: ob.toList) [(some bw, 119, [.slice (ob.map mkA) bs.length cap]), (ob, 5, cur)] 20 (fun _ => True) F Tryd.func59 rfl rfl rfl rfl hS0 hnd hF2 ?_
  with_reducible refine JC.seq ?_
  with_reducible refine JC.region ?_
  refine JL.op (JO.box rfl rfl ?_); intro b3
  with_reducible refine JL.nil ?_
  with_reducible refine JQ.seq (JC.seq ?_)
  with_reducible refine JC.region ?_
  refine JL.op (JO.val (y_move) rfl ?_)
  refine JL.op (JO.val (y_fieldAddr rfl rfl rfl) rfl ?_)
  refine JL.op (JO.val (y_ld 2 rfl rfl rfl rfl) rfl ?_)
  refine JL.op (JO.val (y_fieldAddr rfl rfl rfl) rfl ?_)
  refine JL.op (JO.val (y_ld 2 rfl rfl rfl rfl) rfl ?_)
  refine JL.op (JO.val (y_fieldAddr rfl rfl rfl) rfl ?_)
  refine JL.op (JO.val (y_ld 2 rfl rfl rfl rfl) rfl ?_)
  refine JL.op (JO.val (y_fieldAddr rfl rfl rfl) rfl ?_)
  refine JL.op (JO.val (y_ld 2 rfl rfl rfl rfl) rfl ?_)
  refine JL.op (JO.val (y_len rfl rfl) rfl ?_)
  refine JL.op (JO.buildN rfl rfl (⟨_, _, rfl, rfl, rfl, rfl, ⟨_, _, rfl, rfl, rfl, rfl, ⟨_, _, rfl, rfl, rfl, rfl, ⟨_, _, rfl, rfl, rfl, rfl, rfl⟩⟩⟩⟩) rfl rfl rfl ?_); intro b14
  refine JL.op (JO.callW 0 1 (by omega) rfl rfl (fun wc hc => num_any (fun k => k ≠ bw ∧ ob ≠ some k) bw ob cap cur bs (some ⟨b14, 0, none⟩) 4 [r.client, r.num, r.code, (r.vals.length : Int)] wc (hc.own _ (List.mem_of_getElem? (i := 0) rfl) bw rfl).2 (fun b hb => (hc.own (ob, 5, cur) (List.mem_of_getElem? (i := 1) rfl) b hb).2) hne hrow htk (Row.slF (ob := some b14) (T := 3) (cur := [.int .i64 r.client, .int .i64 r.num, .int .i64 r.code, .int .i64 (r.vals.length : Int)]) ⟨rfl, Nat.le_refl _, by decide, fun h => (by cases h)⟩ rfl (fun b hb => by cases hb; exact ⟨⟨fun e => hc.apart (i := 3) (j := 0) rfl rfl (by omega) (by rw [e]), hc.apart (i := 3) (j := 1) rfl rfl (by omega)⟩, (hc.own _ (List.mem_of_getElem? (i := 3) rfl) b14 rfl).2⟩)) (fun k hk => hk) (by simp) (by omega)) rfl rfl rfl rfl (fun _ _ => rfl) ?_)
  rintro ob2 cap2 cur2 F2 w2 hrow2 htk2 hst2 hsz2
  with_reducible refine JL.nil ?_
  with_reducible refine JQ.seq ?_
  with_reducible refine JC.region ?_
  refine JL.op (JO.val (y_move) rfl ?_)
  refine JL.op (JO.val (y_fieldAddr rfl rfl rfl) rfl ?_)
  refine JL.op (JO.val (y_ld 2 rfl rfl rfl rfl) rfl ?_)
  refine JL.op (JO.callW 0 1 (by omega) rfl rfl (fun wc hc => text_any _ bw ob2 cap2 cur2 _ A c r.vals wc (hc.own _ (List.mem_of_getElem? (i := 0) rfl) bw rfl).2 (fun b hb => (hc.own (ob2, 5, cur2) (List.mem_of_getElem? (i := 1) rfl) b hb).2) (hc.apart (i := 0) (j := 1) rfl rfl (by omega)) hrow2 htk2 ((hs.step hst2).step hc.step) (fun k hk => ⟨fun e => hk.ne (i := 0) rfl (by rw [e]), hk.ne (i := 1) rfl⟩) (by omega) hsz (by simp [be8_len]; omega)) rfl rfl rfl rfl (fun _ _ => rfl) ?_)
  rintro ob3 cap3 cur3 F3 w3 hrow3 htk3 hst3 hsz3
  with_reducible refine JL.nil ?_
  refine ret_normal (ret_none rfl (fun w' hc => ?_))
  have he : bs ++ encR r = bs ++ [r.client, r.num, r.code, (r.vals.length : Int)].flatMap be8 ++ r.vals.flatMap txt := by unfold encR; rw [List.append_assoc]
  rw [he]
  exact wr_out rfl rfl hc rfl rfl hrow3 htk3
section
variable {X : Cx} {E : Env} {S : Sto} {F : Nat → Prop} {w1 : World}
variable {d : Nat} {ty : TypeId} {pos : String} {af : Array Edge} {K : Kon}
/-- An append to nothing, with no room. -/
theorem JO.appendNew {s x : Operand} {t e : Nat} {ag : Bool} {sz bt : Nat} {z : List Value} {a0 ad : Addr} {m c : Nat} (news : List Value) (hx : ev E s = .slice (some a0) 0 0) (hy : ev E x = .slice (some ad) m c) (hs : sle t = some e) (hr : tyr e = some (ag, sz, bt, z)) (hN : Nat.blt d X.N = true)
    (hl : news.length = m * sz) (hsrc : ∀ w, Cur X S F w1 w → ∀ j u, news[j]? = some u → w.cell? (ad.add j) = some u) (hm : 0 < m) (h63 : m ≤ maxLen) (hb : m * bt ≤ 140737488355328)
    (h : ∀ b cap' cur', Row (some b) m cap' sz cur' → cur'.take (m * sz) = news → K (upd E d (.slice (some ⟨b, 0, none⟩) m cap')) (S ++ [(some b, e, cur')]) F w1) :
    JO X ⟨some d, .call { callee := .builtin .append, args := #[s, x], argTypes := #[t, t] }, ty, pos, af, none⟩ E S F w1 K := fun w a Q' hc ha => by
  obtain ⟨zv, hz1, hz2, hz3⟩ := (tyr_ok hr).zero
  obtain ⟨ti, hi, hzi, hsi, hbi⟩ := info_parts hz3
  have ht := sle_ok hs
  have hzl := (tyr_ok hr).len
  have hzs : zv.cells.size = sz := by rw [hz2]; simpa using hzl
  have hge := grownCap_ge w (0 + m) 0 e
  have hcm : grownCap w (0 + m) 0 e ≤ maxLen := grownCap_le_maxLen w (0 + m) 0 e (by omega)
  have hrg := run_append_grow (P := Tryd.prog) w t ty e ti zv ht hi hzi a0 0 0 [] (by simp) (fun j v hj => by simp at hj) ad m c news (by rw [hsi]; exact hl) (hsrc w hc) (by omega) (by simp only [maxLen] at h63; omega) (growslice_fits (by omega) (by rw [hbi, Nat.zero_add]; exact hb))
  have hrun : (execOp (ev E) ⟨some d, .call { callee := .builtin .append, args := #[s, x], argTypes := #[t, t] }, ty, pos, af, none⟩).run Tryd.prog w = .ok (.value (.slice (some ⟨w.heap.size, 0, none⟩) m (grownCap w (0 + m) 0 e))) (w.drew.alloc (.cells (news ++ (Builtin.zeroCells zv.cells (grownCap w (0 + m) 0 e - (0 + m))).toList).toArray e (0, 0))) := by
    have h2 : ([] : List Value).toArray ++ news.toArray ++ Builtin.zeroCells zv.cells (grownCap w (0 + m) 0 e - (0 + m)) = (news ++ (Builtin.zeroCells zv.cells (grownCap w (0 + m) 0 e - (0 + m))).toList).toArray := by
      apply Array.ext'
      simp
    rw [h2] at hrg
    simp only [Nat.zero_add] at hrg ⊢
    simp [execOp, Sem.run_bind, resolve, invoke, builtin, hx, hy, hrg]
  have hcur := (hc.drew).alloc e (news ++ (Builtin.zeroCells zv.cells (grownCap w (0 + m) 0 e - (0 + m))).toList)
  unfold Oper.wp
  rw [ha.eval, hrun]
  refine ⟨_, _, _, _, ha.put d _ hN, hcur, h _ _ _ ⟨?_, by omega, hcm, fun h => by cases h⟩ ?_⟩
  · simp only [List.length_append, hl, Array.length_toList, size_zeroCells, hzs, ← Nat.add_mul]
    congr 1
    omega
  · rw [List.take_append_of_le_length (by omega), List.take_of_length_le (by omega)]
end
theorem bytes_any (F : Nat → Prop) (bw b n cap : Nat) (bs : List Int) (w : World) (hat : At F w bw 0 [.slice (some ⟨b, 0, none⟩) n cap]) (h : SlF F w (some ⟨b, 0, none⟩) n cap 1 (bcells bs)) (hn : n = bs.length) (hpos : 0 < n) (hmax : n ≤ 1000000000) :
    CallsTo 60 #[.pointer (some ⟨bw, 0, none⟩)] w (fun v w' => ∃ b' cap', v = .slice (some ⟨b', 0, none⟩) n cap' ∧ OwnF (fun b => w.heap.size ≤ b) w' 5 1 (some ⟨b', 0, none⟩) n cap' (bcells bs)) := by
  obtain ⟨b1, o1, hbo, hat2⟩ := h.pos hpos
  cases hbo
  refine CallsTo.enter 15 (fun _ => True) F Tryd.func60 rfl rfl rfl rfl (by intros; first | trivial | assumption) ?_
  with_reducible refine JC.seq ?_
  with_reducible refine JC.region ?_
  refine JL.op (JO.val (y_assign) rfl ?_)
  with_reducible refine JL.nil ?_
  with_reducible refine JQ.seq (JC.seq (JC.seq ?_))
  with_reducible refine JC.region ?_
  refine JL.op (JO.val (y_move) rfl ?_)
  refine JL.op (JO.val (y_eqptr rfl) rfl ?_)
  with_reducible refine JL.nil ?_
  with_reducible refine JQ.seq ?_
  refine JC.cond_false rfl ?_
  with_reducible refine JC.skip (JQ.seq (JC.seq ?_))
  refine JC.cutI (fun E S F2 w2 => ∃ b' cap' cur', Row (some b') n cap' 1 cur' ∧ cur'.take (n * 1) = bcells bs ∧ S = [(some b', 5, cur')] ∧ Has E [(2, .slice (some ⟨b', 0, none⟩) n cap')]) ?_ ?_
  · skip
    refine JC.held [] ?_
    refine JH.take 0 rfl (by kernel_rfl) (by kernel_rfl) (by kernel_rfl) (fun _ _ _ => y_move) rfl (by repeat (first | exact np_fun | exact np_inv | refine np_seq ?_ | refine np_blk ?_ | refine np_loop ?_)) (trivial) ?_
    refine JH.take 1 rfl (by kernel_rfl) (by kernel_rfl) (by kernel_rfl) (fun _ _ _ => y_nilCheck rfl) rfl (by repeat (first | exact np_fun | exact np_inv | refine np_seq ?_ | refine np_blk ?_ | refine np_loop ?_)) (trivial) ?_
    refine JH.take 2 rfl (by kernel_rfl) (by kernel_rfl) (by kernel_rfl) (fun _ _ _ => y_fieldAddr rfl rfl rfl) rfl (by repeat (first | exact np_fun | exact np_inv | refine np_seq ?_ | refine np_blk ?_ | refine np_loop ?_)) (trivial) ?_
    refine JH.take 5 rfl (by kernel_rfl) (by kernel_rfl) (by kernel_rfl) (fun _ _ _ => y_move) rfl (by repeat (first | exact np_fun | exact np_inv | refine np_seq ?_ | refine np_blk ?_ | refine np_loop ?_)) (trivial) ?_
    refine JH.take 6 rfl (by kernel_rfl) (by kernel_rfl) (by kernel_rfl) (fun _ _ _ => y_nilCheck rfl) rfl (by repeat (first | exact np_fun | exact np_inv | refine np_seq ?_ | refine np_blk ?_ | refine np_loop ?_)) (trivial) ?_
    refine JH.take 7 rfl (by kernel_rfl) (by kernel_rfl) (by kernel_rfl) (fun _ _ _ => y_fieldAddr rfl rfl rfl) rfl (by repeat (first | exact np_fun | exact np_inv | refine np_seq ?_ | refine np_blk ?_ | refine np_loop ?_)) (trivial) ?_
    refine JH.two 3 8 (by kernel_rfl) (JI.op rfl ?_) (JI.op rfl ?_)
    · refine (JO.val (y_ldd rfl rfl hat) rfl ?_)
      refine ⟨trivial, ?_⟩
      refine JH.take 4 rfl (by kernel_rfl) (by kernel_rfl) (by kernel_rfl) (fun _ _ _ => y_sl (lv := 0) (hv := 0) (mv := 0) rfl rfl rfl rfl ⟨_, rfl⟩ ⟨_, rfl⟩ rfl (by omega) (by omega) (by omega) rfl) rfl (by repeat (first | exact np_fun | exact np_inv | refine np_seq ?_ | refine np_blk ?_ | refine np_loop ?_)) (trivial) ?_
      refine JH.one 8 (by kernel_rfl) (JI.op rfl ?_)
      refine (JO.val (y_ldd rfl rfl hat) rfl ?_)
      refine ⟨trivial, ?_⟩
      refine JH.one 9 (by kernel_rfl) (JI.op rfl ?_)
      refine (JO.appendNew (bcells bs) rfl rfl rfl rfl rfl (by rw [hn]; simp [bcells]) (fun w2 hc j u hj => by rw [add_lit]; exact (hat2.step hc.step (by intro e; rw [e] at hj; simp at hj)).2 j u hj) hpos (by unfold maxLen; omega) (by omega) ?_)
      intro b' cap' cur' hrow' htk'
      refine ⟨trivial, ?_⟩
      refine JH.take 10 rfl (by kernel_rfl) (by kernel_rfl) (by kernel_rfl) (fun _ _ _ => y_assign) rfl (by repeat (first | exact np_fun | exact np_inv | refine np_seq ?_ | refine np_blk ?_ | refine np_loop ?_)) (trivial) ?_
      refine JH.done (by kernel_rfl) ?_
      exact JQ.inv ⟨b', cap', cur', hrow', htk', rfl, ⟨rfl, trivial⟩⟩
    · refine (JO.val (y_ldd rfl rfl hat) rfl ?_)
      refine ⟨trivial, ?_⟩
      refine JH.one 3 (by kernel_rfl) (JI.op rfl ?_)
      refine (JO.val (y_ldd rfl rfl hat) rfl ?_)
      refine ⟨trivial, ?_⟩
      refine JH.take 4 rfl (by kernel_rfl) (by kernel_rfl) (by kernel_rfl) (fun _ _ _ => y_sl (lv := 0) (hv := 0) (mv := 0) rfl rfl rfl rfl ⟨_, rfl⟩ ⟨_, rfl⟩ rfl (by omega) (by omega) (by omega) rfl) rfl (by repeat (first | exact np_fun | exact np_inv | refine np_seq ?_ | refine np_blk ?_ | refine np_loop ?_)) (trivial) ?_
      refine JH.one 9 (by kernel_rfl) (JI.op rfl ?_)
      refine (JO.appendNew (bcells bs) rfl rfl rfl rfl rfl (by rw [hn]; simp [bcells]) (fun w2 hc j u hj => by rw [add_lit]; exact (hat2.step hc.step (by intro e; rw [e] at hj; simp at hj)).2 j u hj) hpos (by unfold maxLen; omega) (by omega) ?_)
      intro b' cap' cur' hrow' htk'
      refine ⟨trivial, ?_⟩
      refine JH.take 10 rfl (by kernel_rfl) (by kernel_rfl) (by kernel_rfl) (fun _ _ _ => y_assign) rfl (by repeat (first | exact np_fun | exact np_inv | refine np_seq ?_ | refine np_blk ?_ | refine np_loop ?_)) (trivial) ?_
      refine JH.done (by kernel_rfl) ?_
      exact JQ.inv ⟨b', cap', cur', hrow', htk', rfl, ⟨rfl, trivial⟩⟩
  rintro E S F2 w2 ⟨b', cap', cur', hrow', htk', rfl, hE⟩
  refine JQ.env hE (fun E => ?_)
  with_reducible refine JQ.seq (JC.ret ?_)
  exact ret_one rfl ResV.tmp (fun w' hc => ⟨b', cap', rfl, some b', cur', rfl, hrow', htk', fun b hb => hc.own0 rfl (some b', 5, cur') (by simp) b hb⟩)
end Go.Proofs.YtchnnplcpidkiaaDoor
namespace Go.Proofs.YtchnnplcpidkiaaDoor
open Go.RowKit Go.Lib
set_option linter.unusedSimpArgs false
set_option linter.unusedVariables false
set_option maxRecDepth 20000
set_option maxHeartbeats 16000000

/-- A reply whose texts are few and short. -/
structure Tame (r : LReply) : Prop where
  n : r.vals.length ≤ 1000
  size : ∀ s ∈ r.vals, s.size ≤ 100000
theorem own_cells {X : Cx} {S : Sto} {F : Nat → Prop} {w1 : World} {b n cap : Nat} {bs : List Int} (h : OwnF F w1 5 1 (some ⟨b, 0, none⟩) n cap (bcells bs)) : ∀ w, Cur X S F w1 w → ∀ (j : Nat) m, bs[j]? = some m → w.cell? ⟨b, 0 + j, none⟩ = some (.int .u8 m) := fun w hc j m hj => by
  obtain ⟨ob, cur, hA, hrow, htk, hb⟩ := h
  cases ob with
  | none => cases hA
  | some b2 =>
    have : b = b2 := by simpa [mkA] using hA
    subst this
    obtain ⟨hF, hw⟩ := hb b rfl
    obtain ⟨h1, _⟩ := hc.step b (Array.getElem?_eq_some_iff.1 hw).1 hF
    have h2 : (bcells bs)[j]? = some (.int .u8 m) := by unfold bcells; rw [List.getElem?_map, hj]; rfl
    rw [← htk, List.getElem?_take] at h2
    split at h2
    · rw [Nat.zero_add]
      simp [World.cell?, h1.trans hw, h2]
    · cases h2
theorem same37_any (F : Nat → Prop) (cs cs' : List Value) (r r' : LReply) (w : World) (h : RReply F w cs r) (h' : RReply F w cs' r') (hr : Tame r) (hr' : Tame r') :
    CallsTo 37 #[.agg cs.toArray, .agg cs'.toArray] w (fun v _ => v = .bool ((bstr (encR r)).toList == (bstr (encR r')).toList)) := by
  obtain ⟨A, c, rfl, hs⟩ := h.form
  obtain ⟨A', c', rfl, hs'⟩ := h'.form
  obtain ⟨hp1, hp2⟩ := encR_len hr.n hr.size
  obtain ⟨hp3, hp4⟩ := encR_len hr'.n hr'.size
  refine CallsTo.enter 24 (fun _ => True) F Tryd.func37 rfl rfl rfl rfl (by intros; first | trivial | assumption) ?_
  with_reducible refine JC.seq ?_
  with_reducible refine JC.region ?_
  refine JL.op (JO.box rfl rfl ?_); intro b2
  refine JL.op (JO.box rfl rfl ?_); intro b3
  refine JL.op (JO.val (y_assign) rfl ?_)
  with_reducible refine JL.nil ?_
  with_reducible refine JQ.seq (JC.seq ?_)
  with_reducible refine JC.region ?_
  refine JL.op (JO.val (y_build rfl rfl (rfl)) rfl ?_)
  refine JL.op (JO.box rfl rfl ?_); intro b8
  refine JL.op (JO.val (y_build rfl rfl (rfl)) rfl ?_)
  refine JL.op (JO.box rfl rfl ?_); intro b10
  refine JL.op (JO.val (y_assign) rfl ?_)
  refine JL.op (JO.val (y_assign) rfl ?_)
  with_reducible refine JL.nil ?_
  with_reducible refine JQ.seq (JC.seq ?_)
  refine JC.addNone 5 (JC.addNone 5 ?_)
  with_reducible refine JC.region ?_
  refine JL.op (JO.val (y_move) rfl ?_)
  refine JL.op (JO.val (y_ldA 0 rfl rfl rfl rfl) rfl ?_)
  refine JL.op (JO.callW 2 4 (by omega) rfl rfl (fun wc hc => write_any _ b8 none 0 [] [] _ r wc (hc.own _ (List.mem_of_getElem? (i := 2) rfl) b8 rfl).2 (fun b hb => by cases hb) (by simp) (Row.none 1) rfl (h.step hc.step) (fun k hk => ⟨fun e => hk.ne (i := 2) rfl (by rw [e]), by simp⟩) hr.n hr.size (by simp)) rfl rfl rfl rfl (fun _ _ => rfl) ?_)
  rintro ob2 cap2 cur2 F2 w2 hrow2 htk2 hst2 hsz2
  with_reducible refine JL.nil ?_
  rw [List.nil_append] at hrow2 htk2
  with_reducible refine JQ.seq (JC.seq ?_)
  with_reducible refine JC.region ?_
  refine JL.op (JO.val (y_move) rfl ?_)
  refine JL.op (JO.val (y_ldA 1 rfl rfl rfl rfl) rfl ?_)
  refine JL.op (JO.callW 3 5 (by omega) rfl rfl (fun wc hc => write_any _ b10 none 0 [] [] _ r' wc (hc.own _ (List.mem_of_getElem? (i := 3) rfl) b10 rfl).2 (fun b hb => by cases hb) (by simp) (Row.none 1) rfl ((h'.step hst2).step hc.step) (fun k hk => ⟨fun e => hk.ne (i := 3) rfl (by rw [e]), by simp⟩) hr'.n hr'.size (by simp)) rfl rfl rfl rfl (fun _ _ => rfl) ?_)
  rintro ob3 cap3 cur3 F3 w3 hrow3 htk3 hst3 hsz3
  with_reducible refine JL.nil ?_
  rw [List.nil_append] at hrow3 htk3
  obtain ⟨bb2, rfl⟩ := row_some hrow2 hp1
  obtain ⟨bb3, rfl⟩ := row_some hrow3 hp3
  with_reducible refine JQ.seq (JC.seq ?_)
  refine JC.cutI (fun E S F4 w4 => Has E [(4, .bool ((bstr (encR r)).toList == (bstr (encR r')).toList))]) ?_ ?_
  · skip
    refine JC.held [] ?_
    refine JH.take 0 rfl (by kernel_rfl) (by kernel_rfl) (by kernel_rfl) (fun _ _ _ => y_move) rfl (by repeat (first | exact np_fun | exact np_inv | refine np_seq ?_ | refine np_blk ?_ | refine np_loop ?_)) (trivial) ?_
    refine JH.take 3 rfl (by kernel_rfl) (by kernel_rfl) (by kernel_rfl) (fun _ _ _ => y_move) rfl (by repeat (first | exact np_fun | exact np_inv | refine np_seq ?_ | refine np_blk ?_ | refine np_loop ?_)) (trivial) ?_
    refine JH.one 1 (by kernel_rfl) (JI.op rfl ?_)
    refine (JO.call _ (fun wc hc => bytes_any (fun _ => True) b8 bb2 (encR r).length cap2 (encR r) wc ⟨trivial, fun j u hj => (by cases j with | zero => (simp at hj; subst hj; exact hc.cell (i := 2) rfl 0) | succ j => simp at hj)⟩ (hrow2.slF htk2 (fun b hb => ⟨trivial, (hc.own (some bb2, 5, cur2) (List.mem_of_getElem? (i := 4) rfl) b hb).2⟩)) rfl hp1 (by omega)) rfl rfl rfl ?_)
    rintro wc5 v wn5 hst5 hsz5 hfr5 hbl5 hst05 ⟨b5', cap5, rfl, ho5⟩
    replace ho5 := ho5.weak hfr5
    refine ⟨trivial, ?_⟩
    refine JH.two 2 4 (by kernel_rfl) (JI.op rfl ?_) (JI.op rfl ?_)
    · refine (JO.val (y_b2s (ns := encR r) rfl rfl (own_cells ho5)) rfl ?_)
      refine ⟨trivial, ?_⟩
      refine JH.one 4 (by kernel_rfl) (JI.op rfl ?_)
      refine (JO.call _ (fun wc hc => bytes_any (fun _ => True) b10 bb3 (encR r').length cap3 (encR r') wc ⟨trivial, fun j u hj => (by cases j with | zero => (simp at hj; subst hj; exact hc.cell (i := 3) rfl 0) | succ j => simp at hj)⟩ (hrow3.slF htk3 (fun b hb => ⟨trivial, (hc.own (some bb3, 5, cur3) (List.mem_of_getElem? (i := 5) rfl) b hb).2⟩)) rfl hp3 (by omega)) rfl rfl rfl ?_)
      rintro wc6 v wn6 hst6 hsz6 hfr6 hbl6 hst06 ⟨b6', cap6, rfl, ho6⟩
      replace ho6 := ho6.weak hfr6
      replace ho5 := ho5.step hst6
      refine ⟨trivial, ?_⟩
      refine JH.one 5 (by kernel_rfl) (JI.op rfl ?_)
      refine (JO.val (y_b2s (ns := encR r') rfl rfl (own_cells ho6)) rfl ?_)
      refine ⟨trivial, ?_⟩
      refine JH.take 6 rfl (by kernel_rfl) (by kernel_rfl) (by kernel_rfl) (fun _ _ _ => y_eqs rfl rfl) rfl (by repeat (first | exact np_fun | exact np_inv | refine np_seq ?_ | refine np_blk ?_ | refine np_loop ?_)) (trivial) ?_
      refine JH.take 7 rfl (by kernel_rfl) (by kernel_rfl) (by kernel_rfl) (fun _ _ _ => y_assign) rfl (by repeat (first | exact np_fun | exact np_inv | refine np_seq ?_ | refine np_blk ?_ | refine np_loop ?_)) (trivial) ?_
      refine JH.done (by kernel_rfl) ?_
      exact JQ.inv ⟨rfl, trivial⟩
    · refine (JO.call _ (fun wc hc => bytes_any (fun _ => True) b10 bb3 (encR r').length cap3 (encR r') wc ⟨trivial, fun j u hj => (by cases j with | zero => (simp at hj; subst hj; exact hc.cell (i := 3) rfl 0) | succ j => simp at hj)⟩ (hrow3.slF htk3 (fun b hb => ⟨trivial, (hc.own (some bb3, 5, cur3) (List.mem_of_getElem? (i := 5) rfl) b hb).2⟩)) rfl hp3 (by omega)) rfl rfl rfl ?_)
      rintro wc6 v wn6 hst6 hsz6 hfr6 hbl6 hst06 ⟨b6', cap6, rfl, ho6⟩
      replace ho6 := ho6.weak hfr6
      replace ho5 := ho5.step hst6
      refine ⟨trivial, ?_⟩
      refine JH.two 2 5 (by kernel_rfl) (JI.op rfl ?_) (JI.op rfl ?_)
      · refine (JO.val (y_b2s (ns := encR r) rfl rfl (own_cells ho5)) rfl ?_)
        refine ⟨trivial, ?_⟩
        refine JH.one 5 (by kernel_rfl) (JI.op rfl ?_)
        refine (JO.val (y_b2s (ns := encR r') rfl rfl (own_cells ho6)) rfl ?_)
        refine ⟨trivial, ?_⟩
        refine JH.take 6 rfl (by kernel_rfl) (by kernel_rfl) (by kernel_rfl) (fun _ _ _ => y_eqs rfl rfl) rfl (by repeat (first | exact np_fun | exact np_inv | refine np_seq ?_ | refine np_blk ?_ | refine np_loop ?_)) (trivial) ?_
        refine JH.take 7 rfl (by kernel_rfl) (by kernel_rfl) (by kernel_rfl) (fun _ _ _ => y_assign) rfl (by repeat (first | exact np_fun | exact np_inv | refine np_seq ?_ | refine np_blk ?_ | refine np_loop ?_)) (trivial) ?_
        refine JH.done (by kernel_rfl) ?_
        exact JQ.inv ⟨rfl, trivial⟩
      · refine (JO.val (y_b2s (ns := encR r') rfl rfl (own_cells ho6)) rfl ?_)
        refine ⟨trivial, ?_⟩
        refine JH.one 2 (by kernel_rfl) (JI.op rfl ?_)
        refine (JO.val (y_b2s (ns := encR r) rfl rfl (own_cells ho5)) rfl ?_)
        refine ⟨trivial, ?_⟩
        refine JH.take 6 rfl (by kernel_rfl) (by kernel_rfl) (by kernel_rfl) (fun _ _ _ => y_eqs rfl rfl) rfl (by repeat (first | exact np_fun | exact np_inv | refine np_seq ?_ | refine np_blk ?_ | refine np_loop ?_)) (trivial) ?_
        refine JH.take 7 rfl (by kernel_rfl) (by kernel_rfl) (by kernel_rfl) (fun _ _ _ => y_assign) rfl (by repeat (first | exact np_fun | exact np_inv | refine np_seq ?_ | refine np_blk ?_ | refine np_loop ?_)) (trivial) ?_
        refine JH.done (by kernel_rfl) ?_
        exact JQ.inv ⟨rfl, trivial⟩
  rintro E S F4 w4 hE
  refine JQ.env hE (fun E => ?_)
  with_reducible refine JQ.seq (JC.ret ?_)
  exact ret_one rfl ResV.tmp (fun w' hc => rfl)
end Go.Proofs.YtchnnplcpidkiaaDoor
