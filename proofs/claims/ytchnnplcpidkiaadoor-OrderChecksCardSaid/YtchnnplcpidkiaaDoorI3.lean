/- Calls of Insert and Delete at a list of data that the caller owns; no condition but bounds on lengths. -/
import Derived.Test.YtchnnplcpidkiaaDoorI2
import Derived.Test.YtchnnplcpidkiaaDoorC10
namespace Go.Proofs.YtchnnplcpidkiaaDoor
open Go.RowKit
set_option linter.unusedSimpArgs false
set_option linter.unusedVariables false
set_option maxRecDepth 20000
set_option maxHeartbeats 1000000

section
variable {X : Cx} {S : Sto} {F : Nat → Prop} {w1 w : World}
theorem Cur.put (h : Cur X S F w1 w) (i : Nat) {T0 : Nat} {cs0 : List Value} (hS : nth S i = some (none, T0, cs0)) (ob : Option Nat) (T : Nat) (cs : List Value) (hob : ∀ b, ob = some b → w.heap[b]? = some (.cells cs.toArray T (0, 0)) ∧ (X.w0.heap.size ≤ b ∨ b ∈ X.md) ∧ b ∉ blks S) :
    Cur X (sset S i (ob, T, cs)) (fun k => F k ∧ ob ≠ some k) w1 w := by
  refine ⟨h.below, h.size, fun e he b' hb' => ?_, nodup_sset h.nodup fun b' hb' => ?_, fun k hk hF => ?_⟩
  · rw [sset_eq] at he
    rcases List.mem_or_eq_of_mem_set he with h1 | h1
    · exact h.own e h1 b' hb'
    · subst h1; exact ⟨(hob b' hb').2.1, (hob b' hb').1⟩
  · exact (hob b' hb').2.2
  · obtain ⟨h1, h2, h3⟩ := h.step k hk hF.1
    refine ⟨h1, h2, fun hm => ?_⟩
    rcases blks_sset_sub hm with h4 | h4
    · exact h3 h4
    · exact hF.2 h4
theorem blks_blank {ks : List Nat} {b : Nat} (h : b ∈ blks (blank ks S)) : ∃ e ∈ S, e.1 = some b := by
  obtain ⟨e, he, hb⟩ := blks_mem.1 h
  exact ⟨e, blankGo_mem he (by rw [hb]; simp), hb⟩
theorem calls_mono {md : List Nat} {f : FuncId} {args : Array Value} {R R' : Value → World → Prop} (h : CallsM md f args w R) (hR : ∀ v w', R v w' → R' v w') : CallsM md f args w R' :=
  ⟨h.1, h.2.mono fun e w' ⟨v, h1, h2, h3⟩ => ⟨v, h1, h2, hR v w' h3⟩⟩
end
section
variable {X : Cx} {E : Env} {S : Sto} {F : Nat → Prop} {w1 : World} {K : Kon} {d : Nat} {ty : TypeId} {pos : String} {af : Array Edge}
/-- A call that changes a row of the call's own, at entry i, and gives up the entries ks. -/
theorem JO.callRow (i : Nat) (ks : List Nat) (md : List Nat) (T : Nat) (R : Value → Option Nat → List Value → Prop) {ob : Option Nat} {T0 T1 : Nat} {cs0 cs1 : List Value} {g : FuncId} {x : Operand} {xs : Array Operand} {ts : Array TypeId} {caps : List Value} {args : List Value}
    (hcall : ∀ w, Cur X S F w1 w → CallsM md g args.toArray w (fun v w' => ∃ ob' cur', R v ob' cur' ∧ ∀ b, ob' = some b → (ob = some b ∨ w.heap.size ≤ b) ∧ w'.heap[b]? = some (.cells cur'.toArray T (0, 0)))) (hx : ev E x = .func (.func g) #[] caps.toArray) (hargs : xs.toList.map (ev E) ++ caps = args) (hN : Nat.blt d X.N = true)
    (hmd : ∀ b ∈ md, ∃ e ∈ S, e.1 = some b) (hks : (blks S).Nodup → ∀ e ∈ blank ks S, ∀ b, e.1 = some b → b ∉ md) (hS : nth S i = some (ob, T0, cs0)) (hB : nth (blank ks S) i = some (none, T1, cs1)) (hob : ∀ b, ob = some b → b ∈ md)
    (h : ∀ v ob' cur' F' w', R v ob' cur' → Step F w1 F' w' → w1.heap.size ≤ w'.heap.size → K (upd E d v) (sset (blank ks S) i (ob', T, cur')) F' w') :
    JO X ⟨some d, .call { callee := .value x, args := xs, argTypes := ts }, ty, pos, af, none⟩ E S F w1 K := by
  refine JO.callM ks md (fun w v w' => ∃ ob' cur', R v ob' cur' ∧ ∀ b, ob' = some b → (ob = some b ∨ w.heap.size ≤ b) ∧ w'.heap[b]? = some (.cells cur'.toArray T (0, 0))) hcall hx hargs hN hmd hks ?_
  rintro w v w' hc hc' hst hsz hfr hsz' ⟨ob', cur', hR, hb⟩
  rw [nth_eq] at hS
  have hSm := List.mem_of_getElem? hS
  refine ⟨_, _, hc'.put i hB ob' T cur' (fun b hbb => ⟨(hb b hbb).2, ?_, ?_⟩), h v ob' cur' _ w' hR (fun k hk hF => ?_) (Nat.le_trans hsz hsz')⟩
  · rcases (hb b hbb).1 with h1 | h1
    · exact (hc.own _ hSm b h1).1
    · exact .inl (Nat.le_trans hc.below.size h1)
  · intro hm
    rcases (hb b hbb).1 with h1 | h1
    · obtain ⟨e, he, h2⟩ := blks_mem.1 hm
      exact hks hc.nodup e he b h2 (hob b h1)
    · obtain ⟨e, he, h2⟩ := blks_blank hm
      have := hc.lt (blks_mem.2 ⟨e, he, h2⟩)
      omega
  · obtain ⟨h1, h2⟩ := hst k hk hF
    refine ⟨h1, h2, fun h3 => ?_⟩
    rcases (hb k h3).1 with h4 | h4
    · exact h2.2 (blks_mem.2 ⟨_, hSm, h4⟩)
    · omega
theorem flat_cut {α : Type} {f : α → List Value} {xs : List α} {p : Nat} : xs.flatMap f = (xs.take p).flatMap f ++ (xs.drop p).flatMap f := by
  rw [← List.flatMap_append, List.take_append_drop]
theorem ne_of_beq {i j : Nat} (h : Nat.beq i j = false) : i ≠ j := fun e => by subst e; simp at h
theorem blank2 {S : Sto} {i j : Nat} {e : Ent} (he : e ∈ blank [i, j] S) {b : Nat} (hb : e.1 = some b) : ∃ k, k ≠ i ∧ k ≠ j ∧ S[k]? = some e := by
  have go : ∀ (S : Sto) (n : Nat), e ∈ blankGo [i, j] n S → ∃ k, n + k ≠ i ∧ n + k ≠ j ∧ S[k]? = some e := by
    intro S
    induction S with
    | nil => intro n h; simp [blankGo] at h
    | cons x S ih =>
      intro n h
      unfold blankGo at h
      rcases List.mem_cons.1 h with h1 | h1
      · cases hq : ([i, j].any fun k => Nat.beq n k) with
        | true => rw [hq] at h1; have hxe : e = (none, 0, []) := h1; rw [hxe] at hb; cases hb
        | false =>
          rw [hq] at h1
          have hxe : e = x := h1
          simp at hq
          exact ⟨0, by simpa using ne_of_beq hq.1, by simpa using ne_of_beq hq.2, by simp [hxe]⟩
      · obtain ⟨k, h2, h3, h4⟩ := ih (n + 1) h1
        exact ⟨k + 1, by omega, by omega, by simpa using h4⟩
  obtain ⟨k, h2, h3, h4⟩ := go S 0 he
  exact ⟨k, by omega, by omega, h4⟩
theorem JO.ins_71 {α : Type} (i j : Nat) (f : α → List Value) {ob : Option Nat} {bv cap p : Nat} {cur : List Value} {ys : List α} {y : α} {T1 : Nat} {cs1 : List Value} {x : Operand} {xs : Array Operand} {ts : Array TypeId} {caps : List Value} (hx : ev E x = .func (.func 71) #[] caps.toArray)
    (hargs : xs.toList.map (ev E) ++ caps = [.slice (ob.map mkA) ys.length cap, .int .i64 (p : Nat), .slice (some ⟨bv, 0, none⟩) 1 1]) (hN : Nat.blt d X.N = true) (hS : nth S i = some (ob, 53, cur)) (hS' : nth S j = some (some bv, 53, f y)) (hij : Nat.beq i j = false) (hB : nth (blank [i, j] S) i = some (none, T1, cs1))
    (hrow : Row ob ys.length cap 2 cur) (htk : cur.take (ys.length * 2) = ys.flatMap f) (hf : ∀ z ∈ ys, (f z).length = 2) (hfo : ∀ z ∈ ys, ∀ u ∈ f z, u.oneCell' = true) (hy : (f y).length = 2) (hyo : allOne (f y) = true) (hp : p ≤ ys.length) (hn : ys.length ≤ 100000)
    (h : ∀ ob' cap' cur' F' w', Row ob' (ys.take p ++ y :: ys.drop p).length cap' 2 cur' → cur'.take ((ys.take p ++ y :: ys.drop p).length * 2) = (ys.take p ++ y :: ys.drop p).flatMap f → Step F w1 F' w' → w1.heap.size ≤ w'.heap.size → K (upd E d (.slice (ob'.map mkA) (ys.take p ++ y :: ys.drop p).length cap')) (sset (blank [i, j] S) i (ob', 53, cur')) F' w') :
    JO X ⟨some d, .call { callee := .value x, args := xs, argTypes := ts }, ty, pos, af, none⟩ E S F w1 K := by
  have hlen : (ys.take p ++ y :: ys.drop p).length = ys.length + 1 := by simp; omega
  have hnm : ys.length = p + (ys.length - p) := by omega
  have hne : i ≠ j := ne_of_beq hij
  have hSi := hS
  have hSj := hS'
  rw [nth_eq] at hSi hSj
  refine JO.callRow i [i, j] (ob.toList ++ [bv]) 53 (fun v ob' cur' => ∃ cap', v = .slice (ob'.map mkA) (ys.take p ++ y :: ys.drop p).length cap' ∧ Row ob' (ys.take p ++ y :: ys.drop p).length cap' 2 cur' ∧ cur'.take ((ys.take p ++ y :: ys.drop p).length * 2) = (ys.take p ++ y :: ys.drop p).flatMap f) (fun w hc => ?_) hx hargs hN ?_ ?_ hS hB (fun b hb => by simp [hb]) ?_
  · have hbv := (hc.own _ (List.mem_of_getElem? hSj) bv rfl).2
    have hobh := fun b (hb : ob = some b) => (hc.own _ (List.mem_of_getElem? hSi) b hb).2
    have hneb : ob ≠ some bv := fun he => hne (nodup_at (f := fun e : Ent => e.1) hc.nodup hSi hSj he rfl)
    have := insert_71 ob bv p (ys.length - p) cap cur (f y) ((ys.take p).flatMap f) ((ys.drop p).flatMap f) w (by rw [← hnm]; exact hrow) (by rw [flatMap_length (fun z hz => hf z (List.mem_of_mem_take hz)), List.length_take, Nat.min_eq_left hp]) (by rw [flatMap_length (fun z hz => hf z (List.mem_of_mem_drop hz)), List.length_drop])
      (by rw [← hnm, htk]; exact flat_cut) (by omega) hobh hbv hneb hy hyo (allOne_of (flatMap_one fun z hz => hfo z (List.mem_of_mem_drop hz)))
    rw [← hnm] at this
    refine calls_mono this fun v w' ⟨ob', cap', cur', h1, h2, h3, h4⟩ => ⟨ob', cur', ⟨cap', by rw [hlen]; exact h1, by rw [hlen]; exact h2, ?_⟩, h4⟩
    rw [hlen, h3, List.flatMap_append, List.flatMap_cons, List.append_assoc]
  · intro b hb
    rcases List.mem_append.1 hb with h1 | h1
    · exact ⟨_, List.mem_of_getElem? hSi, by simpa using h1⟩
    · exact ⟨_, List.mem_of_getElem? hSj, by simpa [eq_comm] using h1⟩
  · intro hnd e he b hb hm
    obtain ⟨k, hk1, hk2, hk3⟩ := blank2 he hb
    rcases List.mem_append.1 hm with h1 | h1
    · exact hk1 (nodup_at (f := fun e : Ent => e.1) hnd hk3 hSi hb (by simpa using h1))
    · exact hk2 (nodup_at (f := fun e : Ent => e.1) hnd hk3 hSj hb (by simpa [eq_comm] using h1))
  · rintro v ob' cur' F' w' ⟨cap', rfl, h2, h3⟩ hst hsz
    exact h ob' cap' cur' F' w' h2 h3 hst hsz
theorem JO.ins_31 {α : Type} (i j : Nat) (f : α → List Value) {ob : Option Nat} {bv cap p : Nat} {cur : List Value} {ys : List α} {y : α} {T1 : Nat} {cs1 : List Value} {x : Operand} {xs : Array Operand} {ts : Array TypeId} {caps : List Value} (hx : ev E x = .func (.func 31) #[] caps.toArray)
    (hargs : xs.toList.map (ev E) ++ caps = [.slice (ob.map mkA) ys.length cap, .int .i64 (p : Nat), .slice (some ⟨bv, 0, none⟩) 1 1]) (hN : Nat.blt d X.N = true) (hS : nth S i = some (ob, 45, cur)) (hS' : nth S j = some (some bv, 45, f y)) (hij : Nat.beq i j = false) (hB : nth (blank [i, j] S) i = some (none, T1, cs1))
    (hrow : Row ob ys.length cap 4 cur) (htk : cur.take (ys.length * 4) = ys.flatMap f) (hf : ∀ z ∈ ys, (f z).length = 4) (hfo : ∀ z ∈ ys, ∀ u ∈ f z, u.oneCell' = true) (hy : (f y).length = 4) (hyo : allOne (f y) = true) (hp : p ≤ ys.length) (hn : ys.length ≤ 100000)
    (h : ∀ ob' cap' cur' F' w', Row ob' (ys.take p ++ y :: ys.drop p).length cap' 4 cur' → cur'.take ((ys.take p ++ y :: ys.drop p).length * 4) = (ys.take p ++ y :: ys.drop p).flatMap f → Step F w1 F' w' → w1.heap.size ≤ w'.heap.size → K (upd E d (.slice (ob'.map mkA) (ys.take p ++ y :: ys.drop p).length cap')) (sset (blank [i, j] S) i (ob', 45, cur')) F' w') :
    JO X ⟨some d, .call { callee := .value x, args := xs, argTypes := ts }, ty, pos, af, none⟩ E S F w1 K := by
  have hlen : (ys.take p ++ y :: ys.drop p).length = ys.length + 1 := by simp; omega
  have hnm : ys.length = p + (ys.length - p) := by omega
  have hne : i ≠ j := ne_of_beq hij
  have hSi := hS
  have hSj := hS'
  rw [nth_eq] at hSi hSj
  refine JO.callRow i [i, j] (ob.toList ++ [bv]) 45 (fun v ob' cur' => ∃ cap', v = .slice (ob'.map mkA) (ys.take p ++ y :: ys.drop p).length cap' ∧ Row ob' (ys.take p ++ y :: ys.drop p).length cap' 4 cur' ∧ cur'.take ((ys.take p ++ y :: ys.drop p).length * 4) = (ys.take p ++ y :: ys.drop p).flatMap f) (fun w hc => ?_) hx hargs hN ?_ ?_ hS hB (fun b hb => by simp [hb]) ?_
  · have hbv := (hc.own _ (List.mem_of_getElem? hSj) bv rfl).2
    have hobh := fun b (hb : ob = some b) => (hc.own _ (List.mem_of_getElem? hSi) b hb).2
    have hneb : ob ≠ some bv := fun he => hne (nodup_at (f := fun e : Ent => e.1) hc.nodup hSi hSj he rfl)
    have := insert_31 ob bv p (ys.length - p) cap cur (f y) ((ys.take p).flatMap f) ((ys.drop p).flatMap f) w (by rw [← hnm]; exact hrow) (by rw [flatMap_length (fun z hz => hf z (List.mem_of_mem_take hz)), List.length_take, Nat.min_eq_left hp]) (by rw [flatMap_length (fun z hz => hf z (List.mem_of_mem_drop hz)), List.length_drop])
      (by rw [← hnm, htk]; exact flat_cut) (by omega) hobh hbv hneb hy hyo (allOne_of (flatMap_one fun z hz => hfo z (List.mem_of_mem_drop hz)))
    rw [← hnm] at this
    refine calls_mono this fun v w' ⟨ob', cap', cur', h1, h2, h3, h4⟩ => ⟨ob', cur', ⟨cap', by rw [hlen]; exact h1, by rw [hlen]; exact h2, ?_⟩, h4⟩
    rw [hlen, h3, List.flatMap_append, List.flatMap_cons, List.append_assoc]
  · intro b hb
    rcases List.mem_append.1 hb with h1 | h1
    · exact ⟨_, List.mem_of_getElem? hSi, by simpa using h1⟩
    · exact ⟨_, List.mem_of_getElem? hSj, by simpa [eq_comm] using h1⟩
  · intro hnd e he b hb hm
    obtain ⟨k, hk1, hk2, hk3⟩ := blank2 he hb
    rcases List.mem_append.1 hm with h1 | h1
    · exact hk1 (nodup_at (f := fun e : Ent => e.1) hnd hk3 hSi hb (by simpa using h1))
    · exact hk2 (nodup_at (f := fun e : Ent => e.1) hnd hk3 hSj hb (by simpa [eq_comm] using h1))
  · rintro v ob' cur' F' w' ⟨cap', rfl, h2, h3⟩ hst hsz
    exact h ob' cap' cur' F' w' h2 h3 hst hsz
theorem JO.ins_78 {α : Type} (i j : Nat) (f : α → List Value) {ob : Option Nat} {bv cap p : Nat} {cur : List Value} {ys : List α} {y : α} {T1 : Nat} {cs1 : List Value} {x : Operand} {xs : Array Operand} {ts : Array TypeId} {caps : List Value} (hx : ev E x = .func (.func 78) #[] caps.toArray)
    (hargs : xs.toList.map (ev E) ++ caps = [.slice (ob.map mkA) ys.length cap, .int .i64 (p : Nat), .slice (some ⟨bv, 0, none⟩) 1 1]) (hN : Nat.blt d X.N = true) (hS : nth S i = some (ob, 55, cur)) (hS' : nth S j = some (some bv, 55, f y)) (hij : Nat.beq i j = false) (hB : nth (blank [i, j] S) i = some (none, T1, cs1))
    (hrow : Row ob ys.length cap 34 cur) (htk : cur.take (ys.length * 34) = ys.flatMap f) (hf : ∀ z ∈ ys, (f z).length = 34) (hfo : ∀ z ∈ ys, ∀ u ∈ f z, u.oneCell' = true) (hy : (f y).length = 34) (hyo : allOne (f y) = true) (hp : p ≤ ys.length) (hn : ys.length ≤ 100000)
    (h : ∀ ob' cap' cur' F' w', Row ob' (ys.take p ++ y :: ys.drop p).length cap' 34 cur' → cur'.take ((ys.take p ++ y :: ys.drop p).length * 34) = (ys.take p ++ y :: ys.drop p).flatMap f → Step F w1 F' w' → w1.heap.size ≤ w'.heap.size → K (upd E d (.slice (ob'.map mkA) (ys.take p ++ y :: ys.drop p).length cap')) (sset (blank [i, j] S) i (ob', 55, cur')) F' w') :
    JO X ⟨some d, .call { callee := .value x, args := xs, argTypes := ts }, ty, pos, af, none⟩ E S F w1 K := by
  have hlen : (ys.take p ++ y :: ys.drop p).length = ys.length + 1 := by simp; omega
  have hnm : ys.length = p + (ys.length - p) := by omega
  have hne : i ≠ j := ne_of_beq hij
  have hSi := hS
  have hSj := hS'
  rw [nth_eq] at hSi hSj
  refine JO.callRow i [i, j] (ob.toList ++ [bv]) 55 (fun v ob' cur' => ∃ cap', v = .slice (ob'.map mkA) (ys.take p ++ y :: ys.drop p).length cap' ∧ Row ob' (ys.take p ++ y :: ys.drop p).length cap' 34 cur' ∧ cur'.take ((ys.take p ++ y :: ys.drop p).length * 34) = (ys.take p ++ y :: ys.drop p).flatMap f) (fun w hc => ?_) hx hargs hN ?_ ?_ hS hB (fun b hb => by simp [hb]) ?_
  · have hbv := (hc.own _ (List.mem_of_getElem? hSj) bv rfl).2
    have hobh := fun b (hb : ob = some b) => (hc.own _ (List.mem_of_getElem? hSi) b hb).2
    have hneb : ob ≠ some bv := fun he => hne (nodup_at (f := fun e : Ent => e.1) hc.nodup hSi hSj he rfl)
    have := insert_78 ob bv p (ys.length - p) cap cur (f y) ((ys.take p).flatMap f) ((ys.drop p).flatMap f) w (by rw [← hnm]; exact hrow) (by rw [flatMap_length (fun z hz => hf z (List.mem_of_mem_take hz)), List.length_take, Nat.min_eq_left hp]) (by rw [flatMap_length (fun z hz => hf z (List.mem_of_mem_drop hz)), List.length_drop])
      (by rw [← hnm, htk]; exact flat_cut) (by omega) hobh hbv hneb hy hyo (allOne_of (flatMap_one fun z hz => hfo z (List.mem_of_mem_drop hz)))
    rw [← hnm] at this
    refine calls_mono this fun v w' ⟨ob', cap', cur', h1, h2, h3, h4⟩ => ⟨ob', cur', ⟨cap', by rw [hlen]; exact h1, by rw [hlen]; exact h2, ?_⟩, h4⟩
    rw [hlen, h3, List.flatMap_append, List.flatMap_cons, List.append_assoc]
  · intro b hb
    rcases List.mem_append.1 hb with h1 | h1
    · exact ⟨_, List.mem_of_getElem? hSi, by simpa using h1⟩
    · exact ⟨_, List.mem_of_getElem? hSj, by simpa [eq_comm] using h1⟩
  · intro hnd e he b hb hm
    obtain ⟨k, hk1, hk2, hk3⟩ := blank2 he hb
    rcases List.mem_append.1 hm with h1 | h1
    · exact hk1 (nodup_at (f := fun e : Ent => e.1) hnd hk3 hSi hb (by simpa using h1))
    · exact hk2 (nodup_at (f := fun e : Ent => e.1) hnd hk3 hSj hb (by simpa [eq_comm] using h1))
  · rintro v ob' cur' F' w' ⟨cap', rfl, h2, h3⟩ hst hsz
    exact h ob' cap' cur' F' w' h2 h3 hst hsz
theorem JO.del_49 {α : Type} (i : Nat) (f : α → List Value) {b cap p : Nat} {cur : List Value} {ys : List α} {T1 : Nat} {cs1 : List Value} {x : Operand} {xs : Array Operand} {ts : Array TypeId} {caps : List Value} (hx : ev E x = .func (.func 49) #[] caps.toArray)
    (hargs : xs.toList.map (ev E) ++ caps = [.slice (some ⟨b, 0, none⟩) ys.length cap, .int .i64 (p : Nat), .int .i64 ((p + 1 : Nat) : Int)]) (hN : Nat.blt d X.N = true) (hS : nth S i = some (some b, 53, cur)) (hB : nth (blank [i, i] S) i = some (none, T1, cs1))
    (hrow : Row (some b) ys.length cap 2 cur) (htk : cur.take (ys.length * 2) = ys.flatMap f) (hf : ∀ z ∈ ys, (f z).length = 2) (hfo : ∀ z ∈ ys, ∀ u ∈ f z, u.oneCell' = true) (hp : p < ys.length) (hn : ys.length ≤ 100000)
    (h : ∀ cur' F' w', Row (some b) (ys.take p ++ ys.drop (p + 1)).length cap 2 cur' → cur'.take ((ys.take p ++ ys.drop (p + 1)).length * 2) = (ys.take p ++ ys.drop (p + 1)).flatMap f → Step F w1 F' w' → w1.heap.size ≤ w'.heap.size → K (upd E d (.slice (some ⟨b, 0, none⟩) (ys.take p ++ ys.drop (p + 1)).length cap)) (sset (blank [i, i] S) i (some b, 53, cur')) F' w') :
    JO X ⟨some d, .call { callee := .value x, args := xs, argTypes := ts }, ty, pos, af, none⟩ E S F w1 K := by
  obtain ⟨m, hnm⟩ : ∃ m, ys.length = p + 1 + m := ⟨ys.length - (p + 1), by omega⟩
  have hlen : (ys.take p ++ ys.drop (p + 1)).length = p + m := by simp; omega
  have hSi := hS
  rw [nth_eq] at hSi
  have hpy : ys[p]? = some ys[p] := by simp [hp]
  have hcut : ys.flatMap f = (ys.take p).flatMap f ++ f ys[p] ++ (ys.drop (p + 1)).flatMap f := by
    rw [flat_cut (p := p), List.drop_eq_getElem_cons hp, List.flatMap_cons, List.append_assoc]
  refine JO.callRow i [i, i] [b] 53 (fun v ob' cur' => ob' = some b ∧ v = .slice (some ⟨b, 0, none⟩) (ys.take p ++ ys.drop (p + 1)).length cap ∧ Row (some b) (ys.take p ++ ys.drop (p + 1)).length cap 2 cur' ∧ cur'.take ((ys.take p ++ ys.drop (p + 1)).length * 2) = (ys.take p ++ ys.drop (p + 1)).flatMap f) (fun w hc => ?_) hx hargs hN ?_ ?_ hS hB (fun b' hb => by simpa [eq_comm] using hb) ?_
  · have hbv := (hc.own _ (List.mem_of_getElem? hSi) b rfl).2
    have := delete_49 b p m cap cur ((ys.take p).flatMap f) (f ys[p]) ((ys.drop (p + 1)).flatMap f) w (by rw [← hnm]; exact hrow) (by rw [flatMap_length (fun z hz => hf z (List.mem_of_mem_take hz)), List.length_take, Nat.min_eq_left (by omega)]) (hf _ (List.getElem_mem hp)) (by rw [flatMap_length (fun z hz => hf z (List.mem_of_mem_drop hz)), List.length_drop, hnm, Nat.add_sub_cancel_left])
      (by rw [← hnm, htk]; exact hcut) (by omega) hbv (allOne_of (flatMap_one fun z hz => hfo z (List.mem_of_mem_drop hz)))
    rw [← hnm] at this
    refine calls_mono this fun v w' ⟨cur', h1, h2, h3, h4⟩ => ⟨some b, cur', ⟨rfl, by rw [hlen]; exact h1, by rw [hlen]; exact h2, ?_⟩, fun b' hb => by cases hb; exact ⟨.inl rfl, h4⟩⟩
    rw [hlen, h3, List.flatMap_append]
  · intro b' hb
    exact ⟨_, List.mem_of_getElem? hSi, by simpa [eq_comm] using hb⟩
  · intro hnd e he b' hb hm
    obtain ⟨k, hk1, hk2, hk3⟩ := blank2 he hb
    exact hk1 (nodup_at (f := fun e : Ent => e.1) hnd hk3 hSi hb (by simpa [eq_comm] using hm))
  · rintro v ob' cur' F' w' ⟨rfl, rfl, h2, h3⟩ hst hsz
    exact h cur' F' w' h2 h3 hst hsz
theorem JO.del_77 {α : Type} (i : Nat) (f : α → List Value) {b cap p : Nat} {cur : List Value} {ys : List α} {T1 : Nat} {cs1 : List Value} {x : Operand} {xs : Array Operand} {ts : Array TypeId} {caps : List Value} (hx : ev E x = .func (.func 77) #[] caps.toArray)
    (hargs : xs.toList.map (ev E) ++ caps = [.slice (some ⟨b, 0, none⟩) ys.length cap, .int .i64 (p : Nat), .int .i64 ((p + 1 : Nat) : Int)]) (hN : Nat.blt d X.N = true) (hS : nth S i = some (some b, 55, cur)) (hB : nth (blank [i, i] S) i = some (none, T1, cs1))
    (hrow : Row (some b) ys.length cap 34 cur) (htk : cur.take (ys.length * 34) = ys.flatMap f) (hf : ∀ z ∈ ys, (f z).length = 34) (hfo : ∀ z ∈ ys, ∀ u ∈ f z, u.oneCell' = true) (hp : p < ys.length) (hn : ys.length ≤ 100000)
    (h : ∀ cur' F' w', Row (some b) (ys.take p ++ ys.drop (p + 1)).length cap 34 cur' → cur'.take ((ys.take p ++ ys.drop (p + 1)).length * 34) = (ys.take p ++ ys.drop (p + 1)).flatMap f → Step F w1 F' w' → w1.heap.size ≤ w'.heap.size → K (upd E d (.slice (some ⟨b, 0, none⟩) (ys.take p ++ ys.drop (p + 1)).length cap)) (sset (blank [i, i] S) i (some b, 55, cur')) F' w') :
    JO X ⟨some d, .call { callee := .value x, args := xs, argTypes := ts }, ty, pos, af, none⟩ E S F w1 K := by
  obtain ⟨m, hnm⟩ : ∃ m, ys.length = p + 1 + m := ⟨ys.length - (p + 1), by omega⟩
  have hlen : (ys.take p ++ ys.drop (p + 1)).length = p + m := by simp; omega
  have hSi := hS
  rw [nth_eq] at hSi
  have hpy : ys[p]? = some ys[p] := by simp [hp]
  have hcut : ys.flatMap f = (ys.take p).flatMap f ++ f ys[p] ++ (ys.drop (p + 1)).flatMap f := by
    rw [flat_cut (p := p), List.drop_eq_getElem_cons hp, List.flatMap_cons, List.append_assoc]
  refine JO.callRow i [i, i] [b] 55 (fun v ob' cur' => ob' = some b ∧ v = .slice (some ⟨b, 0, none⟩) (ys.take p ++ ys.drop (p + 1)).length cap ∧ Row (some b) (ys.take p ++ ys.drop (p + 1)).length cap 34 cur' ∧ cur'.take ((ys.take p ++ ys.drop (p + 1)).length * 34) = (ys.take p ++ ys.drop (p + 1)).flatMap f) (fun w hc => ?_) hx hargs hN ?_ ?_ hS hB (fun b' hb => by simpa [eq_comm] using hb) ?_
  · have hbv := (hc.own _ (List.mem_of_getElem? hSi) b rfl).2
    have := delete_77 b p m cap cur ((ys.take p).flatMap f) (f ys[p]) ((ys.drop (p + 1)).flatMap f) w (by rw [← hnm]; exact hrow) (by rw [flatMap_length (fun z hz => hf z (List.mem_of_mem_take hz)), List.length_take, Nat.min_eq_left (by omega)]) (hf _ (List.getElem_mem hp)) (by rw [flatMap_length (fun z hz => hf z (List.mem_of_mem_drop hz)), List.length_drop, hnm, Nat.add_sub_cancel_left])
      (by rw [← hnm, htk]; exact hcut) (by omega) hbv (allOne_of (flatMap_one fun z hz => hfo z (List.mem_of_mem_drop hz)))
    rw [← hnm] at this
    refine calls_mono this fun v w' ⟨cur', h1, h2, h3, h4⟩ => ⟨some b, cur', ⟨rfl, by rw [hlen]; exact h1, by rw [hlen]; exact h2, ?_⟩, fun b' hb => by cases hb; exact ⟨.inl rfl, h4⟩⟩
    rw [hlen, h3, List.flatMap_append]
  · intro b' hb
    exact ⟨_, List.mem_of_getElem? hSi, by simpa [eq_comm] using hb⟩
  · intro hnd e he b' hb hm
    obtain ⟨k, hk1, hk2, hk3⟩ := blank2 he hb
    exact hk1 (nodup_at (f := fun e : Ent => e.1) hnd hk3 hSi hb (by simpa [eq_comm] using hm))
  · rintro v ob' cur' F' w' ⟨rfl, rfl, h2, h3⟩ hst hsz
    exact h cur' F' w' h2 h3 hst hsz
end
end Go.Proofs.YtchnnplcpidkiaaDoor
