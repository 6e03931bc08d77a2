/- The rules of the walk, fourth part: the operations that make or write memory, calls, regions whose order is drawn; no condition. -/
import Derived.Test.YtchnnplcpidkiaaDoorB3
namespace Go.Proofs.YtchnnplcpidkiaaDoor
open Go.RowKit
set_option linter.unusedSimpArgs false
set_option linter.unusedVariables false

/-! ### 1. What is known, behind a change of memory -/
theorem blks_append (S T : Sto) : blks (S ++ T) = blks S ++ blks T := by simp [blks]
theorem blks_map (S : Sto) : blks S = (S.map (·.1)).filterMap id := by simp [blks, List.filterMap_map, Function.comp_def]
theorem nodup_at {α : Type} {f : α → Option Nat} : ∀ {l : List α} {i j : Nat} {x y : α} {b : Nat}, (l.filterMap f).Nodup → l[i]? = some x → l[j]? = some y → f x = some b → f y = some b → i = j
  | [], _, _, _, _, _, _, h, _, _, _ => by simp at h
  | a :: l, i, j, x, y, b, hn, hi, hj, hx, hy => by
    cases i with
    | zero =>
      cases j with
      | zero => rfl
      | succ j =>
        simp only [List.getElem?_cons_zero, Option.some.injEq] at hi
        subst hi
        simp only [List.getElem?_cons_succ] at hj
        rw [List.filterMap_cons_some hx] at hn
        exact absurd (List.mem_filterMap.2 ⟨y, List.mem_of_getElem? hj, hy⟩) (List.nodup_cons.1 hn).1
    | succ i =>
      simp only [List.getElem?_cons_succ] at hi
      cases j with
      | zero =>
        simp only [List.getElem?_cons_zero, Option.some.injEq] at hj
        subst hj
        rw [List.filterMap_cons_some hy] at hn
        exact absurd (List.mem_filterMap.2 ⟨x, List.mem_of_getElem? hi, hx⟩) (List.nodup_cons.1 hn).1
      | succ j =>
        simp only [List.getElem?_cons_succ] at hj
        have hn' : (l.filterMap f).Nodup := by
          cases hq : f a with
          | none => rwa [List.filterMap_cons_none hq] at hn
          | some c => rw [List.filterMap_cons_some hq] at hn; exact (List.nodup_cons.1 hn).2
        rw [nodup_at hn' hi hj hx hy]
theorem blks_sset_sub {S : Sto} {i : Nat} {ob : Option Nat} {T : Nat} {cs : List Value} {k : Nat} (h : k ∈ blks (sset S i (ob, T, cs))) : k ∈ blks S ∨ ob = some k := by
  rw [sset_eq] at h
  obtain ⟨e, he, h1⟩ := blks_mem.1 h
  rcases List.mem_or_eq_of_mem_set he with h2 | h2
  · exact .inl (blks_mem.2 ⟨e, h2, h1⟩)
  · subst h2; exact .inr h1
theorem nodup_sset {b' : Option Nat} {T : Nat} {cs : List Value} : ∀ {S : Sto} {i : Nat}, (blks S).Nodup → (∀ b, b' = some b → b ∉ blks S) → (blks (sset S i (b', T, cs))).Nodup
  | [], i, _, _ => by cases i <;> simp [sset, blks]
  | e :: S, 0, hn, hb => by
    show (blks ((b', T, cs) :: S)).Nodup
    have hn' : (blks S).Nodup := by
      cases hq : e.1 with
      | none => unfold blks at hn ⊢; rwa [List.filterMap_cons_none hq] at hn
      | some c => unfold blks at hn ⊢; rw [List.filterMap_cons_some hq] at hn; exact (List.nodup_cons.1 hn).2
    cases b' with
    | none => exact hn'
    | some b =>
      refine List.nodup_cons.2 ⟨fun hm => hb b rfl ?_, hn'⟩
      obtain ⟨x, hx, h1⟩ := blks_mem.1 hm
      exact blks_mem.2 ⟨x, List.mem_cons_of_mem _ hx, h1⟩
  | e :: S, i + 1, hn, hb => by
    show (blks (e :: sset S i (b', T, cs))).Nodup
    cases hq : e.1 with
    | none =>
      unfold blks at hn ⊢
      rw [List.filterMap_cons_none hq] at hn ⊢
      exact nodup_sset hn fun b h hm => hb b h (by obtain ⟨x, hx, h1⟩ := blks_mem.1 hm; exact blks_mem.2 ⟨x, List.mem_cons_of_mem _ hx, h1⟩)
    | some c =>
      unfold blks at hn ⊢
      rw [List.filterMap_cons_some hq] at hn ⊢
      obtain ⟨h1, h2⟩ := List.nodup_cons.1 hn
      refine List.nodup_cons.2 ⟨fun hm => ?_, nodup_sset h2 fun b h hm => hb b h (by obtain ⟨x, hx, h1⟩ := blks_mem.1 hm; exact blks_mem.2 ⟨x, List.mem_cons_of_mem _ hx, h1⟩)⟩
      rcases blks_sset_sub hm with h | h
      · exact h1 h
      · exact hb c h (blks_mem.2 ⟨e, by simp, hq⟩)

section
variable {X : Cx} {ops : Array Oper} {l : List Oper} {E : Env} {S : Sto} {F : Nat → Prop} {w1 : World} {Q : Exit → Env → World → Prop} {w : World} {K : Kon}
theorem Cur.drew (h : Cur X S F w1 w) : Cur X S F w1 { w with drawn := w.drawn + 1 } :=
  ⟨⟨h.below.os, h.below.tape, h.below.output, h.below.size, h.below.block⟩, h.size, h.own, h.nodup, h.step⟩
theorem Cur.alloc (h : Cur X S F w1 w) (T : Nat) (cs : List Value) : Cur X (S ++ [(some w.heap.size, T, cs)]) F w1 (w.alloc (.cells cs.toArray T (0, 0))) := by
  have hsz : X.w0.heap.size ≤ w.heap.size := h.below.size
  refine ⟨h.below.alloc _, Nat.le_trans h.size (by simp), fun e he b hb => ?_, ?_, fun k hk hF => ?_⟩
  · rcases List.mem_append.1 he with h1 | h1
    · obtain ⟨h2, h3⟩ := h.own e h1 b hb
      have hlt : b < w.heap.size := (Array.getElem?_eq_some_iff.1 h3).1
      exact ⟨h2, (Below.heap_alloc w _ b hlt).trans h3⟩
    · rw [List.mem_singleton] at h1
      subst h1
      cases hb
      exact ⟨.inl hsz, heap_alloc_new w _⟩
  · rw [blks_append]
    refine List.nodup_append.2 ⟨h.nodup, by simp [blks], fun a ha b hb => ?_⟩
    have h1 := h.lt ha
    have h2 : b = w.heap.size := by simpa [blks] using hb
    omega
  · obtain ⟨h1, h2⟩ := h.step k hk hF
    have hlt : k < w.heap.size := Nat.lt_of_lt_of_le hk h.size
    refine ⟨(Below.heap_alloc w _ k hlt).trans h1, h2.1, fun hm => ?_⟩
    rw [blks_append] at hm
    rcases List.mem_append.1 hm with h3 | h3
    · exact h2.2 h3
    · have : k = w.heap.size := by simpa [blks] using h3
      omega
theorem Cur.set (h : Cur X S F w1 w) {i b T : Nat} {cs : List Value} (hS : nth S i = some (some b, T, cs)) (cs' : List Value) : Cur X (sset S i (some b, T, cs')) F w1 (w.setRow b cs'.toArray) := by
  have hS' := hS
  rw [nth_eq] at hS
  obtain ⟨hb0, hbw⟩ := h.own _ (List.mem_of_getElem? hS) b rfl
  have hbS : b ∈ blks S := blks_mem.2 ⟨_, List.mem_of_getElem? hS, rfl⟩
  have hsub : ∀ k, k ∈ blks (sset S i (some b, T, cs')) → k ∈ blks S := fun k hk => by
    rcases blks_sset_sub hk with h1 | h1
    · exact h1
    · cases h1; exact hbS
  refine ⟨h.below.setRow hb0 _, by simpa using h.size, fun e he b' hb' => ?_, ?_, fun k hk hF => ?_⟩
  · rw [sset_eq] at he
    obtain ⟨j, hj⟩ := List.mem_iff_getElem?.1 he
    rw [List.getElem?_set] at hj
    split at hj
    · rename_i hij
      split at hj
      · cases hj; cases hb'; exact ⟨hb0, setRow_heap w b _ _ T _ hbw⟩
      · cases hj
    · rename_i hij
      obtain ⟨h2, h3⟩ := h.own e (List.mem_of_getElem? hj) b' hb'
      have hne : b' ≠ b := fun e' => hij (nodup_at h.nodup hS hj rfl (by rw [hb', e']))
      exact ⟨h2, (setRow_other w b b' _ hne).trans h3⟩
  · have : blks (sset S i (some b, T, cs')) = blks S := by
      rw [sset_eq, blks_map, blks_map, List.map_set]
      congr 1
      apply List.ext_getElem?
      intro m
      rw [List.getElem?_set]
      split
      · rename_i him
        subst him
        have hlt := (List.getElem?_eq_some_iff.1 hS).1
        rw [if_pos (by simpa using hlt)]
        simp [hS]
      · rfl
    rw [this]; exact h.nodup
  · obtain ⟨h1, h2⟩ := h.step k hk hF
    have hne : k ≠ b := fun e => h2.2 (e ▸ hbS)
    exact ⟨(setRow_other w b k _ hne).trans h1, h2.1, fun hm => h2.2 (hsub k hm)⟩
/-- An entry becomes another, in a new block. -/
theorem Cur.renew (h : Cur X S F w1 w) (i T : Nat) (cs : List Value) : Cur X (sset S i (some w.heap.size, T, cs)) F w1 (w.alloc (.cells cs.toArray T (0, 0))) := by
  have hsz : X.w0.heap.size ≤ w.heap.size := h.below.size
  refine ⟨h.below.alloc _, Nat.le_trans h.size (by simp), fun e he b hb => ?_, ?_, fun k hk hF => ?_⟩
  · rw [sset_eq] at he
    rcases List.mem_or_eq_of_mem_set he with h1 | h1
    · obtain ⟨h2, h3⟩ := h.own e h1 b hb
      have hlt : b < w.heap.size := (Array.getElem?_eq_some_iff.1 h3).1
      exact ⟨h2, (Below.heap_alloc w _ b hlt).trans h3⟩
    · subst h1
      cases hb
      exact ⟨.inl hsz, heap_alloc_new w _⟩
  · exact nodup_sset h.nodup fun b hb hm => by cases hb; exact absurd (h.lt hm) (Nat.lt_irrefl _)
  · obtain ⟨h1, h2⟩ := h.step k hk hF
    have hlt : k < w.heap.size := Nat.lt_of_lt_of_le hk h.size
    refine ⟨(Below.heap_alloc w _ k hlt).trans h1, h2.1, fun hm => ?_⟩
    rcases blks_sset_sub hm with h3 | h3
    · exact h2.2 h3
    · cases h3; omega
/-- What is known of some blocks is given up. -/
theorem Cur.sub (h : Cur X S F w1 w) {S' : Sto} (hs : List.Sublist S' S) : Cur X S' F w1 w :=
  ⟨h.below, h.size, fun e he => h.own e (hs.subset he), List.Nodup.sublist (hs.filterMap _) h.nodup, fun k hk hF =>
    let ⟨h1, h2⟩ := h.step k hk hF
    ⟨h1, h2.1, fun hm => h2.2 (by obtain ⟨x, hx, hx1⟩ := blks_mem.1 hm; exact blks_mem.2 ⟨x, hs.subset hx, hx1⟩)⟩⟩
theorem Cur.addNone (h : Cur X S F w1 w) (T : Nat) : Cur X (S ++ [(none, T, [])]) F w1 w := by
  have hb : blks (S ++ [(none, T, [])]) = blks S := by rw [blks_append]; simp [blks]
  refine ⟨h.below, h.size, fun e he b hb' => ?_, by rw [hb]; exact h.nodup, fun k hk hF => ?_⟩
  · rcases List.mem_append.1 he with h1 | h1
    · exact h.own e h1 b hb'
    · rw [List.mem_singleton.1 h1] at hb'; cases hb'
  · obtain ⟨h1, h2, h3⟩ := h.step k hk hF
    exact ⟨h1, h2, by rw [hb]; exact h3⟩
def takeL {α : Type} : Nat → List α → List α
  | 0, _ => []
  | _ + 1, [] => []
  | n + 1, a :: l => a :: takeL n l
theorem takeL_sub {α : Type} : ∀ (n : Nat) (l : List α), List.Sublist (takeL n l) l
  | 0, l => List.nil_sublist l
  | _ + 1, [] => List.Sublist.refl _
  | n + 1, a :: l => (takeL_sub n l).cons_cons a
theorem Cur.takeN (h : Cur X S F w1 w) (n : Nat) : Cur X (takeL n S) F w1 w := h.sub (takeL_sub n S)
theorem JQ.takeN (n : Nat) {e : Exit} (h : JQ X Q e E (takeL n S) F w1) : JQ X Q e E S F w1 := JQ.weaken (fun _ hc => hc.takeN n) h
theorem JC.takeN (n : Nat) {c : Code} (h : JC X c E (takeL n S) F w1 Q) : JC X c E S F w1 Q := JC.weaken (fun _ hc => hc.takeN n) h
theorem JC.addNone (T : Nat) {c : Code} (h : JC X c E (S ++ [(none, T, [])]) F w1 Q) : JC X c E S F w1 Q := JC.weaken (fun _ hc => hc.addNone T) h
theorem Cur.src (hc : Cur X S F w1 w) {i b T : Nat} {cs : List Value} (hS : nth S i = some (some b, T, cs)) : ∀ ad, some (⟨b, 0, none⟩ : Addr) = some ad → ∀ j u, cs[j]? = some u → w.cell? (ad.add j) = some u := fun ad had j u hj => by
  cases had
  rw [add_lit, Nat.zero_add, hc.cell hS]
  exact hj
theorem Cur.fewer (h : Cur X S F w1 w) {F' : Nat → Prop} (hF : ∀ k, F' k → F k) : Cur X S F' w1 w := ⟨h.below, h.size, h.own, h.nodup, fun k hk h1 => h.step k hk (hF k h1)⟩
/-- A block that is known whole becomes an entry. -/
theorem Cur.adopt (h : Cur X S F w1 w) (i : Nat) {T0 : Nat} {cs0 : List Value} (hS : nth S i = some (none, T0, cs0)) (b T : Nat) (cs : List Value) (hw : w.heap[b]? = some (.cells cs.toArray T (0, 0))) (hb : X.w0.heap.size ≤ b ∨ b ∈ X.md) (hn : b ∉ blks S) :
    Cur X (sset S i (some b, T, cs)) (fun k => F k ∧ k ≠ b) w1 w := by
  refine ⟨h.below, h.size, fun e he b' hb' => ?_, nodup_sset h.nodup fun b' hb' => by cases hb'; exact hn, fun k hk hF => ?_⟩
  · rw [sset_eq] at he
    rcases List.mem_or_eq_of_mem_set he with h1 | h1
    · exact h.own e h1 b' hb'
    · subst h1; cases hb'; exact ⟨hb, hw⟩
  · obtain ⟨h1, h2, h3⟩ := h.step k hk hF.1
    refine ⟨h1, h2, fun hm => ?_⟩
    rcases blks_sset_sub hm with h4 | h4
    · exact h3 h4
    · cases h4; exact hF.2 rfl
/-- Some entries are given up. -/
def blankGo (ks : List Nat) : Nat → Sto → Sto
  | _, [] => []
  | n, e :: S => (bif (ks.any fun k => Nat.beq n k) then (none, 0, []) else e) :: blankGo ks (n + 1) S
def blank (ks : List Nat) (S : Sto) : Sto := blankGo ks 0 S
theorem blankGo_mem {ks : List Nat} : ∀ {S : Sto} {n : Nat} {e : Ent}, e ∈ blankGo ks n S → e.1 ≠ none → e ∈ S
  | [], _, _, h, _ => by simp [blankGo] at h
  | x :: S, n, e, h, hne => by
    unfold blankGo at h
    rcases List.mem_cons.1 h with h1 | h1
    · cases hq : (ks.any fun k => Nat.beq n k) with
      | true => rw [hq] at h1; have hxe : e = (none, 0, []) := h1; rw [hxe] at hne; exact absurd rfl hne
      | false => rw [hq] at h1; have hxe : e = x := h1; rw [hxe]; simp
    · exact List.mem_cons_of_mem _ (blankGo_mem h1 hne)
theorem blankGo_sub {ks : List Nat} : ∀ {S : Sto} {n : Nat}, List.Sublist (blks (blankGo ks n S)) (blks S)
  | [], _ => by simp [blankGo, blks]
  | x :: S, n => by
    unfold blankGo
    cases hq : (ks.any fun k => Nat.beq n k) with
    | false =>
      show List.Sublist (blks (x :: blankGo ks (n + 1) S)) (blks (x :: S))
      unfold blks
      cases hx : x.1 with
      | none => rw [List.filterMap_cons_none hx, List.filterMap_cons_none hx]; exact blankGo_sub
      | some b => rw [List.filterMap_cons_some hx, List.filterMap_cons_some hx]; exact (blankGo_sub (S := S)).cons_cons b
    | true =>
      show List.Sublist (blks ((none, 0, []) :: blankGo ks (n + 1) S)) (blks (x :: S))
      unfold blks
      rw [List.filterMap_cons_none rfl]
      cases hx : x.1 with
      | none => rw [List.filterMap_cons_none hx]; exact blankGo_sub
      | some b => rw [List.filterMap_cons_some hx]; exact (blankGo_sub (S := S)).cons b
/-- Behind a call that wrote to the blocks of some entries alone. -/
theorem Cur.laterM (h : Cur X S F w1 w) (ks : List Nat) {md : List Nat} {w' : World} (hb : BelowM md w w') (hmd : ∀ b ∈ md, ∃ e ∈ S, e.1 = some b) (hks : ∀ e ∈ blank ks S, ∀ b, e.1 = some b → b ∉ md) : Cur X (blank ks S) (Al X S) w' w' := by
  refine ⟨h.below.laterM hb fun b hb' => ?_, Nat.le_refl _, fun e he b hb' => ?_, List.Nodup.sublist blankGo_sub h.nodup, fun k _ hF => ⟨rfl, hF.1, fun hm => hF.2 (blankGo_sub.subset hm)⟩⟩
  · obtain ⟨e, he, h1⟩ := hmd b hb'
    exact (h.own e he b h1).1
  · obtain ⟨h1, h2⟩ := h.own e (blankGo_mem he (by rw [hb']; simp)) b hb'
    exact ⟨h1, (hb.block b (Array.getElem?_eq_some_iff.1 h2).1 (hks e he b hb')).trans h2⟩
theorem Cur.stepM (h : Cur X S F w1 w) {md : List Nat} {w' : World} (hb : BelowM md w w') (hmd : ∀ b ∈ md, ∃ e ∈ S, e.1 = some b) : Step F w1 (Al X S) w' := fun k hk hF => by
  obtain ⟨h1, h2⟩ := h.step k hk hF
  refine ⟨(hb.block k (Nat.lt_of_lt_of_le hk h.size) fun hm => ?_).trans h1, h2⟩
  obtain ⟨e, he, h3⟩ := hmd k hm
  exact h2.2 (blks_mem.2 ⟨e, he, h3⟩)
/-- The world itself is what is known from here on. -/
theorem Cur.rebase (h : Cur X S F w1 w) : Cur X S (Al X S) w w := ⟨h.below, Nat.le_refl _, h.own, h.nodup, fun _ _ h1 => ⟨rfl, h1⟩⟩
theorem Cur.later (h : Cur X S F w1 w) {w' : World} (hb : Below w.heap.size w w') : Cur X S F w1 w' :=
  ⟨h.below.later hb, Nat.le_trans h.size hb.size, fun e he b hb' => by
    obtain ⟨h1, h2⟩ := h.own e he b hb'
    exact ⟨h1, (hb.block b (Array.getElem?_eq_some_iff.1 h2).1).trans h2⟩, h.nodup, fun k hk hF => by
    obtain ⟨h1, h2⟩ := h.step k hk hF
    exact ⟨(hb.block k (Nat.lt_of_lt_of_le hk h.size)).trans h1, h2⟩⟩

/-! ### 2. New blocks, stores -/
def allOne : List Value → Bool
  | [] => true
  | v :: r => v.oneCell' && allOne r
theorem allOne_mem : ∀ {l : List Value}, allOne l = true → ∀ u ∈ l, u.oneCell' = true
  | _ :: _, h, u, hu => by
    simp only [allOne, Bool.and_eq_true] at h
    rcases List.mem_cons.1 hu with rfl | h1
    · exact h.1
    · exact allOne_mem h.2 u h1
theorem allOne_of : ∀ {l : List Value}, (∀ u ∈ l, u.oneCell' = true) → allOne l = true
  | [], _ => rfl
  | v :: r, h => by
    simp only [allOne, Bool.and_eq_true]
    exact ⟨h v (by simp), allOne_of fun u hu => h u (by simp [hu])⟩
section
variable {d : Nat} {t : TypeId} {pos : String} {af : Array Edge}
theorem zero_of {T : Nat} {ag : Bool} {sz bt : Nat} {z : List Value} (hr : tyr T = some (ag, sz, bt, z)) : ∃ zv, (∀ w, (zeroValue T).run Tryd.prog w = .ok zv w) ∧ zv.cells = z.toArray :=
  let ⟨zv, h1, h2, _⟩ := (tyr_ok hr).zero
  ⟨zv, h1, h2⟩
theorem run_alloc {T : Nat} {ag : Bool} {sz bt : Nat} {z : List Value} (hr : tyr T = some (ag, sz, bt, z)) : (Instr.alloc T true (.tuple #[])).run Tryd.prog w = .ok (.pointer (some ⟨w.heap.size, 0, none⟩)) (w.alloc (.cells z.toArray T (0, 0))) := by
  obtain ⟨zv, h1, h2⟩ := zero_of hr
  simp [Sem.run_bind, Instr.alloc, h1, newVar, newRow, h2]
theorem JO.alloc {T : Nat} {ag : Bool} {sz bt : Nat} {z : List Value} (hr : tyr T = some (ag, sz, bt, z)) (hN : Nat.blt d X.N = true)
    (h : ∀ b, K (upd E d (.pointer (some ⟨b, 0, none⟩))) (S ++ [(some b, T, z)]) F w1) : JO X ⟨some d, .alloc T, t, pos, af, none⟩ E S F w1 K := fun w a Q' hc ha => by
  have hrun : (execOp (ev E) ⟨some d, .alloc T, t, pos, af, none⟩).run Tryd.prog w = .ok (.value (.pointer (some ⟨w.heap.size, 0, none⟩))) (w.alloc (.cells z.toArray T (0, 0))) := by
    have h1 := run_alloc (w := w) hr
    simp only [execOp, Sem.run_bind, h1, Result.andThen_ok, Sem.run_pure]
  unfold Oper.wp
  rw [ha.eval, hrun]
  exact ⟨_, _, _, _, ha.put d _ hN, hc.alloc T z, h _⟩
theorem JO.box {T : Nat} {x : Operand} {cs : List Value} (hx : (ev E x).cells = cs.toArray) (hN : Nat.blt d X.N = true)
    (h : ∀ b, K (upd E d (.pointer (some ⟨b, 0, none⟩))) (S ++ [(some b, T, cs)]) F w1) : JO X ⟨some d, .box T x, t, pos, af, none⟩ E S F w1 K := fun w a Q' hc ha => by
  have hrun : (execOp (ev E) ⟨some d, .box T x, t, pos, af, none⟩).run Tryd.prog w = .ok (.value (.pointer (some ⟨w.heap.size, 0, none⟩))) (w.alloc (.cells cs.toArray T (0, 0))) := by
    simp [execOp, Sem.run_bind, Instr.box, newVar, newRow, hx]
  unfold Oper.wp
  rw [ha.eval, hrun]
  exact ⟨_, _, _, _, ha.put d _ hN, hc.alloc T cs, h _⟩
theorem run_storeVar {T b o T' : Nat} {ag : Bool} {sz bt : Nat} {z cs vs : List Value} {v : Value} (hr : tyr T = some (ag, sz, bt, z)) (hw : w.heap[b]? = some (.cells cs.toArray T' (0, 0))) (hv : v.cells = vs.toArray) (hn : vs.length = sz)
    (hfit : o + vs.length ≤ cs.length) (h1 : ∀ u ∈ vs, u.oneCell' = true) :
    (storeVar T ⟨b, o, none⟩ v).run Tryd.prog w = .ok () (w.setRow b (splice cs o vs).toArray) := by
  have h2 := (tyr_ok hr).sizeOf
  have hst := run_storeCells_at Tryd.prog b o T' vs 0 cs.toArray w hw (by simpa using hfit) h1
  simp only [Nat.add_zero, List.toList_toArray] at hst
  simp [storeVar, Sem.run_bind, h2, hv, hn, hst, splice]
/-- A store into a block of the call's own. -/
theorem JO.store (i : Nat) {T b o T' : Nat} {p x : Operand} {ag : Bool} {sz bt : Nat} {z cs vs cs' : List Value} (hp : ev E p = .pointer (some ⟨b, o, none⟩)) (hr : tyr T = some (ag, sz, bt, z)) (hS : nth S i = some (some b, T', cs))
    (hv : (ev E x).cells = vs.toArray) (hn : vs.length = sz) (hfit : Nat.ble (o + vs.length) cs.length = true) (h1 : allOne vs = true) (hcs : splice cs o vs = cs')
    (h : K E (sset S i (some b, T', cs')) F w1) : JO X ⟨none, .store T p x, t, pos, af, none⟩ E S F w1 K := fun w a Q' hc ha => by
  subst hcs
  have hS' := hS
  rw [nth_eq] at hS'
  have hw := (hc.own _ (List.mem_of_getElem? hS') b rfl).2
  have hrun : (execOp (ev E) ⟨none, .store T p x, t, pos, af, none⟩).run Tryd.prog w = .ok .skip (w.setRow b (splice cs o vs).toArray) := by
    have := run_storeVar (w := w) hr hw hv hn (by simpa using hfit) (allOne_mem h1)
    simp [execOp, Sem.run_bind, hp, Instr.storeAt, Instr.sureAddr, this]
  unfold Oper.wp
  rw [ha.eval, hrun]
  exact ⟨_, _, _, _, ha.put_none _, hc.set hS _, h⟩
/-- One cell. -/
theorem JO.store1 (i : Nat) {T b o T' : Nat} {p x : Operand} {sz bt : Nat} {z cs : List Value} {v : Value} (hp : ev E p = .pointer (some ⟨b, o, none⟩)) (hr : tyr T = some (false, sz, bt, z)) (hS : nth S i = some (some b, T', cs))
    (hsz : Nat.beq sz 1 = true) (hx : ev E x = v) (hfit : Nat.blt o cs.length = true) (h1 : v.oneCell' = true)
    (h : K E (sset S i (some b, T', sset cs o v)) F w1) : JO X ⟨none, .store T p x, t, pos, af, none⟩ E S F w1 K := by
  have hlt : o < cs.length := by simpa [Nat.blt_eq] using hfit
  have hs1 : sz = 1 := Nat.eq_of_beq_eq_true hsz
  refine JO.store i (vs := [v]) hp hr hS (by rw [hx]; cases v <;> first | rfl | cases h1) (by simp [hs1]) (by simp; omega) (by simp [allOne, h1]) ?_ h
  rw [sset_eq]
  simp only [splice, List.length_singleton]
  rw [List.set_eq_take_append_cons_drop, if_pos hlt]
  simp
/-- A whole block. -/
theorem JO.storeA (i : Nat) {T b T' : Nat} {p x : Operand} {sz bt : Nat} {z cs vs : List Value} (hp : ev E p = .pointer (some ⟨b, 0, none⟩)) (hr : tyr T = some (true, sz, bt, z)) (hS : nth S i = some (some b, T', cs))
    (hx : ev E x = .agg vs.toArray) (hn : vs.length = sz) (hl : cs.length = sz) (h1 : allOne vs = true)
    (h : K E (sset S i (some b, T', vs)) F w1) : JO X ⟨none, .store T p x, t, pos, af, none⟩ E S F w1 K := by
  refine JO.store i (vs := vs) hp hr hS (by rw [hx]; rfl) hn (by simp; omega) h1 ?_ h
  simp [splice, hn, ← hl]

/-! ### 3. Slices that are built, and grown -/
theorem run_buildSlice {T e n : Nat} {ag : Bool} {sz bt : Nat} {z : List Value} {parts : Array (Nat × Value)} {cells : List Value} (hs : sle T = some e) (hr : tyr e = some (ag, sz, bt, z)) (hn : n * sz ≤ 16777216)
    (hf : Instr.fill (fun i => some (i * sz, sz)) ((Array.range (n * sz)).map (fun j => (if n * sz = 0 then #[] else z.toArray)[j % (if n * sz = 0 then (#[] : Array Value) else z.toArray).size]!)) parts.toList = some cells.toArray) :
    (Instr.buildSlice T n parts).run Tryd.prog w = .ok (.slice (some ⟨w.heap.size, 0, none⟩) n n) (w.alloc (.cells cells.toArray e (0, 0))) := by
  obtain ⟨zv, h1, h2⟩ := zero_of hr
  have h3 := (tyr_ok hr).sizeOf
  have hn' : ¬ 16777216 < n * sz := by omega
  unfold Instr.buildSlice
  by_cases h0 : n * sz = 0
  · simp only [h0, if_true] at hf
    simp only [Sem.run_bind, run_underlying (sle_ok hs), Result.andThen_ok, h3, h0, if_neg (show ¬ 0 > 2 ^ 24 by omega), Sem.run_pure, if_true, hf]
    simp [newRow]
  · simp only [h0, if_false] at hf
    simp only [Sem.run_bind, run_underlying (sle_ok hs), Result.andThen_ok, h3, h0, if_neg (show ¬ n * sz > 2 ^ 24 by omega), Sem.run_pure, if_false, h1, h2, hf]
    simp [newRow]
theorem JO.build0 {T e : Nat} {ag : Bool} {sz bt : Nat} {z : List Value} (hs : sle T = some e) (hr : tyr e = some (ag, sz, bt, z)) (hN : Nat.blt d X.N = true)
    (h : ∀ b, K (upd E d (.slice (some ⟨b, 0, none⟩) 0 0)) (S ++ [(some b, e, [])]) F w1) : JO X ⟨some d, .buildSlice T 0 #[], t, pos, af, none⟩ E S F w1 K := fun w a Q' hc ha => by
  have hrun : (execOp (ev E) ⟨some d, .buildSlice T 0 #[], t, pos, af, none⟩).run Tryd.prog w = .ok (.value (.slice (some ⟨w.heap.size, 0, none⟩) 0 0)) (w.alloc (.cells ([] : List Value).toArray e (0, 0))) := by
    have := run_buildSlice (w := w) (n := 0) (parts := #[]) (cells := []) hs hr (by omega) (by simp [Instr.fill])
    simp [execOp, Sem.run_bind, this]
  unfold Oper.wp
  rw [ha.eval, hrun]
  exact ⟨_, _, _, _, ha.put d _ hN, hc.alloc e [], h _⟩
theorem foldl_splice : ∀ (vs : List Value) (z : List Value) (o j : Nat), o + j + vs.length ≤ z.length →
    (vs.zipIdx j).foldl (fun (cs : Array Value) (x : Value × Nat) => cs.setIfInBounds (o + x.2) x.1) z.toArray = (splice z (o + j) vs).toArray
  | [], z, o, j, h => by simp [splice]
  | v :: vs, z, o, j, h => by
    simp only [List.length_cons] at h
    simp only [List.zipIdx_cons, List.foldl_cons]
    have h1 : (z.toArray.setIfInBounds (o + j) v) = (z.set (o + j) v).toArray := by simp
    rw [h1, show j + 1 = j + 1 from rfl]
    have := foldl_splice vs (z.set (o + j) v) o (j + 1) (by simp; omega)
    rw [this]
    congr 1
    simp only [splice, List.length_cons]
    rw [List.set_eq_take_append_cons_drop, if_pos (by omega)]
    have e1 : (z.take (o + j)).length = o + j := by simp; omega
    rw [← Nat.add_assoc, List.take_append, List.drop_append]
    simp [e1]
    rw [List.take_of_length_le (by rw [e1]; omega)]
    have : o + j + 1 + vs.length - (o + j) = vs.length + 1 := by omega
    simp [this, List.drop_of_length_le (show (List.take (o + j) z).length ≤ o + j + 1 + vs.length by simp [e1]; omega)]
    congr 1
    omega
theorem fill_one {place : Nat → Option (Nat × Nat)} {i o n : Nat} {z vs : List Value} {v : Value} {rest : List (Nat × Value)} (hp : place i = some (o, n)) (hv : v.cells = vs.toArray) (hn : vs.length = n) (hz : o + n ≤ z.length) :
    Instr.fill place z.toArray ((i, v) :: rest) = Instr.fill place (splice z o vs).toArray rest := by
  have h := foldl_splice vs z o 0 (by omega)
  simp only [Nat.add_zero] at h
  simp only [Instr.fill, hp, hv]
  rw [if_neg (by simp; omega)]
  congr 1
  rw [← h]
  rw [← Array.foldl_toList]
  simp
theorem fill_nil {place : Nat → Option (Nat × Nat)} {z : Array Value} : Instr.fill place z [] = some z := rfl
/-- A slice of one element that is handed on. -/
theorem JO.build1 {T e : Nat} {x : Operand} {ag : Bool} {sz bt : Nat} {z vs : List Value} (hs : sle T = some e) (hr : tyr e = some (ag, sz, bt, z)) (hx : (ev E x).cells = vs.toArray) (hn : vs.length = sz) (hsz : Nat.ble sz 100 = true) (hN : Nat.blt d X.N = true)
    (h : ∀ b, K (upd E d (.slice (some ⟨b, 0, none⟩) 1 1)) (S ++ [(some b, e, vs)]) F w1) : JO X ⟨some d, .buildSlice T 1 #[(0, x)], t, pos, af, none⟩ E S F w1 K := fun w a Q' hc ha => by
  have hsz' : sz ≤ 100 := by simpa using hsz
  have hrun : (execOp (ev E) ⟨some d, .buildSlice T 1 #[(0, x)], t, pos, af, none⟩).run Tryd.prog w = .ok (.value (.slice (some ⟨w.heap.size, 0, none⟩) 1 1)) (w.alloc (.cells vs.toArray e (0, 0))) := by
    have := run_buildSlice (w := w) (n := 1) (parts := #[(0, ev E x)]) (cells := vs) hs hr (by omega) (by
      generalize hZ : ((Array.range (1 * sz)).map (fun j => (if 1 * sz = 0 then #[] else z.toArray)[j % (if 1 * sz = 0 then (#[] : Array Value) else z.toArray).size]!)) = Z
      have hZl : Z.size = sz := by rw [← hZ]; simp
      have hZ' : Z = Z.toList.toArray := by simp
      rw [hZ']
      show Instr.fill _ _ [(0, ev E x)] = _
      rw [fill_one (place := fun i => some (i * sz, sz)) (o := 0) (n := sz) (by simp) hx hn (by simp [hZl]), fill_nil]
      simp [splice, hn, ← hZl])
    simp [execOp, Sem.run_bind, this]
  unfold Oper.wp
  rw [ha.eval, hrun]
  exact ⟨_, _, _, _, ha.put d _ hN, hc.alloc e vs, h _⟩
end
end
end Go.Proofs.YtchnnplcpidkiaaDoor
