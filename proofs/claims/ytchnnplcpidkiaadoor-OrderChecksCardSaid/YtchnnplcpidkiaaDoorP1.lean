/- Plain laws of sorted lists: what the binary search finds, what inserting and deleting there make. -/
import Derived.Test.YtchnnplcpidkiaaDoorI3
namespace Go.Proofs.YtchnnplcpidkiaaDoor
open Go.RowKit
set_option linter.unusedSimpArgs false
set_option linter.unusedVariables false

theorem bsGo_spec {c : Nat → Int} {n : Nat} (hm : ∀ i j, i ≤ j → j < n → c j < 0 → c i < 0) : ∀ (f i j : Nat), i ≤ j → j ≤ n → j - i ≤ f → (∀ k, k < i → c k < 0) → (∀ k, j ≤ k → k < n → ¬ c k < 0) →
    bsGo c f i j ≤ n ∧ (∀ k, k < bsGo c f i j → c k < 0) ∧ (∀ k, bsGo c f i j ≤ k → k < n → ¬ c k < 0)
  | 0, i, j, hij, hjn, hf, h1, h2 => by
    have : i = j := by omega
    subst this
    exact ⟨hjn, h1, h2⟩
  | f + 1, i, j, hij, hjn, hf, h1, h2 => by
    unfold bsGo
    split
    · split
      · rename_i hlt hc
        refine bsGo_spec hm f _ j (by omega) hjn (by omega) (fun k hk => ?_) h2
        exact hm k ((i + j) / 2) (by omega) (by omega) hc
      · rename_i hlt hc
        refine bsGo_spec hm f i _ (by omega) (by omega) (by omega) h1 (fun k hk hkn => ?_)
        intro hck
        exact hc (hm _ k hk hkn hck)
    · have : i = j := by omega
      subst this
      exact ⟨hjn, h1, h2⟩
/-- The list stands in order for the comparison c. -/
def Ord3 {α : Type} (c : α → Int) (xs : List α) : Prop := xs.Pairwise (fun a b => c b ≤ 0 → c a < 0)
section
variable {α : Type} {c : α → Int} {xs : List α}
theorem Ord3.at (h : Ord3 c xs) {i j : Nat} {a b : α} (hi : xs[i]? = some a) (hj : xs[j]? = some b) (hij : i < j) (hb : c b ≤ 0) : c a < 0 := by
  obtain ⟨h1, rfl⟩ := List.getElem?_eq_some_iff.1 hi
  obtain ⟨h2, rfl⟩ := List.getElem?_eq_some_iff.1 hj
  exact List.pairwise_iff_getElem.1 h i j h1 h2 hij hb
theorem at0_lt {i : Nat} (hi : i < xs.length) : at0 c xs i = c xs[i] := by simp [at0, hi]
theorem bs_spec (h : Ord3 c xs) : bsI c xs ≤ xs.length ∧ (∀ k (hk : k < xs.length), k < bsI c xs → c xs[k] < 0) ∧ (∀ k (hk : k < xs.length), bsI c xs ≤ k → ¬ c xs[k] < 0) := by
  obtain ⟨h1, h2, h3⟩ := bsGo_spec (c := at0 c xs) (n := xs.length) (fun i j hij hj hc => by
    rcases Nat.lt_or_eq_of_le hij with h4 | h4
    · rw [at0_lt hj] at hc
      rw [at0_lt (by omega)]
      exact h.at (List.getElem?_eq_getElem (by omega)) (List.getElem?_eq_getElem hj) h4 (by omega)
    · subst h4; exact hc) xs.length 0 xs.length (Nat.zero_le _) (Nat.le_refl _) (by omega) (fun k hk => absurd hk (by omega)) (fun k hk hkn => absurd hkn (by omega))
  refine ⟨h1, fun k hk hlt => ?_, fun k hk hle => ?_⟩
  · have := h2 k hlt; rwa [at0_lt hk] at this
  · have := h3 k hle hk; rwa [at0_lt hk] at this
theorem bs_take (h : Ord3 c xs) : ∀ x ∈ xs.take (bsI c xs), c x < 0 := fun x hx => by
  obtain ⟨k, hk, rfl⟩ := List.getElem_of_mem hx
  simp only [List.length_take] at hk
  rw [List.getElem_take]
  exact (bs_spec h).2.1 k (by omega) (by omega)
theorem bs_drop (h : Ord3 c xs) : ∀ x ∈ xs.drop (bsI c xs), ¬ c x < 0 := fun x hx => by
  obtain ⟨k, hk, rfl⟩ := List.getElem_of_mem hx
  simp only [List.length_drop] at hk
  rw [List.getElem_drop]
  exact (bs_spec h).2.2 _ (by omega) (by omega)
/-- Behind the first that is not less, all are greater. -/
theorem bs_drop1 (h : Ord3 c xs) : ∀ x ∈ xs.drop (bsI c xs + 1), 0 < c x := fun x hx => by
  obtain ⟨k, hk, rfl⟩ := List.getElem_of_mem hx
  simp only [List.length_drop] at hk
  rw [List.getElem_drop]
  have hlt : bsI c xs < xs.length := by omega
  have h1 := (bs_spec h).2.2 (bsI c xs) hlt (Nat.le_refl _)
  by_cases hc : 0 < c xs[bsI c xs + 1 + k]
  · exact hc
  · exact absurd (h.at (List.getElem?_eq_getElem hlt) (List.getElem?_eq_getElem (by omega : bsI c xs + 1 + k < xs.length)) (by omega) (by omega)) h1
theorem bsB_iff (h : Ord3 c xs) : bsB c xs = true ↔ ∃ x ∈ xs, c x = 0 := by
  constructor
  · intro hb
    simp only [bsB, Bool.and_eq_true, decide_eq_true_eq] at hb
    exact ⟨xs[bsI c xs], List.getElem_mem hb.1, (at0_lt (c := c) hb.1).symm.trans hb.2⟩
  · rintro ⟨x, hx, hc⟩
    obtain ⟨k, hk, rfl⟩ := List.getElem_of_mem hx
    have h1 := bs_spec h
    have hle : bsI c xs ≤ k := by
      by_cases h2 : bsI c xs ≤ k
      · exact h2
      · have := h1.2.1 k hk (by omega); omega
    have hlt : bsI c xs < xs.length := by omega
    have h2 := h1.2.2 _ hlt (Nat.le_refl _)
    have he : k = bsI c xs := by
      rcases Nat.lt_or_eq_of_le hle with h3 | h3
      · exact absurd (h.at (List.getElem?_eq_getElem hlt) (List.getElem?_eq_getElem hk) h3 (by omega)) h2
      · exact h3.symm
    simp only [bsB, Bool.and_eq_true, decide_eq_true_eq]
    refine ⟨hlt, ?_⟩
    rw [at0_lt hlt, ← hc]
    simp only [he]
theorem bsB_here (h : Ord3 c xs) (hb : bsB c xs = true) : ∃ x, xs[bsI c xs]? = some x ∧ c x = 0 ∧ bsI c xs < xs.length := by
  simp only [bsB, Bool.and_eq_true, decide_eq_true_eq] at hb
  exact ⟨xs[bsI c xs], List.getElem?_eq_getElem hb.1, (at0_lt (c := c) hb.1).symm.trans hb.2, hb.1⟩
theorem bsB_none (h : Ord3 c xs) (hb : bsB c xs = false) : ∀ x ∈ xs, c x ≠ 0 := fun x hx hc => by
  rw [(bsB_iff h).2 ⟨x, hx, hc⟩] at hb; cases hb
/-- Without the one that was found. -/
theorem bs_filter (h : Ord3 c xs) (hb : bsB c xs = true) {q : α → Bool} (hq : ∀ x ∈ xs, q x = !decide (c x = 0)) : xs.filter q = xs.take (bsI c xs) ++ xs.drop (bsI c xs + 1) := by
  obtain ⟨x, hx, hc, hlt⟩ := bsB_here h hb
  conv => lhs; rw [← List.take_append_drop (bsI c xs) xs]
  rw [List.filter_append]
  congr 1
  · rw [List.filter_eq_self]
    intro y hy
    have := bs_take h y hy
    rw [hq y (List.mem_of_mem_take hy)]
    simp; omega
  · have hx2 : x ∈ xs := List.mem_of_getElem? hx
    rw [List.drop_eq_getElem_cons hlt, List.filter_cons_of_neg, List.filter_eq_self]
    · intro y hy
      have := bs_drop1 h y hy
      rw [hq y (List.mem_of_mem_drop hy)]
      simp; omega
    · rw [hq _ (List.getElem_mem hlt)]
      obtain ⟨_, h2⟩ := List.getElem?_eq_some_iff.1 hx
      rw [h2, hc]; simp
theorem filter_same {q : α → Bool} (hq : ∀ x ∈ xs, q x = true) : xs.filter q = xs := List.filter_eq_self.2 hq
theorem goW_done {stop keep : α → Bool} {x : α} : ∀ {l : List α}, goW stop keep x l true = l.filter keep
  | [] => rfl
  | y :: l => by
    simp only [goW, Bool.true_or, Bool.not_true, Bool.false_and]
    rw [goW_done]
    cases hk : keep y <;> simp [hk]
theorem goW_pre {stop keep : α → Bool} {x : α} {r : List α} : ∀ {l : List α}, (∀ y ∈ l, stop y = false ∧ keep y = true) → goW stop keep x (l ++ r) false = l ++ goW stop keep x r false
  | [], _ => rfl
  | y :: l, h => by
    have h1 := h y (by simp)
    simp only [List.cons_append, goW, h1.1, h1.2, Bool.or_false, Bool.not_false, Bool.and_false, Bool.false_eq_true, if_false, if_true, List.nil_append]
    rw [goW_pre (fun z hz => h z (List.mem_cons_of_mem _ hz))]
theorem goW_at1 {stop keep : α → Bool} {x y : α} {r : List α} (h : stop y = true) : goW stop keep x (y :: r) false = x :: (y :: r).filter keep := by
  simp only [goW, h, Bool.false_or, Bool.not_false, Bool.true_and]
  rw [goW_done]
  cases hk : keep y <;> simp [hk]
/-- With x at its place, the one that was there left out. -/
theorem bs_with (h : Ord3 c xs) {stop keep : α → Bool} (x : α) (hs : ∀ y ∈ xs, stop y = !decide (c y < 0)) (hk : ∀ y ∈ xs, keep y = !decide (c y = 0)) :
    goW stop keep x xs false = xs.take (bsI c xs) ++ x :: (if bsB c xs = true then xs.drop (bsI c xs + 1) else xs.drop (bsI c xs)) := by
  conv => lhs; rw [← List.take_append_drop (bsI c xs) xs]
  rw [goW_pre]
  · congr 1
    cases hd : xs.drop (bsI c xs) with
    | nil =>
      have hlen : xs.length ≤ bsI c xs := by simpa using hd
      have hb : bsB c xs = false := by simp [bsB]; omega
      simp [goW, hb]
    | cons y r =>
      have hym : y ∈ xs.drop (bsI c xs) := by rw [hd]; simp
      have hyn := bs_drop h y hym
      rw [goW_at1 (by rw [hs y (List.mem_of_mem_drop hym)]; simpa using hyn)]
      congr 1
      have hr : xs.drop (bsI c xs + 1) = r := by rw [← List.drop_drop, hd]; rfl
      have hlt : bsI c xs < xs.length := by
        by_cases h1 : bsI c xs < xs.length
        · exact h1
        · rw [List.drop_eq_nil_of_le (by omega)] at hd; cases hd
      have hy : xs[bsI c xs]? = some y := by
        have := congrArg (·[0]?) hd
        simpa using this
      have hrf : r.filter keep = r := filter_same fun z hz => by
        rw [← hr] at hz
        have := bs_drop1 h z hz
        rw [hk z (List.mem_of_mem_drop hz)]
        simp; omega
      cases hb : bsB c xs with
      | true =>
        obtain ⟨y', hy', hc, _⟩ := bsB_here h hb
        rw [hy] at hy'
        cases hy'
        rw [List.filter_cons_of_neg (by rw [hk y (List.mem_of_mem_drop hym), hc]; simp), hrf, if_pos rfl, hr]
      | false =>
        have hyc := bsB_none h hb y (List.mem_of_mem_drop hym)
        rw [List.filter_cons_of_pos (by rw [hk y (List.mem_of_mem_drop hym)]; simpa using hyc), hrf, if_neg (by simp)]
  · intro y hy
    have h1 := bs_take h y hy
    have h2 := List.mem_of_mem_take hy
    rw [hs y h2, hk y h2]
    simp; omega
theorem bs_with0 (h : Ord3 c xs) {stop : α → Bool} (x : α) (hb : bsB c xs = false) (hs : ∀ y ∈ xs, stop y = decide (0 < c y)) :
    goW stop (fun _ => true) x xs false = xs.take (bsI c xs) ++ x :: xs.drop (bsI c xs) := by
  have hn := bsB_none h hb
  conv => lhs; rw [← List.take_append_drop (bsI c xs) xs]
  rw [goW_pre]
  · congr 1
    cases hd : xs.drop (bsI c xs) with
    | nil => simp [goW]
    | cons y r =>
      have hym : y ∈ xs.drop (bsI c xs) := by rw [hd]; simp
      have hyn := bs_drop h y hym
      have hyc := hn y (List.mem_of_mem_drop hym)
      rw [goW_at1 (by rw [hs y (List.mem_of_mem_drop hym)]; simp; omega)]
      simp
  · intro y hy
    have h1 := bs_take h y hy
    have h2 := List.mem_of_mem_take hy
    rw [hs y h2]
    simp; omega
theorem bs_idx (h : Ord3 c xs) {q : α → Bool} (hq : ∀ x ∈ xs, q x = decide (c x = 0)) : idx q xs = if bsB c xs = true then some (bsI c xs) else none := by
  cases hb : bsB c xs with
  | true =>
    obtain ⟨x, hx, hc, _⟩ := bsB_here h hb
    rw [if_pos rfl]
    refine idx_here ?_ hx (by rw [hq x (List.mem_of_getElem? hx), hc]; simp)
    rw [List.all_eq_true]
    intro y hy
    have := bs_take h y hy
    rw [hq y (List.mem_of_mem_take hy)]
    simp; omega
  | false =>
    rw [if_neg (by simp)]
    refine idx_none ?_
    rw [List.all_eq_true]
    intro y hy
    rw [hq y hy]
    simpa using bsB_none h hb y hy
theorem idx_some {q : α → Bool} {xs : List α} : (∃ i, idx q xs = some i) ↔ xs.any q = true := by
  induction xs with
  | nil => simp [idx]
  | cons x xs ih =>
    unfold idx
    cases hq : q x with
    | true => simp [hq]
    | false =>
      simp only [Bool.false_eq_true, if_false, List.any_cons, hq, Bool.false_or]
      rw [← ih]
      cases idx q xs <;> simp
/-- From neighbours to all. -/
theorem pairwise_of_step {r : α → α → Prop} (tr : ∀ a b c, r a b → r b c → r a c) : ∀ {xs : List α}, (∀ i a b, xs[i]? = some a → xs[i + 1]? = some b → r a b) → xs.Pairwise r
  | [], _ => List.Pairwise.nil
  | [x], _ => by simp
  | x :: y :: xs, h => by
    have ih : (y :: xs).Pairwise r := pairwise_of_step tr fun i a b h1 h2 => h (i + 1) a b (by simpa using h1) (by simpa using h2)
    refine List.Pairwise.cons (fun z hz => ?_) ih
    have hxy : r x y := h 0 x y (by simp) (by simp)
    rcases List.mem_cons.1 hz with rfl | hz
    · exact hxy
    · exact tr x y z hxy (List.rel_of_pairwise_cons ih hz)
end
theorem goW_len {α : Type} {stop keep : α → Bool} {x : α} : ∀ {l : List α} {done : Bool}, (goW stop keep x l done).length ≤ l.length + 1
  | [], done => by cases done <;> simp [goW]
  | y :: l, done => by
    cases done with
    | true => rw [goW_done]; have := List.length_filter_le keep (y :: l); omega
    | false =>
      unfold goW
      cases hs : stop y with
      | true => simp only [Bool.or_true]; rw [goW_done]; have := List.length_filter_le keep l; cases keep y <;> simp <;> omega
      | false => have := goW_len (stop := stop) (keep := keep) (x := x) (l := l) (done := false); cases keep y <;> simp <;> omega
theorem goW_mem {α : Type} {stop keep : α → Bool} {x z : α} : ∀ {l : List α} {done : Bool}, z ∈ goW stop keep x l done → z = x ∨ z ∈ l
  | [], done, h => by cases done <;> simp [goW] at h; exact .inl h
  | y :: l, done, h => by
    unfold goW at h
    rcases List.mem_append.1 h with h | h
    · split at h
      · exact .inl (by simpa using h)
      · cases h
    · rcases List.mem_append.1 h with h | h
      · split at h
        · exact .inr (by simp at h; simp [h])
        · cases h
      · rcases goW_mem h with h | h
        · exact .inl h
        · exact .inr (List.mem_cons_of_mem _ h)
theorem Cur.srcF {X : Cx} {S : Sto} {F : Nat → Prop} {w1 w : World} (hc : Cur X S F w1 w) {A : Option Addr} {n cap sz : Nat} {cs : List Value} (h : SlF F w1 A n cap sz cs) : ∀ ad, A = some ad → ∀ (j : Nat) u, cs[j]? = some u → w.cell? (ad.add j) = some u := fun ad had j u hj => by
  have hp : 0 < n := by
    have h2 := h.len
    have h3 := (List.getElem?_eq_some_iff.1 hj).1
    rcases Nat.eq_zero_or_pos n with h0 | h0
    · rw [h0, Nat.zero_mul] at h2; omega
    · exact h0
  obtain ⟨b, o, h3, h4⟩ := h.pos hp
  have := hc.at h4 j u hj
  rw [h3] at had
  cases had
  rw [add_lit]
  exact this
end Go.Proofs.YtchnnplcpidkiaaDoor
