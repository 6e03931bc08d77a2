/- A request executed, as data; the contract of state.Apply; no condition but bounds on lengths, and that the state stands in order. -/
import Derived.Test.YtchnnplcpidkiaaDoorC15
namespace Go.Proofs.YtchnnplcpidkiaaDoor
open Go.RowKit
set_option linter.unusedSimpArgs false
set_option linter.unusedVariables false
set_option maxRecDepth 20000
set_option maxHeartbeats 16000000

/-! ### The data -/
def withR (a : LReply) (rs : List LReply) : List LReply := goW (fun x => decide (x.client ≥ a.client)) (fun x => decide (x.client ≠ a.client)) a rs false
def doneD (s : LState) (q : LReq) : LState × LReply :=
  (⟨(did s.ps s.ep s.ms q.op).ps, withR ⟨q.client, q.num, (did s.ps s.ep s.ms q.op).code, (did s.ps s.ep s.ms q.op).vals⟩ s.rs, (did s.ps s.ep s.ms q.op).ep, (did s.ps s.ep s.ms q.op).ms⟩,
   ⟨q.client, q.num, (did s.ps s.ep s.ms q.op).code, (did s.ps s.ep s.ms q.op).vals⟩)
def applyD (s : LState) (q : LReq) : LState × LReply :=
  if goodB q = false then (s, ⟨q.client, q.num, 1, []⟩)
  else match idx (fun r : LReply => decide (r.client = q.client)) s.rs with
    | some i => (match s.rs[i]? with
      | some r => if q.num = r.num then (s, r) else if q.num < r.num then (s, ⟨q.client, q.num, 8, []⟩) else doneD s q
      | none => doneD s q)
    | none => doneD s q
def OrdR (rs : List LReply) : Prop := rs.Pairwise (fun a b => a.client < b.client)
def cR (c : Int) (r : LReply) : Int := cmpI r.client c
theorem cR_zero {c : Int} {r : LReply} : cR c r = 0 ↔ r.client = c := by
  unfold cR cmpI; split <;> (try split) <;> constructor <;> intro h <;> omega
theorem cR_neg {c : Int} {r : LReply} : cR c r < 0 ↔ r.client < c := by
  unfold cR cmpI; split <;> (try split) <;> constructor <;> intro h <;> omega
theorem cR_ord {rs : List LReply} {c : Int} (h : OrdR rs) : Ord3 (cR c) rs := h.imp fun {a b} hab hc => by
  rw [cR_neg]
  rcases Int.lt_or_eq_of_le hc with h1 | h1
  · have := cR_neg.1 h1; omega
  · have := cR_zero.1 h1; omega
theorem lastB_has {rs : List LReply} {c : Int} (h : OrdR rs) : idx (fun r : LReply => decide (r.client = c)) rs = if bsB (cR c) rs = true then some (bsI (cR c) rs) else none :=
  bs_idx (cR_ord h) fun x _ => decide_eq_decide.2 cR_zero.symm
theorem withR_cut {rs : List LReply} {a : LReply} (h : OrdR rs) : withR a rs = rs.take (bsI (cR a.client) rs) ++ a :: (if bsB (cR a.client) rs = true then rs.drop (bsI (cR a.client) rs + 1) else rs.drop (bsI (cR a.client) rs)) := by
  refine bs_with (cR_ord h) a (fun y _ => ?_) (fun y _ => ?_)
  · rw [← decide_not]; exact decide_eq_decide.2 (by rw [cR_neg]; omega)
  · rw [← decide_not]; exact decide_eq_decide.2 (by rw [cR_zero])
/-- The state stands in order. -/
structure Ord (s : LState) : Prop where
  ps : OrdP s.ps
  rs : OrdR s.rs
theorem rises_ord {s : LState} (h : rises s = true) : Ord s := by
  simp only [rises, Bool.and_eq_true, List.all_eq_true, List.mem_range] at h
  refine ⟨pairwise_of_step (r := fun a b : LPair => Op.bytesLess a.k.toList b.k.toList = true) (fun a b c h1 h2 => less_trans h1 h2) fun i a b ha hb => ?_, pairwise_of_step (r := fun a b : LReply => a.client < b.client) (fun a b c h1 h2 => by omega) fun i a b ha hb => ?_⟩
  · have h1 := h.1 (i + 1) (List.getElem?_eq_some_iff.1 hb).1
    simp only [riseP, Nat.add_sub_cancel, ha, hb] at h1
    simpa using h1
  · have h1 := h.2 (i + 1) (List.getElem?_eq_some_iff.1 hb).1
    simp only [riseR, Nat.add_sub_cancel, ha, hb] at h1
    simpa using h1

/-! ### Blocks told apart by the type of their cells -/
theorem notin_types {X : Cx} {S : Sto} {F : Nat → Prop} {w1 w : World} (hc : Cur X S F w1 w) {b T : Nat} {cs : List Value} (hb : w.heap[b]? = some (.cells cs.toArray T (0, 0))) (hT : ∀ e ∈ S, ∀ b', e.1 = some b' → e.2.1 ≠ T) : b ∉ blks S := fun hm => by
  obtain ⟨e, he, h1⟩ := blks_mem.1 hm
  have h2 := (hc.own e he b h1).2
  rw [hb] at h2
  simp only [Option.some.injEq, Obj.cells.injEq] at h2
  exact hT e he b h1 h2.2.1.symm
theorem OwnF.al {X : Cx} {S : Sto} {F G : Nat → Prop} {w1 w : World} {T sz n cap : Nat} {A : Option Addr} {cs : List Value} (hc : Cur X S F w1 w) (h : OwnF G w T sz A n cap cs) (hX : ∀ b, G b → X.w0.heap.size ≤ b) (hT : ∀ e ∈ S, ∀ b', e.1 = some b' → e.2.1 ≠ T) : OwnF (fun b => Al X S b ∧ G b) w T sz A n cap cs := by
  obtain ⟨ob, cur, h1, h2, h3, h4⟩ := h
  exact ⟨ob, cur, h1, h2, h3, fun b hb => ⟨⟨⟨.inr (hX b (h4 b hb).1), notin_types hc (h4 b hb).2 hT⟩, (h4 b hb).1⟩, (h4 b hb).2⟩⟩
theorem OwnF.sep {G : Nat → Prop} {w : World} {T T' sz n cap : Nat} {A : Option Addr} {cs cur : List Value} {ob : Option Nat} (h : OwnF G w T sz A n cap cs) (hob : ∀ b, ob = some b → w.heap[b]? = some (.cells cur.toArray T' (0, 0))) (hT : T ≠ T') : OwnF (fun k => G k ∧ ob ≠ some k) w T sz A n cap cs := by
  obtain ⟨o, c, h1, h2, h3, h4⟩ := h
  refine ⟨o, c, h1, h2, h3, fun b hb => ⟨⟨(h4 b hb).1, fun he => ?_⟩, (h4 b hb).2⟩⟩
  have h5 := hob b he
  rw [(h4 b hb).2] at h5
  simp only [Option.some.injEq, Obj.cells.injEq] at h5
  exact hT h5.2.1
section
variable {X : Cx} {E : Env} {S : Sto} {F : Nat → Prop} {w1 : World} {Q : Exit → Env → World → Prop}
theorem JQ.adoptH {e : Exit} {G : Nat → Prop} {T sz n cap : Nat} {A : Option Addr} {cs : List Value} (h : OwnF G w1 T sz A n cap cs) (hG : ∀ b, G b → F b ∧ X.w0.heap.size ≤ b)
    (k : ∀ ob cur, A = ob.map mkA → Row ob n cap sz cur → cur.take (n * sz) = cs → (∀ b, ob = some b → X.w0.heap.size ≤ b ∧ w1.heap[b]? = some (.cells cur.toArray T (0, 0))) → JQ X Q e E (S ++ [(ob, T, cur)]) (fun k => F k ∧ ob ≠ some k) w1) : JQ X Q e E S F w1 := by
  obtain ⟨ob, cur, hA, hrow, htk, hb⟩ := h
  refine JQ.weaken (fun w hc => ?_) (k ob cur hA hrow htk fun b hbb => ⟨(hG b (hb b hbb).1).2, (hb b hbb).2⟩)
  have h1 := (hc.addNone T).put S.length (nth_last S _) ob T cur fun b hbb => by
    have h2 := hG b (hb b hbb).1
    have hlt : b < w1.heap.size := (Array.getElem?_eq_some_iff.1 (hb b hbb).2).1
    obtain ⟨h3, h4⟩ := hc.step b hlt h2.1
    refine ⟨h3.trans (hb b hbb).2, .inl h2.2, ?_⟩
    intro hm
    obtain ⟨e, he, h5⟩ := blks_mem.1 hm
    rcases List.mem_append.1 he with h6 | h6
    · exact h4.2 (blks_mem.2 ⟨e, h6, h5⟩)
    · rw [List.mem_singleton.1 h6] at h5; cases h5
  rw [sset_last] at h1
  exact h1
end
end Go.Proofs.YtchnnplcpidkiaaDoor
