/- What a request leaves keeps the order, the bounds and the form; no condition. -/
import Derived.Test.YtchnnplcpidkiaaDoorC18
import Derived.Lib.ItoaLen
namespace Go.Proofs.YtchnnplcpidkiaaDoor
open Go.RowKit
set_option linter.unusedSimpArgs false
set_option linter.unusedVariables false
set_option maxRecDepth 20000

theorem goW_sorted {α : Type} {lt : α → α → Prop} {stop keep : α → Bool} {x : α} (htr : ∀ a b c, lt a b → lt b c → lt a c) (h1 : ∀ y, stop y = false → lt y x) (h2 : ∀ y, stop y = true → keep y = true → lt x y) (h3 : ∀ y, stop y = true → ¬ lt y x) :
    ∀ {l : List α}, l.Pairwise lt → (goW stop keep x l false).Pairwise lt
  | [], _ => by simp [goW]
  | y :: l, h => by
    obtain ⟨hy, hl⟩ := List.pairwise_cons.1 h
    unfold goW
    cases hs : stop y with
    | true =>
      simp only [Bool.not_false, Bool.true_and, if_true, Bool.or_true]
      rw [goW_done]
      have hst : ∀ z ∈ l, stop z = true := fun z hz => by
        cases hz' : stop z with
        | true => rfl
        | false => exact absurd (htr _ _ _ (hy z hz) (h1 z hz')) (h3 y hs)
      rw [List.singleton_append, List.pairwise_cons]
      constructor
      · intro z hz
        rcases List.mem_append.1 hz with hz | hz
        · split at hz
          · rename_i hk; rw [List.mem_singleton.1 hz]; exact h2 y hs hk
          · cases hz
        · obtain ⟨hz1, hz2⟩ := List.mem_filter.1 hz
          exact h2 z (hst z hz1) hz2
      · refine List.pairwise_append.2 ⟨by split <;> simp, hl.filter _, fun a ha b hb => ?_⟩
        split at ha
        · rw [List.mem_singleton.1 ha]; exact hy b (List.mem_filter.1 hb).1
        · cases ha
    | false =>
      simp only [Bool.not_false, Bool.true_and, Bool.false_eq_true, if_false, List.nil_append, Bool.or_false]
      refine List.pairwise_append.2 ⟨by split <;> simp, goW_sorted htr h1 h2 h3 hl, fun a ha b hb => ?_⟩
      have ha' : a = y := by
        split at ha
        · exact List.mem_singleton.1 ha
        · cases ha
      subst ha'
      rcases goW_mem hb with hb | hb
      · rw [hb]; exact h1 a hs
      · exact hy b hb
theorem less_tot : ∀ {a b : List UInt8}, Op.bytesLess a b = false → Op.bytesLess b a = false → a = b
  | [], [], _, _ => rfl
  | [], _ :: _, h, _ => by simp [Op.bytesLess] at h
  | _ :: _, [], _, h => by simp [Op.bytesLess] at h
  | x :: a, y :: b, h1, h2 => by
    simp only [Op.bytesLess, Bool.or_eq_false_iff, decide_eq_false_iff_not, Bool.and_eq_false_iff] at h1 h2
    have hxy : x = y := UInt8.le_antisymm (UInt8.not_lt.1 h2.1) (UInt8.not_lt.1 h1.1)
    subst hxy
    have h3 : Op.bytesLess a b = false := by rcases h1.2 with h | h; simp at h; exact h
    have h4 : Op.bytesLess b a = false := by rcases h2.2 with h | h; simp at h; exact h
    rw [less_tot h3 h4]
theorem less_tri {a b : ByteArray} (h : Op.bytesLess a.toList b.toList = false) (hne : a ≠ b) : Op.bytesLess b.toList a.toList = true := by
  cases h4 : Op.bytesLess b.toList a.toList with
  | true => rfl
  | false => exact absurd (ba_eq (less_tot h h4)) hne
theorem withP_ord {ps : List LPair} {x : LPair} (h : OrdP ps) : OrdP (withP x ps) :=
  goW_sorted (lt := fun a b : LPair => Op.bytesLess a.k.toList b.k.toList = true) (fun a b c => less_trans) (fun y hy => by simpa using hy) (fun y hy hk => by
    rw [beq_key] at hk
    exact less_tri (by simpa using hy) (by simpa using hk)) (fun y hy => by simpa using hy) h
theorem withR_ord {rs : List LReply} {a : LReply} (h : OrdR rs) : OrdR (withR a rs) :=
  goW_sorted (lt := fun a b : LReply => a.client < b.client) (fun a b c h1 h2 => by omega) (fun y hy => by simpa using hy) (fun y hy hk => by
    simp at hy hk; omega) (fun y hy => by simp at hy; omega) h
theorem putPs_ord {ps : List LPair} {k v : ByteArray} (h : OrdP ps) : OrdP (putPs ps k v) := by
  unfold putPs
  split
  · exact h
  · exact withP_ord h
theorem did_ord {ps : List LPair} {ep : Int} {ms : List LMember} {o : LOp} (h : OrdP ps) : OrdP (did ps ep ms o).ps := by
  unfold did
  repeat' split
  all_goals first | exact h | exact List.Pairwise.filter _ h | exact withP_ord h | exact putPs_ord h
theorem applyD_ord {s : LState} {q : LReq} (h : Ord s) : Ord (applyD s q).1 := by
  have hd : Ord (doneD s q).1 := ⟨did_ord h.ps, withR_ord h.rs⟩
  unfold applyD
  repeat' split
  all_goals first | exact h | exact hd
/-- The lengths, with room for so many requests more. -/
structure Sized (k : Nat) (s : LState) : Prop where
  ps : s.ps.length ≤ 300 + k
  rs : s.rs.length ≤ 300 + k
  ms : s.ms.length ≤ 300 + k
  vals : ∀ r ∈ s.rs, r.vals.length ≤ 400 + k
theorem Mild.sized {s : LState} (h : Mild s) : Sized 0 s := ⟨h.ps, by have := h.rs; omega, by have := h.ms; omega, fun r hr => by have := h.vals r hr; omega⟩
theorem Sized.small {k : Nat} {s : LState} (h : Sized k s) (hk : k ≤ 1000) : Small s := ⟨by have := h.ps; omega, by have := h.rs; omega, fun r hr => by have := h.vals r hr; omega, by have := h.ms; omega⟩
theorem Sized.mono {k m : Nat} {s : LState} (h : Sized k s) (hk : k ≤ m) : Sized m s := ⟨by have := h.ps; omega, by have := h.rs; omega, by have := h.ms; omega, fun r hr => by have := h.vals r hr; omega⟩
theorem chgList_len {ms : List LMember} {x : LChange} : (chgList ms x).length ≤ ms.length + 1 := by
  have h1 : (chgOut ms x).length ≤ ms.length := by
    unfold chgOut
    split
    · exact List.length_filter_le _ _
    · exact Nat.le_refl _
  unfold chgList withM
  split
  · exact Nat.le_trans goW_len (by omega)
  · omega
theorem did_psl {ps : List LPair} {ep : Int} {ms : List LMember} {o : LOp} : (did ps ep ms o).ps.length ≤ ps.length + 1 := by
  have h1 := List.length_filter_le (fun p : LPair => !(p.k.toList == o.key.toList)) ps
  have h2 : (withP ⟨o.key, o.val⟩ ps).length ≤ ps.length + 1 := goW_len
  have h3 : (putPs ps o.key o.val).length ≤ ps.length + 1 := by
    unfold putPs
    split
    · omega
    · exact h2
  unfold did
  repeat' split
  all_goals simp only
  all_goals omega
theorem did_msl {ps : List LPair} {ep : Int} {ms : List LMember} {o : LOp} : (did ps ep ms o).ms.length ≤ ms.length + 1 := by
  have h2 := chgList_len (ms := ms) (x := o.chg)
  unfold did
  repeat' split
  all_goals try (simp only; omega)
  rename_i h
  unfold chgRes
  rw [if_pos h]
  exact h2
theorem did_vl {ps : List LPair} {ep : Int} {ms : List LMember} {o : LOp} {n : Nat} (h1 : ps.length ≤ n) (h2 : ms.length ≤ n) : (did ps ep ms o).vals.length ≤ n + 1 := by
  unfold did
  have h3 := List.length_filter_le (fun p => hasPre p.k o.key) ps
  repeat' split
  all_goals simp
  all_goals omega
theorem applyD_sized {k : Nat} {s : LState} {q : LReq} (h : Sized k s) : Sized (k + 1) (applyD s q).1 := by
  have hd : Sized (k + 1) (doneD s q).1 := by
    refine ⟨Nat.le_trans did_psl (by have := h.ps; omega), Nat.le_trans goW_len (by have := h.rs; omega), Nat.le_trans did_msl (by have := h.ms; omega), fun r hr => ?_⟩
    rcases goW_mem hr with e | hr
    · rw [e]
      exact Nat.le_trans (did_vl h.ps h.ms) (by omega)
    · have := h.vals r hr; omega
  have hm := h.mono (Nat.le_succ k)
  unfold applyD
  repeat' split
  all_goals first | exact hm | exact hd
theorem chg_ms {ms : List LMember} {x : LChange} (h : ∀ m ∈ ms, m.wf) (hx : x.wf) : ∀ m ∈ chgList ms x, m.wf := fun m hm => by
  have h1 : ∀ m ∈ chgOut ms x, m.wf := fun m hm => by
    unfold chgOut at hm
    split at hm
    · exact h m (List.mem_filter.1 hm).1
    · exact h m hm
  unfold chgList withM at hm
  split at hm
  · rcases goW_mem hm with e | hm
    · rw [e]; exact chgM_wf hx
    · exact h1 m hm
  · exact h1 m hm
theorem chg_ep {ep : Int} {ms : List LMember} {x : LChange} (h : chgCode ep ms x = 0) : I64 (ep + 1) := by
  unfold chgCode at h
  split at h
  · cases h
  · rename_i h1
    have h2 : cfgGood ep ms = true := by
      cases h3 : cfgGood ep ms with
      | true => rfl
      | false => simp [chgBad1, h3] at h1
    simp only [cfgGood, cfgOut, Bool.and_eq_true, Bool.not_eq_true', Bool.or_eq_false_iff, decide_eq_false_iff_not] at h2
    unfold I64
    omega
theorem itoaB_size {n : Int} (h : I64 n) : (itoaB n).size ≤ strMax := by
  have := Lib.itoa_length_le n h.1 h.2
  unfold itoaB strMax
  simp [ByteArray.size]
  omega
theorem valOf_size {ps : List LPair} {k : ByteArray} (h : ∀ p ∈ ps, p.wf) : (valOf ps k).size ≤ strMax := by
  have h0 : (⟨#[]⟩ : ByteArray).size ≤ strMax := Nat.zero_le _
  unfold valOf
  split
  · split
    · rename_i hp; exact (h _ (List.mem_of_getElem? hp)).v
    · exact h0
  · exact h0
theorem did_ps {ps : List LPair} {ep : Int} {ms : List LMember} {o : LOp} (h : ∀ p ∈ ps, p.wf) (ho : o.wf) : ∀ p ∈ (did ps ep ms o).ps, p.wf := by
  have h1 : ∀ p ∈ withP ⟨o.key, o.val⟩ ps, p.wf := fun p hp => by
    rcases goW_mem hp with e | hp
    · rw [e]; exact ⟨ho.key, ho.val⟩
    · exact h p hp
  have h2 : ∀ p ∈ putPs ps o.key o.val, p.wf := by
    unfold putPs
    split
    · exact h
    · exact h1
  unfold did
  repeat' split
  all_goals first | exact h | exact h1 | exact h2 | exact fun p hp => h p (List.mem_filter.1 hp).1
theorem did_ms {ps : List LPair} {ep : Int} {ms : List LMember} {o : LOp} (h : ∀ m ∈ ms, m.wf) (ho : o.wf) : ∀ m ∈ (did ps ep ms o).ms, m.wf := by
  unfold did
  repeat' split
  all_goals try exact h
  rename_i hc
  unfold chgRes
  rw [if_pos hc]
  exact chg_ms h ho.chg
theorem did_ep {ps : List LPair} {ep : Int} {ms : List LMember} {o : LOp} (h : I64 ep) : I64 (did ps ep ms o).ep := by
  unfold did
  repeat' split
  all_goals try exact h
  rename_i hc
  unfold chgRes
  rw [if_pos hc]
  exact chg_ep hc
theorem chgCode_i64 {ep : Int} {ms : List LMember} {x : LChange} : I64 (chgCode ep ms x) := by
  unfold chgCode I64
  repeat' split
  all_goals decide
theorem did_code {ps : List LPair} {ep : Int} {ms : List LMember} {o : LOp} : I64 (did ps ep ms o).code := by
  unfold did
  repeat' split
  all_goals first | exact chgCode_i64 | (unfold I64; simp only; decide)
theorem did_vals {ps : List LPair} {ep : Int} {ms : List LMember} {o : LOp} (h : ∀ p ∈ ps, p.wf) (he : I64 ep) (hm : ∀ m ∈ ms, m.wf) : ∀ v ∈ (did ps ep ms o).vals, v.size ≤ strMax := by
  unfold did
  repeat' split
  all_goals intro v hv
  all_goals try (cases hv; done)
  all_goals try (rw [List.mem_singleton.1 hv]; exact valOf_size h)
  · obtain ⟨p, hp, rfl⟩ := List.mem_map.1 hv
    exact (h p (List.mem_filter.1 hp).1).k
  · rcases List.mem_cons.1 hv with e | hv
    · rw [e]; exact itoaB_size he
    · obtain ⟨m, hm', rfl⟩ := List.mem_map.1 hv
      exact itoaB_size (hm m hm').id
theorem applyD_wf {s : LState} {q : LReq} (h : s.wf) (hq : q.wf) : (applyD s q).1.wf := by
  have hd : (doneD s q).1.wf := by
    refine ⟨did_ps h.ps hq.op, fun r hr => ?_, did_ep h.ep, did_ms h.ms hq.op⟩
    rcases goW_mem hr with e | hr
    · rw [e]
      exact ⟨hq.client, hq.num, did_code, did_vals h.ps h.ep h.ms⟩
    · exact h.rs r hr
  unfold applyD
  repeat' split
  all_goals first | exact h | exact hd
theorem applyD_rep {s : LState} {q : LReq} (h : s.wf) (hq : q.wf) : (applyD s q).2.wf := by
  have hd : (doneD s q).2.wf := ⟨hq.client, hq.num, did_code, did_vals h.ps h.ep h.ms⟩
  unfold applyD
  repeat' split
  all_goals first | exact hd | exact ⟨hq.client, hq.num, by unfold I64; simp only; decide, fun v hv => by cases hv⟩ | (rename_i hx _; exact h.rs _ (List.mem_of_getElem? hx))
/-- A list of requests, one after the other. -/
def allD (s : LState) : List LReq → LState
  | [] => s
  | q :: qs => allD (applyD s q).1 qs
def allR (s : LState) : List LReq → List LReply
  | [] => []
  | q :: qs => (applyD s q).2 :: allR (applyD s q).1 qs
theorem allR_len {s : LState} {qs : List LReq} : (allR s qs).length = qs.length := by
  induction qs generalizing s with
  | nil => rfl
  | cons q qs ih => simp [allR, ih]
theorem allD_snoc {s : LState} {qs : List LReq} {q : LReq} : allD s (qs ++ [q]) = (applyD (allD s qs) q).1 := by
  induction qs generalizing s with
  | nil => rfl
  | cons p qs ih => simp only [List.cons_append, allD, ih]
theorem allR_snoc {s : LState} {qs : List LReq} {q : LReq} : allR s (qs ++ [q]) = allR s qs ++ [(applyD (allD s qs) q).2] := by
  induction qs generalizing s with
  | nil => rfl
  | cons p qs ih => simp only [List.cons_append, allD, allR, ih]
/-- What a state is like that may be worked on. -/
structure Fit (k : Nat) (s : LState) : Prop where
  wf : s.wf
  size : Sized k s
  ord : Ord s
theorem Fit.apply {k : Nat} {s : LState} {q : LReq} (h : Fit k s) (hq : q.wf) : Fit (k + 1) (applyD s q).1 := ⟨applyD_wf h.wf hq, applyD_sized h.size, applyD_ord h.ord⟩
theorem Fit.all {k : Nat} {s : LState} {qs : List LReq} (h : Fit k s) (hq : ∀ q ∈ qs, q.wf) : Fit (k + qs.length) (allD s qs) := by
  induction qs generalizing s k with
  | nil => exact h
  | cons q qs ih =>
    have := ih (h.apply (hq q (by simp))) (fun p hp => hq p (by simp [hp]))
    rw [List.length_cons, show k + (qs.length + 1) = k + 1 + qs.length by omega]
    exact this
theorem Fit.mono {k m : Nat} {s : LState} (h : Fit k s) (hk : k ≤ m) : Fit m s := ⟨h.wf, h.size.mono hk, h.ord⟩
theorem take_snoc {α : Type} {l : List α} {k : Nat} {x : α} (h : l[k]? = some x) : l.take (k + 1) = l.take k ++ [x] := by
  rw [List.take_add_one, h]; rfl
end Go.Proofs.YtchnnplcpidkiaaDoor
