/- Law 24 as data, and contracts of search, Linear and great; conditions: the bounds that each theorem names (P4, P5, C27, C28, C29, P6, put together). -/
import Derived.Test.YtchnnplcpidkiaaDoorX1
namespace Go.Proofs.YtchnnplcpidkiaaDoor
open Go.RowKit Go.Lib
set_option linter.unusedSimpArgs false
set_option linter.unusedVariables false
set_option maxRecDepth 20000

theorem u8_wrap (x : Nat) : IntKind.u8.wrap (x : Int) = ((x % 256 : Nat) : Int) := by
  simp [IntKind.wrap, IntKind.bits, IntKind.signed, IntKind.min, IntKind.max]
theorem bytes_mod {x y : Nat} : ∀ {k : Nat}, (∀ j, j < k → x / 2 ^ (8 * j) % 256 = y / 2 ^ (8 * j) % 256) → x % 2 ^ (8 * k) = y % 2 ^ (8 * k)
  | 0, _ => by simp [Nat.mod_one]
  | k + 1, h => by
    have h1 := bytes_mod (k := k) fun j hj => h j (by omega)
    have h2 := h k (by omega)
    rw [show 2 ^ (8 * (k + 1)) = 2 ^ (8 * k) * 256 by rw [show 8 * (k + 1) = 8 * k + 8 by omega, Nat.pow_add], Nat.mod_mul, Nat.mod_mul, h1, h2]
theorem bytes_inj {x y k : Nat} (h : ∀ j, j < k → x / 2 ^ (8 * j) % 256 = y / 2 ^ (8 * j) % 256) (hx : x < 2 ^ (8 * k)) (hy : y < 2 ^ (8 * k)) : x = y := by
  have := bytes_mod h
  rwa [Nat.mod_eq_of_lt hx, Nat.mod_eq_of_lt hy] at this
/-- A number's 64 bits. -/
theorem u64_nat {n : Int} (h : I64 n) : ∃ x : Nat, IntKind.u64.wrap n = (x : Int) ∧ x < 2 ^ 64 ∧ (x : Int) = if n < 0 then n + 18446744073709551616 else n := by
  obtain ⟨h1, h2⟩ := h
  have h3 : IntKind.u64.wrap n = n % 18446744073709551616 := by
    simp [IntKind.wrap, IntKind.bits, IntKind.signed, IntKind.min, IntKind.max]
  refine ⟨(n % 18446744073709551616).toNat, by rw [h3]; omega, by omega, ?_⟩
  split <;> omega
theorem byteAt_nat {n : Int} {x j : Nat} (hx : IntKind.u64.wrap n = (x : Int)) (hj : j < 8) : byteAt n (56 - 8 * (j : Int)) = ((x / 2 ^ (8 * (7 - j)) % 256 : Nat) : Int) := by
  unfold byteAt
  rw [hx]
  have h1 : min (56 - 8 * (j : Int)).toNat IntKind.u64.bits = 8 * (7 - j) := by
    have : IntKind.u64.bits = 64 := rfl
    rw [this]; omega
  rw [h1]
  have h2 : (x : Int).fdiv (2 ^ (8 * (7 - j))) = ((x / 2 ^ (8 * (7 - j)) : Nat) : Int) := by
    rw [Int.fdiv_eq_ediv_of_nonneg _ (by exact_mod_cast Nat.zero_le _)]
    push_cast
    rfl
  rw [h2]
  exact u8_wrap _
theorem be8_inj {n m : Int} (hn : I64 n) (hm : I64 m) (h : be8 n = be8 m) : n = m := by
  obtain ⟨x, h1, h2, h3⟩ := u64_nat hn
  obtain ⟨y, h4, h5, h6⟩ := u64_nat hm
  have hxy : x = y := bytes_inj (k := 8) (fun j hj => by
    have h7 := be8_at (n := n) (j := 7 - j) (by omega)
    have h8 := be8_at (n := m) (j := 7 - j) (by omega)
    rw [h, h8] at h7
    have h9 := Option.some.inj h7
    rw [byteAt_nat h4 (by omega), byteAt_nat h1 (by omega), show 7 - (7 - j) = j by omega] at h9
    exact_mod_cast h9.symm) h2 h5
  subst hxy
  rw [h3] at h6
  obtain ⟨a, b⟩ := hn
  obtain ⟨c, d⟩ := hm
  split at h6 <;> split at h6 <;> omega
theorem be4_inj {n m : Nat} (hn : n < 2 ^ 32) (hm : m < 2 ^ 32) (h : be4 n = be4 m) : n = m := by
  have hf : ∀ (x k : Nat), (x : Int).fdiv (2 ^ k) = ((x / 2 ^ k : Nat) : Int) := fun x k => by
    rw [Int.fdiv_eq_ediv_of_nonneg _ (by exact_mod_cast Nat.zero_le _)]
    push_cast
    rfl
  have hb : IntKind.i64.bits = 64 := rfl
  simp only [be4, hb, List.cons.injEq, and_true] at h
  rw [show min 24 64 = 24 from rfl, show min 16 64 = 16 from rfl, show min 8 64 = 8 from rfl, hf, hf, hf, hf, hf, hf, u8_wrap, u8_wrap, u8_wrap, u8_wrap, u8_wrap, u8_wrap, u8_wrap, u8_wrap] at h
  refine bytes_inj (k := 4) (fun j hj => ?_) hn hm
  obtain ⟨h1, h2, h3, h4⟩ := h
  match j, hj with
  | 0, _ =>
    have h5 : n % 256 = m % 256 := by exact_mod_cast h4
    simpa using h5
  | 1, _ => exact_mod_cast h3
  | 2, _ => exact_mod_cast h2
  | 3, _ => exact_mod_cast h1
theorem sbytes_inj {s t : ByteArray} (h : sbytes s = sbytes t) : s = t := by
  unfold sbytes at h
  have h1 : s.data.toList = t.data.toList := by
    have hi : Function.Injective (fun b : UInt8 => (b.toNat : Int)) := fun a b hab => by
      have : a.toNat = b.toNat := Int.ofNat.inj hab
      exact UInt8.toNat_inj.1 this
    exact (List.map_inj_right (fun a b hab => hi hab)).1 h
  have h2 : s.data = t.data := Array.toList_inj.1 h1
  cases s; cases t; simp at h2; rw [h2]
theorem be4_len {n : Int} : (be4 n).length = 4 := rfl
theorem txt_inj : ∀ {ss tt : List ByteArray}, ss.length = tt.length → (∀ s ∈ ss, s.size ≤ 100000) → (∀ s ∈ tt, s.size ≤ 100000) → ss.flatMap txt = tt.flatMap txt → ss = tt
  | [], [], _, _, _, _ => rfl
  | [], _ :: _, h, _, _, _ => by simp at h
  | _ :: _, [], h, _, _, _ => by simp at h
  | s :: ss, t :: tt, hl, h1, h2, h => by
    simp only [List.flatMap_cons, txt, List.append_assoc] at h
    obtain ⟨h3, h4⟩ := List.append_inj h (by rw [be4_len, be4_len])
    have hs := h1 s (by simp)
    have ht := h2 t (by simp)
    have h5 : s.size = t.size := be4_inj (by omega) (by omega) h3
    obtain ⟨h6, h7⟩ := List.append_inj h4 (by rw [sbytes_len, sbytes_len, h5])
    have h8 := sbytes_inj h6
    have h9 := txt_inj (ss := ss) (tt := tt) (by simpa using hl) (fun x hx => h1 x (by simp [hx])) (fun x hx => h2 x (by simp [hx])) h7
    rw [h8, h9]
theorem encR_inj {r r' : LReply} (hw : r.wf) (hw' : r'.wf) (ht : Tame r) (ht' : Tame r') (h : encR r = encR r') : r.client = r'.client ∧ r.num = r'.num ∧ r.code = r'.code ∧ r.vals = r'.vals := by
  unfold encR at h
  simp only [List.flatMap_cons, List.flatMap_nil, List.append_nil, List.append_assoc] at h
  obtain ⟨h1, h⟩ := List.append_inj h (by rw [be8_len, be8_len])
  obtain ⟨h2, h⟩ := List.append_inj h (by rw [be8_len, be8_len])
  obtain ⟨h3, h⟩ := List.append_inj h (by rw [be8_len, be8_len])
  obtain ⟨h4, h⟩ := List.append_inj h (by rw [be8_len, be8_len])
  have hn := ht.n
  have hn' := ht'.n
  have hl : r.vals.length = r'.vals.length := by
    have := be8_inj (n := (r.vals.length : Int)) (m := (r'.vals.length : Int)) (by unfold I64; omega) (by unfold I64; omega) h4
    exact_mod_cast this
  exact ⟨be8_inj hw.client hw'.client h1, be8_inj hw.num hw'.num h2, be8_inj hw.code hw'.code h3, txt_inj hl ht.size ht'.size h⟩
/-- The encoding's numbers are bytes. -/
def isB (n : Int) : Prop := 0 ≤ n ∧ n ≤ 255
theorem u8_isB (n : Int) : isB (IntKind.u8.wrap n) := by
  have h3 : IntKind.u8.wrap n = n % 256 := by
    simp [IntKind.wrap, IntKind.bits, IntKind.signed, IntKind.min, IntKind.max]
  unfold isB
  rw [h3]; omega
theorem encR_isB {r : LReply} : ∀ n ∈ encR r, isB n := fun n hn => by
  have h8 : ∀ m, ∀ n ∈ be8 m, isB n := fun m n hn => by
    obtain ⟨j, _, rfl⟩ := List.mem_map.1 hn
    exact u8_isB _
  unfold encR at hn
  rcases List.mem_append.1 hn with hn | hn
  · obtain ⟨m, _, hn⟩ := List.mem_flatMap.1 hn
    exact h8 m n hn
  · obtain ⟨s, _, hn⟩ := List.mem_flatMap.1 hn
    rcases List.mem_append.1 hn with hn | hn
    · simp only [be4, List.mem_cons, List.not_mem_nil, or_false] at hn
      rcases hn with rfl | rfl | rfl | rfl <;> exact u8_isB _
    · obtain ⟨b, _, rfl⟩ := List.mem_map.1 hn
      have := b.toNat_lt
      unfold isB; omega
theorem bstr_list (ns : List Int) : (bstr ns).toList = ns.map (fun n => UInt8.ofNat n.toNat) := by
  have h : ∀ (ns : List Int) (s : ByteArray), (ns.foldl (fun r n => r.push (UInt8.ofNat n.toNat)) s).data.toList = s.data.toList ++ ns.map (fun n => UInt8.ofNat n.toNat) := by
    intro ns
    induction ns with
    | nil => intro s; simp
    | cons n ns ih => intro s; rw [List.foldl_cons, ih]; simp [ByteArray.push]
  rw [ByteArray.toList_eq]
  unfold bstr
  rw [h]
  rfl
theorem bstr_inj {ns ms : List Int} (hn : ∀ n ∈ ns, isB n) (hm : ∀ n ∈ ms, isB n) (h : (bstr ns).toList = (bstr ms).toList) : ns = ms := by
  rw [bstr_list, bstr_list] at h
  have back : ∀ ns : List Int, (∀ n ∈ ns, isB n) → (ns.map (fun n => UInt8.ofNat n.toNat)).map (fun b => (b.toNat : Int)) = ns := by
    intro ns hn
    rw [List.map_map]
    have : ∀ n ∈ ns, ((fun b : UInt8 => (b.toNat : Int)) ∘ fun n : Int => UInt8.ofNat n.toNat) n = n := fun n hx => by
      obtain ⟨h1, h2⟩ := hn n hx
      simp only [Function.comp, UInt8.toNat_ofNat']
      omega
    rw [List.map_congr_left this]
    simp
  rw [← back ns hn, ← back ms hm, h]
theorem same37_eq {r r' : LReply} (hw : r.wf) (hw' : r'.wf) (ht : Tame r) (ht' : Tame r') : ((bstr (encR r)).toList == (bstr (encR r')).toList) = sameR r r' := by
  by_cases h : encR r = encR r'
  · obtain ⟨h1, h2, h3, h4⟩ := encR_inj hw hw' ht ht' h
    rw [h]
    simp [sameR, h1, h2, h3, h4]
  · have hne : ¬ (bstr (encR r)).toList = (bstr (encR r')).toList := fun e => h (bstr_inj encR_isB encR_isB e)
    have hs : sameR r r' = false := by
      cases hs : sameR r r' with
      | false => rfl
      | true =>
        exfalso
        apply h
        simp only [sameR, Bool.and_eq_true, decide_eq_true_eq] at hs
        unfold encR
        rw [hs.1, hs.2.1, hs.2.2.1, hs.2.2.2]
    rw [hs]
    simpa using hne
end Go.Proofs.YtchnnplcpidkiaaDoor
namespace Go.Proofs.YtchnnplcpidkiaaDoor
open Go.RowKit Go.Lib
set_option linter.unusedSimpArgs false
set_option linter.unusedVariables false
set_option maxRecDepth 20000

/-- A state whose texts are few and short. -/
structure TameS (s : LState) : Prop where
  ps : ∀ p ∈ s.ps, p.k.size ≤ 100000 ∧ p.v.size ≤ 100000
  rs : ∀ r ∈ s.rs, Tame r
theorem goodB_op {q : LReq} (h : ¬ goodB q = false) : q.op.key.size ≤ 100000 ∧ q.op.val.size ≤ 100000 := by
  have h1 : goodB q = true := by cases hg : goodB q with | true => rfl | false => exact absurd hg h
  simp only [goodB, Bool.and_eq_true, decide_eq_true_eq] at h1
  omega
theorem itoaB_short {n : Int} (h : I64 n) : (itoaB n).size ≤ 100000 := by
  have h1 := Lib.itoa_length_le n h.1 h.2
  have h2 : (itoaB n).size = (Lib.itoa n).length := by simp [itoaB, ByteArray.size]
  omega
theorem valOf_short {ps : List LPair} {k : ByteArray} (h : ∀ p ∈ ps, p.k.size ≤ 100000 ∧ p.v.size ≤ 100000) : (valOf ps k).size ≤ 100000 := by
  have h0 : (⟨#[]⟩ : ByteArray).size ≤ 100000 := Nat.zero_le _
  unfold valOf
  split
  · split
    · rename_i hp; exact (h _ (List.mem_of_getElem? hp)).2
    · exact h0
  · exact h0
theorem did_short {ps : List LPair} {ep : Int} {ms : List LMember} {o : LOp} (h : ∀ p ∈ ps, p.k.size ≤ 100000 ∧ p.v.size ≤ 100000) (ho : o.key.size ≤ 100000 ∧ o.val.size ≤ 100000) : ∀ p ∈ (did ps ep ms o).ps, p.k.size ≤ 100000 ∧ p.v.size ≤ 100000 := by
  have h1 : ∀ p ∈ withP ⟨o.key, o.val⟩ ps, p.k.size ≤ 100000 ∧ p.v.size ≤ 100000 := fun p hp => by
    rcases goW_mem hp with e | hp
    · rw [e]; exact ho
    · exact h p hp
  have h2 : ∀ p ∈ putPs ps o.key o.val, p.k.size ≤ 100000 ∧ p.v.size ≤ 100000 := by
    unfold putPs
    split
    · exact h
    · exact h1
  unfold did
  repeat' split
  all_goals first | exact h | exact h1 | exact h2 | exact fun p hp => h p (List.mem_filter.1 hp).1
theorem did_vshort {ps : List LPair} {ep : Int} {ms : List LMember} {o : LOp} (h : ∀ p ∈ ps, p.k.size ≤ 100000 ∧ p.v.size ≤ 100000) (he : I64 ep) (hm : ∀ m ∈ ms, m.wf) : ∀ v ∈ (did ps ep ms o).vals, v.size ≤ 100000 := by
  unfold did
  repeat' split
  all_goals intro v hv
  all_goals try (cases hv; done)
  all_goals try (rw [List.mem_singleton.1 hv]; exact valOf_short h)
  · obtain ⟨p, hp, rfl⟩ := List.mem_map.1 hv
    exact (h p (List.mem_filter.1 hp).1).1
  · rcases List.mem_cons.1 hv with e | hv
    · rw [e]; exact itoaB_short he
    · obtain ⟨m, hm', rfl⟩ := List.mem_map.1 hv
      exact itoaB_short (hm m hm').id
theorem applyD_tame {k : Nat} {s : LState} {q : LReq} (hf : Fit k s) (hk : k ≤ 100) (h : TameS s) : TameS (applyD s q).1 ∧ Tame (applyD s q).2 := by
  have hz : ∀ c : Int, Tame ⟨q.client, q.num, c, []⟩ := fun c => ⟨Nat.zero_le _, fun s hs => by cases hs⟩
  have hd : ¬ goodB q = false → TameS (doneD s q).1 ∧ Tame (doneD s q).2 := fun hg => by
    have hl := did_vl (ep := s.ep) (o := q.op) hf.size.ps hf.size.ms
    have ht : Tame (doneD s q).2 := ⟨by show (did s.ps s.ep s.ms q.op).vals.length ≤ 1000; omega, did_vshort h.ps hf.wf.ep hf.wf.ms⟩
    refine ⟨⟨did_short h.ps (goodB_op hg), fun r hr => ?_⟩, ht⟩
    rcases goW_mem hr with e | hr
    · rw [e]; exact ht
    · exact h.rs r hr
  unfold applyD
  split
  · exact ⟨h, hz 1⟩
  · rename_i hg
    repeat' split
    all_goals first | exact hd hg | exact ⟨h, hz _⟩ | (rename_i hx _; exact ⟨h, h.rs _ (List.mem_of_getElem? hx)⟩)
/-- What a state is like that may be searched. -/
structure Fit2 (k : Nat) (s : LState) : Prop where
  fit : Fit k s
  tame : TameS s
theorem Fit2.apply {k : Nat} {s : LState} {q : LReq} (h : Fit2 k s) (hq : q.wf) (hk : k ≤ 100) : Fit2 (k + 1) (applyD s q).1 := ⟨h.fit.apply hq, (applyD_tame h.fit hk h.tame).1⟩
theorem Fit2.mono {k m : Nat} {s : LState} (h : Fit2 k s) (hk : k ≤ m) : Fit2 m s := ⟨h.fit.mono hk, h.tame⟩
/-- Is there an order in which all that were done answer as they did? -/
def searchD : Nat → LState → List LEvent → Bool
  | n, s, es => if es.any (fun e => decide (e.done ≥ 0)) = false then true else
    match n with
    | 0 => false
    | n + 1 => (List.range es.length).any fun i => match es[i]? with
      | some e => !es.any (fun o => aheadB o e) && ((decide (e.done < 0) || sameR (applyD s e.req).2 e.rep) && searchD n (applyD s e.req).1 (es.take i ++ es.drop (i + 1)))
      | none => false
/-- An event whose reply's texts are few and short. -/
structure LEvent.ok (e : LEvent) : Prop where
  wf : e.wf
  tame : Tame e.rep
/-- Events with the slices of their replies' texts. -/
def EvL (F : Nat → Prop) (w : World) (hs : List (LEvent × Option Addr × Nat)) : Prop := ∀ h ∈ hs, h.1.ok ∧ RStrs F w h.2.1 h.2.2 h.1.rep.vals
theorem EvL.step {F F' : Nat → Prop} {w w' : World} {hs : List (LEvent × Option Addr × Nat)} (h : EvL F w hs) (hst : Step F w F' w') : EvL F' w' hs := fun x hx => ⟨(h x hx).1, (h x hx).2.step hst⟩
theorem ev_req {h : LEvent × Option Addr × Nat} (hw : h.1.wf) : ((ecells h).drop (0 + 0)).take 42 = h.1.req.cells := by
  have := LReq.len_cells hw.req
  unfold ecells
  rw [List.append_assoc]
  show (h.1.req.cells ++ _).take 42 = _
  rw [List.take_append_of_le_length (by omega), List.take_of_length_le (by omega)]
theorem ev_rep {h : LEvent × Option Addr × Nat} (hw : h.1.wf) : ((ecells h).drop (0 + 42)).take 4 = rcells (h.1.rep, h.2) := by
  have := LReq.len_cells hw.req
  unfold ecells
  rw [List.append_assoc, Nat.zero_add, List.drop_append_of_le_length (by omega), List.drop_of_length_le (by omega)]
  rfl
theorem take_drop_mem {α : Type} {l : List α} {i : Nat} {x : α} (h : x ∈ l.take i ++ l.drop (i + 1)) : x ∈ l := by
  rcases List.mem_append.1 h with h | h
  · exact List.mem_of_mem_take h
  · exact List.mem_of_mem_drop h
end Go.Proofs.YtchnnplcpidkiaaDoor
namespace Go.Proofs.YtchnnplcpidkiaaDoor
open Go.RowKit Go.Lib
set_option linter.unusedSimpArgs false
set_option linter.unusedVariables false
set_option maxRecDepth 20000
set_option maxHeartbeats 16000000

section
variable {X : Cx} {ops : Array Oper} {l : List Oper} {E : Env} {S : Sto} {F : Nat → Prop} {w1 : World} {Q : Exit → Env → World → Prop}
theorem JL.weaken {S' : Sto} {F' : Nat → Prop} {w1' : World} (hw : ∀ w, Cur X S F w1 w → Cur X S' F' w1' w) (h : JL X ops l E S' F' w1' Q) : JL X ops l E S F w1 Q := fun w a hc ha => h w a (hw w hc) ha
/-- A row that nobody else writes becomes an entry. -/
theorem JL.adoptH {G : Nat → Prop} {T sz n cap : Nat} {A : Option Addr} {cs : List Value} (h : OwnF G w1 T sz A n cap cs) (hG : ∀ b, G b → F b ∧ X.w0.heap.size ≤ b)
    (k : ∀ ob cur, A = ob.map mkA → Row ob n cap sz cur → cur.take (n * sz) = cs → (∀ b, ob = some b → G b ∧ w1.heap[b]? = some (.cells cur.toArray T (0, 0))) → JL X ops l E (S ++ [(ob, T, cur)]) (fun k => F k ∧ ob ≠ some k) w1 Q) : JL X ops l E S F w1 Q := by
  obtain ⟨ob, cur, hA, hrow, htk, hb⟩ := h
  refine JL.weaken (fun w hc => ?_) (k ob cur hA hrow htk hb)
  have h1 := (hc.addNone T).put S.length (nth_last S _) ob T cur fun b hbb => by
    have h2 := hG b (hb b hbb).1
    have hlt : b < w1.heap.size := (Array.getElem?_eq_some_iff.1 (hb b hbb).2).1
    obtain ⟨h3, h4⟩ := hc.step b hlt h2.1
    refine ⟨h3.trans (hb b hbb).2, .inl h2.2, ?_⟩
    intro hm
    obtain ⟨e, he, h5⟩ := blks_mem.1 hm
    rcases List.mem_append.1 he with h6 | h6
    · exact h4.2 (blks_mem.2 ⟨e, h6, h5⟩)
    · rw [List.mem_singleton.1 h6] at h5; cases h5
  rw [sset_last] at h1
  exact h1
end
theorem applyD_repwf {s : LState} {q : LReq} (h : s.wf) (hq : q.wf) : (applyD s q).2.wf := applyD_rep h hq
/-- The try at event number i. -/
def tryD (n : Nat) (s : LState) (es : List LEvent) (i : Nat) : Bool := match es[i]? with
  | some e => !es.any (fun o => aheadB o e) && ((decide (e.done < 0) || sameR (applyD s e.req).2 e.rep) && searchD n (applyD s e.req).1 (es.take i ++ es.drop (i + 1)))
  | none => false
theorem searchD_step {n : Nat} {s : LState} {es : List LEvent} (h : es.any (fun e => decide (e.done ≥ 0)) = true) : searchD (n + 1) s es = (List.range es.length).any (tryD n s es) := by
  rw [searchD, if_neg (by rw [h]; simp)]
  rfl
theorem tryD_at {n : Nat} {s : LState} {es : List LEvent} {i : Nat} {e : LEvent} (h : es[i]? = some e) : tryD n s es i = (!es.any (fun o => aheadB o e) && ((decide (e.done < 0) || sameR (applyD s e.req).2 e.rep) && searchD n (applyD s e.req).1 (es.take i ++ es.drop (i + 1)))) := by
  unfold tryD; rw [h]
theorem ent_at {X : Cx} {S : Sto} {F F2 : Nat → Prop} {w1 wc w2 : World} {b T i : Nat} {cs : List Value} (hc : Cur X S F w1 wc) (hi : nth S i = some (some b, T, cs)) (hst : Step (fun _ => True) wc F2 w2) : At F2 w2 b 0 cs := by
  rw [nth_eq] at hi
  have h1 := (hc.own _ (List.mem_of_getElem? hi) b rfl).2
  obtain ⟨h2, h3⟩ := hst b (Array.getElem?_eq_some_iff.1 h1).1 trivial
  refine ⟨h3, fun j u hj => ?_⟩
  rw [Nat.zero_add]
  simp [World.cell?, h2.trans h1, hj]
theorem any_map {α β : Type} {f : α → β} {p : β → Bool} {l : List α} : (l.map f).any p = l.any (fun x => p (f x)) := by
  induction l with
  | nil => rfl
  | cons x l ih => simp [ih]
theorem EvL.sub {F : Nat → Prop} {w : World} {hs hs' : List (LEvent × Option Addr × Nat)} (h : EvL F w hs) (hsub : ∀ x ∈ hs', x ∈ hs) : EvL F w hs' := fun x hx => h x (hsub x hx)
theorem same37_sameR (F : Nat → Prop) (cs cs' : List Value) (r r' : LReply) (w : World) (h : RReply F w cs r) (h' : RReply F w cs' r') (hw : r.wf) (hw' : r'.wf) (hr : Tame r) (hr' : Tame r') :
    CallsTo 37 #[.agg cs.toArray, .agg cs'.toArray] w (fun v _ => v = .bool (sameR r r')) := by
  rw [← same37_eq hw hw' hr hr']
  exact same37_any F cs cs' r r' w h h' hr hr'
theorem search_any (n : Nat) : ∀ (F : Nat → Prop) (k0 : Nat) (cs : List Value) (s : LState) (A : Option Addr) (cap : Nat) (hs : List (LEvent × Option Addr × Nat)) (w : World), RState F w cs s → Fit2 k0 s → k0 + n ≤ 100 → SlF F w A hs.length cap 48 (hs.flatMap ecells) → EvL F w hs → hs.length ≤ n → Tab F w →
    CallsTo 40 #[.agg cs.toArray, .slice A hs.length cap] w (fun v _ => v = .bool (searchD n s (hs.map (·.1)))) := by
  induction n with
  | zero =>
    intro F k0 cs s A cap hs w h hfit hk0 hrow hev hn htab
    have hs0 : hs = [] := List.eq_nil_of_length_eq_zero (by omega)
    subst hs0
    obtain ⟨Ap, cp, Ar, cr, Am, cm, rfl, hp, hr, hm⟩ := h.form
    refine CallsTo.enter 51 (fun _ => True) F Tryd.func40 rfl rfl rfl rfl (by intros; first | trivial | assumption) ?_
    with_reducible refine JC.seq ?_
    with_reducible refine JC.region ?_
    refine JL.op (JO.box rfl rfl ?_); intro b2
    refine JL.op (JO.val (y_assign) rfl ?_)
    with_reducible refine JL.nil ?_
    with_reducible refine JQ.seq (JC.seq (JC.seq ?_))
    with_reducible refine JC.region ?_
    refine JL.op (JO.val (y_move) rfl ?_)
    refine JL.op (JO.callv (fun wc hc => contains_any _ A 0 cap [] 62 [] (fun h => decide (h.1.done ≥ 0)) wc (SlF.step hrow hc.step (by omega)) rfl (fun x hx => by cases hx) (by omega) (fun F' w' hst x hx => by cases hx)) rfl rfl rfl ?_)
    refine JL.op (JO.val (y_not rfl) rfl ?_)
    with_reducible refine JL.nil ?_
    with_reducible refine JQ.seq ?_
    refine JC.cond_true rfl ?_
    with_reducible refine JC.seq ?_
    with_reducible refine JC.region ?_
    refine JL.op (JO.val (y_assign) rfl ?_)
    with_reducible refine JL.nil ?_
    with_reducible refine JQ.seq (JC.ret (JQ.seq_ret ?_))
    exact ret_one rfl ResV.tmp (fun w _ => congrArg Value.bool (show true = searchD 0 s [] from by simp [searchD]))
  | succ n ih =>
    intro F k0 cs s A cap hs w h hfit hk0 hrow hev hn htab
    have hRS := h
    have hsm := hfit.fit.size.small (by omega)
    obtain ⟨Ap, cp, Ar, cr, Am, cm, rfl, hp, hr, hm⟩ := h.form
    refine CallsTo.enter 51 (fun _ => True) F Tryd.func40 rfl rfl rfl rfl (by intros; first | trivial | assumption) ?_
    with_reducible refine JC.seq ?_
    with_reducible refine JC.region ?_
    refine JL.op (JO.box rfl rfl ?_); intro b2
    refine JL.op (JO.val (y_assign) rfl ?_)
    with_reducible refine JL.nil ?_
    with_reducible refine JQ.seq (JC.seq (JC.seq ?_))
    with_reducible refine JC.region ?_
    refine JL.op (JO.val (y_move) rfl ?_)
    refine JL.op (JO.callv (fun wc hc => contains_any _ A hs.length cap hs 62 [] (fun h => decide (h.1.done ≥ 0)) wc (SlF.step hrow hc.step (by omega)) rfl (fun x hx => (hev x hx).1.wf) (by omega) (fun F' w' hst x hx => search1_any x (hev x hx).1.wf w')) rfl rfl rfl ?_)
    refine JL.op (JO.val (y_not rfl) rfl ?_)
    with_reducible refine JL.nil ?_
    with_reducible refine JQ.seq ?_
    refine JC.cond rfl (fun hg => ?_) (fun hg => ?_)
    · have hg' : (hs.map (·.1)).any (fun e => decide (e.done ≥ 0)) = false := by rw [any_map]; simpa using hg
      with_reducible refine JC.seq ?_
      with_reducible refine JC.region ?_
      refine JL.op (JO.val (y_assign) rfl ?_)
      with_reducible refine JL.nil ?_
      with_reducible refine JQ.seq (JC.ret (JQ.seq_ret ?_))
      exact ret_one rfl ResV.tmp (fun w _ => congrArg Value.bool (show true = searchD (n + 1) s (hs.map (·.1)) from by rw [searchD, if_pos hg']))
    have hsD := searchD_step (n := n) (s := s) (es := hs.map (·.1)) (by rw [any_map]; simpa using hg)
    rw [List.length_map] at hsD
    with_reducible refine JC.skip (JQ.seq (JC.seq (JC.seq ?_)))
    with_reducible refine JC.region ?_
    refine JL.op (JO.val (y_move) rfl ?_)
    refine JL.op (JO.val (y_len rfl rfl) rfl ?_)
    refine JL.op (JO.val (y_move) rfl ?_)
    with_reducible refine JL.nil ?_
    with_reducible refine JQ.seq (JC.block ?_)
    refine JC.loop (fun m E S F' w1' => ∃ k, m = hs.length - k ∧ k ≤ hs.length ∧ (List.range k).any (tryD n s (hs.map (·.1))) = false ∧ S = [(some b2, 28, [.slice Ap s.ps.length cp, .slice Ar s.rs.length cr, .int .i64 s.ep, .slice Am s.ms.length cm])] ∧ Step F w F' w1' ∧ w.heap.size ≤ w1'.heap.size ∧
      Has E [(1, .slice A hs.length cap), (2, .pointer (some ⟨b2, 0, none⟩)), (13, .slice A hs.length cap), (14, .int .i64 (hs.length : Nat)), (15, .int .i64 (k : Nat))])
      _ ⟨0, rfl, Nat.zero_le _, rfl, rfl, fun k hk hF => ⟨rfl, hF⟩, Nat.le_refl _, ⟨rfl, rfl, rfl, rfl, rfl, trivial⟩⟩ ?_
    rintro m E S F' w1' ⟨k, rfl, hk, hall, rfl, hst, hsw, hE⟩
    refine JC.env hE (fun E => ?_)
    with_reducible refine JC.seq ?_
    with_reducible refine JC.region ?_
    refine JL.op (JO.val (y_lss rfl rfl) rfl ?_)
    with_reducible refine JL.nil ?_
    with_reducible refine JQ.seq (JC.seq ?_)
    by_cases hlt : k < hs.length
    · have hd : decide ((k : Int) < (hs.length : Int)) = true := by simpa using hlt
      refine JC.cond_true (congrArg Value.bool hd) ?_
      obtain ⟨y, hy⟩ : ∃ y, hs[k]? = some y := ⟨hs[k], by simp [hlt]⟩
      have hym := List.mem_of_getElem? hy
      have hyok := (hev y hym).1
      have hyl := ecells_len hyok.wf
      have hy1 := ecells_all1 hyok.wf
      have hyq := hyok.wf.req
      have hql := LReq.len_cells hyq
      have hq1 := LReq.all1 hyq
      have hye : (hs.map (·.1))[k]? = some y.1 := by rw [List.getElem?_map, hy]; rfl
      have htD := tryD_at (n := n) (s := s) hye
      rw [any_map] at htD
      obtain ⟨hev1, hev2⟩ := ev_at hyok.wf
      obtain ⟨b, o, hA, hat⟩ := SlF.elem (SlF.step hrow hst (by omega)) (fun y hy => ecells_len (hev y hy).1.wf) rfl hy
      have hnext : ∀ r : Bool, tryD n s (hs.map (·.1)) k = r → r = false → (List.range (k + 1)).any (tryD n s (hs.map (·.1))) = false := fun r h1 h2 => by
        rw [List.range_succ, List.any_append, hall]; simp [h1, h2]
      have hfound : tryD n s (hs.map (·.1)) k = true → searchD (n + 1) s (hs.map (·.1)) = true := fun h1 => by
        rw [hsD]; exact List.any_eq_true.2 ⟨k, List.mem_range.2 hlt, h1⟩
      with_reducible refine JC.skip (JQ.seq (JC.seq (JC.block (JC.seq ?_))))
      with_reducible refine JC.region ?_
      refine JL.op (JO.val (y_move) rfl ?_)
      refine JL.op (JO.val (y_idx (b := b) (o := o) rfl rfl rfl rfl hA rfl hlt) rfl ?_)
      refine JL.op (JO.val (y_lddA rfl rfl hat (by first | rfl | assumption)) rfl ?_)
      refine JL.op (JO.alloc rfl rfl ?_); intro b6
      refine JL.op (JO.val (y_assign) rfl ?_)
      refine JL.op (JO.storeA 1 rfl rfl rfl rfl (by first | rfl | assumption) (by first | rfl | assumption) (by first | rfl | assumption) ?_)
      with_reducible refine JL.nil ?_
      with_reducible refine JQ.seq (JC.seq (JC.seq ?_))
      with_reducible refine JC.region ?_
      refine JL.op (JO.val (y_move) rfl ?_)
      refine JL.op (JO.val (y_makeFunc) rfl ?_)
      refine JL.op (JO.callv (fun wc hc => contains_any (fun _ => True) A hs.length cap hs 63 [.pointer (some ⟨b6, 0, none⟩)] (fun h => aheadB h.1 y.1) wc (SlF.step (SlF.step (SlF.step hrow hst (by omega)) hc.step (by omega)) (Step.weak fun _ _ => trivial) (by omega)) rfl (fun x hx => (hev x hx).1.wf) (by omega) (fun F2 w2 hst2 x hx => search2_any F2 x y b6 (hev x hx).1.wf hyok.wf w2 (ent_at hc (i := 1) rfl hst2))) rfl rfl rfl ?_)
      with_reducible refine JL.nil ?_
      with_reducible refine JQ.seq ?_
      refine JC.cond rfl (fun hg2 => ?_) (fun hg2 => ?_)
      · with_reducible refine JC.exit (JQ.seq_exit (JQ.blk_here (JQ.seq ?_)))
        with_reducible refine JC.region ?_
        refine JL.op (JO.val (y_add rfl rfl (natAdd hk (by omega))) rfl ?_)
        refine JL.op (JO.val (y_move) rfl ?_)
        with_reducible refine JL.nil ?_
        refine JQ.takeN 1 ?_
        exact JQ.loop (hs.length - (k + 1)) ⟨k + 1, rfl, hlt, hnext _ htD (by rw [hg2]; rfl), rfl, hst, hsw, ⟨rfl, rfl, rfl, rfl, rfl, trivial⟩⟩ (by omega)
      rw [hg2] at htD
      simp only [Bool.not_false, Bool.true_and] at htD
      with_reducible refine JC.skip (JQ.seq (JC.seq ?_))
      with_reducible refine JC.region ?_
      refine JL.op (JO.val (y_ldA 0 rfl rfl rfl rfl) rfl ?_)
      refine JL.op (JO.val (y_fieldAddr rfl rfl rfl) rfl ?_)
      refine JL.op (JO.val (y_ldP 1 rfl rfl rfl (ev_req hyok.wf) (by rw [hyl]; rfl)) rfl ?_)
      refine JL.op (JO.call _ (fun wc hc => apply_any _ _ s y.1.req wc ((hRS.step hst).step hc.step) hfit.fit.wf hsm hfit.fit.ord hyq ((htab.step hst).step hc.step)) rfl rfl rfl ?_)
      rintro wc2 v wn2 hst2 hsz2 hfr2 hbl2 hst02 ⟨cs2, A2, cap2, rfl, hos2, hov2⟩
      obtain ⟨hl5, hl6⟩ := hos2.four
      have hra2 := (hos2.weak (fun b hb => hfr2 b hb.1)).reads
      have hrr2 := (hov2.weak (fun b hb => hfr2 b hb)).slF
      have hsw2 : w.heap.size ≤ wn2.heap.size := Nat.le_trans hsw (Nat.le_trans hsz2 hbl2.size)
      replace hst2 := hst.trans hst2 hsw
      clear hos2 hov2 hfr2 hbl2 hst02
      refine JL.op (JO.val (y_move) rfl ?_)
      refine JL.op (JO.val (y_extract rfl rfl) rfl ?_)
      refine JL.op (JO.val (y_extract rfl rfl) rfl ?_)
      refine JL.op (JO.alloc rfl rfl ?_); intro b7
      refine JL.op (JO.alloc rfl rfl ?_); intro b8
      refine JL.op (JO.storeA 2 rfl rfl rfl rfl (by first | rfl | assumption) (by first | rfl | assumption) (by first | rfl | assumption) ?_)
      refine JL.op (JO.storeA 3 rfl rfl rfl rfl (by first | rfl | assumption) (by first | rfl | assumption) (by first | rfl | assumption) ?_)
      with_reducible refine JL.nil ?_
      with_reducible refine JQ.seq (JC.seq ?_)
      with_reducible refine JC.region ?_
      refine JL.op (JO.val (y_move) rfl ?_)
      refine JL.op (JO.call _ (fun wc hc => clone_evs _ A hs.length cap _ wc (SlF.step (SlF.step hrow hst2 (by omega)) hc.step (by omega)) (flatMap_one fun x hx => ecells_one (hev x hx).1.wf) (by omega)) rfl rfl rfl ?_)
      rintro wc3 v wn3 hst3 hsz3 hfr3 hbl3 hst03 hvv
      obtain ⟨Ac, capc, rfl, hoc⟩ := hvv.own
      have hsw3 : w.heap.size ≤ wn3.heap.size := Nat.le_trans hsw2 (Nat.le_trans hsz3 hbl3.size)
      replace hra2 := hra2.step hst3.lt
      replace hrr2 := SlF.step hrr2 hst3.lt (by omega)
      replace hst3 := hst2.trans hst3 hsw2
      have hcs : ∀ b, wc3.heap.size ≤ b → w.heap.size ≤ b := fun b hb => Nat.le_trans hsw2 (Nat.le_trans hsz3 hb)
      refine JL.adoptH (hoc.weak (fun b hb => (⟨hfr3 b hb, hb⟩ : _ ∧ wc3.heap.size ≤ b))) (fun b hb => ⟨hb.1, hcs b hb.2⟩) ?_
      rintro obc curc rfl hrowc htkc hbc
      obtain ⟨bc, rfl⟩ := row_some hrowc (by omega)
      have hbcn : ∀ b, some bc = some b → wc3.heap.size ≤ b := fun b hb => (hbc b hb).1.2
      replace hra2 := hra2.step (Step.weak fun k hk => (⟨hk.1, fun e => absurd (hbcn k e) (by omega)⟩ : _ ∧ some bc ≠ some k))
      replace hrr2 := SlF.step hrr2 (Step.weak fun k hk => (⟨hk.1, fun e => absurd (hbcn k e) (by omega)⟩ : _ ∧ some bc ≠ some k)) (by omega)
      replace hst3 := hst3.adopt (fun b hb => hcs b (hbcn b hb))
      clear hbc hbcn hcs hfr3 hbl3 hst03 hvv hoc hst2
      refine JL.op (JO.val (y_move) rfl ?_)
      refine JL.op (JO.val (y_move) rfl ?_)
      refine JL.op (JO.val (y_add rfl rfl (natAdd hk (by omega))) rfl ?_)
      refine JL.op (JO.del_65 4 ecells (ys := hs) (p := k) rfl rfl rfl rfl rfl hrowc htkc (fun z hz => ecells_len (hev z hz).1.wf) (fun z hz => ecells_one (hev z hz).1.wf) hlt (by omega) ?_)
      rintro curd F4 w4 hrow4 htk4 hst4 hsz4
      replace hra2 := hra2.step hst4
      replace hrr2 := SlF.step hrr2 hst4 (by omega)
      replace hst4 := hst3.trans hst4 hsw3
      have hsw4 : w.heap.size ≤ w4.heap.size := Nat.le_trans hsw3 hsz4
      refine JL.op (JO.val (y_assign) rfl ?_)
      with_reducible refine JL.nil ?_
      have hrest : (hs.take k ++ hs.drop (k + 1)).map (·.1) = (hs.map (·.1)).take k ++ (hs.map (·.1)).drop (k + 1) := by rw [List.map_append, List.map_take, List.map_drop]
      have hrl : (hs.take k ++ hs.drop (k + 1)).length ≤ n := by rw [List.length_append, List.length_take, List.length_drop]; omega
      have htame := applyD_tame (q := y.1.req) hfit.fit (by omega) hfit.tame
      have hrep : RReply F4 w4 (rcells ((applyD s y.1.req).2, A2, cap2)) (applyD s y.1.req).2 := ⟨A2, cap2, rfl, hrr2⟩
      have hrep2 : RReply F4 w4 (rcells (y.1.rep, y.2)) y.1.rep := ⟨y.2.1, y.2.2, rfl, (hev y hym).2.step hst4⟩
      with_reducible refine JQ.seq (JC.seq ?_)
      refine JC.cutS [(1, .slice A hs.length cap), (2, .pointer (some ⟨b2, 0, none⟩)), (13, .slice A hs.length cap), (14, .int .i64 (hs.length : Nat)), (15, .int .i64 (k : Nat)), (49, .bool ((decide (y.1.done < 0) || sameR (applyD s y.1.req).2 y.1.rep) && searchD n (applyD s y.1.req).1 ((hs.map (·.1)).take k ++ (hs.map (·.1)).drop (k + 1))))] ?_ (fun E => ?_)
      · with_reducible refine JC.region ?_
        refine JL.op (JO.val (y_fieldAddr rfl rfl rfl) rfl ?_)
        refine JL.op (JO.val (y_ld 1 rfl rfl rfl hev2) rfl ?_)
        refine JL.op (JO.val (y_lss rfl rfl) rfl ?_)
        refine JL.op (JO.val (y_move) rfl ?_)
        refine JL.split (d := 39) rfl (fun hg3 => ?_) (fun hg3 => ?_)
        · refine JL.op_skip rfl rfl (congrArg Value.bool hg3) rfl ?_
          refine JL.op_skip rfl rfl (congrArg Value.bool hg3) rfl ?_
          refine JL.op_skip rfl rfl (congrArg Value.bool hg3) rfl ?_
          refine JL.op_skip rfl rfl (congrArg Value.bool hg3) rfl ?_
          refine JL.op (JO.val (y_pick (congrArg Value.bool hg3)) rfl ?_)
          refine JL.op (JO.val (y_move) rfl ?_)
          refine JL.op_do rfl rfl rfl (JO.val (y_ldA 2 rfl rfl rfl hl5) rfl ?_)
          refine JL.op_do rfl rfl rfl (JO.val (y_move) rfl ?_)
          refine JL.op_do rfl rfl rfl (JO.callv (fun wc hc => hrest ▸ ih (fun _ => True) (k0 + 1) cs2 (applyD s y.1.req).1 (some ⟨bc, 0, none⟩) capc (hs.take k ++ hs.drop (k + 1)) wc ((hra2.step hc.step).step (Step.weak fun _ _ => trivial)) (hfit.apply hyq (by omega)) (by omega) (hrow4.slF htk4 (fun b hb => ⟨trivial, (hc.own (some bc, 90, curd) (List.mem_of_getElem? (i := 4) rfl) b hb).2⟩)) (((hev.sub (fun x hx => take_drop_mem hx)).step hst4).step (hc.step.mono (fun _ h => h) (fun _ _ => trivial))) hrl (((htab.step hst4).step hc.step).step (Step.weak fun _ _ => trivial))) rfl rfl rfl ?_)
          refine JL.op (JO.val (y_pick rfl) rfl ?_)
          with_reducible refine JL.nil ?_
          exact JQ.has ⟨rfl, rfl, rfl, rfl, rfl, congrArg Value.bool (by rw [hg3]; simp), trivial⟩ (fun _ h => h)
        · refine JL.op_do rfl rfl (congrArg Value.bool hg3) (JO.val (y_ldA 3 rfl rfl rfl rfl) rfl ?_)
          refine JL.op_do rfl rfl (congrArg Value.bool hg3) (JO.val (y_fieldAddr rfl rfl rfl) rfl ?_)
          refine JL.op_do rfl rfl (congrArg Value.bool hg3) (JO.val (y_ldP 1 rfl rfl rfl (ev_rep hyok.wf) (by rw [hyl]; rfl)) rfl ?_)
          refine JL.op_do rfl rfl (congrArg Value.bool hg3) (JO.callv (fun wc hc => same37_sameR _ _ _ _ _ wc (hrep.step hc.step) (hrep2.step hc.step) (applyD_rep hfit.fit.wf hyq) hyok.wf.rep htame.2 hyok.tame) rfl rfl rfl ?_)
          refine JL.op (JO.val (y_pick (congrArg Value.bool hg3)) rfl ?_)
          refine JL.op (JO.val (y_move) rfl ?_)
          refine JL.split (d := 45) rfl (fun hg9 => ?_) (fun hg9 => ?_)
          · refine JL.op_do rfl rfl (congrArg Value.bool hg9) (JO.val (y_ldA 2 rfl rfl rfl hl5) rfl ?_)
            refine JL.op_do rfl rfl (congrArg Value.bool hg9) (JO.val (y_move) rfl ?_)
            refine JL.op_do rfl rfl (congrArg Value.bool hg9) (JO.callv (fun wc hc => hrest ▸ ih (fun _ => True) (k0 + 1) cs2 (applyD s y.1.req).1 (some ⟨bc, 0, none⟩) capc (hs.take k ++ hs.drop (k + 1)) wc ((hra2.step hc.step).step (Step.weak fun _ _ => trivial)) (hfit.apply hyq (by omega)) (by omega) (hrow4.slF htk4 (fun b hb => ⟨trivial, (hc.own (some bc, 90, curd) (List.mem_of_getElem? (i := 4) rfl) b hb).2⟩)) (((hev.sub (fun x hx => take_drop_mem hx)).step hst4).step (hc.step.mono (fun _ h => h) (fun _ _ => trivial))) hrl (((htab.step hst4).step hc.step).step (Step.weak fun _ _ => trivial))) rfl rfl rfl ?_)
            refine JL.op (JO.val (y_pick (congrArg Value.bool hg9)) rfl ?_)
            with_reducible refine JL.nil ?_
            exact JQ.has ⟨rfl, rfl, rfl, rfl, rfl, congrArg Value.bool (by rw [hg3, hg9]; simp), trivial⟩ (fun _ h => h)
          · refine JL.op_skip rfl rfl (congrArg Value.bool hg9) rfl ?_
            refine JL.op_skip rfl rfl (congrArg Value.bool hg9) rfl ?_
            refine JL.op_skip rfl rfl (congrArg Value.bool hg9) rfl ?_
            refine JL.op (JO.val (y_pick (congrArg Value.bool hg9)) rfl ?_)
            with_reducible refine JL.nil ?_
            exact JQ.has ⟨rfl, rfl, rfl, rfl, rfl, congrArg Value.bool (by rw [hg3, hg9]; simp), trivial⟩ (fun _ h => h)
      with_reducible refine JQ.seq ?_
      refine JC.cond rfl (fun hg3 => ?_) (fun hg3 => ?_)
      · with_reducible refine JC.seq ?_
        with_reducible refine JC.region ?_
        refine JL.op (JO.val (y_assign) rfl ?_)
        with_reducible refine JL.nil ?_
        with_reducible refine JQ.seq (JC.ret (JQ.blk_ret (JQ.seq_ret (JQ.loop_ret (JQ.blk_ret (JQ.seq_ret ?_))))))
        exact ret_one rfl ResV.tmp (fun w _ => congrArg Value.bool (show true = searchD (n + 1) s (hs.map (·.1)) from (hfound (by rw [htD, hg3])).symm))
      · with_reducible refine JC.skip (JQ.blk (JQ.seq ?_))
        with_reducible refine JC.region ?_
        refine JL.op (JO.val (y_add rfl rfl (natAdd hk (by omega))) rfl ?_)
        refine JL.op (JO.val (y_move) rfl ?_)
        with_reducible refine JL.nil ?_
        refine JQ.takeN 1 ?_
        exact JQ.loop (hs.length - (k + 1)) ⟨k + 1, rfl, hlt, hnext _ htD hg3, rfl, hst4, hsw4, ⟨rfl, rfl, rfl, rfl, rfl, trivial⟩⟩ (by omega)
    · have hd : decide ((k : Int) < (hs.length : Int)) = false := by simpa using hlt
      refine JC.cond_false (congrArg Value.bool hd) ?_
      obtain rfl : k = hs.length := by omega
      with_reducible refine JC.exit (JQ.seq_exit (JQ.loop_exit (JQ.blk_here (JQ.seq (JC.seq ?_)))))
      with_reducible refine JC.region ?_
      refine JL.op (JO.val (y_assign) rfl ?_)
      with_reducible refine JL.nil ?_
      with_reducible refine JQ.seq (JC.ret ?_)
      exact ret_one rfl ResV.tmp (fun w _ => congrArg Value.bool (show false = searchD (n + 1) s (hs.map (·.1)) from by rw [hsD, hall]))
end Go.Proofs.YtchnnplcpidkiaaDoor
namespace Go.Proofs.YtchnnplcpidkiaaDoor
open Go.RowKit Go.Lib
set_option linter.unusedSimpArgs false
set_option linter.unusedVariables false
set_option maxRecDepth 20000
set_option maxHeartbeats 16000000

theorem linear18_any (F : Nat → Prop) (cs : List Value) (s : LState) (A : Option Addr) (cap : Nat) (hs : List (LEvent × Option Addr × Nat)) (w : World) (h : RState F w cs s) (hfit : Fit2 0 s) (hrow : SlF F w A hs.length cap 48 (hs.flatMap ecells)) (hev : EvL F w hs) (htab : Tab F w) :
    CallsTo 18 #[.agg cs.toArray, .slice A hs.length cap] w (fun v _ => v = .tuple #[.bool (if hs.length > 8 then false else searchD hs.length s (hs.map (·.1))), .int .i64 (if hs.length > 8 then 11 else 0)]) := by
  have hRS := h
  obtain ⟨Ap, cp, Ar, cr, Am, cm, rfl, hp, hr, hm⟩ := h.form
  refine CallsTo.enter 12 (fun _ => True) F Tryd.func18 rfl rfl rfl rfl (by intros; first | trivial | assumption) ?_
  with_reducible refine JC.seq ?_
  with_reducible refine JC.region ?_
  refine JL.op (JO.box rfl rfl ?_); intro b2
  refine JL.op (JO.val (y_assign) rfl ?_)
  refine JL.op (JO.val (y_assign) rfl ?_)
  with_reducible refine JL.nil ?_
  with_reducible refine JQ.seq (JC.seq (JC.seq ?_))
  with_reducible refine JC.region ?_
  refine JL.op (JO.val (y_move) rfl ?_)
  refine JL.op (JO.val (y_len rfl rfl) rfl ?_)
  refine JL.op (JO.val (y_gtr rfl rfl) rfl ?_)
  with_reducible refine JL.nil ?_
  with_reducible refine JQ.seq ?_
  refine JC.cond rfl (fun hg => ?_) (fun hg => ?_)
  · have hg' : hs.length > 8 := by simp at hg; omega
    rw [if_pos hg', if_pos hg']
    with_reducible refine JC.seq ?_
    with_reducible refine JC.region ?_
    refine JL.op (JO.val (y_assign) rfl ?_)
    refine JL.op (JO.val (y_assign) rfl ?_)
    with_reducible refine JL.nil ?_
    with_reducible refine JQ.seq (JC.ret (JQ.seq_ret ?_))
    exact ret_two rfl ResV.tmp ResV.tmp (fun w _ => rfl)
  · have hg' : ¬ hs.length > 8 := by simp at hg; omega
    rw [if_neg hg', if_neg hg']
    with_reducible refine JC.skip (JQ.seq (JC.seq ?_))
    with_reducible refine JC.region ?_
    refine JL.op (JO.val (y_ldA 0 rfl rfl rfl rfl) rfl ?_)
    refine JL.op (JO.val (y_move) rfl ?_)
    refine JL.op (JO.callv (fun wc hc => search_any hs.length _ 0 _ s A cap hs wc (hRS.step hc.step) hfit (by omega) (SlF.step hrow hc.step (by omega)) (hev.step hc.step) (Nat.le_refl _) (htab.step hc.step)) rfl rfl rfl ?_)
    refine JL.op (JO.val (y_assign) rfl ?_)
    refine JL.op (JO.val (y_assign) rfl ?_)
    with_reducible refine JL.nil ?_
    with_reducible refine JQ.seq (JC.ret ?_)
    exact ret_two rfl ResV.tmp ResV.tmp (fun w _ => rfl)
theorem great2_any (F : Nat → Prop) (cs : List Value) (s : LState) (w : World) (h : RState F w cs s) (hwf : s.wf) :
    CallsTo 23 #[.agg cs.toArray, .int .i64 2048] w (fun v _ => ∃ g : Bool, v = .bool g ∧ (g = false → Mild s ∧ TameS s)) := by
  obtain ⟨Ap, cp, Ar, cr, Am, cm, rfl, hp, hr, hm⟩ := h.form
  obtain ⟨hs, hhs, hrow, hvals⟩ := hr
  have hlen : hs.length = s.rs.length := by rw [← hhs]; simp
  refine CallsTo.enter 78 (fun _ => True) F Tryd.func23 rfl rfl rfl rfl (by intros; first | trivial | assumption) ?_
  with_reducible refine JC.seq ?_
  with_reducible refine JC.region ?_
  refine JL.op (JO.box rfl rfl ?_); intro b2
  refine JL.op (JO.val (y_assign) rfl ?_)
  with_reducible refine JL.nil ?_
  with_reducible refine JQ.seq (JC.seq (JC.seq ?_))
  refine JC.cutS [(1, .int .i64 2048), (2, .pointer (some ⟨b2, 0, none⟩)), (28, .bool (decide (s.ps.length > 300) || decide (s.rs.length > 100) || decide (s.ms.length > 20)))] ?_ (fun E => ?_)
  · with_reducible refine JC.region ?_
    refine JL.op (JO.val (y_fieldAddr rfl rfl rfl) rfl ?_)
    refine JL.op (JO.val (y_ld 0 rfl rfl rfl rfl) rfl ?_)
    refine JL.op (JO.val (y_len rfl rfl) rfl ?_)
    refine JL.op (JO.val (y_gtr rfl rfl) rfl ?_)
    refine JL.op (JO.val (y_move) rfl ?_)
    refine JL.split (d := 16) rfl (fun hg4 => ?_) (fun hg4 => ?_)
    · refine JL.op_skip rfl rfl (congrArg Value.bool hg4) rfl ?_
      refine JL.op_skip rfl rfl (congrArg Value.bool hg4) rfl ?_
      refine JL.op_skip rfl rfl (congrArg Value.bool hg4) rfl ?_
      refine JL.op_skip rfl rfl (congrArg Value.bool hg4) rfl ?_
      refine JL.op (JO.val (y_pick (congrArg Value.bool hg4)) rfl ?_)
      refine JL.op (JO.val (y_move) rfl ?_)
      refine JL.op_skip rfl rfl rfl rfl ?_
      refine JL.op_skip rfl rfl rfl rfl ?_
      refine JL.op_skip rfl rfl rfl rfl ?_
      refine JL.op_skip rfl rfl rfl rfl ?_
      refine JL.op_skip rfl rfl rfl rfl ?_
      refine JL.op (JO.val (y_pick rfl) rfl ?_)
      with_reducible refine JL.nil ?_
      (refine JQ.has ⟨rfl, rfl, congrArg Value.bool ?_, trivial⟩ (fun _ h => h); (rw [Bool.eq_iff_iff]; simp_all []; omega))
    · refine JL.op_do rfl rfl (congrArg Value.bool hg4) (JO.val (y_fieldAddr rfl rfl rfl) rfl ?_)
      refine JL.op_do rfl rfl (congrArg Value.bool hg4) (JO.val (y_ld 0 rfl rfl rfl rfl) rfl ?_)
      refine JL.op_do rfl rfl (congrArg Value.bool hg4) (JO.val (y_len rfl rfl) rfl ?_)
      refine JL.op_do rfl rfl (congrArg Value.bool hg4) (JO.val (y_gtr rfl rfl) rfl ?_)
      refine JL.op (JO.val (y_pick (congrArg Value.bool hg4)) rfl ?_)
      refine JL.op (JO.val (y_move) rfl ?_)
      refine JL.split (d := 22) rfl (fun hg10 => ?_) (fun hg10 => ?_)
      · refine JL.op_skip rfl rfl (congrArg Value.bool hg10) rfl ?_
        refine JL.op_skip rfl rfl (congrArg Value.bool hg10) rfl ?_
        refine JL.op_skip rfl rfl (congrArg Value.bool hg10) rfl ?_
        refine JL.op_skip rfl rfl (congrArg Value.bool hg10) rfl ?_
        refine JL.op_skip rfl rfl (congrArg Value.bool hg10) rfl ?_
        refine JL.op (JO.val (y_pick (congrArg Value.bool hg10)) rfl ?_)
        with_reducible refine JL.nil ?_
        (refine JQ.has ⟨rfl, rfl, congrArg Value.bool ?_, trivial⟩ (fun _ h => h); (rw [Bool.eq_iff_iff]; simp_all []; omega))
      · refine JL.op_do rfl rfl (congrArg Value.bool hg10) (JO.val (y_fieldAddr rfl rfl rfl) rfl ?_)
        refine JL.op_do rfl rfl (congrArg Value.bool hg10) (JO.val (y_fieldAddr rfl rfl rfl) rfl ?_)
        refine JL.op_do rfl rfl (congrArg Value.bool hg10) (JO.val (y_ld 0 rfl rfl rfl rfl) rfl ?_)
        refine JL.op_do rfl rfl (congrArg Value.bool hg10) (JO.val (y_len rfl rfl) rfl ?_)
        refine JL.op_do rfl rfl (congrArg Value.bool hg10) (JO.val (y_gtr rfl rfl) rfl ?_)
        refine JL.op (JO.val (y_pick (congrArg Value.bool hg10)) rfl ?_)
        with_reducible refine JL.nil ?_
        (refine JQ.has ⟨rfl, rfl, congrArg Value.bool ?_, trivial⟩ (fun _ h => h); (rw [Bool.eq_iff_iff]; simp_all []; omega))
  with_reducible refine JQ.seq ?_
  refine JC.cond rfl (fun hg => ?_) (fun hg => ?_)
  · with_reducible refine JC.seq ?_
    with_reducible refine JC.region ?_
    refine JL.op (JO.val (y_assign) rfl ?_)
    with_reducible refine JL.nil ?_
    with_reducible refine JQ.seq (JC.ret (JQ.seq_ret ?_))
    exact ret_one rfl ResV.tmp (fun w _ => ⟨true, rfl, fun h => by cases h⟩)
  have hb : s.ps.length ≤ 300 ∧ s.rs.length ≤ 100 ∧ s.ms.length ≤ 20 := by simp at hg; omega
  obtain ⟨hb1, hb2, hb3⟩ := hb
  with_reducible refine JC.skip (JQ.seq (JC.seq ?_))
  with_reducible refine JC.region ?_
  refine JL.op (JO.val (y_assign) rfl ?_)
  with_reducible refine JL.nil ?_
  with_reducible refine JQ.seq (JC.seq (JC.seq ?_))
  with_reducible refine JC.region ?_
  refine JL.op (JO.val (y_fieldAddr rfl rfl rfl) rfl ?_)
  refine JL.op (JO.val (y_ld 0 rfl rfl rfl rfl) rfl ?_)
  refine JL.op (JO.val (y_len rfl rfl) rfl ?_)
  refine JL.op (JO.val (y_move) rfl ?_)
  with_reducible refine JL.nil ?_
  with_reducible refine JQ.seq (JC.block ?_)
  refine JC.loop (fun m E S F' w1' => ∃ (k : Nat) (n : Int), m = s.ps.length - k ∧ k ≤ s.ps.length ∧ 0 ≤ n ∧ n ≤ 2048 ∧ (∀ p ∈ s.ps.take k, p.k.size ≤ 100000 ∧ p.v.size ≤ 100000) ∧ S = [(some b2, 28, [.slice Ap s.ps.length cp, .slice Ar s.rs.length cr, .int .i64 s.ep, .slice Am s.ms.length cm])] ∧ F' = F ∧ w1' = w ∧ Has E [(1, .int .i64 2048), (2, .pointer (some ⟨b2, 0, none⟩)), (5, .int .i64 n), (30, .slice Ap s.ps.length cp), (31, .int .i64 (s.ps.length : Nat)), (32, .int .i64 (k : Nat))])
    _ ⟨0, 0, rfl, Nat.zero_le _, by omega, by omega, (by simp), rfl, rfl, rfl, ⟨rfl, rfl, rfl, rfl, rfl, rfl, trivial⟩⟩ ?_
  rintro m E S F' w1' ⟨k, n, rfl, hk, hn0, hn1, hps, rfl, rfl, rfl, hE⟩
  refine JC.env hE (fun E => ?_)
  with_reducible refine JC.seq ?_
  with_reducible refine JC.region ?_
  refine JL.op (JO.val (y_lss rfl rfl) rfl ?_)
  with_reducible refine JL.nil ?_
  with_reducible refine JQ.seq (JC.seq ?_)
  by_cases hlt : k < s.ps.length
  · have hd : decide ((k : Int) < (s.ps.length : Int)) = true := by simpa using hlt
    refine JC.cond_true (congrArg Value.bool hd) ?_
    obtain ⟨x, hx⟩ : ∃ x, s.ps[k]? = some x := ⟨s.ps[k], by simp [hlt]⟩
    have hxw := hwf.ps x (List.mem_of_getElem? hx)
    have hk1 := hxw.k
    have hv1 := hxw.v
    unfold strMax at hk1 hv1
    have hxl : x.cells.length = 2 := rfl
    have hx1 : allOne x.cells = true := rfl
    obtain ⟨b, o, hA, hat⟩ := SlF.elem hp pair_len rfl hx
    with_reducible refine JC.skip (JQ.seq (JC.seq (JC.block (JC.seq ?_))))
    with_reducible refine JC.region ?_
    refine JL.op (JO.val (y_idx (b := b) (o := o) rfl rfl rfl rfl hA rfl hlt) rfl ?_)
    refine JL.op (JO.val (y_lddA rfl rfl hat (by first | rfl | assumption)) rfl ?_)
    refine JL.op (JO.alloc rfl rfl ?_); intro b7
    refine JL.op (JO.storeA 1 rfl rfl rfl rfl (by first | rfl | assumption) (by first | rfl | assumption) (by first | rfl | assumption) ?_)
    with_reducible refine JL.nil ?_
    with_reducible refine JQ.seq (JC.seq ?_)
    with_reducible refine JC.region ?_
    refine JL.op (JO.val (y_move) rfl ?_)
    refine JL.op (JO.val (y_add (r := n + 1) rfl rfl (wrap_in (by omega) (by omega))) rfl ?_)
    refine JL.op (JO.val (y_fieldAddr rfl rfl rfl) rfl ?_)
    refine JL.op (JO.val (y_ld 1 rfl rfl rfl rfl) rfl ?_)
    refine JL.op (JO.val (y_lens rfl rfl) rfl ?_)
    refine JL.op (JO.val (y_add (r := n + 1 + (x.k.size : Nat)) rfl rfl (wrap_in (by omega) (by omega))) rfl ?_)
    refine JL.op (JO.val (y_fieldAddr rfl rfl rfl) rfl ?_)
    refine JL.op (JO.val (y_ld 1 rfl rfl rfl rfl) rfl ?_)
    refine JL.op (JO.val (y_lens rfl rfl) rfl ?_)
    refine JL.op (JO.val (y_add (r := n + 1 + (x.k.size : Nat) + (x.v.size : Nat)) rfl rfl (wrap_in (by omega) (by omega))) rfl ?_)
    refine JL.op (JO.val (y_assign) rfl ?_)
    with_reducible refine JL.nil ?_
    with_reducible refine JQ.seq (JC.seq ?_)
    with_reducible refine JC.region ?_
    refine JL.op (JO.val (y_move) rfl ?_)
    refine JL.op (JO.val (y_move) rfl ?_)
    refine JL.op (JO.val (y_gtr rfl rfl) rfl ?_)
    with_reducible refine JL.nil ?_
    with_reducible refine JQ.seq ?_
    refine JC.cond rfl (fun hg2 => ?_) (fun hg2 => ?_)
    · with_reducible refine JC.seq ?_
      with_reducible refine JC.region ?_
      refine JL.op (JO.val (y_assign) rfl ?_)
      with_reducible refine JL.nil ?_
      with_reducible refine JQ.seq (JC.ret (JQ.blk_ret (JQ.seq_ret (JQ.loop_ret (JQ.blk_ret (JQ.seq_ret ?_))))))
      exact ret_one rfl ResV.tmp (fun w _ => ⟨true, rfl, fun h => by cases h⟩)
    · with_reducible refine JC.skip (JQ.blk (JQ.seq ?_))
      with_reducible refine JC.region ?_
      refine JL.op (JO.val (y_add rfl rfl (natAdd hk (by omega))) rfl ?_)
      refine JL.op (JO.val (y_move) rfl ?_)
      with_reducible refine JL.nil ?_
      refine JQ.takeN 1 ?_
      refine JQ.loop (s.ps.length - (k + 1)) ⟨k + 1, n + 1 + (x.k.size : Nat) + (x.v.size : Nat), rfl, hlt, by omega, by simpa using hg2, (by
        have hg3 : n + 1 + (x.k.size : Nat) + (x.v.size : Nat) ≤ 2048 := by simpa using hg2
        rw [take_snoc hx]
        intro p hp
        rcases List.mem_append.1 hp with hp | hp
        · exact hps p hp
        · rw [List.mem_singleton.1 hp]; omega), rfl, rfl, rfl, ⟨rfl, rfl, rfl, rfl, rfl, rfl, trivial⟩⟩ (by omega)
  have hd : decide ((k : Int) < (s.ps.length : Int)) = false := by simpa using hlt
  have hpsA : ∀ p ∈ s.ps, p.k.size ≤ 100000 ∧ p.v.size ≤ 100000 := by
    rw [List.take_of_length_le (by omega)] at hps
    exact hps
  refine JC.cond_false (congrArg Value.bool hd) ?_
  with_reducible refine JC.exit (JQ.seq_exit (JQ.loop_exit (JQ.blk_here (JQ.seq (JC.seq (JC.seq ?_))))))
  with_reducible refine JC.region ?_
  refine JL.op (JO.val (y_fieldAddr rfl rfl rfl) rfl ?_)
  refine JL.op (JO.val (y_ld 0 rfl rfl rfl rfl) rfl ?_)
  refine JL.op (JO.val (y_len rfl rfl) rfl ?_)
  refine JL.op (JO.val (y_move) rfl ?_)
  with_reducible refine JL.nil ?_
  with_reducible refine JQ.seq (JC.block ?_)
  refine JC.loop (fun m E S F2 w2 => ∃ (k : Nat) (n : Int), m = s.rs.length - k ∧ k ≤ s.rs.length ∧ 0 ≤ n ∧ n ≤ 2048 ∧ (∀ r ∈ s.rs.take k, r.vals.length ≤ 300 ∧ ∀ v ∈ r.vals, v.size ≤ 100000) ∧ S = [(some b2, 28, [.slice Ap s.ps.length cp, .slice Ar s.rs.length cr, .int .i64 s.ep, .slice Am s.ms.length cm])] ∧ F2 = F' ∧ w2 = w1' ∧ Has E [(1, .int .i64 2048), (2, .pointer (some ⟨b2, 0, none⟩)), (5, .int .i64 n), (51, .slice Ar s.rs.length cr), (52, .int .i64 (s.rs.length : Nat)), (53, .int .i64 (k : Nat))])
    _ ⟨0, n, rfl, Nat.zero_le _, hn0, hn1, (by simp), rfl, rfl, rfl, ⟨rfl, rfl, rfl, rfl, rfl, rfl, trivial⟩⟩ ?_
  clear hk hlt hd hE hn0 hn1
  rintro m E S F2 w2 ⟨k, n, rfl, hk, hn0, hn1, hvs, rfl, rfl, rfl, hE⟩
  refine JC.env hE (fun E => ?_)
  with_reducible refine JC.seq ?_
  with_reducible refine JC.region ?_
  refine JL.op (JO.val (y_lss rfl rfl) rfl ?_)
  with_reducible refine JL.nil ?_
  with_reducible refine JQ.seq (JC.seq ?_)
  by_cases hlt : k < s.rs.length
  · have hd : decide ((k : Int) < (s.rs.length : Int)) = true := by simpa using hlt
    refine JC.cond_true (congrArg Value.bool hd) ?_
    obtain ⟨x, hx⟩ : ∃ x, s.rs[k]? = some x := ⟨s.rs[k], by simp [hlt]⟩
    have hxw := hwf.rs x (List.mem_of_getElem? hx)
    obtain ⟨⟨x1, A1, c1⟩, hx1, rfl⟩ := map_at hhs hx
    have hv : RStrs F2 w2 A1 c1 x1.vals := hvals _ (List.mem_of_getElem? hx1)
    obtain ⟨b, o, hA, hat⟩ := SlF.elem hrow rcells_len hlen.symm hx1
    with_reducible refine JC.skip (JQ.seq (JC.seq (JC.block (JC.seq ?_))))
    with_reducible refine JC.region ?_
    refine JL.op (JO.val (y_idx (b := b) (o := o) rfl rfl rfl rfl hA rfl hlt) rfl ?_)
    refine JL.op (JO.val (y_lddA rfl rfl hat (by first | rfl | assumption)) rfl ?_)
    refine JL.op (JO.alloc rfl rfl ?_); intro b9
    refine JL.op (JO.storeA 1 rfl rfl rfl rfl (by first | rfl | assumption) (by first | rfl | assumption) (by first | rfl | assumption) ?_)
    with_reducible refine JL.nil ?_
    with_reducible refine JQ.seq (JC.seq (JC.seq ?_))
    with_reducible refine JC.region ?_
    refine JL.op (JO.val (y_fieldAddr rfl rfl rfl) rfl ?_)
    refine JL.op (JO.val (y_ld 1 rfl rfl rfl rfl) rfl ?_)
    refine JL.op (JO.val (y_len rfl rfl) rfl ?_)
    refine JL.op (JO.val (y_gtr rfl rfl) rfl ?_)
    with_reducible refine JL.nil ?_
    with_reducible refine JQ.seq ?_
    refine JC.cond rfl (fun hg2 => ?_) (fun hg2 => ?_)
    · with_reducible refine JC.seq ?_
      with_reducible refine JC.region ?_
      refine JL.op (JO.val (y_assign) rfl ?_)
      with_reducible refine JL.nil ?_
      with_reducible refine JQ.seq (JC.ret (JQ.seq_ret (JQ.blk_ret (JQ.seq_ret (JQ.loop_ret (JQ.blk_ret (JQ.seq_ret ?_)))))))
      exact ret_one rfl ResV.tmp (fun w _ => ⟨true, rfl, fun h => by cases h⟩)
    have hvl : x1.vals.length ≤ 300 := by simp at hg2; omega
    with_reducible refine JC.skip (JQ.seq (JC.seq ?_))
    with_reducible refine JC.region ?_
    refine JL.op (JO.val (y_fieldAddr rfl rfl rfl) rfl ?_)
    refine JL.op (JO.val (y_ld 1 rfl rfl rfl rfl) rfl ?_)
    refine JL.op (JO.val (y_len rfl rfl) rfl ?_)
    refine JL.op (JO.val (y_move) rfl ?_)
    with_reducible refine JL.nil ?_
    with_reducible refine JQ.seq (JC.block ?_)
    refine JC.loop (fun m E S F3 w3 => ∃ (j : Nat) (n : Int), m = x1.vals.length - j ∧ j ≤ x1.vals.length ∧ 0 ≤ n ∧ n ≤ 2048 ∧ (∀ v ∈ x1.vals.take j, v.size ≤ 100000) ∧ S = [(some b2, 28, [.slice Ap s.ps.length cp, .slice Ar s.rs.length cr, .int .i64 s.ep, .slice Am s.ms.length cm]), (some b9, 45, rcells (x1, A1, c1))] ∧ F3 = F2 ∧ w3 = w2 ∧ Has E [(1, .int .i64 2048), (2, .pointer (some ⟨b2, 0, none⟩)), (5, .int .i64 n), (51, .slice Ar s.rs.length cr), (52, .int .i64 (s.rs.length : Nat)), (53, .int .i64 (k : Nat)), (62, .slice A1 x1.vals.length c1), (63, .int .i64 (x1.vals.length : Nat)), (64, .int .i64 (j : Nat))])
      _ ⟨0, n, rfl, Nat.zero_le _, hn0, hn1, (by simp), rfl, rfl, rfl, ⟨rfl, rfl, rfl, rfl, rfl, rfl, rfl, rfl, rfl, trivial⟩⟩ ?_
    clear hn0 hn1 hE
    rintro m E S F3 w3 ⟨j, n, rfl, hj, hn0, hn1, hvj, rfl, rfl, rfl, hE⟩
    refine JC.env hE (fun E => ?_)
    with_reducible refine JC.seq ?_
    with_reducible refine JC.region ?_
    refine JL.op (JO.val (y_lss rfl rfl) rfl ?_)
    with_reducible refine JL.nil ?_
    with_reducible refine JQ.seq (JC.seq ?_)
    by_cases hlt2 : j < x1.vals.length
    · have hd2 : decide ((j : Int) < (x1.vals.length : Int)) = true := by simpa using hlt2
      refine JC.cond_true (congrArg Value.bool hd2) ?_
      obtain ⟨y, hy⟩ : ∃ y, x1.vals[j]? = some y := ⟨x1.vals[j], by simp [hlt2]⟩
      have hyw := hxw.vals y (List.mem_of_getElem? hy)
      unfold strMax at hyw
      obtain ⟨b', o', hA', hat'⟩ := SlF.elem hv (fun s _ => rfl) rfl hy
      with_reducible refine JC.skip (JQ.seq (JC.seq (JC.block (JC.seq ?_))))
      with_reducible refine JC.region ?_
      refine JL.op (JO.val (y_idx (b := b') (o := o') rfl rfl rfl rfl hA' rfl hlt2) rfl ?_)
      refine JL.op (JO.val (y_ldd rfl rfl hat') rfl ?_)
      refine JL.op (JO.val (y_assign) rfl ?_)
      with_reducible refine JL.nil ?_
      with_reducible refine JQ.seq (JC.seq ?_)
      with_reducible refine JC.region ?_
      refine JL.op (JO.val (y_move) rfl ?_)
      refine JL.op (JO.val (y_add (r := n + 1) rfl rfl (wrap_in (by omega) (by omega))) rfl ?_)
      refine JL.op (JO.val (y_move) rfl ?_)
      refine JL.op (JO.val (y_lens rfl rfl) rfl ?_)
      refine JL.op (JO.val (y_add (r := n + 1 + (y.size : Nat)) rfl rfl (wrap_in (by omega) (by omega))) rfl ?_)
      refine JL.op (JO.val (y_assign) rfl ?_)
      with_reducible refine JL.nil ?_
      with_reducible refine JQ.seq (JC.seq ?_)
      with_reducible refine JC.region ?_
      refine JL.op (JO.val (y_move) rfl ?_)
      refine JL.op (JO.val (y_move) rfl ?_)
      refine JL.op (JO.val (y_gtr rfl rfl) rfl ?_)
      with_reducible refine JL.nil ?_
      with_reducible refine JQ.seq ?_
      refine JC.cond rfl (fun hg3 => ?_) (fun hg3 => ?_)
      · with_reducible refine JC.seq ?_
        with_reducible refine JC.region ?_
        refine JL.op (JO.val (y_assign) rfl ?_)
        with_reducible refine JL.nil ?_
        with_reducible refine JQ.seq (JC.ret (JQ.blk_ret (JQ.seq_ret (JQ.loop_ret (JQ.blk_ret (JQ.blk_ret (JQ.seq_ret (JQ.loop_ret (JQ.blk_ret (JQ.seq_ret ?_))))))))))
        exact ret_one rfl ResV.tmp (fun w _ => ⟨true, rfl, fun h => by cases h⟩)
      · with_reducible refine JC.skip (JQ.blk (JQ.seq ?_))
        with_reducible refine JC.region ?_
        refine JL.op (JO.val (y_add rfl rfl (natAdd hj (by omega))) rfl ?_)
        refine JL.op (JO.val (y_move) rfl ?_)
        with_reducible refine JL.nil ?_
        refine JQ.loop (x1.vals.length - (j + 1)) ⟨j + 1, n + 1 + (y.size : Nat), rfl, hlt2, by omega, by simpa using hg3, (by
          have hg4 : n + 1 + (y.size : Nat) ≤ 2048 := by simpa using hg3
          rw [take_snoc hy]
          intro v hv2
          rcases List.mem_append.1 hv2 with hv2 | hv2
          · exact hvj v hv2
          · rw [List.mem_singleton.1 hv2]; omega), rfl, rfl, rfl, ⟨rfl, rfl, rfl, rfl, rfl, rfl, rfl, rfl, rfl, trivial⟩⟩ (by omega)
    · have hd2 : decide ((j : Int) < (x1.vals.length : Int)) = false := by simpa using hlt2
      refine JC.cond_false (congrArg Value.bool hd2) ?_
      with_reducible refine JC.exit (JQ.seq_exit (JQ.loop_exit (JQ.blk_here (JQ.blk (JQ.seq ?_)))))
      with_reducible refine JC.region ?_
      refine JL.op (JO.val (y_add rfl rfl (natAdd hk (by omega))) rfl ?_)
      refine JL.op (JO.val (y_move) rfl ?_)
      with_reducible refine JL.nil ?_
      refine JQ.takeN 1 ?_
      refine JQ.loop (s.rs.length - (k + 1)) ⟨k + 1, n, rfl, hlt, hn0, hn1, ?_, rfl, rfl, rfl, ⟨rfl, rfl, rfl, rfl, rfl, rfl, trivial⟩⟩ (by omega)
      intro r hr
      rw [List.take_add_one, hx] at hr
      rcases List.mem_append.1 hr with hr | hr
      · exact hvs r hr
      · simp at hr; subst hr; exact ⟨hvl, fun v hv2 => hvj v (by rw [List.take_of_length_le (by omega)]; exact hv2)⟩
  · have hd : decide ((k : Int) < (s.rs.length : Int)) = false := by simpa using hlt
    refine JC.cond_false (congrArg Value.bool hd) ?_
    obtain rfl : k = s.rs.length := by omega
    with_reducible refine JC.exit (JQ.seq_exit (JQ.loop_exit (JQ.blk_here (JQ.seq (JC.seq ?_)))))
    with_reducible refine JC.region ?_
    refine JL.op (JO.val (y_assign) rfl ?_)
    with_reducible refine JL.nil ?_
    with_reducible refine JQ.seq (JC.ret ?_)
    exact ret_one rfl ResV.tmp (fun w _ => ⟨false, rfl, fun _ => ⟨⟨hb1, hb2, hb3, fun r hr => (hvs r (by rwa [List.take_length])).1⟩, hpsA, fun r hr => ⟨by have := (hvs r (by rwa [List.take_length])).1; omega, (hvs r (by rwa [List.take_length])).2⟩⟩⟩)
end Go.Proofs.YtchnnplcpidkiaaDoor
namespace Go.Proofs.YtchnnplcpidkiaaDoor
open Go.RowKit Go.Lib
set_option linter.unusedSimpArgs false
set_option linter.unusedVariables false
set_option maxRecDepth 20000
set_option maxHeartbeats 16000000

/-- What law 24's great refuses not. -/
structure Meek2 (s : LState) (qs : List LReq) (es : List LEvent) : Prop where
  meek : Meek s
  tame : TameS s
  nq : qs.length ≤ 20
  ne : es.length ≤ 12
  rep : ∀ e ∈ es, Tame e.rep
theorem elem_at {rs : List LReq} {cur : List Value} {n k : Nat} {r : LReq} (htk : cur.take (n * 42) = rs.flatMap LReq.cells) (hw : ∀ r ∈ rs, r.wf) (hk : rs[k]? = some r) : (cur.drop (0 + k * 42)).take 42 = r.cells := by
  have hrw := LReq.len_cells (hw r (List.mem_of_getElem? hk))
  apply List.ext_getElem?
  intro j
  by_cases hj : j < 42
  · rw [List.getElem?_take, if_pos hj, List.getElem?_drop, Nat.zero_add]
    obtain ⟨v, hv⟩ : ∃ v, r.cells[j]? = some v := ⟨r.cells[j]'(by omega), List.getElem?_eq_getElem (by omega)⟩
    have h1 := flatMap_at (fun x hx => LReq.len_cells (hw x hx)) hk hv
    rw [← htk, List.getElem?_take] at h1
    rw [hv]
    split at h1
    · exact h1
    · cases h1
  · rw [List.getElem?_take, if_neg hj, List.getElem?_eq_none (by omega)]
theorem ble_row {k n cap sz : Nat} {l : List Value} (hl : l.length = cap * sz) (hk : k < n) (hn : n ≤ cap) : Nat.ble (0 + k * sz + sz) l.length = true := by
  rw [Nat.ble_eq, hl]
  have : (k + 1) * sz ≤ cap * sz := Nat.mul_le_mul_right sz (by omega)
  rw [Nat.add_mul] at this
  omega
theorem great24_any (F : Nat → Prop) (cs : List Value) (s : LState) (Aq : Option Addr) (cq : Nat) (qs : List LReq) (Ae : Option Addr) (ce : Nat) (hs : List (LEvent × Option Addr × Nat)) (w : World) (h : RState F w cs s) (hwf : s.wf) (hq : RReqs F w Aq cq qs) (hqw : ∀ q ∈ qs, q.wf) (he : SlF F w Ae hs.length ce 48 (hs.flatMap ecells)) (hew : ∀ x ∈ hs, x.1.wf ∧ RStrs F w x.2.1 x.2.2 x.1.rep.vals) :
    CallsTo 15 #[.agg cs.toArray, .slice Aq qs.length cq, .slice Ae hs.length ce, .int .i64 12] w (fun v _ => ∃ g : Bool, v = .bool g ∧ (g = false → Meek2 s qs (hs.map (·.1)))) := by
  have hRS := h
  obtain ⟨Ap, cp, Ar, cr, Am, cm, rfl, hp, hr, hm⟩ := h.form
  refine CallsTo.enter 92 (fun _ => True) F Tryd.func15 rfl rfl rfl rfl (by intros; first | trivial | assumption) ?_
  with_reducible refine JC.seq ?_
  with_reducible refine JC.region ?_
  refine JL.op (JO.box rfl rfl ?_); intro b4
  refine JL.op (JO.val (y_assign) rfl ?_)
  with_reducible refine JL.nil ?_
  with_reducible refine JQ.seq (JC.seq (JC.seq ?_))
  refine JC.cutI (fun E S F' w1' => ∃ gt : Bool, (gt = false → Meek s ∧ TameS s ∧ qs.length ≤ 20 ∧ hs.length ≤ 12) ∧ S = [(some b4, 28, [.slice Ap s.ps.length cp, .slice Ar s.rs.length cr, .int .i64 s.ep, .slice Am s.ms.length cm])] ∧ Step F w F' w1' ∧ Has E [(1, .slice Aq qs.length cq), (2, .slice Ae hs.length ce), (4, .pointer (some ⟨b4, 0, none⟩)), (33, .bool gt)]) ?_ ?_
  · with_reducible refine JC.region ?_
    refine JL.op (JO.val (y_ldA 0 rfl rfl rfl rfl) rfl ?_)
    refine JL.op (JO.call _ (fun wc hc => great2_any _ _ s wc (hRS.step hc.step) hwf) rfl rfl rfl ?_)
    rintro wc v wn hst hsz hfr hbl hst0 ⟨g, rfl, hgr⟩
    refine JL.op (JO.val (y_move) rfl ?_)
    refine JL.split (d := 18) rfl (fun hg2 => ?_) (fun hg2 => ?_)
    · refine JL.op_skip rfl rfl (congrArg Value.bool hg2) rfl ?_
      refine JL.op_skip rfl rfl (congrArg Value.bool hg2) rfl ?_
      refine JL.op_skip rfl rfl (congrArg Value.bool hg2) rfl ?_
      refine JL.op (JO.val (y_pick (congrArg Value.bool hg2)) rfl ?_)
      refine JL.op (JO.val (y_move) rfl ?_)
      refine JL.op_skip rfl rfl rfl rfl ?_
      refine JL.op_skip rfl rfl rfl rfl ?_
      refine JL.op_skip rfl rfl rfl rfl ?_
      refine JL.op (JO.val (y_pick rfl) rfl ?_)
      refine JL.op (JO.val (y_move) rfl ?_)
      refine JL.op_skip rfl rfl rfl rfl ?_
      refine JL.op_skip rfl rfl rfl rfl ?_
      refine JL.op_skip rfl rfl rfl rfl ?_
      refine JL.op_skip rfl rfl rfl rfl ?_
      refine JL.op (JO.val (y_pick rfl) rfl ?_)
      with_reducible refine JL.nil ?_
      exact JQ.inv ⟨true, fun h => absurd h (by decide), rfl, hst, ⟨rfl, rfl, rfl, rfl, trivial⟩⟩
    · refine JL.op_do rfl rfl (congrArg Value.bool hg2) (JO.val (y_ldA 0 rfl rfl rfl rfl) rfl ?_)
      refine JL.op_do rfl rfl (congrArg Value.bool hg2) (JO.callv (fun wc hc => rises_any _ _ s wc ((hRS.step hst).step hc.step) ((hgr hg2).1.sized.small (by omega))) rfl rfl rfl ?_)
      refine JL.op_do rfl rfl (congrArg Value.bool hg2) (JO.val (y_not rfl) rfl ?_)
      refine JL.op (JO.val (y_pick (congrArg Value.bool hg2)) rfl ?_)
      refine JL.op (JO.val (y_move) rfl ?_)
      refine JL.split (d := 23) rfl (fun hg7 => ?_) (fun hg7 => ?_)
      · refine JL.op_skip rfl rfl (congrArg Value.bool hg7) rfl ?_
        refine JL.op_skip rfl rfl (congrArg Value.bool hg7) rfl ?_
        refine JL.op_skip rfl rfl (congrArg Value.bool hg7) rfl ?_
        refine JL.op (JO.val (y_pick (congrArg Value.bool hg7)) rfl ?_)
        refine JL.op (JO.val (y_move) rfl ?_)
        refine JL.op_skip rfl rfl rfl rfl ?_
        refine JL.op_skip rfl rfl rfl rfl ?_
        refine JL.op_skip rfl rfl rfl rfl ?_
        refine JL.op_skip rfl rfl rfl rfl ?_
        refine JL.op (JO.val (y_pick rfl) rfl ?_)
        with_reducible refine JL.nil ?_
        exact JQ.inv ⟨true, fun h => absurd h (by decide), rfl, hst, ⟨rfl, rfl, rfl, rfl, trivial⟩⟩
      · refine JL.op_do rfl rfl (congrArg Value.bool hg7) (JO.val (y_move) rfl ?_)
        refine JL.op_do rfl rfl (congrArg Value.bool hg7) (JO.val (y_len rfl rfl) rfl ?_)
        refine JL.op_do rfl rfl (congrArg Value.bool hg7) (JO.val (y_gtr rfl rfl) rfl ?_)
        refine JL.op (JO.val (y_pick (congrArg Value.bool hg7)) rfl ?_)
        refine JL.op (JO.val (y_move) rfl ?_)
        refine JL.split (d := 28) rfl (fun hg12 => ?_) (fun hg12 => ?_)
        · refine JL.op_skip rfl rfl (congrArg Value.bool hg12) rfl ?_
          refine JL.op_skip rfl rfl (congrArg Value.bool hg12) rfl ?_
          refine JL.op_skip rfl rfl (congrArg Value.bool hg12) rfl ?_
          refine JL.op_skip rfl rfl (congrArg Value.bool hg12) rfl ?_
          refine JL.op (JO.val (y_pick (congrArg Value.bool hg12)) rfl ?_)
          with_reducible refine JL.nil ?_
          exact JQ.inv ⟨true, fun h => absurd h (by decide), rfl, hst, ⟨rfl, rfl, rfl, rfl, trivial⟩⟩
        · refine JL.op_do rfl rfl (congrArg Value.bool hg12) (JO.val (y_move) rfl ?_)
          refine JL.op_do rfl rfl (congrArg Value.bool hg12) (JO.val (y_len rfl rfl) rfl ?_)
          refine JL.op_do rfl rfl (congrArg Value.bool hg12) (JO.val (y_move) rfl ?_)
          refine JL.op_do rfl rfl (congrArg Value.bool hg12) (JO.val (y_gtr rfl rfl) rfl ?_)
          refine JL.op (JO.val (y_pick (congrArg Value.bool hg12)) rfl ?_)
          with_reducible refine JL.nil ?_
          exact JQ.inv ⟨decide ((hs.length : Int) > 12), fun h => ⟨⟨(hgr hg2).1, rises_ord (by simpa using hg7)⟩, (hgr hg2).2, by simp at hg12; omega, by simp at h; omega⟩, rfl, hst, ⟨rfl, rfl, rfl, rfl, trivial⟩⟩
  rintro E S F1 w1 ⟨gt, hgt, rfl, hst, hE⟩
  refine JQ.env hE (fun E => ?_)
  with_reducible refine JQ.seq ?_
  refine JC.cond rfl (fun hg => ?_) (fun hg => ?_)
  · with_reducible refine JC.seq ?_
    with_reducible refine JC.region ?_
    refine JL.op (JO.val (y_assign) rfl ?_)
    with_reducible refine JL.nil ?_
    with_reducible refine JQ.seq (JC.ret (JQ.seq_ret ?_))
    exact ret_one rfl ResV.tmp (fun w _ => ⟨true, rfl, fun h => by cases h⟩)
  obtain ⟨hmk, htm, hql, hel⟩ := hgt hg
  clear hgt
  replace hq := hq.step hst
  replace he := SlF.step he hst (by omega)
  replace hew := fun x (hx : x ∈ hs) => (⟨(hew x hx).1, (hew x hx).2.step hst⟩ : x.1.wf ∧ RStrs F1 w1 x.2.1 x.2.2 x.1.rep.vals)
  with_reducible refine JC.skip (JQ.seq (JC.seq ?_))
  with_reducible refine JC.region ?_
  refine JL.op (JO.build0 rfl rfl rfl ?_); intro b34
  refine JL.op (JO.val (y_move) rfl ?_)
  refine JL.op (JO.append 1 (ob := some b34) (n := 0) (cap := 0) (qs.flatMap LReq.cells) rfl rfl rfl rfl rfl rfl rfl ⟨rfl, Nat.le_refl _, by simp [maxLen], fun h => by cases h⟩ hq.len (fun h => (hq.nil h).1) (fun w2 hc => hc.srcF hq) (flatMap_one fun q hx => LReq.one (hqw q hx)) (by unfold maxLen; omega) (by omega) ?_)
  intro ob cap cur hrow htk _
  refine JL.op (JO.val (y_assign) rfl ?_)
  with_reducible refine JL.nil ?_
  rw [Nat.zero_add] at hrow htk
  have htk' : cur.take (qs.length * 42) = qs.flatMap LReq.cells := by simpa using htk
  clear htk
  refine JQ.env (S := [(some b4, 28, [.slice Ap s.ps.length cp, .slice Ar s.rs.length cr, .int .i64 s.ep, .slice Am s.ms.length cm]), (ob, 41, cur)]) (l := [(2, .slice Ae hs.length ce), (4, .pointer (some ⟨b4, 0, none⟩)), (9, .slice (ob.map mkA) qs.length cap)]) ⟨rfl, rfl, congrArg (fun k => Value.slice (ob.map mkA) k cap) (Nat.zero_add _), trivial⟩ (fun E => ?_)
  with_reducible refine JQ.seq (JC.seq (JC.seq ?_))
  with_reducible refine JC.region ?_
  refine JL.op (JO.val (y_move) rfl ?_)
  refine JL.op (JO.val (y_len rfl rfl) rfl ?_)
  refine JL.op (JO.val (y_move) rfl ?_)
  with_reducible refine JL.nil ?_
  with_reducible refine JQ.seq (JC.block ?_)
  refine JC.loop (fun m E S F' w1' => ∃ (k : Nat) (ob : Option Nat) (cap : Nat) (cur : List Value) (rs : List LReq), m = hs.length - k ∧ k ≤ hs.length ∧ (∀ e ∈ (hs.take k), Tame e.1.rep) ∧ (∀ r ∈ rs, LReq.wf r) ∧ rs.length ≤ 20 + k ∧ Row ob rs.length cap 42 cur ∧ cur.take (rs.length * 42) = rs.flatMap LReq.cells ∧ S = [(some b4, 28, [.slice Ap s.ps.length cp, .slice Ar s.rs.length cr, .int .i64 s.ep, .slice Am s.ms.length cm]), (ob, 41, cur)] ∧ F' = F1 ∧ w1' = w1 ∧
      Has E [(2, .slice Ae hs.length ce), (4, .pointer (some ⟨b4, 0, none⟩)), (9, .slice (ob.map mkA) rs.length cap), (37, .slice Ae hs.length ce), (38, .int .i64 (hs.length : Nat)), (39, .int .i64 (k : Nat))])
    _ ⟨0, ob, cap, cur, qs, rfl, Nat.zero_le _, by simp, hqw, by omega, hrow, htk', rfl, rfl, rfl, ⟨rfl, rfl, rfl, rfl, rfl, rfl, trivial⟩⟩ ?_
  clear hrow htk'
  rintro m E S F' w1' ⟨k, ob, cap, cur, rs, rfl, hk, htame, hrw, hrl, hrow, htk, rfl, rfl, rfl, hE⟩
  refine JC.env hE (fun E => ?_)
  with_reducible refine JC.seq ?_
  with_reducible refine JC.region ?_
  refine JL.op (JO.val (y_lss rfl rfl) rfl ?_)
  with_reducible refine JL.nil ?_
  with_reducible refine JQ.seq (JC.seq ?_)
  by_cases hlt : k < hs.length
  · have hd : decide ((k : Int) < (hs.length : Int)) = true := by simpa using hlt
    refine JC.cond_true (congrArg Value.bool hd) ?_
    obtain ⟨y, hy⟩ : ∃ y, hs[k]? = some y := ⟨hs[k], by simp [hlt]⟩
    have hym := List.mem_of_getElem? hy
    obtain ⟨hyw, hyv⟩ := hew y hym
    have hyl := ecells_len hyw
    have hy1 := ecells_all1 hyw
    have hql2 := LReq.len_cells hyw.req
    have hq1 := LReq.all1 hyw.req
    obtain ⟨b, o, hA, hat⟩ := SlF.elem he (fun y hy => ecells_len (hew y hy).1) rfl hy
    have hv45 : nth (ecells y) (0 + 42 + 3) = some (.slice y.2.1 y.1.rep.vals.length y.2.2) := by
      have h1 : ((ecells y).drop (0 + 42)).take 4 = _ := ev_rep hyw
      have h2 : (((ecells y).drop (0 + 42)).take 4)[3]? = some (.slice y.2.1 y.1.rep.vals.length y.2.2) := by rw [h1]; rfl
      rw [List.getElem?_take, if_pos (by omega), List.getElem?_drop] at h2
      rw [nth_eq]; exact h2
    with_reducible refine JC.skip (JQ.seq (JC.seq (JC.block (JC.seq ?_))))
    with_reducible refine JC.region ?_
    refine JL.op (JO.val (y_idx (b := b) (o := o) rfl rfl rfl rfl hA rfl hlt) rfl ?_)
    refine JL.op (JO.val (y_lddA rfl rfl hat (by first | rfl | assumption)) rfl ?_)
    refine JL.op (JO.alloc rfl rfl ?_); intro b11
    refine JL.op (JO.storeA 2 rfl rfl rfl rfl (by first | rfl | assumption) (by first | rfl | assumption) (by first | rfl | assumption) ?_)
    with_reducible refine JL.nil ?_
    with_reducible refine JQ.seq (JC.seq (JC.seq ?_))
    with_reducible refine JC.region ?_
    refine JL.op (JO.val (y_fieldAddr rfl rfl rfl) rfl ?_)
    refine JL.op (JO.val (y_fieldAddr rfl rfl rfl) rfl ?_)
    refine JL.op (JO.val (y_ld 2 rfl rfl rfl hv45) rfl ?_)
    refine JL.op (JO.val (y_len rfl rfl) rfl ?_)
    refine JL.op (JO.val (y_gtr rfl rfl) rfl ?_)
    with_reducible refine JL.nil ?_
    with_reducible refine JQ.seq ?_
    refine JC.cond rfl (fun hg2 => ?_) (fun hg2 => ?_)
    · with_reducible refine JC.seq ?_
      with_reducible refine JC.region ?_
      refine JL.op (JO.val (y_assign) rfl ?_)
      with_reducible refine JL.nil ?_
      with_reducible refine JQ.seq (JC.ret (JQ.seq_ret (JQ.blk_ret (JQ.seq_ret (JQ.loop_ret (JQ.blk_ret (JQ.seq_ret ?_)))))))
      exact ret_one rfl ResV.tmp (fun w _ => ⟨true, rfl, fun h => by cases h⟩)
    have hvl : y.1.rep.vals.length ≤ 40 := by simp at hg2; omega
    with_reducible refine JC.skip (JQ.seq (JC.seq (JC.seq ?_)))
    with_reducible refine JC.region ?_
    refine JL.op (JO.val (y_fieldAddr rfl rfl rfl) rfl ?_)
    refine JL.op (JO.val (y_fieldAddr rfl rfl rfl) rfl ?_)
    refine JL.op (JO.val (y_ld 2 rfl rfl rfl hv45) rfl ?_)
    refine JL.op (JO.val (y_len rfl rfl) rfl ?_)
    refine JL.op (JO.val (y_move) rfl ?_)
    with_reducible refine JL.nil ?_
    with_reducible refine JQ.seq (JC.block ?_)
    refine JC.loop (fun m E S F2 w2 => ∃ j, m = y.1.rep.vals.length - j ∧ j ≤ y.1.rep.vals.length ∧ (∀ v ∈ y.1.rep.vals.take j, v.size ≤ 100000) ∧ S = [(some b4, 28, [.slice Ap s.ps.length cp, .slice Ar s.rs.length cr, .int .i64 s.ep, .slice Am s.ms.length cm]), (ob, 41, cur), (some b11, 90, ecells y)] ∧ F2 = F' ∧ w2 = w1' ∧
        Has E [(2, .slice Ae hs.length ce), (4, .pointer (some ⟨b4, 0, none⟩)), (9, .slice (ob.map mkA) rs.length cap), (11, .pointer (some ⟨b11, 0, none⟩)), (37, .slice Ae hs.length ce), (38, .int .i64 (hs.length : Nat)), (39, .int .i64 (k : Nat)), (50, .slice y.2.1 y.1.rep.vals.length y.2.2), (51, .int .i64 (y.1.rep.vals.length : Nat)), (52, .int .i64 (j : Nat))])
      _ ⟨0, rfl, Nat.zero_le _, by simp, rfl, rfl, rfl, ⟨rfl, rfl, rfl, rfl, rfl, rfl, rfl, rfl, rfl, rfl, trivial⟩⟩ ?_
    rintro m E S F2 w2 ⟨j, rfl, hj, hvj, rfl, rfl, rfl, hE⟩
    refine JC.env hE (fun E => ?_)
    with_reducible refine JC.seq ?_
    with_reducible refine JC.region ?_
    refine JL.op (JO.val (y_lss rfl rfl) rfl ?_)
    with_reducible refine JL.nil ?_
    with_reducible refine JQ.seq (JC.seq ?_)
    by_cases hlt2 : j < y.1.rep.vals.length
    · have hd2 : decide ((j : Int) < (y.1.rep.vals.length : Int)) = true := by simpa using hlt2
      refine JC.cond_true (congrArg Value.bool hd2) ?_
      obtain ⟨z, hz⟩ : ∃ z, y.1.rep.vals[j]? = some z := ⟨y.1.rep.vals[j], by simp [hlt2]⟩
      obtain ⟨b', o', hA', hat'⟩ := SlF.elem hyv (fun s _ => rfl) rfl hz
      with_reducible refine JC.skip (JQ.seq (JC.seq (JC.block (JC.seq ?_))))
      with_reducible refine JC.region ?_
      refine JL.op (JO.val (y_idx (b := b') (o := o') rfl rfl rfl rfl hA' rfl hlt2) rfl ?_)
      refine JL.op (JO.val (y_ldd rfl rfl hat') rfl ?_)
      refine JL.op (JO.val (y_assign) rfl ?_)
      with_reducible refine JL.nil ?_
      with_reducible refine JQ.seq (JC.seq ?_)
      with_reducible refine JC.region ?_
      refine JL.op (JO.val (y_move) rfl ?_)
      refine JL.op (JO.val (y_lens rfl rfl) rfl ?_)
      refine JL.op (JO.val (y_gtr rfl rfl) rfl ?_)
      with_reducible refine JL.nil ?_
      with_reducible refine JQ.seq ?_
      refine JC.cond rfl (fun hg3 => ?_) (fun hg3 => ?_)
      · with_reducible refine JC.seq ?_
        with_reducible refine JC.region ?_
        refine JL.op (JO.val (y_assign) rfl ?_)
        with_reducible refine JL.nil ?_
        with_reducible refine JQ.seq (JC.ret (JQ.blk_ret (JQ.seq_ret (JQ.loop_ret (JQ.blk_ret (JQ.seq_ret (JQ.blk_ret (JQ.seq_ret (JQ.loop_ret (JQ.blk_ret (JQ.seq_ret ?_)))))))))))
        exact ret_one rfl ResV.tmp (fun w _ => ⟨true, rfl, fun h => by cases h⟩)
      · with_reducible refine JC.skip (JQ.blk (JQ.seq ?_))
        with_reducible refine JC.region ?_
        refine JL.op (JO.val (y_add rfl rfl (natAdd hj (by omega))) rfl ?_)
        refine JL.op (JO.val (y_move) rfl ?_)
        with_reducible refine JL.nil ?_
        exact JQ.loop (y.1.rep.vals.length - (j + 1)) ⟨j + 1, rfl, hlt2, by
          rw [take_snoc hz]
          intro v hv2
          rcases List.mem_append.1 hv2 with hv2 | hv2
          · exact hvj v hv2
          · rw [List.mem_singleton.1 hv2]; simp at hg3; omega, rfl, rfl, rfl, ⟨rfl, rfl, rfl, rfl, rfl, rfl, rfl, rfl, rfl, rfl, trivial⟩⟩ (by omega)
    · have hd2 : decide ((j : Int) < (y.1.rep.vals.length : Int)) = false := by simpa using hlt2
      refine JC.cond_false (congrArg Value.bool hd2) ?_
      rw [List.take_of_length_le (by omega)] at hvj
      with_reducible refine JC.exit (JQ.seq_exit (JQ.loop_exit (JQ.blk_here (JQ.seq ?_))))
      with_reducible refine JC.region ?_
      refine JL.op (JO.val (y_move) rfl ?_)
      refine JL.op (JO.val (y_fieldAddr rfl rfl rfl) rfl ?_)
      refine JL.op (JO.val (y_ldP 2 rfl rfl rfl (ev_req hyw) (by rw [hyl]; rfl)) rfl ?_)
      refine JL.op (JO.build1 rfl rfl rfl (by first | rfl | assumption) rfl rfl ?_); intro b63
      refine JL.op (JO.append 1 (ob := ob) y.1.req.cells rfl rfl rfl rfl rfl rfl rfl hrow (by first | rfl | omega | simpa using hql2) (fun h => by cases h) (fun w2 hc => hc.src (i := 3) rfl) (allOne_mem hq1) (by unfold maxLen; omega) (by omega) ?_)
      intro ob2 cap2 cur2 hrow2 htk2 _
      refine JL.op (JO.val (y_assign) rfl ?_)
      with_reducible refine JL.nil ?_
      with_reducible refine JQ.blk (JQ.seq ?_)
      with_reducible refine JC.region ?_
      refine JL.op (JO.val (y_add rfl rfl (natAdd hk (by omega))) rfl ?_)
      refine JL.op (JO.val (y_move) rfl ?_)
      with_reducible refine JL.nil ?_
      refine JQ.takeN 2 ?_
      refine JQ.loop (hs.length - (k + 1)) ⟨k + 1, ob2, cap2, cur2, rs ++ [y.1.req], rfl, hlt, ?_, ?_, by simp; omega, by rw [List.length_append]; exact hrow2, by rw [List.length_append]; exact cur_snoc htk htk2, rfl, rfl, rfl, ⟨rfl, rfl, by rw [List.length_append]; rfl, rfl, rfl, rfl, trivial⟩⟩ (by omega)
      · rw [take_snoc hy]
        intro e he2
        rcases List.mem_append.1 he2 with he2 | he2
        · exact htame e he2
        · rw [List.mem_singleton.1 he2]; exact ⟨by omega, hvj⟩
      · intro r hr2
        rcases List.mem_append.1 hr2 with hr2 | hr2
        · exact hrw r hr2
        · rw [List.mem_singleton.1 hr2]; exact hyw.req
  have hd : decide ((k : Int) < (hs.length : Int)) = false := by simpa using hlt
  refine JC.cond_false (congrArg Value.bool hd) ?_
  rw [List.take_of_length_le (by omega)] at htame
  have hres : Meek2 s qs (hs.map (·.1)) := ⟨hmk, htm, hql, by simpa using hel, fun e he2 => by
    obtain ⟨x, hx, rfl⟩ := List.mem_map.1 he2
    exact htame x hx⟩
  with_reducible refine JC.exit (JQ.seq_exit (JQ.loop_exit (JQ.blk_here (JQ.seq (JC.seq (JC.seq ?_))))))
  with_reducible refine JC.region ?_
  refine JL.op (JO.val (y_move) rfl ?_)
  refine JL.op (JO.val (y_len rfl rfl) rfl ?_)
  refine JL.op (JO.val (y_move) rfl ?_)
  with_reducible refine JL.nil ?_
  with_reducible refine JQ.seq (JC.block ?_)
  refine JC.loop (fun m E S F2 w2 => ∃ j, m = rs.length - j ∧ j ≤ rs.length ∧ S = [(some b4, 28, [.slice Ap s.ps.length cp, .slice Ar s.rs.length cr, .int .i64 s.ep, .slice Am s.ms.length cm]), (ob, 41, cur)] ∧ F2 = F' ∧ w2 = w1' ∧ Has E [(2, .slice Ae hs.length ce), (4, .pointer (some ⟨b4, 0, none⟩)), (66, .slice (ob.map mkA) rs.length cap), (67, .int .i64 (rs.length : Nat)), (68, .int .i64 (j : Nat))])
    _ ⟨0, rfl, Nat.zero_le _, rfl, rfl, rfl, ⟨rfl, rfl, rfl, rfl, rfl, trivial⟩⟩ ?_
  rintro m E S F2 w2 ⟨j, rfl, hj, rfl, rfl, rfl, hE⟩
  refine JC.env hE (fun E => ?_)
  with_reducible refine JC.seq ?_
  with_reducible refine JC.region ?_
  refine JL.op (JO.val (y_lss rfl rfl) rfl ?_)
  with_reducible refine JL.nil ?_
  with_reducible refine JQ.seq (JC.seq ?_)
  by_cases hlt2 : j < rs.length
  · have hd2 : decide ((j : Int) < (rs.length : Int)) = true := by simpa using hlt2
    refine JC.cond_true (congrArg Value.bool hd2) ?_
    obtain ⟨z, hz⟩ : ∃ z, rs[j]? = some z := ⟨rs[j], by simp [hlt2]⟩
    have hzw := hrw z (List.mem_of_getElem? hz)
    have hzl := LReq.len_cells hzw
    have hz1 := LReq.all1 hzw
    obtain ⟨bo, rfl⟩ := row_some hrow (by omega)
    with_reducible refine JC.skip (JQ.seq (JC.seq (JC.block (JC.seq ?_))))
    with_reducible refine JC.region ?_
    refine JL.op (JO.val (y_idx (b := bo) (o := 0) rfl rfl rfl rfl rfl rfl hlt2) rfl ?_)
    refine JL.op (JO.val (y_ldP 1 rfl rfl rfl (elem_at htk hrw hz) (ble_row hrow.len hlt2 hrow.le)) rfl ?_)
    refine JL.op (JO.alloc rfl rfl ?_); intro b15
    refine JL.op (JO.storeA 2 rfl rfl rfl rfl (by first | rfl | assumption) (by first | rfl | assumption) (by first | rfl | assumption) ?_)
    with_reducible refine JL.nil ?_
    with_reducible refine JQ.seq (JC.seq ?_)
    refine JC.cutI (fun E S F3 w3 => ∃ gt : Bool, S = [(some b4, 28, [.slice Ap s.ps.length cp, .slice Ar s.rs.length cr, .int .i64 s.ep, .slice Am s.ms.length cm]), (some bo, 41, cur), (some b15, 41, z.cells)] ∧ F3 = F2 ∧ w3 = w2 ∧ Has E [(2, .slice Ae hs.length ce), (4, .pointer (some ⟨b4, 0, none⟩)), (66, .slice ((some bo).map mkA) rs.length cap), (67, .int .i64 (rs.length : Nat)), (68, .int .i64 (j : Nat)), (90, .bool gt)]) ?_ ?_
    · with_reducible refine JC.region ?_
      refine JL.op (JO.val (y_fieldAddr rfl rfl rfl) rfl ?_)
      refine JL.op (JO.val (y_fieldAddr rfl rfl rfl) rfl ?_)
      refine JL.op (JO.val (y_ld 2 rfl rfl rfl rfl) rfl ?_)
      refine JL.op (JO.val (y_lens rfl rfl) rfl ?_)
      refine JL.op (JO.val (y_gtr rfl rfl) rfl ?_)
      refine JL.op (JO.val (y_move) rfl ?_)
      refine JL.split (d := 77) rfl (fun hg5 => ?_) (fun hg5 => ?_)
      · refine JL.op_skip rfl rfl (congrArg Value.bool hg5) rfl ?_
        refine JL.op_skip rfl rfl (congrArg Value.bool hg5) rfl ?_
        refine JL.op_skip rfl rfl (congrArg Value.bool hg5) rfl ?_
        refine JL.op_skip rfl rfl (congrArg Value.bool hg5) rfl ?_
        refine JL.op_skip rfl rfl (congrArg Value.bool hg5) rfl ?_
        refine JL.op (JO.val (y_pick (congrArg Value.bool hg5)) rfl ?_)
        refine JL.op (JO.val (y_move) rfl ?_)
        refine JL.op_skip rfl rfl rfl rfl ?_
        refine JL.op_skip rfl rfl rfl rfl ?_
        refine JL.op_skip rfl rfl rfl rfl ?_
        refine JL.op_skip rfl rfl rfl rfl ?_
        refine JL.op_skip rfl rfl rfl rfl ?_
        refine JL.op (JO.val (y_pick rfl) rfl ?_)
        with_reducible refine JL.nil ?_
        exact JQ.inv ⟨_, rfl, rfl, rfl, ⟨rfl, rfl, rfl, rfl, rfl, rfl, trivial⟩⟩
      · refine JL.op_do rfl rfl (congrArg Value.bool hg5) (JO.val (y_fieldAddr rfl rfl rfl) rfl ?_)
        refine JL.op_do rfl rfl (congrArg Value.bool hg5) (JO.val (y_fieldAddr rfl rfl rfl) rfl ?_)
        refine JL.op_do rfl rfl (congrArg Value.bool hg5) (JO.val (y_ld 2 rfl rfl rfl rfl) rfl ?_)
        refine JL.op_do rfl rfl (congrArg Value.bool hg5) (JO.val (y_lens rfl rfl) rfl ?_)
        refine JL.op_do rfl rfl (congrArg Value.bool hg5) (JO.val (y_gtr rfl rfl) rfl ?_)
        refine JL.op (JO.val (y_pick (congrArg Value.bool hg5)) rfl ?_)
        refine JL.op (JO.val (y_move) rfl ?_)
        refine JL.split (d := 84) rfl (fun hg12 => ?_) (fun hg12 => ?_)
        · refine JL.op_skip rfl rfl (congrArg Value.bool hg12) rfl ?_
          refine JL.op_skip rfl rfl (congrArg Value.bool hg12) rfl ?_
          refine JL.op_skip rfl rfl (congrArg Value.bool hg12) rfl ?_
          refine JL.op_skip rfl rfl (congrArg Value.bool hg12) rfl ?_
          refine JL.op_skip rfl rfl (congrArg Value.bool hg12) rfl ?_
          refine JL.op (JO.val (y_pick (congrArg Value.bool hg12)) rfl ?_)
          with_reducible refine JL.nil ?_
          exact JQ.inv ⟨_, rfl, rfl, rfl, ⟨rfl, rfl, rfl, rfl, rfl, rfl, trivial⟩⟩
        · refine JL.op_do rfl rfl (congrArg Value.bool hg12) (JO.val (y_fieldAddr rfl rfl rfl) rfl ?_)
          refine JL.op_do rfl rfl (congrArg Value.bool hg12) (JO.val (y_fieldAddr rfl rfl rfl) rfl ?_)
          refine JL.op_do rfl rfl (congrArg Value.bool hg12) (JO.val (y_ld 2 rfl rfl rfl rfl) rfl ?_)
          refine JL.op_do rfl rfl (congrArg Value.bool hg12) (JO.val (y_lens rfl rfl) rfl ?_)
          refine JL.op_do rfl rfl (congrArg Value.bool hg12) (JO.val (y_gtr rfl rfl) rfl ?_)
          refine JL.op (JO.val (y_pick (congrArg Value.bool hg12)) rfl ?_)
          with_reducible refine JL.nil ?_
          exact JQ.inv ⟨_, rfl, rfl, rfl, ⟨rfl, rfl, rfl, rfl, rfl, rfl, trivial⟩⟩
    rintro E S F3 w3 ⟨gt, rfl, rfl, rfl, hE⟩
    refine JQ.env hE (fun E => ?_)
    with_reducible refine JQ.seq ?_
    refine JC.cond rfl (fun hg3 => ?_) (fun hg3 => ?_)
    · with_reducible refine JC.seq ?_
      with_reducible refine JC.region ?_
      refine JL.op (JO.val (y_assign) rfl ?_)
      with_reducible refine JL.nil ?_
      with_reducible refine JQ.seq (JC.ret (JQ.blk_ret (JQ.seq_ret (JQ.loop_ret (JQ.blk_ret (JQ.seq_ret ?_))))))
      exact ret_one rfl ResV.tmp (fun w _ => ⟨true, rfl, fun h => by cases h⟩)
    · with_reducible refine JC.skip (JQ.blk (JQ.seq ?_))
      with_reducible refine JC.region ?_
      refine JL.op (JO.val (y_add rfl rfl (natAdd hj (by omega))) rfl ?_)
      refine JL.op (JO.val (y_move) rfl ?_)
      with_reducible refine JL.nil ?_
      refine JQ.takeN 2 ?_
      exact JQ.loop (rs.length - (j + 1)) ⟨j + 1, rfl, hlt2, rfl, rfl, rfl, ⟨rfl, rfl, rfl, rfl, rfl, trivial⟩⟩ (by omega)
  · have hd2 : decide ((j : Int) < (rs.length : Int)) = false := by simpa using hlt2
    refine JC.cond_false (congrArg Value.bool hd2) ?_
    with_reducible refine JC.exit (JQ.seq_exit (JQ.loop_exit (JQ.blk_here (JQ.seq (JC.seq ?_)))))
    with_reducible refine JC.region ?_
    refine JL.op (JO.val (y_assign) rfl ?_)
    with_reducible refine JL.nil ?_
    with_reducible refine JQ.seq (JC.ret ?_)
    exact ret_one rfl ResV.tmp (fun w _ => ⟨false, rfl, fun _ => hres⟩)
end Go.Proofs.YtchnnplcpidkiaaDoor
namespace Go.Proofs.YtchnnplcpidkiaaDoor
open Go.RowKit Go.Lib
set_option linter.unusedSimpArgs false
set_option linter.unusedVariables false
set_option maxRecDepth 20000

theorem cells37 : Tryd.prog.cellsOf 37 = 36 := by kernel_rfl
theorem cells39 : Tryd.prog.cellsOf 39 = 40 := by kernel_rfl
theorem cells41 : Tryd.prog.cellsOf 41 = 42 := by kernel_rfl
theorem kt41 : Tryd.prog.keyTypeAt 8 41 = true := by kernel_rfl
theorem kl_change {d : Nat} {c : LChange} (h : c.wf) : KL (d + 4) 37 c.cells := by
  refine kl_struct Tryd.underlying37 (by rw [cells37]; exact LChange.len_cells h) (by simp) fun f hf => ?_
  simp only [List.mem_cons, List.not_mem_nil, or_false] at hf
  rcases hf with rfl | rfl | rfl | rfl
  · show KL (d + 3) 3 _; rw [cells3]; exact kl_int h.kind
  · show KL (d + 3) 3 _; rw [cells3]; exact kl_int h.id
  · show KL (d + 3) 3 _; rw [cells3]; exact kl_int h.new
  · show KL (d + 3) 35 _
    rw [cells35]
    have : (c.cells.drop 3).take 33 = c.key.cells := by
      show c.key.cells.take 33 = _
      exact List.take_of_length_le (by rw [LKey.len_cells h.key]; omega)
    rw [this]
    exact kl_key h.key
theorem kl_op {d : Nat} {o : LOp} (h : o.wf) : KL (d + 5) 39 o.cells := by
  refine kl_struct Tryd.underlying39 (by rw [cells39]; exact LOp.len_cells h) (by simp) fun f hf => ?_
  simp only [List.mem_cons, List.not_mem_nil, or_false] at hf
  rcases hf with rfl | rfl | rfl | rfl | rfl
  · show KL (d + 4) 3 _; rw [cells3]; exact kl_int h.kind
  · show KL (d + 4) 9 _; rw [cells9]; exact kl_str h.key
  · show KL (d + 4) 9 _; rw [cells9]; exact kl_str h.val
  · show KL (d + 4) 9 _; rw [cells9]; exact kl_str h.old
  · show KL (d + 4) 37 _
    rw [cells37]
    have : (o.cells.drop 4).take 36 = o.chg.cells := by
      show o.chg.cells.take 36 = _
      exact List.take_of_length_le (by rw [LChange.len_cells h.chg]; omega)
    rw [this]
    exact kl_change h.chg
theorem kl_req {d : Nat} {q : LReq} (h : q.wf) : KL (d + 6) 41 q.cells := by
  refine kl_struct Tryd.underlying41 (by rw [cells41]; exact LReq.len_cells h) (by simp) fun f hf => ?_
  simp only [List.mem_cons, List.not_mem_nil, or_false] at hf
  rcases hf with rfl | rfl | rfl
  · show KL (d + 5) 3 _; rw [cells3]; exact kl_int h.client
  · show KL (d + 5) 3 _; rw [cells3]; exact kl_int h.num
  · show KL (d + 5) 39 _
    rw [cells39]
    have : (q.cells.drop 2).take 40 = q.op.cells := by
      show q.op.cells.take 40 = _
      exact List.take_of_length_le (by rw [LOp.len_cells h.op]; omega)
    rw [this]
    exact kl_op h.op
open Classical in
/-- Are two requests the same? -/
noncomputable def eqQ (p q : LReq) : Bool := decide (Tryd.prog.keyLits 6 41 p.cells = Tryd.prog.keyLits 6 41 q.cells)
theorem eqQ_self (q : LReq) : eqQ q q = true := by simp [eqQ]
section
variable {X : Cx} {E : Env} {S : Sto} {F : Nat → Prop} {w1 : World}
variable {d : Option Tmp} {t : TypeId} {pos : String} {af : Array Edge} {g : Option (Nat × Bool)}
theorem y_neq41 {T' : TypeId} {x y : Operand} {p q : LReq} (hp : p.wf) (hq : q.wf) (hx : ev E x = .agg p.cells.toArray) (hy : ev E y = .agg q.cells.toArray) :
    Yields X ⟨d, .binOp .neq 41 x y T', t, pos, af, g⟩ E S F w1 (.bool (!eqQ p q)) := fun w _ => by
  obtain ⟨la, hla⟩ := kl_req (d := 0) hp
  obtain ⟨lb, hlb⟩ := kl_req (d := 0) hq
  have hfp : (Value.agg p.cells.toArray).formed Tryd.prog 41 = true := by simp [Value.formed, Tryd.underlying41, cells41, LReq.len_cells hp]
  have hfq : (Value.agg q.cells.toArray).formed Tryd.prog 41 = true := by simp [Value.formed, Tryd.underlying41, cells41, LReq.len_cells hq]
  obtain ⟨r, hr, hiff⟩ := run_equalIn_deep (P := Tryd.prog) 9992 8 41 kt41 w 6 6 (.agg p.cells.toArray) (.agg q.cells.toArray) la lb hfp hfq (by simpa [Value.cells] using hla) (by simpa [Value.cells] using hlb)
  have hr' : r = eqQ p q := by
    rw [Bool.eq_iff_iff, hiff]
    unfold eqQ
    rw [hla, hlb]
    simp
  subst hr'
  have hg : Tryd.prog.eqGuardType Tryd.prog.depth 41 = false := by kernel_rfl
  have hb : (binOp .neq 41 (.agg p.cells.toArray) (.agg q.cells.toArray)).run Tryd.prog w = .ok (.bool (!eqQ p q)) w := by
    rw [run_neq_struct, hr]; rfl
  simp [execOp, Sem.run_bind, hx, hy, run_eqGuard_agg (P := Tryd.prog) w .neq 41 x y _ _ hg, hb]
end
/-- Does the request run (and is not a second one)? -/
def runsB (s : LState) (q : LReq) : Bool := goodB q && (!lastB s q.client || decide (((s.rs[lastI s q.client]?).map (·.num)).getD 0 < q.num))
/-- What ran: whose, its place in the log, its reply. -/
def runL (s : LState) (qs : List LReq) (i : Nat) : List ((Int × Int) × Nat × LReply) := match qs with
  | [] => []
  | q :: qs => (if runsB s q = true then [((q.client, q.num), i, (applyD s q).2)] else []) ++ runL (applyD s q).1 qs (i + 1)
theorem runL_snoc {s : LState} {qs : List LReq} {q : LReq} {i : Nat} : runL s (qs ++ [q]) i = runL s qs i ++ (if runsB (allD s qs) q = true then [((q.client, q.num), i + qs.length, (applyD (allD s qs) q).2)] else []) := by
  induction qs generalizing s i with
  | nil => by_cases h : runsB s q = true <;> simp [runL, allD, h]
  | cons p qs ih =>
    simp only [List.cons_append, runL, ih, allD, List.length_cons, List.append_assoc]
    rw [show i + 1 + qs.length = i + (qs.length + 1) by omega]
    by_cases h : runsB s p = true <;> by_cases h2 : runsB (allD (applyD s p).1 qs) q = true <;> simp [h, h2]
theorem runL_at {s : LState} {qs : List LReq} {i : Nat} : ∀ x ∈ runL s qs i, i ≤ x.2.1 ∧ x.2.1 < i + qs.length ∧ ∃ q, qs[x.2.1 - i]? = some q := by
  induction qs generalizing s i with
  | nil => intro x hx; simp [runL] at hx
  | cons q qs ih =>
    intro x hx
    rcases List.mem_append.1 hx with hx | hx
    · split at hx
      · rw [List.mem_singleton.1 hx]; simp
      · cases hx
    · obtain ⟨h1, h2, r, h3⟩ := ih x hx
      refine ⟨by omega, by simp; omega, r, ?_⟩
      rw [show x.2.1 - i = (x.2.1 - (i + 1)) + 1 by omega]
      simpa using h3
/-- The last that ran under this name. -/
def fnd (l : List ((Int × Int) × Nat × LReply)) (k : Int × Int) : Option (Nat × LReply) := (l.reverse.find? (fun x => decide (x.1 = k))).map (·.2)
def nameE (e : LEvent) : Int × Int := (e.req.client, e.req.num)
/-- One event, held against what ran. -/
noncomputable def evB (l : List ((Int × Int) × Nat × LReply)) (qs : List LReq) (e : LEvent) : Int := if e.done < 0 then 0 else match fnd l (nameE e) with
  | none => 7
  | some (i, r) => match qs[i]? with
    | some q => if (!eqQ q e.req || !sameR r e.rep) = true then 9 else 0
    | none => 0
def badOrder (l : List ((Int × Int) × Nat × LReply)) (a b : LEvent) : Bool := aheadB a b && match fnd l (nameE a), fnd l (nameE b) with
  | some (i, _), some (j, _) => decide (i ≥ j)
  | _, _ => false
noncomputable def check1 (l : List ((Int × Int) × Nat × LReply)) (qs : List LReq) : List LEvent → Int
  | [] => 0
  | e :: es => if evB l qs e ≠ 0 then evB l qs e else check1 l qs es
noncomputable def checkL (l : List ((Int × Int) × Nat × LReply)) (qs : List LReq) (es : List LEvent) : Int := if check1 l qs es ≠ 0 then check1 l qs es else if es.any (fun a => es.any (badOrder l a)) = true then 12 else 0
noncomputable def checkD (s : LState) (qs : List LReq) (es : List LEvent) : Int := checkL (runL s qs 0) qs es
theorem check1_take {l : List ((Int × Int) × Nat × LReply)} {qs : List LReq} : ∀ {es : List LEvent} {k : Nat} {e : LEvent}, es[k]? = some e → (∀ x ∈ es.take k, evB l qs x = 0) → evB l qs e ≠ 0 → check1 l qs es = evB l qs e
  | [], k, e, h, _, _ => by simp at h
  | x :: es, 0, e, h, _, h2 => by
    simp at h; subst h
    rw [check1, if_pos h2]
  | x :: es, k + 1, e, h, h1, h2 => by
    rw [check1, if_neg (by rw [h1 x (by simp)]; simp)]
    exact check1_take (by simpa using h) (fun y hy => h1 y (by simp [hy])) h2
theorem check1_all {l : List ((Int × Int) × Nat × LReply)} {qs : List LReq} : ∀ {es : List LEvent}, (∀ x ∈ es, evB l qs x = 0) → check1 l qs es = 0
  | [], _ => rfl
  | x :: es, h => by
    rw [check1, if_neg (by rw [h x (by simp)]; simp)]
    exact check1_all fun y hy => h y (by simp [hy])
end Go.Proofs.YtchnnplcpidkiaaDoor
