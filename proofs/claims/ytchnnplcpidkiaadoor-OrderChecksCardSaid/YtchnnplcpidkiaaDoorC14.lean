/- What an operation does, as data; the contract of state.does; no condition but bounds on lengths, and that the pairs stand in order. -/
import Derived.Test.YtchnnplcpidkiaaDoorC13
namespace Go.Proofs.YtchnnplcpidkiaaDoor
open Go.RowKit
set_option linter.unusedSimpArgs false
set_option linter.unusedVariables false
set_option maxRecDepth 20000
set_option maxHeartbeats 16000000

structure Did where
  ps : List LPair
  ep : Int
  ms : List LMember
  code : Int
  vals : List ByteArray
def valOf (ps : List LPair) (k : ByteArray) : ByteArray := match idx (fun p : LPair => p.k.toList == k.toList) ps with
  | some i => (match ps[i]? with | some p => p.v | none => ⟨#[]⟩)
  | none => ⟨#[]⟩
def did (ps : List LPair) (ep : Int) (ms : List LMember) (o : LOp) : Did :=
  if hasP ps o.key = false ∧ (o.kind = 1 ∨ o.kind = 3 ∨ o.kind = 4) then ⟨ps, ep, ms, 7, []⟩
  else if o.kind = 1 then ⟨ps, ep, ms, 0, [valOf ps o.key]⟩
  else if o.kind = 2 then ⟨putPs ps o.key o.val, ep, ms, if putB ps o.key = true then 11 else 0, []⟩
  else if o.kind = 3 then ⟨ps.filter (fun p => !(p.k.toList == o.key.toList)), ep, ms, 0, []⟩
  else if o.kind = 4 then (if (valOf ps o.key).toList == o.old.toList then ⟨withP ⟨o.key, o.val⟩ ps, ep, ms, 0, []⟩ else ⟨ps, ep, ms, 9, [valOf ps o.key]⟩)
  else if o.kind = 5 then ⟨ps, ep, ms, 0, (ps.filter (fun p => hasPre p.k o.key)).map (·.k)⟩
  else if o.kind = 6 then ⟨ps, ep, ms, 0, itoaB ep :: ms.map (fun m => itoaB m.id)⟩
  else if o.kind = 7 then (if chgCode ep ms o.chg = 0 then ⟨ps, (chgRes ep ms o.chg).1, (chgRes ep ms o.chg).2, 0, []⟩ else ⟨ps, ep, ms, chgCode ep ms o.chg, []⟩)
  else ⟨ps, ep, ms, 0, []⟩
/-- What 'does' leaves in memory. -/
def DidR (bs : Nat) (pb : Option Nat) (P : Nat → Prop) (Ar : Option Addr) (rn cr : Nat) (d : Did) (w : World) (v : Value) (w' : World) : Prop :=
  ∃ pb' cp' cur' Am' cm' Av cv, v = .tuple #[.int .i64 d.code, .slice Av d.vals.length cv] ∧
    w'.heap[bs]? = some (.cells [.slice (pb'.map mkA) d.ps.length cp', .slice Ar rn cr, .int .i64 d.ep, .slice Am' d.ms.length cm'].toArray 28 (0, 0)) ∧
    Row pb' d.ps.length cp' 2 cur' ∧ cur'.take (d.ps.length * 2) = d.ps.flatMap LPair.cells ∧ (∀ b, pb' = some b → (pb = some b ∨ w.heap.size ≤ b) ∧ w'.heap[b]? = some (.cells cur'.toArray 53 (0, 0))) ∧
    OwnF (fun b => P b ∨ w.heap.size ≤ b) w' 55 34 Am' d.ms.length cm' (d.ms.flatMap LMember.cells) ∧ OwnF (fun b => w.heap.size ≤ b) w' 9 1 Av d.vals.length cv (d.vals.flatMap sstr)
theorem vals_nil {G : Nat → Prop} {w : World} : OwnF G w 9 1 none 0 0 [] := ⟨none, [], rfl, Row.none _, rfl, fun b hb => by cases hb⟩
theorem OwnF.weak {F F' : Nat → Prop} {w : World} {T sz n cap : Nat} {A : Option Addr} {cs : List Value} (h : OwnF F w T sz A n cap cs) (hF : ∀ b, F b → F' b) : OwnF F' w T sz A n cap cs := by
  obtain ⟨ob, cur, h1, h2, h3, h4⟩ := h
  exact ⟨ob, cur, h1, h2, h3, fun b hb => ⟨hF b (h4 b hb).1, (h4 b hb).2⟩⟩
/-- An entry that is none of those that were handed in. -/
theorem vals_row {X : Cx} {S : Sto} {F : Nat → Prop} {w w1 w' : World} {bs : Nat} {pb : Option Nat} (hX : X.w0 = w) (hmd : X.md = bs :: pb.toList) (hc : Cur X S F w1 w') {T0 T1 : Nat} {st cur : List Value} (h0 : nth S 0 = some (some bs, T0, st)) (h1 : nth S 1 = some (pb, T1, cur)) {j : Nat} {ov : Option Nat} {n cv : Nat} {vcur cs : List Value} (hj : nth S (j + 2) = some (ov, 9, vcur)) (hrow : Row ov n cv 1 vcur) (htk : vcur.take (n * 1) = cs) :
    OwnF (fun b => w.heap.size ≤ b) w' 9 1 (ov.map mkA) n cv cs := by
  refine ⟨ov, vcur, rfl, hrow, htk, fun b hb => ?_⟩
  rw [nth_eq] at h0 h1 hj
  have h2 := hc.own _ (List.mem_of_getElem? hj) b hb
  refine ⟨?_, h2.2⟩
  rcases h2.1 with h3 | h3
  · rw [hX] at h3; exact h3
  · rw [hmd] at h3
    rcases List.mem_cons.1 h3 with h4 | h4
    · have := nodup_at (f := fun e : Ent => e.1) hc.nodup h0 hj rfl (by rw [hb, h4])
      omega
    · have := nodup_at (f := fun e : Ent => e.1) hc.nodup h1 hj (show pb = some b by simpa using h4) hb
      omega
theorem did_ret {X : Cx} {S : Sto} {F P : Nat → Prop} {w w' : World} {bs : Nat} {pb : Option Nat} (hX : X.w0 = w) (hmd : X.md = bs :: pb.toList) {w2 : World} (hc : Cur X S F w2 w') {ps : List LPair} {ep : Int} {ms : List LMember} {code : Int} {vals : List ByteArray} {cp rn cr cm : Nat} {Ar Am : Option Addr} {cur : List Value} {Av : Option Addr} {cv : Nat}
    (h0 : nth S 0 = some (some bs, 28, [.slice (pb.map mkA) ps.length cp, .slice Ar rn cr, .int .i64 ep, .slice Am ms.length cm])) (h1 : nth S 1 = some (pb, 53, cur)) (hrow : Row pb ps.length cp 2 cur) (htk : cur.take (ps.length * 2) = ps.flatMap LPair.cells)
    (hom : OwnF (fun b => F b ∧ P b) w2 55 34 Am ms.length cm (ms.flatMap LMember.cells)) (hv : OwnF (fun b => w.heap.size ≤ b) w' 9 1 Av vals.length cv (vals.flatMap sstr)) : DidR bs pb P Ar rn cr ⟨ps, ep, ms, code, vals⟩ w (.tuple #[.int .i64 code, .slice Av vals.length cv]) w' := by
  rw [nth_eq] at h0 h1
  refine ⟨pb, cp, cur, Am, cm, Av, cv, rfl, (hc.own _ (List.mem_of_getElem? h0) bs rfl).2, hrow, htk, fun b hb => ⟨.inl hb, (hc.own _ (List.mem_of_getElem? h1) b hb).2⟩, ?_, hv⟩
  exact (hom.step (hc.step.and P)).weak fun b hb => .inl hb.2
theorem own_elem {α : Type} {f : α → List Value} {sz n k : Nat} {xs : List α} {x : α} {cur : List Value} (htk : cur.take (n * sz) = xs.flatMap f) (hf : ∀ x ∈ xs, (f x).length = sz) (hn : n = xs.length) (hx : xs[k]? = some x) : (cur.drop (0 + k * sz)).take sz = f x := by
  subst hn
  rw [Nat.zero_add]
  obtain ⟨hk, rfl⟩ := List.getElem?_eq_some_iff.1 hx
  have h1 : (k + 1) * sz ≤ xs.length * sz := Nat.mul_le_mul_right sz hk
  have h2 : (cur.drop (k * sz)).take sz = ((cur.take (xs.length * sz)).drop (k * sz)).take sz := by
    rw [List.drop_take, List.take_take, Nat.min_eq_left]
    rw [Nat.add_mul, Nat.one_mul] at h1; omega
  rw [h2, htk]
  conv => lhs; rw [← List.take_append_drop k xs, List.drop_eq_getElem_cons hk]
  rw [List.flatMap_append, List.flatMap_cons]
  have hl : ((xs.take k).flatMap f).length = k * sz := by rw [flatMap_length (fun y hy => hf y (List.mem_of_mem_take hy)), List.length_take, Nat.min_eq_left (by omega)]
  rw [List.drop_left' hl, List.take_left' (hf _ (List.getElem_mem hk))]
theorem own_val {n k : Nat} {xs : List LPair} {x : LPair} {cur : List Value} (htk : cur.take (n * 2) = xs.flatMap LPair.cells) (hn : n = xs.length) (hx : xs[k]? = some x) : nth cur (0 + k * 2 + 1) = some (.string x.v) := by
  have h := own_elem htk pair_len hn hx
  rw [nth_eq]
  have h2 : ((cur.drop (0 + k * 2)).take 2)[1]? = some (.string x.v) := by rw [h]; rfl
  rw [List.getElem?_take] at h2
  simpa using h2
theorem valOf_here {ps : List LPair} {k : ByteArray} (h : OrdP ps) {y : LPair} (hh : hasP ps k = true) (hy : ps[bsI (cK k) ps]? = some y) : valOf ps k = y.v := by
  have : idx (fun p : LPair => p.k.toList == k.toList) ps = some (bsI (cK k) ps) := by
    rw [bs_idx (cK_ord h) (q := fun p : LPair => p.k.toList == k.toList) (fun x _ => by rw [beq_key]; exact decide_eq_decide.2 cK_eq.symm), if_pos ((bsB_has h).trans hh)]
  simp [valOf, this, hy]
theorem does_any (F P : Nat → Prop) (bs : Nat) (pb : Option Nat) (cp rn cr cm : Nat) (Ar Am : Option Addr) (ps : List LPair) (ep : Int) (ms : List LMember) (cur : List Value) (o : LOp) (w : World) (hrow : Row pb ps.length cp 2 cur) (htk : cur.take (ps.length * 2) = ps.flatMap LPair.cells) (hn : ps.length ≤ 10000) (ho : OrdP ps)
    (hom : OwnF (fun b => F b ∧ P b) w 55 34 Am ms.length cm (ms.flatMap LMember.cells)) (hms : ms.length ≤ 10000) (hmw : ∀ m ∈ ms, m.wf) (how : o.wf) (hep : I64 ep) (hkd : 1 ≤ o.kind ∧ o.kind ≤ 7) (htab : Tab F w)
    (hbs : w.heap[bs]? = some (.cells [.slice (pb.map mkA) ps.length cp, .slice Ar rn cr, .int .i64 ep, .slice Am ms.length cm].toArray 28 (0, 0))) (hpb : ∀ b, pb = some b → w.heap[b]? = some (.cells cur.toArray 53 (0, 0))) (hne : pb ≠ some bs) (hF : ∀ k, F k → k ≠ bs ∧ pb ≠ some k) :
    CallsM (bs :: pb.toList) 29 #[.pointer (some ⟨bs, 0, none⟩), .agg o.cells.toArray] w (fun v w' => DidR bs pb P Ar rn cr (did ps ep ms o) w v w') := by
  have hS0 : ∀ e ∈ ([(some bs, 28, [.slice (pb.map mkA) ps.length cp, .slice Ar rn cr, .int .i64 ep, .slice Am ms.length cm]), (pb, 53, cur)] : Sto), ∀ b, e.1 = some b → b ∈ bs :: pb.toList ∧ w.heap[b]? = some (.cells e.2.2.toArray e.2.1 (0, 0)) := fun e he b hb => by
    simp only [List.mem_cons, List.not_mem_nil, or_false] at he
    rcases he with rfl | rfl
    · simp only [Option.some.injEq] at hb; subst hb; exact ⟨by simp, hbs⟩
    · simp only at hb; exact ⟨by simp [hb], hpb b hb⟩
  have hnd : (blks ([(some bs, 28, [.slice (pb.map mkA) ps.length cp, .slice Ar rn cr, .int .i64 ep, .slice Am ms.length cm]), (pb, 53, cur)] : Sto)).Nodup := by
    cases pb with
    | none => simp [blks]
    | some b => simp [blks]; intro h; exact hne (by rw [h])
  have hF2 : ∀ k, k < w.heap.size → F k → True ∧ k ∉ blks ([(some bs, 28, [.slice (pb.map mkA) ps.length cp, .slice Ar rn cr, .int .i64 ep, .slice Am ms.length cm]), (pb, 53, cur)] : Sto) := fun k _ hk => ⟨trivial, fun hm => by
    obtain ⟨e, he, h1⟩ := blks_mem.1 hm
    simp only [List.mem_cons, List.not_mem_nil, or_false] at he
    rcases he with rfl | rfl
    · simp only [Option.some.injEq] at h1; exact (hF k hk).1 h1.symm
    · exact (hF k hk).2 h1⟩
  have hkl := LKey.len_cells how.chg.key
  have hgl := LChange.len_cells how.chg
  have hol := LOp.len_cells how
  have hcl := hrow.len
  have hle := hrow.le
  refine CallsM.enter (bs :: pb.toList) [(some bs, 28, [.slice (pb.map mkA) ps.length cp, .slice Ar rn cr, .int .i64 ep, .slice Am ms.length cm]), (pb, 53, cur)] 163 (fun _ => True) F Tryd.func29 rfl rfl rfl rfl hS0 hnd hF2 ?_
  with_reducible refine JC.seq ?_
  with_reducible refine JC.region ?_
  refine JL.op (JO.box rfl rfl ?_); intro b3
  refine JL.op (JO.val (y_assign) rfl ?_)
  refine JL.op (JO.val (y_assign) rfl ?_)
  with_reducible refine JL.nil ?_
  with_reducible refine JQ.seq (JC.seq ?_)
  refine JC.quiet (by kernel_rfl) ?_
  first | refine JT.val (y_move) rfl ?_
  first | refine JT.val (y_nilCheck rfl) rfl ?_
  refine JT.val (y_ldA 0 rfl rfl rfl rfl) rfl ?_
  first | refine JT.val (y_fieldAddr rfl rfl rfl) rfl ?_
  refine JT.val (y_ld 2 rfl rfl rfl rfl) rfl ?_
  refine JT.callv (fun wc hc => pairs_any (fun _ => True) (pb.map mkA) cp _ _ _ ps o.key wc (hrow.slF htk (fun b hb => ⟨trivial, (hc.own (pb, 53, cur) (by simp) b hb).2⟩)) (by omega)) rfl rfl rfl ⟨_, Tryd.func42, rfl, rfl⟩ ?_
  first | refine JT.val (y_move) rfl ?_
  first | refine JT.val (y_extract rfl rfl) rfl ?_
  first | refine JT.val (y_extract rfl rfl) rfl ?_
  first | refine JT.val (y_assign) rfl ?_
  first | refine JT.val (y_assign) rfl ?_
  refine JT.nil ?_
  with_reducible refine JQ.seq (JC.seq ?_)
  with_reducible refine JC.region ?_
  refine JL.op (JO.val (y_assign) rfl ?_)
  with_reducible refine JL.nil ?_
  with_reducible refine JQ.seq (JC.seq (JC.seq ?_))
  with_reducible refine JC.region ?_
  refine JL.op (JO.val (y_fieldAddr rfl rfl rfl) rfl ?_)
  refine JL.op (JO.val (y_ld 2 rfl rfl rfl rfl) rfl ?_)
  with_reducible refine JL.nil ?_
  with_reducible refine JQ.seq (JC.block (JC.seq ?_))
  with_reducible refine JC.region ?_
  refine JL.op (JO.val (y_eql rfl rfl) rfl ?_)
  refine JL.op (JO.val (y_assign) rfl ?_)
  with_reducible refine JL.nil ?_
  with_reducible refine JQ.seq ?_
  refine JC.cond rfl (fun hk1 => ?_) (fun hk1 => ?_)
  · have hk : o.kind = 1 := by simpa using hk1
    with_reducible refine JC.seq (JC.seq ?_)
    with_reducible refine JC.region ?_
    refine JL.op (JO.val (y_move) rfl ?_)
    refine JL.op (JO.val (y_not rfl) rfl ?_)
    with_reducible refine JL.nil ?_
    with_reducible refine JQ.seq ?_
    refine JC.cond (b := !bsB (cK o.key) ps) rfl (fun hg => ?_) (fun hg => ?_)
    · have hh : hasP ps o.key = false := (bsB_has ho).symm.trans (by simpa using hg)
      with_reducible refine JC.seq ?_
      with_reducible refine JC.region ?_
      refine JL.op (JO.val (y_assign) rfl ?_)
      refine JL.op (JO.val (y_assign) rfl ?_)
      with_reducible refine JL.nil ?_
      with_reducible refine JQ.seq (JC.ret (JQ.seq_ret (JQ.blk_ret (JQ.seq_ret ?_))))
      refine ret_two rfl ResV.tmp ResV.tmp (fun w' hc => ?_)
      rw [show did ps ep ms o = ⟨ps, ep, ms, 7, []⟩ by simp [did, hk, hh]]
      exact did_ret rfl rfl hc rfl rfl hrow htk hom vals_nil
    · have hh : hasP ps o.key = true := (bsB_has ho).symm.trans (by simpa using hg)
      obtain ⟨y, hy, hyk, hlt⟩ := has_here ho hh
      have hvo := valOf_here ho hh hy
      obtain ⟨br, rfl⟩ : ∃ b, pb = some b := by
        cases pb with
        | none => have := (hrow.nil rfl).1; omega
        | some b => exact ⟨b, rfl⟩
      have hval := own_val htk rfl hy
      with_reducible refine JC.skip (JQ.seq ?_)
      with_reducible refine JC.region ?_
      refine JL.op (JO.val (y_move) rfl ?_)
      refine JL.op (JO.val (y_nilCheck rfl) rfl ?_)
      refine JL.op (JO.val (y_fieldAddr rfl rfl rfl) rfl ?_)
      refine JL.op (JO.val (y_ld 0 rfl rfl rfl rfl) rfl ?_)
      refine JL.op (JO.val (y_move) rfl ?_)
      refine JL.op (JO.val (y_idx (b := br) (o := 0) rfl rfl rfl rfl rfl rfl hlt) rfl ?_)
      refine JL.op (JO.val (y_fieldAddr rfl rfl rfl) rfl ?_)
      refine JL.op (JO.val (y_ld 1 rfl rfl rfl hval) rfl ?_)
      refine JL.op (JO.build1 rfl rfl rfl (by first | rfl | assumption) rfl rfl ?_); intro b38
      refine JL.op (JO.val (y_assign) rfl ?_)
      with_reducible refine JL.nil ?_
      with_reducible refine JQ.blk (JQ.seq (JC.seq ?_))
      with_reducible refine JC.region ?_
      refine JL.op (JO.val (y_move) rfl ?_)
      refine JL.op (JO.val (y_assign) rfl ?_)
      refine JL.op (JO.val (y_assign) rfl ?_)
      with_reducible refine JL.nil ?_
      with_reducible refine JQ.seq (JC.ret ?_)
      refine ret_two rfl ResV.tmp ResV.tmp (fun w' hc => ?_)
      rw [show did ps ep ms o = ⟨ps, ep, ms, 0, [y.v]⟩ by simp [did, hk, hh, hvo]]
      exact did_ret rfl rfl hc rfl rfl hrow htk hom (vals_row (j := 1) (ov := some _) (vcur := [.string y.v]) rfl rfl hc rfl rfl rfl ⟨rfl, Nat.le_refl _, by simp [maxLen], fun h => by cases h⟩ rfl)
  with_reducible refine JC.seq ?_
  with_reducible refine JC.region ?_
  refine JL.op (JO.val (y_eql rfl rfl) rfl ?_)
  refine JL.op (JO.val (y_assign) rfl ?_)
  with_reducible refine JL.nil ?_
  with_reducible refine JQ.seq ?_
  refine JC.cond rfl (fun hk2 => ?_) (fun hk2 => ?_)
  · have hk : o.kind = 2 := by simpa using hk2
    with_reducible refine JC.seq ?_
    with_reducible refine JC.region ?_
    refine JL.op (JO.val (y_move) rfl ?_)
    refine JL.op (JO.val (y_fieldAddr rfl rfl rfl) rfl ?_)
    refine JL.op (JO.val (y_ld 2 rfl rfl rfl rfl) rfl ?_)
    refine JL.op (JO.val (y_fieldAddr rfl rfl rfl) rfl ?_)
    refine JL.op (JO.val (y_ld 2 rfl rfl rfl rfl) rfl ?_)
    refine JL.op (JO.callM [0, 1] (bs :: pb.toList) (fun w r w' => ∃ pb' cp' cur', r = .int .i64 (if putB ps o.key = true then 11 else 0) ∧ Row pb' (putPs ps o.key o.val).length cp' 2 cur' ∧ cur'.take ((putPs ps o.key o.val).length * 2) = (putPs ps o.key o.val).flatMap LPair.cells ∧ w'.heap[bs]? = some (.cells [.slice (pb'.map mkA) (putPs ps o.key o.val).length cp', .slice Ar rn cr, .int .i64 ep, .slice Am ms.length cm].toArray 28 (0, 0)) ∧ ∀ b, pb' = some b → (pb = some b ∨ w.heap.size ≤ b) ∧ w'.heap[b]? = some (.cells cur'.toArray 53 (0, 0))) (fun wc hc => put_any bs pb cp _ _ _ ps cur o.key o.val wc hrow htk hn ho (hc.own (some bs, 28, [.slice (pb.map mkA) ps.length cp, .slice Ar rn cr, .int .i64 ep, .slice Am ms.length cm]) (by simp) bs rfl).2 (fun b hb => (hc.own (pb, 53, cur) (by simp) b hb).2) hne rfl rfl rfl) rfl rfl rfl ?_ ?_ ?_)
    · intro b hb
      rcases List.mem_cons.1 hb with h1 | h1
      · exact ⟨(some bs, 28, [.slice (pb.map mkA) ps.length cp, .slice Ar rn cr, .int .i64 ep, .slice Am ms.length cm]), by simp, by rw [h1]⟩
      · exact ⟨(pb, 53, cur), by simp, by simpa using h1⟩
    · intro hnd2 e he b hb hm
      obtain ⟨k, hk1', hk2', hk3'⟩ := blank2 he hb
      rcases List.mem_cons.1 hm with h1 | h1
      · exact hk1' (nodup_at (f := fun e : Ent => e.1) hnd2 hk3' (j := 0) rfl hb (by rw [h1]))
      · exact hk2' (nodup_at (f := fun e : Ent => e.1) hnd2 hk3' (j := 1) rfl hb (show pb = some b by simpa using h1))
    rintro wc v wn hc hc' hst hsz hfr hsz' ⟨pb', cp', cur', rfl, hrow', htk', hbs', hpb'⟩
    have hnb : ∀ b, (b = bs ∨ pb = some b ∨ wc.heap.size ≤ b) → b ∉ blks (blank [0, 1] ([(some bs, 28, [.slice (pb.map mkA) ps.length cp, .slice Ar rn cr, .int .i64 ep, .slice Am ms.length cm]), (pb, 53, cur), (some b3, 39, o.cells)] : Sto)) := by
      intro b hb hm
      obtain ⟨e, he, h1⟩ := blks_mem.1 hm
      obtain ⟨k, hk1', hk2', hk3'⟩ := blank2 he h1
      rcases hb with hb | hb | hb
      · exact hk1' (nodup_at (f := fun e : Ent => e.1) hc.nodup hk3' (j := 0) rfl h1 (by rw [hb]))
      · exact hk2' (nodup_at (f := fun e : Ent => e.1) hc.nodup hk3' (j := 1) rfl h1 hb)
      · have := hc.lt (blks_mem.2 ⟨e, List.mem_of_getElem? hk3', h1⟩); omega
    refine ⟨_, _, hc'.rebase, ?_⟩
    refine JL.op (JO.val (y_assign) rfl ?_)
    refine JL.op (JO.val (y_assign) rfl ?_)
    with_reducible refine JL.nil ?_
    with_reducible refine JQ.seq (JC.ret (JQ.blk_ret (JQ.seq_ret ?_)))
    refine ret_two rfl ResV.tmp ResV.tmp (fun w' hc2 => ?_)
    rw [show did ps ep ms o = ⟨putPs ps o.key o.val, ep, ms, if putB ps o.key = true then 11 else 0, []⟩ by unfold did; rw [if_neg (by omega), if_neg (by omega), if_pos hk]]
    have hkeep : ∀ b, (b = bs ∨ pb = some b ∨ wc.heap.size ≤ b) → ∀ ob, wn.heap[b]? = some ob → w'.heap[b]? = some ob := fun b hb ob hob =>
      ((hc2.step b (Array.getElem?_eq_some_iff.1 hob).1 ⟨.inl trivial, hnb b hb⟩).1).trans hob
    refine ⟨pb', cp', cur', Am, cm, none, 0, rfl, hkeep bs (.inl rfl) _ hbs', hrow', htk', fun b hb => ⟨?_, hkeep b (.inr (hpb' b hb).1) _ (hpb' b hb).2⟩, ?_, vals_nil⟩
    · rcases (hpb' b hb).1 with h1 | h1
      · exact .inl h1
      · exact .inr (Nat.le_trans hsz h1)
    · have h5 := hom.step (hst.and P)
      refine (h5.step ((hc2.step.and P).mono (fun k hk => ⟨⟨hk.1.1, fun hm => hk.1.2 (blankGo_sub.subset hm)⟩, hk.2⟩) (fun k hk => hk))).weak fun b hb => .inl hb.2
  with_reducible refine JC.seq ?_
  with_reducible refine JC.region ?_
  refine JL.op (JO.val (y_eql rfl rfl) rfl ?_)
  refine JL.op (JO.val (y_assign) rfl ?_)
  with_reducible refine JL.nil ?_
  with_reducible refine JQ.seq ?_
  refine JC.cond rfl (fun hk3 => ?_) (fun hk3 => ?_)
  · have hk : o.kind = 3 := by simpa using hk3
    with_reducible refine JC.seq (JC.seq ?_)
    with_reducible refine JC.region ?_
    refine JL.op (JO.val (y_move) rfl ?_)
    refine JL.op (JO.val (y_not rfl) rfl ?_)
    with_reducible refine JL.nil ?_
    with_reducible refine JQ.seq ?_
    refine JC.cond (b := !bsB (cK o.key) ps) rfl (fun hg => ?_) (fun hg => ?_)
    · have hh : hasP ps o.key = false := (bsB_has ho).symm.trans (by simpa using hg)
      with_reducible refine JC.seq ?_
      with_reducible refine JC.region ?_
      refine JL.op (JO.val (y_assign) rfl ?_)
      refine JL.op (JO.val (y_assign) rfl ?_)
      with_reducible refine JL.nil ?_
      with_reducible refine JQ.seq (JC.ret (JQ.seq_ret (JQ.blk_ret (JQ.seq_ret ?_))))
      refine ret_two rfl ResV.tmp ResV.tmp (fun w' hc => ?_)
      rw [show did ps ep ms o = ⟨ps, ep, ms, 7, []⟩ by simp [did, hk, hh]]
      exact did_ret rfl rfl hc rfl rfl hrow htk hom vals_nil
    · have hh : hasP ps o.key = true := (bsB_has ho).symm.trans (by simpa using hg)
      obtain ⟨y, hy, hyk, hlt⟩ := has_here ho hh
      have hvo := valOf_here ho hh hy
      obtain ⟨br, rfl⟩ : ∃ b, pb = some b := by
        cases pb with
        | none => have := (hrow.nil rfl).1; omega
        | some b => exact ⟨b, rfl⟩
      have hval := own_val htk rfl hy
      with_reducible refine JC.skip (JQ.seq ?_)
      with_reducible refine JC.region ?_
      refine JL.op (JO.val (y_move) rfl ?_)
      refine JL.op (JO.val (y_move) rfl ?_)
      refine JL.op (JO.val (y_nilCheck rfl) rfl ?_)
      refine JL.op (JO.val (y_fieldAddr rfl rfl rfl) rfl ?_)
      refine JL.op (JO.val (y_ld 0 rfl rfl rfl rfl) rfl ?_)
      refine JL.op (JO.val (y_move) rfl ?_)
      refine JL.op (JO.val (y_move) rfl ?_)
      refine JL.op (JO.val (y_add rfl rfl (natAdd (Nat.le_of_lt hlt) (by omega))) rfl ?_)
      refine JL.op (JO.del_49 1 LPair.cells rfl rfl rfl rfl rfl hrow htk pair_len (fun p _ => LPair.one p) hlt (by omega) ?_)
      rintro cur' F' w' hrow' htk' hst' hsz'
      refine JL.op (JO.val (y_nilCheck rfl) rfl ?_)
      refine JL.op (JO.val (y_fieldAddr rfl rfl rfl) rfl ?_)
      refine JL.op (JO.store1 0 rfl rfl rfl rfl rfl rfl rfl ?_)
      with_reducible refine JL.nil ?_
      with_reducible refine JQ.blk (JQ.seq (JC.seq ?_))
      with_reducible refine JC.region ?_
      refine JL.op (JO.val (y_move) rfl ?_)
      refine JL.op (JO.val (y_assign) rfl ?_)
      refine JL.op (JO.val (y_assign) rfl ?_)
      with_reducible refine JL.nil ?_
      with_reducible refine JQ.seq (JC.ret ?_)
      refine ret_two rfl ResV.tmp ResV.tmp (fun w2 hc => ?_)
      rw [show did ps ep ms o = ⟨ps.take (bsI (cK o.key) ps) ++ ps.drop (bsI (cK o.key) ps + 1), ep, ms, 0, []⟩ by unfold did; rw [if_neg (by rw [hh]; simp), if_neg (by omega), if_neg (by omega), if_pos hk, without_cut ho hh]]
      exact did_ret rfl rfl hc rfl rfl hrow' htk' (hom.step (hst'.and P)) vals_nil
  with_reducible refine JC.seq ?_
  with_reducible refine JC.region ?_
  refine JL.op (JO.val (y_eql rfl rfl) rfl ?_)
  refine JL.op (JO.val (y_assign) rfl ?_)
  with_reducible refine JL.nil ?_
  with_reducible refine JQ.seq ?_
  refine JC.cond rfl (fun hk4 => ?_) (fun hk4 => ?_)
  · have hk : o.kind = 4 := by simpa using hk4
    with_reducible refine JC.seq (JC.seq ?_)
    with_reducible refine JC.region ?_
    refine JL.op (JO.val (y_move) rfl ?_)
    refine JL.op (JO.val (y_not rfl) rfl ?_)
    with_reducible refine JL.nil ?_
    with_reducible refine JQ.seq ?_
    refine JC.cond (b := !bsB (cK o.key) ps) rfl (fun hg => ?_) (fun hg => ?_)
    · have hh : hasP ps o.key = false := (bsB_has ho).symm.trans (by simpa using hg)
      with_reducible refine JC.seq ?_
      with_reducible refine JC.region ?_
      refine JL.op (JO.val (y_assign) rfl ?_)
      refine JL.op (JO.val (y_assign) rfl ?_)
      with_reducible refine JL.nil ?_
      with_reducible refine JQ.seq (JC.ret (JQ.seq_ret (JQ.blk_ret (JQ.seq_ret ?_))))
      refine ret_two rfl ResV.tmp ResV.tmp (fun w' hc => ?_)
      rw [show did ps ep ms o = ⟨ps, ep, ms, 7, []⟩ by simp [did, hk, hh]]
      exact did_ret rfl rfl hc rfl rfl hrow htk hom vals_nil
    · have hh : hasP ps o.key = true := (bsB_has ho).symm.trans (by simpa using hg)
      obtain ⟨y, hy, hyk, hlt⟩ := has_here ho hh
      have hvo := valOf_here ho hh hy
      obtain ⟨br, rfl⟩ : ∃ b, pb = some b := by
        cases pb with
        | none => have := (hrow.nil rfl).1; omega
        | some b => exact ⟨b, rfl⟩
      have hval := own_val htk rfl hy
      with_reducible refine JC.skip (JQ.seq (JC.seq (JC.seq ?_)))
      refine JC.quiet (by kernel_rfl) ?_
      first | refine JT.val (y_move) rfl ?_
      first | refine JT.val (y_nilCheck rfl) rfl ?_
      first | refine JT.val (y_fieldAddr rfl rfl rfl) rfl ?_
      refine JT.val (y_ld 0 rfl rfl rfl rfl) rfl ?_
      first | refine JT.val (y_move) rfl ?_
      refine JT.val (y_idx (b := br) (o := 0) rfl rfl rfl rfl rfl rfl hlt) rfl ?_
      first | refine JT.val (y_fieldAddr rfl rfl rfl) rfl ?_
      refine JT.val (y_ld 1 rfl rfl rfl hval) rfl ?_
      first | refine JT.val (y_fieldAddr rfl rfl rfl) rfl ?_
      refine JT.val (y_ld 2 rfl rfl rfl rfl) rfl ?_
      first | refine JT.val (y_nes rfl rfl) rfl ?_
      refine JT.nil ?_
      with_reducible refine JQ.seq ?_
      refine JC.cond rfl (fun hg2 => ?_) (fun hg2 => ?_)
      · have hne2 : (y.v.toList == o.old.toList) = false := by simpa using hg2
        with_reducible refine JC.seq ?_
        refine JC.held [0, 1, 2] ?_
        refine JH.take 0 rfl (by kernel_rfl) (by kernel_rfl) (by kernel_rfl) (fun _ _ _ => y_move) rfl (by repeat (first | exact np_fun | exact np_inv | refine np_seq ?_ | refine np_blk ?_ | refine np_loop ?_)) (⟨rfl, rfl, rfl, trivial⟩) ?_
        refine JH.take 1 rfl (by kernel_rfl) (by kernel_rfl) (by kernel_rfl) (fun _ _ _ => y_nilCheck rfl) rfl (by repeat (first | exact np_fun | exact np_inv | refine np_seq ?_ | refine np_blk ?_ | refine np_loop ?_)) (⟨rfl, rfl, rfl, trivial⟩) ?_
        refine JH.take 2 rfl (by kernel_rfl) (by kernel_rfl) (by kernel_rfl) (fun _ _ _ => y_fieldAddr rfl rfl rfl) rfl (by repeat (first | exact np_fun | exact np_inv | refine np_seq ?_ | refine np_blk ?_ | refine np_loop ?_)) (⟨rfl, rfl, rfl, trivial⟩) ?_
        refine JH.take 3 rfl (by kernel_rfl) (by kernel_rfl) (by kernel_rfl) (fun _ _ _ => y_ld 0 rfl rfl rfl rfl) rfl (by repeat (first | exact np_fun | exact np_inv | refine np_seq ?_ | refine np_blk ?_ | refine np_loop ?_)) (⟨rfl, rfl, rfl, trivial⟩) ?_
        refine JH.take 4 rfl (by kernel_rfl) (by kernel_rfl) (by kernel_rfl) (fun _ _ _ => y_move) rfl (by repeat (first | exact np_fun | exact np_inv | refine np_seq ?_ | refine np_blk ?_ | refine np_loop ?_)) (⟨rfl, rfl, rfl, trivial⟩) ?_
        refine JH.take 5 rfl (by kernel_rfl) (by kernel_rfl) (by kernel_rfl) (fun _ _ _ => y_idx (b := br) (o := 0) rfl rfl rfl rfl rfl rfl hlt) rfl (by repeat (first | exact np_fun | exact np_inv | refine np_seq ?_ | refine np_blk ?_ | refine np_loop ?_)) (⟨rfl, rfl, rfl, trivial⟩) ?_
        refine JH.take 6 rfl (by kernel_rfl) (by kernel_rfl) (by kernel_rfl) (fun _ _ _ => y_fieldAddr rfl rfl rfl) rfl (by repeat (first | exact np_fun | exact np_inv | refine np_seq ?_ | refine np_blk ?_ | refine np_loop ?_)) (⟨rfl, rfl, rfl, trivial⟩) ?_
        refine JH.take 7 rfl (by kernel_rfl) (by kernel_rfl) (by kernel_rfl) (fun _ _ _ => y_ld 1 rfl rfl rfl hval) rfl (by repeat (first | exact np_fun | exact np_inv | refine np_seq ?_ | refine np_blk ?_ | refine np_loop ?_)) (⟨rfl, rfl, rfl, trivial⟩) ?_
        refine JH.take 9 rfl (by kernel_rfl) (by kernel_rfl) (by kernel_rfl) (fun _ _ _ => y_assign) rfl (by repeat (first | exact np_fun | exact np_inv | refine np_seq ?_ | refine np_blk ?_ | refine np_loop ?_)) (⟨rfl, rfl, rfl, trivial⟩) ?_
        refine JH.one 8 (by kernel_rfl) (JI.op rfl ?_)
        refine (JO.build1 rfl rfl rfl (by first | rfl | assumption) rfl rfl ?_); intro b85
        refine ⟨⟨rfl, rfl, rfl, trivial⟩, ?_⟩
        refine JH.take 10 rfl (by kernel_rfl) (by kernel_rfl) (by kernel_rfl) (fun _ _ _ => y_assign) rfl (by repeat (first | exact np_fun | exact np_inv | refine np_seq ?_ | refine np_blk ?_ | refine np_loop ?_)) (⟨rfl, rfl, rfl, trivial⟩) ?_
        refine JH.done (by kernel_rfl) ?_
        with_reducible refine JQ.seq (JC.ret (JQ.seq_ret (JQ.blk_ret (JQ.seq_ret ?_))))
        refine ret_two rfl ResV.tmp ResV.tmp (fun w' hc => ?_)
        rw [show did ps ep ms o = ⟨ps, ep, ms, 9, [y.v]⟩ by unfold did; rw [if_neg (by rw [hh]; simp), if_neg (by omega), if_neg (by omega), if_neg (by omega), if_pos hk, hvo, if_neg (by rw [hne2]; simp)]]
        exact did_ret rfl rfl hc rfl rfl hrow htk hom (vals_row (j := 1) (ov := some _) (vcur := [.string y.v]) rfl rfl hc rfl rfl rfl ⟨rfl, Nat.le_refl _, by simp [maxLen], fun h => by cases h⟩ rfl)
      · have hne2 : (y.v.toList == o.old.toList) = true := by simpa using hg2
        have hput : withP ⟨o.key, o.val⟩ ps = ps.take (bsI (cK o.key) ps) ++ ⟨y.k, o.val⟩ :: ps.drop (bsI (cK o.key) ps + 1) := by
          rw [with_cut ho, if_pos hh, hyk]
        have hlen : (withP ⟨o.key, o.val⟩ ps).length = ps.length := by rw [hput]; simp; omega
        with_reducible refine JC.skip (JQ.seq ?_)
        refine JC.held [0, 2] ?_
        refine JH.take 0 rfl (by kernel_rfl) (by kernel_rfl) (by kernel_rfl) (fun _ _ _ => y_move) rfl (by repeat (first | exact np_fun | exact np_inv | refine np_seq ?_ | refine np_blk ?_ | refine np_loop ?_)) (⟨rfl, rfl, trivial⟩) ?_
        refine JH.take 1 rfl (by kernel_rfl) (by kernel_rfl) (by kernel_rfl) (fun _ _ _ => y_nilCheck rfl) rfl (by repeat (first | exact np_fun | exact np_inv | refine np_seq ?_ | refine np_blk ?_ | refine np_loop ?_)) (⟨rfl, rfl, trivial⟩) ?_
        refine JH.take 2 rfl (by kernel_rfl) (by kernel_rfl) (by kernel_rfl) (fun _ _ _ => y_fieldAddr rfl rfl rfl) rfl (by repeat (first | exact np_fun | exact np_inv | refine np_seq ?_ | refine np_blk ?_ | refine np_loop ?_)) (⟨rfl, rfl, trivial⟩) ?_
        refine JH.take 3 rfl (by kernel_rfl) (by kernel_rfl) (by kernel_rfl) (fun _ _ _ => y_ld 0 rfl rfl rfl rfl) rfl (by repeat (first | exact np_fun | exact np_inv | refine np_seq ?_ | refine np_blk ?_ | refine np_loop ?_)) (⟨rfl, rfl, trivial⟩) ?_
        refine JH.take 4 rfl (by kernel_rfl) (by kernel_rfl) (by kernel_rfl) (fun _ _ _ => y_move) rfl (by repeat (first | exact np_fun | exact np_inv | refine np_seq ?_ | refine np_blk ?_ | refine np_loop ?_)) (⟨rfl, rfl, trivial⟩) ?_
        refine JH.take 5 rfl (by kernel_rfl) (by kernel_rfl) (by kernel_rfl) (fun _ _ _ => y_fieldAddr rfl rfl rfl) rfl (by repeat (first | exact np_fun | exact np_inv | refine np_seq ?_ | refine np_blk ?_ | refine np_loop ?_)) (⟨rfl, rfl, trivial⟩) ?_
        refine JH.take 6 rfl (by kernel_rfl) (by kernel_rfl) (by kernel_rfl) (fun _ _ _ => y_ld 2 rfl rfl rfl rfl) rfl (by repeat (first | exact np_fun | exact np_inv | refine np_seq ?_ | refine np_blk ?_ | refine np_loop ?_)) (⟨rfl, rfl, trivial⟩) ?_
        refine JH.take 7 rfl (by kernel_rfl) (by kernel_rfl) (by kernel_rfl) (fun _ _ _ => y_idx (b := br) (o := 0) rfl rfl rfl rfl rfl rfl hlt) rfl (by repeat (first | exact np_fun | exact np_inv | refine np_seq ?_ | refine np_blk ?_ | refine np_loop ?_)) (⟨rfl, rfl, trivial⟩) ?_
        refine JH.take 8 rfl (by kernel_rfl) (by kernel_rfl) (by kernel_rfl) (fun _ _ _ => y_fieldAddr rfl rfl rfl) rfl (by repeat (first | exact np_fun | exact np_inv | refine np_seq ?_ | refine np_blk ?_ | refine np_loop ?_)) (⟨rfl, rfl, trivial⟩) ?_
        refine JH.one 9 (by kernel_rfl) (JI.op rfl ?_)
        refine (JO.store1 1 rfl rfl rfl rfl rfl (by rw [hcl]; simp [Nat.blt_eq]; show bsI (cK o.key) ps * 2 + 1 < _; omega) rfl ?_)
        refine ⟨⟨rfl, rfl, trivial⟩, ?_⟩
        refine JH.done (by kernel_rfl) ?_
        with_reducible refine JQ.blk (JQ.seq (JC.seq ?_))
        with_reducible refine JC.region ?_
        refine JL.op (JO.val (y_move) rfl ?_)
        refine JL.op (JO.val (y_assign) rfl ?_)
        refine JL.op (JO.val (y_assign) rfl ?_)
        with_reducible refine JL.nil ?_
        with_reducible refine JQ.seq (JC.ret ?_)
        refine ret_two rfl ResV.tmp ResV.tmp (fun w' hc => ?_)
        rw [show did ps ep ms o = ⟨withP ⟨o.key, o.val⟩ ps, ep, ms, 0, []⟩ by unfold did; rw [if_neg (by rw [hh]; simp), if_neg (by omega), if_neg (by omega), if_neg (by omega), if_pos hk, hvo, if_pos hne2]]
        refine did_ret (cp := cp) (cur := sset cur (0 + bsI (cK o.key) ps * 2 + 1) (.string o.val)) rfl rfl hc (by rw [hlen]; rfl) rfl ?_ ?_ hom vals_nil
        · rw [hlen]; exact ⟨by rw [sset_eq, List.length_set]; exact hrow.len, hrow.le, hrow.max, hrow.nil⟩
        · rw [hlen, hput]; exact set_val htk rfl hy
  with_reducible refine JC.seq ?_
  with_reducible refine JC.region ?_
  refine JL.op (JO.val (y_eql rfl rfl) rfl ?_)
  refine JL.op (JO.val (y_assign) rfl ?_)
  with_reducible refine JL.nil ?_
  with_reducible refine JQ.seq ?_
  refine JC.cond rfl (fun hk5 => ?_) (fun hk5 => ?_)
  · have hk : o.kind = 5 := by simpa using hk5
    with_reducible refine JC.seq ?_
    with_reducible refine JC.region ?_
    refine JL.op (JO.val (y_move) rfl ?_)
    refine JL.op (JO.val (y_nilCheck rfl) rfl ?_)
    refine JL.op (JO.val (y_fieldAddr rfl rfl rfl) rfl ?_)
    refine JL.op (JO.val (y_ld 0 rfl rfl rfl rfl) rfl ?_)
    refine JL.op (JO.val (y_len rfl rfl) rfl ?_)
    refine JL.op (JO.val (y_move) rfl ?_)
    with_reducible refine JL.nil ?_
    with_reducible refine JQ.seq (JC.block ?_)
    refine JC.addNone 9 ?_
    refine JC.loop (fun m E S F' w1' => ∃ k ob cap' vcur out, m = ps.length - k ∧ k ≤ ps.length ∧ out.length ≤ k ∧ out = ((ps.take k).filter (fun p => hasPre p.k o.key)).map (·.k) ∧ Row ob out.length cap' 1 vcur ∧ vcur.take (out.length * 1) = out.flatMap sstr ∧ S = [(some bs, 28, [.slice (pb.map mkA) ps.length cp, .slice Ar rn cr, .int .i64 ep, .slice Am ms.length cm]), (pb, 53, cur), (some b3, 39, o.cells), (ob, 9, vcur)] ∧ F' = F ∧ w1' = w ∧
        Has E [(3, .pointer (some ⟨b3, 0, none⟩)), (8, .slice (ob.map mkA) out.length cap'), (100, .slice (pb.map mkA) ps.length cp), (101, .int .i64 (ps.length : Nat)), (102, .int .i64 (k : Nat))])
      _ ⟨0, none, 0, [], [], rfl, Nat.zero_le _, Nat.zero_le _, rfl, Row.none _, rfl, rfl, rfl, rfl, ⟨rfl, rfl, rfl, rfl, rfl, trivial⟩⟩ ?_
    rintro m E S F' w1' ⟨k, ob, cap', vcur, out, rfl, hkk, hol', hout, hvrow, hvtk, rfl, rfl, rfl, hE⟩
    refine JC.env hE (fun E => ?_)
    with_reducible refine JC.seq ?_
    with_reducible refine JC.region ?_
    refine JL.op (JO.val (y_lss rfl rfl) rfl ?_)
    with_reducible refine JL.nil ?_
    with_reducible refine JQ.seq (JC.seq ?_)
    by_cases hlt : k < ps.length
    · have hd : decide ((k : Int) < (ps.length : Int)) = true := by simpa using hlt
      refine JC.cond_true (congrArg Value.bool hd) ?_
      obtain ⟨x, hx⟩ : ∃ x, ps[k]? = some x := ⟨ps[k], by simp [hlt]⟩
      obtain ⟨br, rfl⟩ : ∃ b, pb = some b := by
        cases pb with
        | none => have := (hrow.nil rfl).1; omega
        | some b => exact ⟨b, rfl⟩
      have hks := keep_snoc (p := fun p : LPair => hasPre p.k o.key) hx
      have hxl : x.cells.length = 2 := rfl
      have hx1 : allOne x.cells = true := rfl
      with_reducible refine JC.skip (JQ.seq (JC.seq (JC.block (JC.seq ?_))))
      with_reducible refine JC.region ?_
      refine JL.op (JO.val (y_idx (b := br) (o := 0) rfl rfl rfl rfl rfl rfl hlt) rfl ?_)
      refine JL.op (JO.val (y_ldP 1 rfl rfl rfl (own_elem htk pair_len rfl hx) (by rw [hcl]; simp; omega)) rfl ?_)
      refine JL.op (JO.alloc rfl rfl ?_); intro b10
      refine JL.op (JO.storeA 4 rfl rfl rfl rfl (by first | rfl | assumption) (by first | rfl | assumption) (by first | rfl | assumption) ?_)
      with_reducible refine JL.nil ?_
      with_reducible refine JQ.seq (JC.seq ?_)
      with_reducible refine JC.region ?_
      refine JL.op (JO.val (y_fieldAddr rfl rfl rfl) rfl ?_)
      refine JL.op (JO.val (y_ld 4 rfl rfl rfl rfl) rfl ?_)
      refine JL.op (JO.val (y_fieldAddr rfl rfl rfl) rfl ?_)
      refine JL.op (JO.val (y_ld 2 rfl rfl rfl rfl) rfl ?_)
      refine JL.op (JO.callv (fun wc hc => prefix2_any x.k o.key wc) rfl rfl rfl ?_)
      with_reducible refine JL.nil ?_
      with_reducible refine JQ.seq ?_
      refine JC.cond rfl (fun hg => ?_) (fun hg => ?_)
      · rw [if_pos hg] at hks
        with_reducible refine JC.region ?_
        refine JL.op (JO.val (y_move) rfl ?_)
        refine JL.op (JO.val (y_fieldAddr rfl rfl rfl) rfl ?_)
        refine JL.op (JO.val (y_ld 4 rfl rfl rfl rfl) rfl ?_)
        refine JL.op (JO.build1 rfl rfl rfl (by first | rfl | assumption) rfl rfl ?_); intro b114
        refine JL.op (JO.append 3 (ob := ob) (sstr x.k) rfl rfl rfl rfl rfl rfl rfl hvrow rfl (fun h => by cases h) (fun w2 hc => hc.src (i := 5) rfl) (sstr_one _) (room_max (by omega)) (by omega) ?_)
        intro ob' cap'' cur' hrow' htk' _
        refine JL.op (JO.val (y_assign) rfl ?_)
        with_reducible refine JL.nil ?_
        with_reducible refine JQ.blk (JQ.seq ?_)
        with_reducible refine JC.region ?_
        refine JL.op (JO.val (y_add rfl rfl (natAdd hkk (by omega))) rfl ?_)
        refine JL.op (JO.val (y_move) rfl ?_)
        with_reducible refine JL.nil ?_
        refine JQ.takeN 4 ?_
        refine JQ.loop (ps.length - (k + 1)) ⟨k + 1, ob', cap'', cur', out ++ [x.k], rfl, hlt, by simp; omega, by rw [hks, hout]; simp, ?_, ?_, rfl, rfl, rfl, ⟨rfl, ?_, rfl, rfl, rfl, trivial⟩⟩ (by omega)
        · rw [List.length_append]; exact hrow'
        · rw [List.length_append]; exact cur_snoc hvtk htk'
        · rw [List.length_append]; rfl
      · rw [if_neg (by rw [hg]; simp), List.append_nil] at hks
        with_reducible refine JC.skip (JQ.blk (JQ.seq ?_))
        with_reducible refine JC.region ?_
        refine JL.op (JO.val (y_add rfl rfl (natAdd hkk (by omega))) rfl ?_)
        refine JL.op (JO.val (y_move) rfl ?_)
        with_reducible refine JL.nil ?_
        refine JQ.takeN 4 ?_
        exact JQ.loop (ps.length - (k + 1)) ⟨k + 1, ob, cap', vcur, out, rfl, hlt, by omega, by rw [hks, hout], hvrow, hvtk, rfl, rfl, rfl, ⟨rfl, rfl, rfl, rfl, rfl, trivial⟩⟩ (by omega)
    · have hd : decide ((k : Int) < (ps.length : Int)) = false := by simpa using hlt
      refine JC.cond_false (congrArg Value.bool hd) ?_
      obtain rfl : k = ps.length := by omega
      rw [List.take_length] at hout
      with_reducible refine JC.exit (JQ.seq_exit (JQ.loop_exit (JQ.blk_here (JQ.blk (JQ.seq (JC.seq ?_))))))
      with_reducible refine JC.region ?_
      refine JL.op (JO.val (y_move) rfl ?_)
      refine JL.op (JO.val (y_assign) rfl ?_)
      refine JL.op (JO.val (y_assign) rfl ?_)
      with_reducible refine JL.nil ?_
      with_reducible refine JQ.seq (JC.ret ?_)
      refine ret_two rfl ResV.tmp ResV.tmp (fun w' hc => ?_)
      rw [show did ps ep ms o = ⟨ps, ep, ms, 0, out⟩ by unfold did; rw [if_neg (by omega), if_neg (by omega), if_neg (by omega), if_neg (by omega), if_neg (by omega), if_pos hk, hout]]
      exact did_ret rfl rfl hc rfl rfl hrow htk hom (vals_row (j := 1) rfl rfl hc rfl rfl rfl hvrow hvtk)
  with_reducible refine JC.seq ?_
  with_reducible refine JC.region ?_
  refine JL.op (JO.val (y_eql rfl rfl) rfl ?_)
  refine JL.op (JO.val (y_assign) rfl ?_)
  with_reducible refine JL.nil ?_
  with_reducible refine JQ.seq ?_
  refine JC.cond rfl (fun hk6 => ?_) (fun hk6 => ?_)
  · have hk : o.kind = 6 := by simpa using hk6
    have hmr : RMems F w Am cm ms := SlF.step hom.slF (Step.weak fun _ h => h.1) (by omega)
    with_reducible refine JC.seq ?_
    with_reducible refine JC.region ?_
    refine JL.op (JO.val (y_move) rfl ?_)
    refine JL.op (JO.val (y_nilCheck rfl) rfl ?_)
    refine JL.op (JO.val (y_fieldAddr rfl rfl rfl) rfl ?_)
    refine JL.op (JO.val (y_fieldAddr rfl rfl rfl) rfl ?_)
    refine JL.op (JO.val (y_ld 0 rfl rfl rfl rfl) rfl ?_)
    refine JL.op (JO.callv (fun wc hc => itoa_any _ ep hep wc (htab.step hc.step)) rfl rfl rfl ?_)
    refine JL.op (JO.build1 rfl rfl rfl (by first | rfl | assumption) rfl rfl ?_); intro b125
    refine JL.op (JO.val (y_assign) rfl ?_)
    with_reducible refine JL.nil ?_
    with_reducible refine JQ.seq (JC.seq ?_)
    with_reducible refine JC.region ?_
    refine JL.op (JO.val (y_move) rfl ?_)
    refine JL.op (JO.val (y_nilCheck rfl) rfl ?_)
    refine JL.op (JO.val (y_fieldAddr rfl rfl rfl) rfl ?_)
    refine JL.op (JO.val (y_fieldAddr rfl rfl rfl) rfl ?_)
    refine JL.op (JO.val (y_ld 0 rfl rfl rfl rfl) rfl ?_)
    refine JL.op (JO.val (y_len rfl rfl) rfl ?_)
    refine JL.op (JO.val (y_move) rfl ?_)
    with_reducible refine JL.nil ?_
    with_reducible refine JQ.seq (JC.block ?_)
    refine JC.loop (fun m E S F' w1' => ∃ k ob cap' vcur out, m = ms.length - k ∧ k ≤ ms.length ∧ out.length = k + 1 ∧ out = itoaB ep :: (ms.take k).map (fun m => itoaB m.id) ∧ Row ob out.length cap' 1 vcur ∧ vcur.take (out.length * 1) = out.flatMap sstr ∧ S = [(some bs, 28, [.slice (pb.map mkA) ps.length cp, .slice Ar rn cr, .int .i64 ep, .slice Am ms.length cm]), (pb, 53, cur), (some b3, 39, o.cells), (ob, 9, vcur)] ∧ F' = F ∧ w1' = w ∧
        Has E [(3, .pointer (some ⟨b3, 0, none⟩)), (8, .slice (ob.map mkA) out.length cap'), (130, .slice Am ms.length cm), (131, .int .i64 (ms.length : Nat)), (132, .int .i64 (k : Nat))])
      _ ⟨0, some b125, 1, [.string (itoaB ep)], [itoaB ep], rfl, Nat.zero_le _, rfl, rfl, ⟨rfl, Nat.le_refl _, by simp [maxLen], fun h => by cases h⟩, rfl, rfl, rfl, rfl, ⟨rfl, rfl, rfl, rfl, rfl, trivial⟩⟩ ?_
    rintro m E S F' w1' ⟨k, ob, cap', vcur, out, rfl, hkk, hol', hout, hvrow, hvtk, rfl, rfl, rfl, hE⟩
    refine JC.env hE (fun E => ?_)
    with_reducible refine JC.seq ?_
    with_reducible refine JC.region ?_
    refine JL.op (JO.val (y_lss rfl rfl) rfl ?_)
    with_reducible refine JL.nil ?_
    with_reducible refine JQ.seq (JC.seq ?_)
    by_cases hlt : k < ms.length
    · have hd : decide ((k : Int) < (ms.length : Int)) = true := by simpa using hlt
      refine JC.cond_true (congrArg Value.bool hd) ?_
      obtain ⟨x, hx⟩ : ∃ x, ms[k]? = some x := ⟨ms[k], by simp [hlt]⟩
      have hxw := hmw x (List.mem_of_getElem? hx)
      have hxl := LMember.len_cells hxw
      have hx1 := LMember.all1 hxw
      obtain ⟨b, o', hA, hat⟩ := SlF.elem hmr (fun m hm => LMember.len_cells (hmw m hm)) rfl hx
      with_reducible refine JC.skip (JQ.seq (JC.seq (JC.block (JC.seq ?_))))
      with_reducible refine JC.region ?_
      refine JL.op (JO.val (y_idx (b := b) (o := o') rfl rfl rfl rfl hA rfl hlt) rfl ?_)
      refine JL.op (JO.val (y_lddA rfl rfl hat (by first | rfl | assumption)) rfl ?_)
      refine JL.op (JO.alloc rfl rfl ?_); intro b12
      refine JL.op (JO.storeA 4 rfl rfl rfl rfl (by first | rfl | assumption) (by first | rfl | assumption) (by first | rfl | assumption) ?_)
      with_reducible refine JL.nil ?_
      with_reducible refine JQ.seq ?_
      with_reducible refine JC.region ?_
      refine JL.op (JO.val (y_move) rfl ?_)
      refine JL.op (JO.val (y_fieldAddr rfl rfl rfl) rfl ?_)
      refine JL.op (JO.val (y_ld 4 rfl rfl rfl rfl) rfl ?_)
      refine JL.op (JO.callv (fun wc hc => itoa_any _ x.id hxw.id wc (htab.step hc.step)) rfl rfl rfl ?_)
      refine JL.op (JO.build1 rfl rfl rfl (by first | rfl | assumption) rfl rfl ?_); intro b140
      refine JL.op (JO.append 3 (ob := ob) (sstr (itoaB x.id)) rfl rfl rfl rfl rfl rfl rfl hvrow rfl (fun h => by cases h) (fun w2 hc => hc.src (i := 5) rfl) (sstr_one _) (room_max (by omega)) (by omega) ?_)
      intro ob' cap'' cur' hrow' htk' _
      refine JL.op (JO.val (y_assign) rfl ?_)
      with_reducible refine JL.nil ?_
      with_reducible refine JQ.blk (JQ.seq ?_)
      with_reducible refine JC.region ?_
      refine JL.op (JO.val (y_add rfl rfl (natAdd hkk (by omega))) rfl ?_)
      refine JL.op (JO.val (y_move) rfl ?_)
      with_reducible refine JL.nil ?_
      refine JQ.takeN 4 ?_
      refine JQ.loop (ms.length - (k + 1)) ⟨k + 1, ob', cap'', cur', out ++ [itoaB x.id], rfl, hlt, by simp; omega, by rw [hout, List.take_add_one, hx]; simp, ?_, ?_, rfl, rfl, rfl, ⟨rfl, ?_, rfl, rfl, rfl, trivial⟩⟩ (by omega)
      · rw [List.length_append]; exact hrow'
      · rw [List.length_append]; exact cur_snoc hvtk htk'
      · rw [List.length_append]; rfl
    · have hd : decide ((k : Int) < (ms.length : Int)) = false := by simpa using hlt
      refine JC.cond_false (congrArg Value.bool hd) ?_
      obtain rfl : k = ms.length := by omega
      rw [List.take_length] at hout
      with_reducible refine JC.exit (JQ.seq_exit (JQ.loop_exit (JQ.blk_here (JQ.blk (JQ.seq (JC.seq ?_))))))
      with_reducible refine JC.region ?_
      refine JL.op (JO.val (y_move) rfl ?_)
      refine JL.op (JO.val (y_assign) rfl ?_)
      refine JL.op (JO.val (y_assign) rfl ?_)
      with_reducible refine JL.nil ?_
      with_reducible refine JQ.seq (JC.ret ?_)
      refine ret_two rfl ResV.tmp ResV.tmp (fun w' hc => ?_)
      rw [show did ps ep ms o = ⟨ps, ep, ms, 0, out⟩ by unfold did; rw [if_neg (by omega), if_neg (by omega), if_neg (by omega), if_neg (by omega), if_neg (by omega), if_neg (by omega), if_pos hk, hout]]
      exact did_ret rfl rfl hc rfl rfl hrow htk hom (vals_row (j := 1) rfl rfl hc rfl rfl rfl hvrow hvtk)
  with_reducible refine JC.seq ?_
  with_reducible refine JC.region ?_
  refine JL.op (JO.val (y_eql rfl rfl) rfl ?_)
  refine JL.op (JO.val (y_assign) rfl ?_)
  with_reducible refine JL.nil ?_
  with_reducible refine JQ.seq ?_
  refine JC.cond rfl (fun hk7 => ?_) (fun hk7 => ?_)
  · have hk : o.kind = 7 := by simpa using hk7
    have hmr : RMems F w Am cm ms := SlF.step hom.slF (Step.weak fun _ h => h.1) (by omega)
    with_reducible refine JC.seq ?_
    refine JC.cutI (fun E S F2 w2 => ∃ b13 Ac cc, Step F w F2 w2 ∧ w.heap.size ≤ w2.heap.size ∧ OwnF (fun b => F2 b ∧ w.heap.size ≤ b) w2 55 34 Ac (chgRes ep ms o.chg).2.length cc ((chgRes ep ms o.chg).2.flatMap LMember.cells) ∧ S = [(some bs, 28, [.slice (pb.map mkA) ps.length cp, .slice Ar rn cr, .int .i64 ep, .slice Am ms.length cm]), (pb, 53, cur), (some b3, 39, o.cells), (some b13, 26, [.int .i64 (chgRes ep ms o.chg).1, .slice Ac (chgRes ep ms o.chg).2.length cc])] ∧ Has E [(0, .pointer (some ⟨bs, 0, none⟩)), (8, .slice none 0 0), (13, .pointer (some ⟨b13, 0, none⟩)), (14, .int .i64 (chgCode ep ms o.chg))]) ?_ ?_
    · skip
      refine JC.held [0, 2] ?_
      refine JH.take 0 rfl (by kernel_rfl) (by kernel_rfl) (by kernel_rfl) (fun _ _ _ => y_move) rfl (by repeat (first | exact np_fun | exact np_inv | refine np_seq ?_ | refine np_blk ?_ | refine np_loop ?_)) (⟨rfl, rfl, trivial⟩) ?_
      refine JH.take 1 rfl (by kernel_rfl) (by kernel_rfl) (by kernel_rfl) (fun _ _ _ => y_nilCheck rfl) rfl (by repeat (first | exact np_fun | exact np_inv | refine np_seq ?_ | refine np_blk ?_ | refine np_loop ?_)) (⟨rfl, rfl, trivial⟩) ?_
      refine JH.take 2 rfl (by kernel_rfl) (by kernel_rfl) (by kernel_rfl) (fun _ _ _ => y_fieldAddr rfl rfl rfl) rfl (by repeat (first | exact np_fun | exact np_inv | refine np_seq ?_ | refine np_blk ?_ | refine np_loop ?_)) (⟨rfl, rfl, trivial⟩) ?_
      refine JH.take 3 rfl (by kernel_rfl) (by kernel_rfl) (by kernel_rfl) (fun _ _ _ => y_ldP 0 rfl rfl rfl rfl rfl) rfl (by repeat (first | exact np_fun | exact np_inv | refine np_seq ?_ | refine np_blk ?_ | refine np_loop ?_)) (⟨rfl, rfl, trivial⟩) ?_
      refine JH.take 4 rfl (by kernel_rfl) (by kernel_rfl) (by kernel_rfl) (fun _ _ _ => y_fieldAddr rfl rfl rfl) rfl (by repeat (first | exact np_fun | exact np_inv | refine np_seq ?_ | refine np_blk ?_ | refine np_loop ?_)) (⟨rfl, rfl, trivial⟩) ?_
      refine JH.take 5 rfl (by kernel_rfl) (by kernel_rfl) (by kernel_rfl) (fun _ _ _ => y_ldP 2 (vs := o.chg.cells) rfl rfl rfl (List.take_of_length_le (by show o.chg.cells.length ≤ 36; omega)) (by rw [hol]; rfl)) rfl (by repeat (first | exact np_fun | exact np_inv | refine np_seq ?_ | refine np_blk ?_ | refine np_loop ?_)) (⟨rfl, rfl, trivial⟩) ?_
      refine JH.two 6 10 (by kernel_rfl) (JI.op rfl ?_) (JI.op rfl ?_)
      · refine (JO.call _ (fun wc hc => cfg_apply _ ep Am cm ms o.chg wc (SlF.step hmr hc.step (by omega)) hms hmw how.chg) rfl rfl rfl ?_)
        rintro wc v wn hst hsz hfr hbl hst0 ⟨Ac, cc, rfl, hown⟩
        refine ⟨⟨rfl, rfl, trivial⟩, ?_⟩
        refine JH.take 7 rfl (by kernel_rfl) (by kernel_rfl) (by kernel_rfl) (fun _ _ _ => y_move) rfl (by repeat (first | exact np_fun | exact np_inv | refine np_seq ?_ | refine np_blk ?_ | refine np_loop ?_)) (⟨rfl, rfl, trivial⟩) ?_
        refine JH.take 8 rfl (by kernel_rfl) (by kernel_rfl) (by kernel_rfl) (fun _ _ _ => y_extract rfl rfl) rfl (by repeat (first | exact np_fun | exact np_inv | refine np_seq ?_ | refine np_blk ?_ | refine np_loop ?_)) (⟨rfl, rfl, trivial⟩) ?_
        refine JH.take 9 rfl (by kernel_rfl) (by kernel_rfl) (by kernel_rfl) (fun _ _ _ => y_extract rfl rfl) rfl (by repeat (first | exact np_fun | exact np_inv | refine np_seq ?_ | refine np_blk ?_ | refine np_loop ?_)) (⟨rfl, rfl, trivial⟩) ?_
        refine JH.one 10 (by kernel_rfl) (JI.op rfl ?_)
        refine (JO.alloc rfl rfl ?_); intro b13
        refine ⟨⟨rfl, rfl, trivial⟩, ?_⟩
        refine JH.one 11 (by kernel_rfl) (JI.op rfl ?_)
        refine (JO.storeA 3 rfl rfl rfl rfl (by first | rfl | assumption) (by first | rfl | assumption) (by first | rfl | assumption) ?_)
        refine ⟨⟨rfl, rfl, trivial⟩, ?_⟩
        refine JH.take 12 rfl (by kernel_rfl) (by kernel_rfl) (by kernel_rfl) (fun _ _ _ => y_assign) rfl (by repeat (first | exact np_fun | exact np_inv | refine np_seq ?_ | refine np_blk ?_ | refine np_loop ?_)) (⟨rfl, rfl, trivial⟩) ?_
        refine JH.done (by kernel_rfl) ?_
        exact JQ.inv ⟨b13, Ac, cc, hst, Nat.le_trans hsz hbl.size, hown.weak (fun b hb => ⟨hfr b hb, Nat.le_trans hsz hb⟩), rfl, ⟨rfl, rfl, rfl, rfl, trivial⟩⟩
      · refine (JO.alloc rfl rfl ?_); intro b13
        refine ⟨⟨rfl, rfl, trivial⟩, ?_⟩
        refine JH.one 6 (by kernel_rfl) (JI.op rfl ?_)
        refine (JO.call _ (fun wc hc => cfg_apply _ ep Am cm ms o.chg wc (SlF.step hmr hc.step (by omega)) hms hmw how.chg) rfl rfl rfl ?_)
        rintro wc v wn hst hsz hfr hbl hst0 ⟨Ac, cc, rfl, hown⟩
        refine ⟨⟨rfl, rfl, trivial⟩, ?_⟩
        refine JH.take 7 rfl (by kernel_rfl) (by kernel_rfl) (by kernel_rfl) (fun _ _ _ => y_move) rfl (by repeat (first | exact np_fun | exact np_inv | refine np_seq ?_ | refine np_blk ?_ | refine np_loop ?_)) (⟨rfl, rfl, trivial⟩) ?_
        refine JH.take 8 rfl (by kernel_rfl) (by kernel_rfl) (by kernel_rfl) (fun _ _ _ => y_extract rfl rfl) rfl (by repeat (first | exact np_fun | exact np_inv | refine np_seq ?_ | refine np_blk ?_ | refine np_loop ?_)) (⟨rfl, rfl, trivial⟩) ?_
        refine JH.take 9 rfl (by kernel_rfl) (by kernel_rfl) (by kernel_rfl) (fun _ _ _ => y_extract rfl rfl) rfl (by repeat (first | exact np_fun | exact np_inv | refine np_seq ?_ | refine np_blk ?_ | refine np_loop ?_)) (⟨rfl, rfl, trivial⟩) ?_
        refine JH.one 11 (by kernel_rfl) (JI.op rfl ?_)
        refine (JO.storeA 3 rfl rfl rfl rfl (by first | rfl | assumption) (by first | rfl | assumption) (by first | rfl | assumption) ?_)
        refine ⟨⟨rfl, rfl, trivial⟩, ?_⟩
        refine JH.take 12 rfl (by kernel_rfl) (by kernel_rfl) (by kernel_rfl) (fun _ _ _ => y_assign) rfl (by repeat (first | exact np_fun | exact np_inv | refine np_seq ?_ | refine np_blk ?_ | refine np_loop ?_)) (⟨rfl, rfl, trivial⟩) ?_
        refine JH.done (by kernel_rfl) ?_
        exact JQ.inv ⟨b13, Ac, cc, hst, Nat.le_trans hsz hbl.size, hown.weak (fun b hb => ⟨hfr b hb, Nat.le_trans hsz hb⟩), rfl, ⟨rfl, rfl, rfl, rfl, trivial⟩⟩
    rintro E S F2 w2 ⟨b13, Ac, cc, hst, hsz, hown, rfl, hE⟩
    refine JQ.env hE (fun E => ?_)
    with_reducible refine JQ.seq (JC.seq (JC.seq ?_))
    with_reducible refine JC.region ?_
    refine JL.op (JO.val (y_move) rfl ?_)
    refine JL.op (JO.val (y_neq rfl rfl) rfl ?_)
    with_reducible refine JL.nil ?_
    with_reducible refine JQ.seq ?_
    refine JC.cond rfl (fun hg => ?_) (fun hg => ?_)
    · have hcode : chgCode ep ms o.chg ≠ 0 := by simpa using hg
      with_reducible refine JC.seq ?_
      with_reducible refine JC.region ?_
      refine JL.op (JO.val (y_move) rfl ?_)
      refine JL.op (JO.val (y_assign) rfl ?_)
      refine JL.op (JO.val (y_assign) rfl ?_)
      with_reducible refine JL.nil ?_
      with_reducible refine JQ.seq (JC.ret (JQ.seq_ret (JQ.blk_ret (JQ.seq_ret ?_))))
      refine ret_two rfl ResV.tmp ResV.tmp (fun w' hc => ?_)
      rw [show did ps ep ms o = ⟨ps, ep, ms, chgCode ep ms o.chg, []⟩ by unfold did; rw [if_neg (by omega), if_neg (by omega), if_neg (by omega), if_neg (by omega), if_neg (by omega), if_neg (by omega), if_neg (by omega), if_pos hk, if_neg hcode]]
      exact did_ret rfl rfl hc rfl rfl hrow htk (hom.step (hst.and P)) vals_nil
    · have hcode : chgCode ep ms o.chg = 0 := by simpa using hg
      with_reducible refine JC.skip (JQ.seq ?_)
      with_reducible refine JC.region ?_
      refine JL.op (JO.val (y_move) rfl ?_)
      refine JL.op (JO.val (y_ldA 3 rfl rfl rfl rfl) rfl ?_)
      refine JL.op (JO.val (y_nilCheck rfl) rfl ?_)
      refine JL.op (JO.val (y_fieldAddr rfl rfl rfl) rfl ?_)
      refine JL.op (JO.store 0 (vs := [.int .i64 (chgRes ep ms o.chg).1, .slice Ac (chgRes ep ms o.chg).2.length cc]) rfl rfl rfl rfl rfl rfl rfl rfl ?_)
      with_reducible refine JL.nil ?_
      with_reducible refine JQ.blk (JQ.seq (JC.seq ?_))
      with_reducible refine JC.region ?_
      refine JL.op (JO.val (y_move) rfl ?_)
      refine JL.op (JO.val (y_assign) rfl ?_)
      refine JL.op (JO.val (y_assign) rfl ?_)
      with_reducible refine JL.nil ?_
      with_reducible refine JQ.seq (JC.ret ?_)
      refine ret_two rfl ResV.tmp ResV.tmp (fun w' hc => ?_)
      rw [show did ps ep ms o = ⟨ps, (chgRes ep ms o.chg).1, (chgRes ep ms o.chg).2, 0, []⟩ by unfold did; rw [if_neg (by omega), if_neg (by omega), if_neg (by omega), if_neg (by omega), if_neg (by omega), if_neg (by omega), if_neg (by omega), if_pos hk, if_pos hcode]]
      refine ⟨pb, cp, cur, Ac, cc, none, 0, rfl, (hc.own _ (List.mem_of_getElem? (i := 0) rfl) bs rfl).2, hrow, htk, fun b hb => ⟨.inl hb, (hc.own (pb, 53, cur) (List.mem_of_getElem? (i := 1) rfl) b hb).2⟩, ?_, vals_nil⟩
      exact (hown.step (hc.step.and _)).weak fun b hb => .inr hb.2
  · exfalso
    simp only [decide_eq_false_iff_not] at hk1 hk2 hk3 hk4 hk5 hk6 hk7
    omega
end Go.Proofs.YtchnnplcpidkiaaDoor
