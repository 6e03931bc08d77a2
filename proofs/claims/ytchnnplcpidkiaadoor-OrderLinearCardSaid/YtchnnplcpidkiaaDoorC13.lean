/- Contracts of strconv.Itoa (from the shelf), state.pair at the pairs alone, state.put; no condition but bounds on lengths. -/
import Derived.Test.YtchnnplcpidkiaaDoorC12
import Derived.Test.YtchnnplcpidkiaaDoorShelf
import Derived.Lib.AppendIntMem
namespace Go.Proofs.YtchnnplcpidkiaaDoor
open Go.RowKit
set_option linter.unusedSimpArgs false
set_option linter.unusedVariables false
set_option maxRecDepth 20000
set_option maxHeartbeats 1000000

/-- The library's table of the powers of ten, as it was laid. -/
def Tab (F : Nat → Prop) (w : World) : Prop := ∃ g, Tryd.prog.globalNamed "internal/strconv.uint64pow10" = some g ∧ F g ∧ Lib.TabIs Tryd.prog w "internal/strconv.uint64pow10" .u64 Lib.pow10Tab
theorem Tab.step {F F' : Nat → Prop} {w w' : World} (h : Tab F w) (hs : Step F w F' w') : Tab F' w' := by
  obtain ⟨g, hg, hF, ht⟩ := h
  have hlt : g < w.heap.size := by
    unfold Lib.TabIs World.var? at ht
    rw [hg] at ht
    simp only [Option.bind_some] at ht
    by_cases h1 : g < w.heap.size
    · exact h1
    · rw [Array.getElem?_eq_none (by omega)] at ht; cases ht
  obtain ⟨h1, h2⟩ := hs g hlt hF
  refine ⟨g, hg, h2, ?_⟩
  unfold Lib.TabIs World.var? at ht ⊢
  rw [hg] at ht ⊢
  simpa only [Option.bind_some, h1] using ht
def itoaB (n : Int) : ByteArray := ⟨(Lib.itoa n).toArray⟩
theorem itoa_any (F : Nat → Prop) (n : Int) (hn : I64 n) (w : World) (h : Tab F w) : CallsTo 51 #[.int .i64 n] w (fun v _ => v = .string (itoaB n)) := by
  obtain ⟨g, hg, hF, ht⟩ := h
  refine ⟨⟨_, Tryd.func51, rfl, rfl⟩, (Tryd.strconv_Itoa n hn.1 hn.2 w ht).mono fun e w' ⟨he, k, os, hw⟩ => ?_⟩
  subst hw
  exact ⟨_, he, Lib.below_grow _ _ (Nat.le_refl _) _ _, rfl⟩
theorem pairs_any (F : Nat → Prop) (A : Option Addr) (cap : Nat) (v1 v2 v3 : Value) (ps : List LPair) (k : ByteArray) (w : World) (h : RPairs F w A cap ps) (hn : ps.length ≤ 100000) :
    CallsTo 42 #[.agg [.slice A ps.length cap, v1, v2, v3].toArray, .string k] w (fun v _ => v = .tuple #[.int .i64 (bsI (fun p => cmpS p.k k) ps : Nat), .bool (bsB (fun p => cmpS p.k k) ps)]) := by
  refine CallsTo.enter 12 (fun _ => True) F Tryd.func42 rfl rfl rfl rfl (by intros; first | trivial | assumption) ?_
  with_reducible refine JC.seq ?_
  with_reducible refine JC.region ?_
  refine JL.op (JO.box rfl rfl ?_); intro b2
  refine JL.op (JO.val (y_assign) rfl ?_)
  refine JL.op (JO.val (y_assign) rfl ?_)
  with_reducible refine JL.nil ?_
  with_reducible refine JQ.seq (JC.seq ?_)
  with_reducible refine JC.region ?_
  refine JL.op (JO.val (y_fieldAddr rfl rfl rfl) rfl ?_)
  refine JL.op (JO.val (y_ld 0 rfl rfl rfl rfl) rfl ?_)
  refine JL.op (JO.val (y_move) rfl ?_)
  refine JL.op (JO.callv (fun wc hc => search_67 _ A cap ps k wc (SlF.step h hc.step (by omega)) hn (fun _ _ => trivial) pair_len) rfl rfl rfl ?_)
  refine JL.op (JO.val (y_extract rfl rfl) rfl ?_)
  refine JL.op (JO.val (y_extract rfl rfl) rfl ?_)
  refine JL.op (JO.val (y_assign) rfl ?_)
  refine JL.op (JO.val (y_assign) rfl ?_)
  with_reducible refine JL.nil ?_
  with_reducible refine JQ.seq (JC.ret ?_)
  exact ret_two rfl ResV.tmp ResV.tmp (fun w _ => rfl)

/-! ### Pairs in order -/
def OrdP (ps : List LPair) : Prop := ps.Pairwise (fun a b => Op.bytesLess a.k.toList b.k.toList = true)
def cK (k : ByteArray) (p : LPair) : Int := cmpS p.k k
theorem ba_eq {a b : ByteArray} (h : a.toList = b.toList) : a = b := by
  rw [ByteArray.toList_eq, ByteArray.toList_eq] at h
  obtain ⟨⟨x⟩⟩ := a
  obtain ⟨⟨y⟩⟩ := b
  simpa using h
theorem cK_zero {k : ByteArray} {p : LPair} : cK k p = 0 ↔ p.k = k ∧ Op.bytesLess p.k.toList k.toList = false := by
  unfold cK cmpS
  cases hb : Op.bytesLess p.k.toList k.toList with
  | true => simp
  | false =>
    simp only [Bool.false_eq_true, if_false]
    cases he : (p.k.toList == k.toList) with
    | true => simp only [if_true, and_true, true_iff]; exact ba_eq (by simpa using he)
    | false =>
      simp only [Bool.false_eq_true, if_false, and_true]
      constructor
      · intro h; cases h
      · intro h; rw [h] at he; simp at he
theorem cK_neg {k : ByteArray} {p : LPair} : cK k p < 0 ↔ Op.bytesLess p.k.toList k.toList = true := by
  unfold cK cmpS
  split
  · simp [*]
  · split <;> simp [*]
theorem less_irrefl : ∀ (l : List UInt8), Op.bytesLess l l = false
  | [] => by simp [Op.bytesLess]
  | x :: l => by simp [Op.bytesLess, less_irrefl l]
theorem less_trans : ∀ {a b c : List UInt8}, Op.bytesLess a b = true → Op.bytesLess b c = true → Op.bytesLess a c = true
  | _, _, [], _, h2 => by cases ‹List UInt8› <;> simp [Op.bytesLess] at h2
  | [], _, _ :: _, _, _ => by simp [Op.bytesLess]
  | x :: a, [], _ :: _, h1, _ => by simp [Op.bytesLess] at h1
  | x :: a, y :: b, z :: c, h1, h2 => by
    simp only [Op.bytesLess] at h1 h2 ⊢
    by_cases hxy : x < y
    · by_cases hyz : y < z
      · have := UInt8.lt_trans hxy hyz; simp [this]
      · simp [hyz] at h2
        have : y = z := h2.1
        subst this
        simp [hxy]
    · simp [hxy] at h1
      have hx : x = y := h1.1
      subst hx
      by_cases hyz : x < z
      · simp [hyz]
      · simp [hyz] at h2 ⊢
        exact ⟨h2.1, less_trans h1.2 h2.2⟩
theorem cK_eq {k : ByteArray} {p : LPair} : cK k p = 0 ↔ p.k = k := by
  rw [cK_zero]
  exact ⟨fun h => h.1, fun h => ⟨h, by rw [h]; exact less_irrefl _⟩⟩
theorem cK_ord {ps : List LPair} {k : ByteArray} (h : OrdP ps) : Ord3 (cK k) ps := h.imp fun {a b} hab hc => by
  rw [cK_neg]
  rcases Int.lt_or_eq_of_le hc with h1 | h1
  · exact less_trans hab (cK_neg.1 h1)
  · rw [← cK_eq.1 h1]; exact hab
/-- Is the key one of these? -/
def hasP (ps : List LPair) (k : ByteArray) : Bool := ps.any (fun p => p.k.toList == k.toList)
theorem beq_key {a b : ByteArray} : (a.toList == b.toList) = decide (a = b) := by
  by_cases h : a = b
  · simp [h]
  · have : ¬ a.toList = b.toList := fun e => h (ba_eq e)
    simp [h, this]
theorem bsB_has {ps : List LPair} {k : ByteArray} (h : OrdP ps) : bsB (cK k) ps = hasP ps k := by
  rw [Bool.eq_iff_iff, bsB_iff (cK_ord h)]
  simp only [hasP, List.any_eq_true, beq_key, decide_eq_true_eq, cK_eq]
theorem with_cut {ps : List LPair} {x : LPair} (h : OrdP ps) : withP x ps = ps.take (bsI (cK x.k) ps) ++ x :: (if hasP ps x.k = true then ps.drop (bsI (cK x.k) ps + 1) else ps.drop (bsI (cK x.k) ps)) := by
  rw [← bsB_has h]
  refine bs_with (cK_ord h) x (fun y _ => ?_) (fun y _ => ?_)
  · cases hb : Op.bytesLess y.k.toList x.k.toList with
    | true => rw [decide_eq_true (cK_neg.2 hb)]
    | false => rw [decide_eq_false (fun h => by rw [cK_neg.1 h] at hb; cases hb)]
  · rw [beq_key]
    congr 1
    exact decide_eq_decide.2 cK_eq.symm
theorem without_cut {ps : List LPair} {k : ByteArray} (h : OrdP ps) (hh : hasP ps k = true) : ps.filter (fun p => !(p.k.toList == k.toList)) = ps.take (bsI (cK k) ps) ++ ps.drop (bsI (cK k) ps + 1) := by
  refine bs_filter (cK_ord h) (by rw [bsB_has h]; exact hh) fun y _ => ?_
  rw [beq_key]
  congr 1
  exact decide_eq_decide.2 cK_eq.symm
theorem has_here {ps : List LPair} {k : ByteArray} (h : OrdP ps) (hh : hasP ps k = true) : ∃ y, ps[bsI (cK k) ps]? = some y ∧ y.k = k ∧ bsI (cK k) ps < ps.length := by
  obtain ⟨y, h1, h2, h3⟩ := bsB_here (cK_ord h) ((bsB_has h).trans hh)
  exact ⟨y, h1, cK_eq.1 h2, h3⟩
/-- The value of a pair is changed in place. -/
theorem set_val {cur : List Value} {ps : List LPair} {i : Nat} {y : LPair} {v : ByteArray} {n : Nat} (htk : cur.take (n * 2) = ps.flatMap LPair.cells) (hn : n = ps.length) (hy : ps[i]? = some y) : (sset cur (0 + i * 2 + 1) (.string v)).take (n * 2) = (ps.take i ++ ⟨y.k, v⟩ :: ps.drop (i + 1)).flatMap LPair.cells := by
  subst hn
  obtain ⟨hi, rfl⟩ := List.getElem?_eq_some_iff.1 hy
  rw [sset_eq, List.take_set, htk]
  conv => lhs; rw [← List.take_append_drop i ps, List.drop_eq_getElem_cons hi]
  have hl : ((ps.take i).flatMap LPair.cells).length = i * 2 := by rw [flatMap_length pair_len, List.length_take, Nat.min_eq_left (by omega)]
  rw [List.flatMap_append, List.flatMap_append, List.flatMap_cons, List.flatMap_cons]
  rw [List.set_append, if_neg (by omega), hl]
  congr 1
  have : 0 + i * 2 + 1 - i * 2 = 1 := by omega
  rw [this]
  rfl
def putB (ps : List LPair) (k : ByteArray) : Bool := !hasP ps k && decide ((ps.length : Int) ≥ 256)
/-- What a put leaves. -/
def putPs (ps : List LPair) (k v : ByteArray) : List LPair := if putB ps k = true then ps else withP ⟨k, v⟩ ps
theorem put_any (bs : Nat) (pb : Option Nat) (cp : Nat) (v1 v2 v3 : Value) (ps : List LPair) (cur : List Value) (k v : ByteArray) (w : World) (hrow : Row pb ps.length cp 2 cur) (htk : cur.take (ps.length * 2) = ps.flatMap LPair.cells) (hn : ps.length ≤ 10000) (ho : OrdP ps)
    (hbs : w.heap[bs]? = some (.cells [.slice (pb.map mkA) ps.length cp, v1, v2, v3].toArray 28 (0, 0))) (hpb : ∀ b, pb = some b → w.heap[b]? = some (.cells cur.toArray 53 (0, 0))) (hne : pb ≠ some bs) (h1 : v1.oneCell' = true) (h2 : v2.oneCell' = true) (h3 : v3.oneCell' = true) :
    CallsM (bs :: pb.toList) 48 #[.pointer (some ⟨bs, 0, none⟩), .string k, .string v] w (fun r w' => ∃ pb' cp' cur', r = .int .i64 (if putB ps k = true then 11 else 0) ∧ Row pb' (putPs ps k v).length cp' 2 cur' ∧ cur'.take ((putPs ps k v).length * 2) = (putPs ps k v).flatMap LPair.cells ∧
      w'.heap[bs]? = some (.cells [.slice (pb'.map mkA) (putPs ps k v).length cp', v1, v2, v3].toArray 28 (0, 0)) ∧ ∀ b, pb' = some b → (pb = some b ∨ w.heap.size ≤ b) ∧ w'.heap[b]? = some (.cells cur'.toArray 53 (0, 0))) := by
  have hS0 : ∀ e ∈ ([(some bs, 28, [.slice (pb.map mkA) ps.length cp, v1, v2, v3]), (pb, 53, cur)] : Sto), ∀ b, e.1 = some b → b ∈ bs :: pb.toList ∧ w.heap[b]? = some (.cells e.2.2.toArray e.2.1 (0, 0)) := fun e he b hb => by
    simp only [List.mem_cons, List.not_mem_nil, or_false] at he
    rcases he with rfl | rfl
    · simp only [Option.some.injEq] at hb; subst hb; exact ⟨by simp, hbs⟩
    · simp only at hb; exact ⟨by simp [hb], hpb b hb⟩
  have hnd : (blks ([(some bs, 28, [.slice (pb.map mkA) ps.length cp, v1, v2, v3]), (pb, 53, cur)] : Sto)).Nodup := by
    cases pb with
    | none => simp [blks]
    | some b => simp [blks]; intro h; exact hne (by rw [h])
  have hbs' : bs < w.heap.size := (Array.getElem?_eq_some_iff.1 hbs).1
  refine CallsM.enter (bs :: pb.toList) [(some bs, 28, [.slice (pb.map mkA) ps.length cp, v1, v2, v3]), (pb, 53, cur)] 47 (fun _ => True) (fun _ => False) Tryd.func48 rfl rfl rfl rfl hS0 hnd (fun _ _ h => h.elim) ?_
  with_reducible refine JC.seq ?_
  with_reducible refine JC.region ?_
  refine JL.op (JO.val (y_assign) rfl ?_)
  with_reducible refine JL.nil ?_
  with_reducible refine JQ.seq (JC.seq ?_)
  with_reducible refine JC.region ?_
  refine JL.op (JO.val (y_move) rfl ?_)
  refine JL.op (JO.val (y_nilCheck rfl) rfl ?_)
  refine JL.op (JO.val (y_ldA 0 rfl rfl rfl rfl) rfl ?_)
  refine JL.op (JO.val (y_move) rfl ?_)
  refine JL.op (JO.callv (fun wc hc => pairs_any (fun _ => True) (pb.map mkA) cp v1 v2 v3 ps k wc (hrow.slF htk (fun b hb => ⟨trivial, (hc.own (pb, 53, cur) (by simp) b hb).2⟩)) (by omega)) rfl rfl rfl ?_)
  refine JL.op (JO.val (y_move) rfl ?_)
  refine JL.op (JO.val (y_extract rfl rfl) rfl ?_)
  refine JL.op (JO.val (y_extract rfl rfl) rfl ?_)
  refine JL.op (JO.val (y_assign) rfl ?_)
  refine JL.op (JO.val (y_assign) rfl ?_)
  with_reducible refine JL.nil ?_
  with_reducible refine JQ.seq (JC.seq (JC.block (JC.seq ?_)))
  with_reducible refine JC.region ?_
  refine JL.op (JO.val (y_move) rfl ?_)
  refine JL.op (JO.val (y_assign) rfl ?_)
  with_reducible refine JL.nil ?_
  with_reducible refine JQ.seq ?_
  refine JC.cond (b := bsB (cK k) ps) rfl (fun hg => ?_) (fun hg => ?_)
  · have hh : hasP ps k = true := (bsB_has ho).symm.trans hg
    obtain ⟨y, hy, hyk, hlt⟩ := has_here ho hh
    have hnb : putB ps k = false := by simp [putB, hh]
    have hput : putPs ps k v = ps.take (bsI (cK k) ps) ++ ⟨y.k, v⟩ :: ps.drop (bsI (cK k) ps + 1) := by
      unfold putPs; rw [if_neg (by rw [hnb]; simp), with_cut ho, if_pos hh, hyk]
    have hlen : (putPs ps k v).length = ps.length := by rw [hput]; simp; omega
    obtain ⟨br, rfl⟩ : ∃ b, pb = some b := by
      cases pb with
      | none => have := (hrow.nil rfl).1; omega
      | some b => exact ⟨b, rfl⟩
    have hcl := hrow.len
    have hle := hrow.le
    with_reducible refine JC.region ?_
    refine JL.op (JO.val (y_move) rfl ?_)
    refine JL.op (JO.val (y_nilCheck rfl) rfl ?_)
    refine JL.op (JO.val (y_fieldAddr rfl rfl rfl) rfl ?_)
    refine JL.op (JO.val (y_ld 0 rfl rfl rfl rfl) rfl ?_)
    refine JL.op (JO.val (y_move) rfl ?_)
    refine JL.op (JO.val (y_move) rfl ?_)
    refine JL.op (JO.val (y_idx (b := br) (o := 0) rfl rfl rfl rfl rfl rfl hlt) rfl ?_)
    refine JL.op (JO.val (y_fieldAddr rfl rfl rfl) rfl ?_)
    refine JL.op (JO.store1 1 rfl rfl rfl rfl rfl (by rw [hcl]; simp [Nat.blt_eq]; show bsI (cK k) ps * 2 + 1 < _; omega) rfl ?_)
    with_reducible refine JL.nil ?_
    with_reducible refine JQ.blk (JQ.seq (JC.seq ?_))
    with_reducible refine JC.region ?_
    refine JL.op (JO.val (y_assign) rfl ?_)
    with_reducible refine JL.nil ?_
    with_reducible refine JQ.seq (JC.ret ?_)
    refine ret_one rfl ResV.tmp (fun w' hc => ⟨some br, cp, sset cur (0 + bsI (cK k) ps * 2 + 1) (.string v), by rw [hnb]; rfl, ?_, ?_, ?_, fun b hb => ?_⟩)
    · rw [hlen]; exact ⟨by rw [sset_eq, List.length_set]; exact hrow.len, hrow.le, hrow.max, hrow.nil⟩
    · rw [hlen, hput]; exact set_val htk rfl hy
    · rw [hlen]; exact (hc.own (some bs, 28, [.slice (some (mkA br)) ps.length cp, v1, v2, v3]) (by simp [sset, mkA]) bs rfl).2
    · exact ⟨.inl hb, (hc.own (some br, 53, sset cur (0 + bsI (cK k) ps * 2 + 1) (.string v)) (List.mem_of_getElem? (i := 1) rfl) b hb).2⟩
  · have hh : hasP ps k = false := (bsB_has ho).symm.trans hg
    with_reducible refine JC.seq ?_
    with_reducible refine JC.region ?_
    refine JL.op (JO.val (y_move) rfl ?_)
    refine JL.op (JO.val (y_nilCheck rfl) rfl ?_)
    refine JL.op (JO.val (y_fieldAddr rfl rfl rfl) rfl ?_)
    refine JL.op (JO.val (y_ld 0 rfl rfl rfl rfl) rfl ?_)
    refine JL.op (JO.val (y_len rfl rfl) rfl ?_)
    refine JL.op (JO.val (y_geq rfl rfl) rfl ?_)
    refine JL.op (JO.val (y_assign) rfl ?_)
    with_reducible refine JL.nil ?_
    with_reducible refine JQ.seq ?_
    refine JC.cond rfl (fun hg2 => ?_) (fun hg2 => ?_)
    · have hnb : putB ps k = true := by simp only [putB, hh, hg2]; rfl
      have hput : putPs ps k v = ps := by unfold putPs; rw [if_pos hnb]
      with_reducible refine JC.seq ?_
      with_reducible refine JC.region ?_
      refine JL.op (JO.val (y_assign) rfl ?_)
      with_reducible refine JL.nil ?_
      with_reducible refine JQ.seq (JC.ret (JQ.blk_ret (JQ.seq_ret ?_)))
      refine ret_one rfl ResV.tmp (fun w' hc => ⟨pb, cp, cur, by rw [hnb]; rfl, by rw [hput]; exact hrow, by rw [hput]; exact htk, ?_, fun b hb => ⟨.inl hb, (hc.own (pb, 53, cur) (by simp) b hb).2⟩⟩)
      rw [hput]; exact (hc.own (some bs, 28, [.slice (pb.map mkA) ps.length cp, v1, v2, v3]) (by simp) bs rfl).2
    · have hnb : putB ps k = false := by simp only [putB, hh, hg2]; rfl
      have hput : putPs ps k v = ps.take (bsI (cK k) ps) ++ ⟨k, v⟩ :: ps.drop (bsI (cK k) ps) := by
        unfold putPs; rw [if_neg (by rw [hnb]; simp), with_cut ho, if_neg (by rw [hh]; simp)]
      rw [hput]
      with_reducible refine JC.region ?_
      refine JL.op (JO.val (y_move) rfl ?_)
      refine JL.op (JO.val (y_move) rfl ?_)
      refine JL.op (JO.val (y_nilCheck rfl) rfl ?_)
      refine JL.op (JO.val (y_fieldAddr rfl rfl rfl) rfl ?_)
      refine JL.op (JO.val (y_ld 0 rfl rfl rfl rfl) rfl ?_)
      refine JL.op (JO.val (y_move) rfl ?_)
      refine JL.op (JO.val (y_move) rfl ?_)
      refine JL.op (JO.val (y_move) rfl ?_)
      refine JL.op (JO.val (y_build rfl rfl (⟨_, _, _, rfl, rfl, rfl, rfl, ⟨_, _, _, rfl, rfl, rfl, rfl, rfl⟩⟩)) rfl ?_)
      refine JL.op (JO.build1 rfl rfl rfl (by first | rfl | assumption) rfl rfl ?_); intro b26
      refine JL.op (JO.ins_71 1 2 LPair.cells (y := ⟨k, v⟩) rfl rfl rfl rfl rfl rfl rfl hrow htk pair_len (fun p _ => LPair.one p) rfl rfl (bs_spec (cK_ord ho)).1 (by omega) ?_)
      rintro ob' cap'' cur' F' w' hrow' htk' hst' hsz'
      refine JL.op (JO.val (y_nilCheck rfl) rfl ?_)
      refine JL.op (JO.val (y_fieldAddr rfl rfl rfl) rfl ?_)
      refine JL.op (JO.store1 0 rfl rfl rfl rfl rfl rfl rfl ?_)
      with_reducible refine JL.nil ?_
      with_reducible refine JQ.blk (JQ.seq (JC.seq ?_))
      with_reducible refine JC.region ?_
      refine JL.op (JO.val (y_assign) rfl ?_)
      with_reducible refine JL.nil ?_
      with_reducible refine JQ.seq (JC.ret ?_)
      refine ret_one rfl ResV.tmp (fun w' hc => ⟨ob', cap'', cur', by rw [hnb]; rfl, hrow', htk', ?_, fun b hb => ?_⟩)
      · exact (hc.own (some bs, 28, _) (List.mem_of_getElem? (i := 0) rfl) bs rfl).2
      · have h5 := hc.own (ob', 53, cur') (List.mem_of_getElem? (i := 1) rfl) b hb
        refine ⟨?_, h5.2⟩
        rcases h5.1 with h6 | h6
        · exact .inr h6
        · rcases List.mem_cons.1 h6 with h7 | h7
          · have := nodup_at (f := fun e : Ent => e.1) hc.nodup (i := 0) (j := 1) rfl rfl rfl (by rw [hb, h7])
            omega
          · exact .inl (by simpa using h7)
end Go.Proofs.YtchnnplcpidkiaaDoor
