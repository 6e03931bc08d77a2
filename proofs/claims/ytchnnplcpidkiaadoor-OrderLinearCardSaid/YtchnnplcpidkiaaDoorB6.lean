/- The rules of the walk, sixth part: regions whose order is drawn and that also make or write memory: what is read is taken first; no condition. -/
import Derived.Test.YtchnnplcpidkiaaDoorB5
import Derived.OrdersHeld
namespace Go.Proofs.YtchnnplcpidkiaaDoor
open Go.RowKit
set_option linter.unusedSimpArgs false
set_option linter.unusedVariables false
set_option maxRecDepth 20000

def NoPanic (Q : Exit → Env → World → Prop) : Prop := ∀ c E w, ¬ Q (.panic c) E w
theorem np_fun {fn : Func} {md : List Nat} {w0 : World} {R : Value → World → Prop} : NoPanic (kfun fn md w0 R) := fun _ _ _ h => h
theorem np_seq {X : Cx} {y : Code} {Q : Exit → Env → World → Prop} (h : NoPanic Q) : NoPanic (kseq X y Q) := fun c E w h1 => h c E w h1
theorem np_blk {id : Nat} {Q : Exit → Env → World → Prop} (h : NoPanic Q) : NoPanic (kblk id Q) := fun c E w h1 => h c E w h1
theorem np_loop {X : Cx} {I : Nat → Env → Sto → (Nat → Prop) → World → Prop} {m : Nat} {Q : Exit → Env → World → Prop} (h : NoPanic Q) : NoPanic (kloop X I m Q) := fun c E w h1 => h c E w h1
def memb : Nat → List Nat → Bool
  | _, [] => false
  | n, k :: r => bif Nat.beq n k then true else memb n r
def maskGo (ks : List Nat) : Nat → Sto → Sto
  | _, [] => []
  | n, e :: S => (bif memb n ks then e else (none, 0, [])) :: maskGo ks (n + 1) S
/-- The entries with the numbers ks. -/
def mask (ks : List Nat) (S : Sto) : Sto := maskGo ks 0 S
theorem memb_mem {n : Nat} : ∀ {ks : List Nat}, memb n ks = true → n ∈ ks
  | k :: r, h => by
    unfold memb at h
    cases hq : Nat.beq n k with
    | true => rw [Nat.eq_of_beq_eq_true hq]; simp
    | false => rw [hq] at h; exact List.mem_cons_of_mem _ (memb_mem h)
theorem maskGo_mem {ks : List Nat} : ∀ {S : Sto} {n : Nat} {e : Ent}, e ∈ maskGo ks n S → e.1 ≠ none → ∃ i, n + i ∈ ks ∧ S[i]? = some e
  | [], _, _, h, _ => by simp [maskGo] at h
  | x :: S, n, e, h, hne => by
    unfold maskGo at h
    rcases List.mem_cons.1 h with h1 | h1
    · cases hq : memb n ks with
      | true =>
        rw [hq] at h1
        have hxe : e = x := h1
        exact ⟨0, memb_mem hq, by simp [hxe]⟩
      | false => rw [hq] at h1; have hxe : e = (none, 0, []) := h1; rw [hxe] at hne; exact absurd rfl hne
    · obtain ⟨i, h2, h3⟩ := maskGo_mem h1 hne
      exact ⟨i + 1, by rw [show n + (i + 1) = n + 1 + i by omega]; exact h2, by simpa using h3⟩
theorem maskGo_sub {ks : List Nat} : ∀ {S : Sto} {n : Nat}, List.Sublist (blks (maskGo ks n S)) (blks S)
  | [], _ => by simp [maskGo, blks]
  | x :: S, n => by
    unfold maskGo
    cases hq : memb n ks with
    | true =>
      show List.Sublist (blks (x :: maskGo ks (n + 1) S)) (blks (x :: S))
      unfold blks
      cases hx : x.1 with
      | none => rw [List.filterMap_cons_none hx, List.filterMap_cons_none hx]; exact maskGo_sub
      | some b => rw [List.filterMap_cons_some hx, List.filterMap_cons_some hx]; exact (maskGo_sub (S := S)).cons_cons b
    | false =>
      show List.Sublist (blks ((none, 0, []) :: maskGo ks (n + 1) S)) (blks (x :: S))
      unfold blks
      rw [List.filterMap_cons_none rfl]
      cases hx : x.1 with
      | none => rw [List.filterMap_cons_none hx]; exact maskGo_sub
      | some b => rw [List.filterMap_cons_some hx]; exact (maskGo_sub (S := S)).cons b
def Holds0 (M : Sto) (w : World) : Prop := ∀ e ∈ M, ∀ b, e.1 = some b → w.heap[b]? = some (.cells e.2.2.toArray e.2.1 (0, 0))
section
variable {X : Cx} {ops : Array Oper} {l : List Oper} {E : Env} {S S0 : Sto} {F : Nat → Prop} {w1 : World} {Q : Exit → Env → World → Prop} {ks : List Nat} {fuel : Nat} {listed : Array Bool}
/-- Whatever order is picked from here on; the entries ks of S0 stay as they are. -/
def JH (X : Cx) (ops : Array Oper) (ks : List Nat) (S0 : Sto) (fuel : Nat) (listed : Array Bool) (E : Env) (S : Sto) (F : Nat → Prop) (w1 : World) (Q : Exit → Env → World → Prop) : Prop :=
  ∀ w a, (blks S0).Nodup → Cur X S F w1 w → Agree X.N a E → wpAnyH Tryd.prog .any ops (lft X.N Q) (Holds0 (mask ks S0)) fuel listed a w
def Kept (ks : List Nat) (S0 S : Sto) : Prop := Each ks fun k => nth S k = nth S0 k
theorem Kept.holds {w : World} (hk : Kept ks S0 S) (hc : Cur X S F w1 w) : Holds0 (mask ks S0) w := fun e he b hb => by
  obtain ⟨i, h1, h2⟩ := maskGo_mem he (by rw [hb]; simp)
  rw [Nat.zero_add] at h1
  have h3 := hk.mem i h1
  rw [nth_eq, nth_eq, h2] at h3
  exact (hc.own e (List.mem_of_getElem? h3) b hb).2
theorem JC.held (ks : List Nat) {id : Nat} {l : List Oper} (h : JH X l.toArray ks S l.toArray.size (Array.replicate l.toArray.size false) E S F w1 Q) : JC X (.region id l.toArray true) E S F w1 Q := fun w a hc ha =>
  wp_region_held prog_mixed (h _ a hc.nodup hc.drew ha)
theorem yields_held {o : Oper} {v : Value} {w : World} (hn : (blks S0).Nodup) (hy : ∀ X F w1, Yields X o E (mask ks S0) F w1 v) (hw : Holds0 (mask ks S0) w) : (execOp (ev E) o).run Tryd.prog w = .ok (.value v) w :=
  hy ⟨0, fun _ => True, { w with heap := #[] }, []⟩ (fun _ => False) w w
    ⟨⟨rfl, rfl, rfl, by simp, fun k hk => absurd hk (by simp)⟩, Nat.le_refl _, fun e he b hb => ⟨.inl (by simp), hw e he b hb⟩, List.Nodup.sublist maskGo_sub hn, fun k _ hk => hk.elim⟩
/-- What only reads is taken first. -/
theorem JH.take (i : Nat) {d : Nat} {op : Op} {t : TypeId} {pos : String} {af : Array Edge} {v : Value} (hi : ops[i]? = some ⟨some d, op, t, pos, af, none⟩) (hs : Region.noSelect ops = true) (hf : Region.free .any ops listed i = true)
    (hr : (Region.ready .any ops listed).contains i = true) (hy : ∀ X F w1, Yields X ⟨some d, op, t, pos, af, none⟩ E (mask ks S0) F w1 v) (hN : Nat.blt d X.N = true) (hQ : NoPanic Q) (hk : Kept ks S0 S)
    (h : JH X ops ks S0 fuel (listed.setIfInBounds i true) (upd E d v) S F w1 Q) : JH X ops ks S0 (fuel + 1) listed E S F w1 Q := fun w a hn hc ha =>
  wpAnyH_take hi hs hf hr (fun c a' w' ⟨E', h1, h2⟩ => absurd h2 (hQ c E' w')) (Or.inl ⟨rfl, fun w' hw' => by
    rw [ha.eval]
    exact yields_held hn hy hw'⟩) (hk.holds hc) (h w _ hn hc (ha.put d v hN))
theorem JH.take_do (i : Nat) {d : Nat} {op : Op} {t : TypeId} {pos : String} {af : Array Edge} {v : Value} {j : Nat} {b : Bool} {oj : Oper} {dj : Nat} (hi : ops[i]? = some ⟨some d, op, t, pos, af, some (j, b)⟩) (hj : ops[j]? = some oj) (hd : oj.dst = some dj) (hb : E dj = .bool b) (hs : Region.noSelect ops = true) (hf : Region.free .any ops listed i = true)
    (hr : (Region.ready .any ops listed).contains i = true) (hy : ∀ X F w1, Yields X ⟨some d, op, t, pos, af, some (j, b)⟩ E (mask ks S0) F w1 v) (hN : Nat.blt d X.N = true) (hQ : NoPanic Q) (hk : Kept ks S0 S)
    (h : JH X ops ks S0 fuel (listed.setIfInBounds i true) (upd E d v) S F w1 Q) : JH X ops ks S0 (fuel + 1) listed E S F w1 Q := fun w a hn hc ha =>
  wpAnyH_take hi hs hf hr (fun c a' w' ⟨E', h1, h2⟩ => absurd h2 (hQ c E' w')) (Or.inl ⟨by simp [Region.wanted, yielded_of ha hj hd hb], fun w' hw' => by
    rw [ha.eval]
    exact yields_held hn hy hw'⟩) (hk.holds hc) (h w _ hn hc (ha.put d v hN))
/-- One that may come up is carried out; no other may. -/
theorem JH.one (i : Nat) (hr : Region.ready .any ops listed = [i])
    (h : JI X ops i E S F w1 (fun E' S' F' w1' => Kept ks S0 S' ∧ JH X ops ks S0 fuel (listed.setIfInBounds i true) E' S' F' w1' Q)) : JH X ops ks S0 (fuel + 1) listed E S F w1 Q := fun w a hn hc ha =>
  wpAnyH_all hr (by simp) fun k hk => by
    rw [List.mem_singleton.1 hk]
    obtain ⟨o, ho, hh⟩ := h
    unfold wpOp
    simp only [ho]
    rcases hh with ⟨hg, hj⟩ | ⟨j, b, oj, d, hg, hoj, hd, hb, hj⟩ | ⟨j, b, oj, d, dst, hg, hoj, hd, hb, hdst, hN, hkk⟩
    · rw [if_pos (by simp [Region.wanted, hg])]
      exact .inl (hj.wp_mono hc ha fun E' S' F' w1' a' w' h1 h2 h3 => ⟨h3.1.holds h2, h3.2 w' a' hn h2 h1⟩)
    · rw [if_pos (by simp [Region.wanted, hg, yielded_of ha hoj hd hb])]
      have : o.wp Tryd.prog a w = { o with guard := none }.wp Tryd.prog a w := rfl
      rw [this]
      exact .inl (hj.wp_mono hc ha fun E' S' F' w1' a' w' h1 h2 h3 => ⟨h3.1.holds h2, h3.2 w' a' hn h2 h1⟩)
    · rw [if_neg (by simp [Region.wanted, hg, yielded_of ha hoj hd hb])]
      rw [hdst]
      exact ⟨hkk.1.holds hc, hkk.2 w _ hn hc (ha.put dst undef hN)⟩
theorem JH.two (i i' : Nat) (hr : Region.ready .any ops listed = [i, i'])
    (h : JI X ops i E S F w1 (fun E' S' F' w1' => Kept ks S0 S' ∧ JH X ops ks S0 fuel (listed.setIfInBounds i true) E' S' F' w1' Q))
    (h' : JI X ops i' E S F w1 (fun E' S' F' w1' => Kept ks S0 S' ∧ JH X ops ks S0 fuel (listed.setIfInBounds i' true) E' S' F' w1' Q)) : JH X ops ks S0 (fuel + 1) listed E S F w1 Q := fun w a hn hc ha =>
  wpAnyH_all hr (by simp) fun k hk => by
    have key : ∀ k, JI X ops k E S F w1 (fun E' S' F' w1' => Kept ks S0 S' ∧ JH X ops ks S0 fuel (listed.setIfInBounds k true) E' S' F' w1' Q) → wpOp Tryd.prog ops (lft X.N Q) k (fun a' w' => Holds0 (mask ks S0) w' ∧ wpAnyH Tryd.prog .any ops (lft X.N Q) (Holds0 (mask ks S0)) fuel (listed.setIfInBounds k true) a' w') a w := fun k h => by
      obtain ⟨o, ho, hh⟩ := h
      unfold wpOp
      simp only [ho]
      rcases hh with ⟨hg, hj⟩ | ⟨j, b, oj, d, hg, hoj, hd, hb, hj⟩ | ⟨j, b, oj, d, dst, hg, hoj, hd, hb, hdst, hN, hkk⟩
      · rw [if_pos (by simp [Region.wanted, hg])]
        exact .inl (hj.wp_mono hc ha fun E' S' F' w1' a' w' h1 h2 h3 => ⟨h3.1.holds h2, h3.2 w' a' hn h2 h1⟩)
      · rw [if_pos (by simp [Region.wanted, hg, yielded_of ha hoj hd hb])]
        have : o.wp Tryd.prog a w = { o with guard := none }.wp Tryd.prog a w := rfl
        rw [this]
        exact .inl (hj.wp_mono hc ha fun E' S' F' w1' a' w' h1 h2 h3 => ⟨h3.1.holds h2, h3.2 w' a' hn h2 h1⟩)
      · rw [if_neg (by simp [Region.wanted, hg, yielded_of ha hoj hd hb])]
        rw [hdst]
        exact ⟨hkk.1.holds hc, hkk.2 w _ hn hc (ha.put dst undef hN)⟩
    rcases List.mem_cons.1 hk with rfl | hk
    · exact key _ h
    · rw [List.mem_singleton.1 hk]; exact key _ h'
theorem JH.done (hr : Region.ready .any ops listed = []) (h : JQ X Q .normal E S F w1) : JH X ops ks S0 fuel listed E S F w1 Q := fun w a hn hc ha => wpAnyH_done hr ⟨E, ha, h w hc⟩ fuel
theorem JI.skip {i : Nat} {dst : Nat} {op : Op} {t : TypeId} {pos : String} {af : Array Edge} {j : Nat} {b : Bool} {oj : Oper} {d : Nat} {K : Kon} (hi : ops[i]? = some ⟨some dst, op, t, pos, af, some (j, b)⟩) (hj : ops[j]? = some oj) (hd : oj.dst = some d) (hb : E d = .bool (!b)) (hN : Nat.blt dst X.N = true)
    (h : K (upd E dst undef) S F w1) : JI X ops i E S F w1 K := ⟨_, hi, .inr (.inr ⟨j, b, oj, d, dst, rfl, hj, hd, hb, rfl, hN, h⟩)⟩
theorem JI.op_do {i : Nat} {dst : Option Tmp} {op : Op} {t : TypeId} {pos : String} {af : Array Edge} {j : Nat} {b : Bool} {oj : Oper} {d : Nat} {K : Kon} (hi : ops[i]? = some ⟨dst, op, t, pos, af, some (j, b)⟩) (hj : ops[j]? = some oj) (hd : oj.dst = some d) (hb : E d = .bool b)
    (h : JO X ⟨dst, op, t, pos, af, none⟩ E S F w1 K) : JI X ops i E S F w1 K := ⟨_, hi, .inr (.inl ⟨j, b, oj, d, rfl, hj, hd, hb, h⟩)⟩

/-! ### An operation whose guard was itself passed over -/
theorem yielded_undef {a : Act} {N j d : Nat} {oj : Oper} (ha : Agree N a E) (hj : ops[j]? = some oj) (hd : oj.dst = some d) (hb : E d = undef) : yielded ops a.tmps j = none := by
  have h1 : a.tmps.getD d undef = undef := (ha.get d).trans hb
  rw [Array.getD_eq_getD_getElem?] at h1
  simp only [yielded, hj, hd, Option.bind_some]
  cases hq : a.tmps[d]? with
  | none => rfl
  | some v =>
    rw [hq] at h1
    have h2 : v = undef := h1
    subst h2
    rfl
theorem JL.op_skipU {dst : Tmp} {op : Op} {t : TypeId} {pos : String} {af : Array Edge} {j : Nat} {b : Bool} {oj : Oper} {d : Nat}
    (hj : ops[j]? = some oj) (hd : oj.dst = some d) (hb : E d = undef) (hN : Nat.blt dst X.N = true)
    (h : JL X ops l (upd E dst undef) S F w1 Q) : JL X ops (⟨some dst, op, t, pos, af, some (j, b)⟩ :: l) E S F w1 Q := fun w a hc ha => by
  refine wpList_step fun K hK => ?_
  rw [if_neg (by simp [Region.wanted, yielded_undef ha hj hd hb])]
  exact hK _ _ (h w _ hc (ha.put dst undef hN))
theorem JT.skipU {d : Nat} {op : Op} {t : TypeId} {pos : String} {af : Array Edge} {j : Nat} {b : Bool} {oj : Oper} {dj : Nat}
    (hj : ops[j]? = some oj) (hd : oj.dst = some dj) (hb : E dj = undef) (hN : Nat.blt d X.N = true)
    (h : JT X ops l (upd E d undef) S F w1 Q) : JT X ops (⟨some d, op, t, pos, af, some (j, b)⟩ :: l) E S F w1 Q := fun a ha =>
  wpQuiet_step fun K hK => by
    rw [if_neg (by simp [Region.wanted, yielded_undef ha hj hd hb])]
    exact hK _ (h _ (ha.put d undef hN))
/-! ### A slice of several elements -/
/-- The parts, in order from number i on, give the cells r. -/
def Parts (E : Env) (sz : Nat) : Nat → List (Nat × Operand) → List Value → Prop
  | _, [], r => r = []
  | i, (j, x) :: ps, r => ∃ vs rest, j = i ∧ (ev E x).cells = vs.toArray ∧ vs.length = sz ∧ r = vs ++ rest ∧ Parts E sz (i + 1) ps rest
theorem fill_parts {E : Env} {sz : Nat} : ∀ {ps : List (Nat × Operand)} {i : Nat} {done r Z : List Value}, Parts E sz i ps r → done.length = i * sz → Z.length = r.length →
    Instr.fill (fun i => some (i * sz, sz)) (done ++ Z).toArray (ps.map fun p => (p.1, ev E p.2)) = some (done ++ r).toArray
  | [], i, done, r, Z, h, hd, hZ => by
    obtain rfl : r = [] := h
    obtain rfl : Z = [] := List.eq_nil_of_length_eq_zero hZ
    rfl
  | (j, x) :: ps, i, done, r, Z, ⟨vs, rest, h1, h2, h3, h4, h5⟩, hd, hZ => by
    subst h1 h4
    rw [List.length_append] at hZ
    show Instr.fill _ _ ((j, ev E x) :: _) = _
    rw [fill_one (place := fun i => some (i * sz, sz)) (o := j * sz) (n := sz) rfl h2 h3 (by rw [List.length_append]; omega)]
    have e : splice (done ++ Z) (j * sz) vs = (done ++ vs) ++ Z.drop vs.length := by
      unfold splice
      rw [← hd, List.take_left, List.drop_append, List.drop_of_length_le (by omega)]
      simp
    rw [e, ← List.append_assoc]
    exact fill_parts h5 (by rw [List.length_append, hd, h3, Nat.add_mul]; omega) (by rw [List.length_drop]; omega)
theorem JO.buildN {d : Nat} {t : TypeId} {pos : String} {af : Array Edge} {K : Kon} {T e n : Nat} {ps : List (Nat × Operand)} {ag : Bool} {sz bt : Nat} {z r : List Value} (hs : sle T = some e) (hr : tyr e = some (ag, sz, bt, z)) (hp : Parts E sz 0 ps r) (hn : r.length = n * sz) (hsz : Nat.ble (n * sz) 1000 = true) (hN : Nat.blt d X.N = true)
    (h : ∀ b, K (upd E d (.slice (some ⟨b, 0, none⟩) n n)) (S ++ [(some b, e, r)]) F w1) : JO X ⟨some d, .buildSlice T n ps.toArray, t, pos, af, none⟩ E S F w1 K := fun w a Q' hc ha => by
  have hsz' : n * sz ≤ 1000 := by simpa using hsz
  have hrun : (execOp (ev E) ⟨some d, .buildSlice T n ps.toArray, t, pos, af, none⟩).run Tryd.prog w = .ok (.value (.slice (some ⟨w.heap.size, 0, none⟩) n n)) (w.alloc (.cells r.toArray e (0, 0))) := by
    have := run_buildSlice (w := w) (n := n) (parts := (ps.map fun p => (p.1, ev E p.2)).toArray) (cells := r) hs hr (by omega) (by
      generalize hZ : ((Array.range (n * sz)).map (fun j => (if n * sz = 0 then #[] else z.toArray)[j % (if n * sz = 0 then (#[] : Array Value) else z.toArray).size]!)) = Z
      have hZl : Z.size = n * sz := by rw [← hZ]; simp
      have := fill_parts (done := []) (Z := Z.toList) hp (by simp) (by simp [hZl, hn])
      simpa using this)
    simp only [execOp, Sem.run_bind]
    rw [show Array.map (fun (x : Nat × Operand) => (x.1, ev E x.2)) ps.toArray = (ps.map fun p => (p.1, ev E p.2)).toArray by simp]
    rw [this]
    rfl
  unfold Oper.wp
  rw [ha.eval, hrun]
  exact ⟨_, _, _, _, ha.put d _ hN, hc.alloc e r, h _⟩
/-! ### Ways that meet again -/
/-- What is known where ways meet: some slots; blocks, old memory as at the parting. -/
def khas (X : Cx) (lv : List (Nat × Value)) (S : Sto) (F : Nat → Prop) (w1 : World) : Exit → Env → World → Prop := fun e E w => e = .normal ∧ Has E lv ∧ Cur X S F w1 w
theorem np_has {X : Cx} {lv : List (Nat × Value)} {S : Sto} {F : Nat → Prop} {w1 : World} : NoPanic (khas X lv S F w1) := fun c E w h => by cases h.1
theorem JQ.has {lv : List (Nat × Value)} {S' : Sto} {F' : Nat → Prop} {w1' : World} (h : Has E lv) (hw : ∀ w, Cur X S F w1 w → Cur X S' F' w1' w) : JQ X (khas X lv S' F' w1') .normal E S F w1 := fun w hc => ⟨rfl, h, hw w hc⟩
theorem lft_has {N : Nat} {Q : Exit → Env → World → Prop} {lv : List (Nat × Value)} {S' : Sto} {F' : Nat → Prop} {w1' : World} (hN : X.N = N) (h1 : ∀ E', JQ X Q .normal (upds E' lv) S' F' w1') : ∀ e a w, lft N (khas X lv S' F' w1') e a w → lft N Q e a w := fun e a w ⟨E', h2, h3, h4, h5⟩ => by
  subst h3
  have := h1 E'
  rw [upds_self h4] at this
  exact ⟨E', h2, this w h5⟩
theorem wpList_mono' {P : Program} {Q1 Q2 : Exit → Act → World → Prop} (h : ∀ e a w, Q1 e a w → Q2 e a w) : ∀ (l : List Oper) (a : Act) (w : World), wpList P ops Q1 l a w → wpList P ops Q2 l a w
  | [], _, _, hh => h _ _ _ hh
  | o :: rest, a, w, hh => by
    unfold wpList at hh ⊢
    split
    · rename_i hw
      rw [if_pos hw] at hh
      rcases hh with hh | ⟨h1, ⟨a', w', h2⟩⟩
      · refine .inl ?_
        have hh' := Oper.wp_mono (K' := wpList P ops Q2 rest) (fun a w hk => wpList_mono' h rest a w hk) hh
        unfold Oper.wp at hh' ⊢
        generalize (execOp a.eval o).run P w = r at *
        cases r with
        | ok n w' =>
          cases n <;> simp only [Oper.upon] at hh' ⊢ <;> first | exact hh' | exact hh'.elim | skip
          · exact Calls.mono hh' fun e w'' he => by
              cases e with
              | returned v => exact he
              | panicked c => exact h _ _ _ he
              | outgrown => exact let ⟨a1, w1, h1⟩ := he; ⟨a1, w1, h _ _ _ h1⟩
        | halt x w' => cases x <;> simp only [Oper.upon] at hh' ⊢ <;> first | exact h _ _ _ hh' | exact hh'.elim
      · exact .inr ⟨h1, a', w', h _ _ _ h2⟩
    · rename_i hw
      rw [if_neg hw] at hh
      exact wpList_mono' h rest _ _ hh
theorem JL.cut (lv : List (Nat × Value)) (h1 : ∀ E', JQ X Q .normal (upds E' lv) S F w1) (h2 : JL X ops l E S F w1 (khas X lv S F w1)) : JL X ops l E S F w1 Q := fun w a hc ha =>
  wpList_mono' (lft_has rfl h1) l a w (h2 w a hc ha)
theorem JC.cut {c : Code} (lv : List (Nat × Value)) (S' : Sto) (F' : Nat → Prop) (w1' : World) (h1 : ∀ E', JQ X Q .normal (upds E' lv) S' F' w1') (h2 : JC X c E S F w1 (khas X lv S' F' w1')) : JC X c E S F w1 Q := fun w a hc ha =>
  Code.wp_mono (lft_has rfl h1) (h2 w a hc ha)
theorem JC.cutS {c : Code} (lv : List (Nat × Value)) (h2 : JC X c E S F w1 (khas X lv S F w1)) (h1 : ∀ E', JQ X Q .normal (upds E' lv) S F w1) : JC X c E S F w1 Q := JC.cut lv S F w1 h1 h2
theorem JL.split {d : Nat} {b : Bool} (hb : E d = .bool b) (ht : b = true → JL X ops l E S F w1 Q) (hf : b = false → JL X ops l E S F w1 Q) : JL X ops l E S F w1 Q := by
  cases b
  · exact hf rfl
  · exact ht rfl
theorem JT.split {d : Nat} {b : Bool} (hb : E d = .bool b) (ht : b = true → JT X ops l E S F w1 Q) (hf : b = false → JT X ops l E S F w1 Q) : JT X ops l E S F w1 Q := by
  cases b
  · exact hf rfl
  · exact ht rfl
theorem JT.callv_do {d : Nat} {ty : TypeId} {pos : String} {af : Array Edge} {v : Value} {g : FuncId} {x : Operand} {xs : Array Operand} {ts : Array TypeId} {caps args : List Value} {j : Nat} {b : Bool} {oj : Oper} {dj : Nat} (hj : ops[j]? = some oj) (hd : oj.dst = some dj) (hb : E dj = .bool b)
    (hcall : ∀ w, Cur X S F w1 w → CallsTo g args.toArray w (fun v' _ => v' = v)) (hx : ev E x = .func (.func g) #[] caps.toArray) (hargs : xs.toList.map (ev E) ++ caps = args) (hN : Nat.blt d X.N = true)
    (hf : ∃ fn, Tryd.prog.funcs[g]? = some fn ∧ (fn.name == "runtime.NumGoroutine") = false ∧ fn.body.isNone = false)
    (h : JT X ops l (upd E d v) S F w1 Q) : JT X ops (⟨some d, .call { callee := .value x, args := xs, argTypes := ts }, ty, pos, af, some (j, b)⟩ :: l) E S F w1 Q := fun a ha =>
  wpQuiet_step fun K hK => by
    rw [if_pos (by simp [Region.wanted, yielded_of ha hj hd hb])]
    refine ⟨v, fun w hc => ?_, hK _ (h _ (ha.put d v hN))⟩
    unfold Oper.quietAt
    have hrun := run_call (dst := some d) (ts := ts) (ty := ty) (pos := pos) (af := af) (w := w) hx hargs hf
    have hrun' : (execOp (ev E) ⟨some d, .call { callee := .value x, args := xs, argTypes := ts }, ty, pos, af, some (j, b)⟩).run Tryd.prog w = .ok (.enter g args.toArray) w := hrun
    rw [ha.eval, hrun']
    refine ⟨rfl, (hcall w hc).2.mono fun e w' ⟨v', he, hb, hR⟩ => ?_⟩
    subst he hR
    exact ⟨rfl, hc.later hb⟩
end
end Go.Proofs.YtchnnplcpidkiaaDoor
