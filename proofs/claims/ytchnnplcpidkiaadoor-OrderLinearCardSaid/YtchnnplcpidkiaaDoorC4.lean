/- Contracts of state.New, copied, pair, last, Get, Last; no condition but bounds on lengths. -/
import Derived.Test.YtchnnplcpidkiaaDoorC3
import Derived.Test.YtchnnplcpidkiaaDoorB6
namespace Go.Proofs.YtchnnplcpidkiaaDoor
open Go.RowKit
set_option linter.unusedSimpArgs false
set_option linter.unusedVariables false
set_option maxRecDepth 20000

theorem new_any (F : Nat → Prop) (ep : Int) (A : Option Addr) (n cap : Nat) (cs : List Value) (w : World) (h : SlF F w A n cap 34 cs) (h1 : ∀ u ∈ cs, u.oneCell' = true) (hn : n ≤ 100000) :
    CallsTo 20 #[.agg [.int .i64 ep, .slice A n cap].toArray] w (fun v w' => ∃ vm, v = .agg [.slice none 0 0, .slice none 0 0, .int .i64 ep, vm].toArray ∧ Fresh w w' 55 34 vm n cs) := by
  refine CallsTo.enter 10 (fun _ => True) F Tryd.func20 rfl rfl rfl rfl (by intros; first | trivial | assumption) ?_
  with_reducible refine JC.seq ?_
  with_reducible refine JC.region ?_
  refine JL.op (JO.box rfl rfl ?_); intro b1
  refine JL.op (JO.alloc rfl rfl ?_); intro b2
  with_reducible refine JL.nil ?_
  with_reducible refine JQ.seq (JC.seq ?_)
  refine JC.held [0] ?_
  refine JH.take 0 rfl (by kernel_rfl) (by kernel_rfl) (by kernel_rfl) (fun _ _ _ => y_fieldAddr rfl rfl rfl) rfl (by repeat (first | exact np_fun | refine np_seq ?_ | refine np_blk ?_ | refine np_loop ?_)) (⟨rfl, trivial⟩) ?_
  refine JH.take 1 rfl (by kernel_rfl) (by kernel_rfl) (by kernel_rfl) (fun _ _ _ => y_ld 0 rfl rfl rfl rfl) rfl (by repeat (first | exact np_fun | refine np_seq ?_ | refine np_blk ?_ | refine np_loop ?_)) (⟨rfl, trivial⟩) ?_
  refine JH.take 2 rfl (by kernel_rfl) (by kernel_rfl) (by kernel_rfl) (fun _ _ _ => y_fieldAddr rfl rfl rfl) rfl (by repeat (first | exact np_fun | refine np_seq ?_ | refine np_blk ?_ | refine np_loop ?_)) (⟨rfl, trivial⟩) ?_
  refine JH.take 3 rfl (by kernel_rfl) (by kernel_rfl) (by kernel_rfl) (fun _ _ _ => y_ld 0 rfl rfl rfl rfl) rfl (by repeat (first | exact np_fun | refine np_seq ?_ | refine np_blk ?_ | refine np_loop ?_)) (⟨rfl, trivial⟩) ?_
  refine JH.one 4 (by kernel_rfl) (JI.op rfl ?_)
  refine (JO.call _ (fun wc hc => clone_mems _ A n cap cs wc (h.step hc.step (by omega)) h1 hn) rfl rfl rfl ?_)
  intro wc v wn hst hsz hfr hbl hst0 hv
  have hv' := hv
  obtain ⟨ob, cap', cur, rfl, hrow, htk, hown⟩ := hv'
  refine ⟨⟨rfl, trivial⟩, ?_⟩
  refine JH.take 5 rfl (by kernel_rfl) (by kernel_rfl) (by kernel_rfl) (fun _ _ _ => y_build rfl rfl (⟨_, _, _, rfl, rfl, rfl, rfl, ⟨_, _, _, rfl, rfl, rfl, rfl, rfl⟩⟩)) rfl (by repeat (first | exact np_fun | refine np_seq ?_ | refine np_blk ?_ | refine np_loop ?_)) (⟨rfl, trivial⟩) ?_
  refine JH.take 6 rfl (by kernel_rfl) (by kernel_rfl) (by kernel_rfl) (fun _ _ _ => y_build rfl rfl (⟨_, _, _, rfl, rfl, rfl, rfl, rfl⟩)) rfl (by repeat (first | exact np_fun | refine np_seq ?_ | refine np_blk ?_ | refine np_loop ?_)) (⟨rfl, trivial⟩) ?_
  refine JH.one 7 (by kernel_rfl) (JI.op rfl ?_)
  refine (JO.storeA 1 rfl rfl rfl rfl (by first | rfl | assumption) (by first | rfl | assumption) (by first | rfl | assumption) ?_)
  refine ⟨⟨rfl, trivial⟩, ?_⟩
  refine JH.done (by kernel_rfl) ?_
  with_reducible refine JQ.seq (JC.ret ?_)
  refine ret_one rfl (ResV.cellA 1 rfl rfl rfl rfl) (fun w' hc => ⟨_, rfl, hv.step hsz hfr hc.step⟩)
theorem flatMap_one {α : Type} {f : α → List Value} {xs : List α} (h : ∀ x ∈ xs, ∀ u ∈ f x, u.oneCell' = true) : ∀ u ∈ xs.flatMap f, u.oneCell' = true := fun u hu => by
  obtain ⟨x, hx, h1⟩ := List.mem_flatMap.1 hu
  exact h x hx u h1
theorem sstr_one (s : ByteArray) : ∀ u ∈ sstr s, u.oneCell' = true := fun u hu => by rw [List.mem_singleton.1 hu]; rfl
/-- Lengths that nobody reaches. -/
structure Small (s : LState) : Prop where
  ps : s.ps.length ≤ 10000
  rs : s.rs.length ≤ 10000
  vals : ∀ r ∈ s.rs, r.vals.length ≤ 10000
  ms : s.ms.length ≤ 10000
theorem cur_snoc {α : Type} {f : α → List Value} {cur cur' : List Value} {k sz : Nat} {xs : List α} {x : α} (h : cur.take (k * sz) = xs.flatMap f) (h' : cur'.take ((k + 1) * sz) = cur.take (k * sz) ++ f x) : cur'.take ((k + 1) * sz) = (xs ++ [x]).flatMap f := by
  rw [h', h]; simp
theorem copied_any (F : Nat → Prop) (cs : List Value) (s : LState) (w : World) (h : RState F w cs s) (hwf : s.wf) (hsm : Small s) :
    CallsTo 26 #[.agg cs.toArray] w (fun v w' => ∃ cs', v = .agg cs'.toArray ∧ OState (fun b => w.heap.size ≤ b) w' cs' s) := by
  obtain ⟨Ap, cp, Ar, cr, Am, cm, rfl, hp, hr, hm⟩ := h.form
  obtain ⟨hs, hhs, hrow0, hvals⟩ := hr
  have b1 := hsm.ps
  have b2 := hsm.rs
  have b3 := hsm.ms
  have hS : Step F w F w := Step.weak fun _ h => h
  have hZ : w.heap.size ≤ w.heap.size := Nat.le_refl _
  have hlen : hs.length = s.rs.length := by rw [← hhs]; simp
  refine CallsTo.enter 32 (fun _ => True) F Tryd.func26 rfl rfl rfl rfl (by intros; first | trivial | assumption) ?_
  with_reducible refine JC.seq ?_
  with_reducible refine JC.region ?_
  refine JL.op (JO.box rfl rfl ?_); intro b1
  refine JL.op (JO.alloc rfl rfl ?_); intro b2
  with_reducible refine JL.nil ?_
  with_reducible refine JQ.seq (JC.seq ?_)
  with_reducible refine JC.region ?_
  refine JL.op (JO.val (y_fieldAddr rfl rfl rfl) rfl ?_)
  refine JL.op (JO.val (y_ldP 0 rfl rfl rfl rfl rfl) rfl ?_)
  refine JL.op (JO.call _ (fun wc hc => new_any _ s.ep Am s.ms.length cm _ wc (SlF.step hm hc.step (by omega)) (flatMap_one fun m hm' => LMember.one (hwf.ms m hm')) (by omega)) rfl rfl rfl ?_)
  rintro wc v wn hst hsz hfr hbl hst0 ⟨vm, rfl, hvm⟩
  obtain ⟨Am', cm', rfl, hom⟩ := hvm.own
  replace hom := hom.step (Step.weak (F' := fun b => Al _ _ b ∧ w.heap.size ≤ b) fun b hb => ⟨hfr b hb, Nat.le_trans hsz hb⟩)
  replace hS := hS.trans hst hZ
  replace hZ := Nat.le_trans hZ (Nat.le_trans hsz hbl.size)
  clear hst hsz hfr hbl hst0 hvm
  refine JL.op (JO.alloc rfl rfl ?_); intro b3
  refine JL.op (JO.storeA 2 rfl rfl rfl rfl (by first | rfl | assumption) (by first | rfl | assumption) (by first | rfl | assumption) ?_)
  with_reducible refine JL.nil ?_
  with_reducible refine JQ.seq (JC.seq ?_)
  with_reducible refine JC.region ?_
  refine JL.op (JO.val (y_fieldAddr rfl rfl rfl) rfl ?_)
  refine JL.op (JO.val (y_ld 0 rfl rfl rfl rfl) rfl ?_)
  refine JL.op (JO.call _ (fun wc hc => clone_pairs _ Ap s.ps.length cp _ wc ((SlF.step hp hS (by omega)).step hc.step (by omega)) (flatMap_one fun m _ => LPair.one m) (by omega)) rfl rfl rfl ?_)
  rintro wc v wn hst hsz hfr hbl hst0 hvp
  obtain ⟨Ap', cp', rfl, hop⟩ := hvp.own
  replace hop := hop.step (Step.weak (F' := fun b => Al _ _ b ∧ w.heap.size ≤ b) fun b hb => ⟨hfr b hb, Nat.le_trans hZ (Nat.le_trans hsz hb)⟩)
  replace hom := hom.step (hst.and _)
  replace hS := hS.trans hst hZ
  replace hZ := Nat.le_trans hZ (Nat.le_trans hsz hbl.size)
  clear hst hsz hfr hbl hst0 hvp
  refine JL.op (JO.val (y_fieldAddr rfl rfl rfl) rfl ?_)
  refine JL.op (JO.store1 2 rfl rfl rfl rfl rfl rfl rfl ?_)
  with_reducible refine JL.nil ?_
  with_reducible refine JQ.seq (JC.seq (JC.seq ?_))
  with_reducible refine JC.region ?_
  refine JL.op (JO.val (y_fieldAddr rfl rfl rfl) rfl ?_)
  refine JL.op (JO.val (y_ld 0 rfl rfl rfl rfl) rfl ?_)
  refine JL.op (JO.val (y_len rfl rfl) rfl ?_)
  refine JL.op (JO.val (y_move) rfl ?_)
  with_reducible refine JL.nil ?_
  with_reducible refine JQ.seq (JC.block ?_)
  refine JC.addNone 45 ?_
  refine JC.loop (fun m E S F' w1' => ∃ k ob cap' cur hs', m = s.rs.length - k ∧ k ≤ s.rs.length ∧ S = [(some b1, 28, [.slice Ap s.ps.length cp, .slice Ar s.rs.length cr, .int .i64 s.ep, .slice Am s.ms.length cm]), (some b2, 28, [.slice none 0 0, .slice none 0 0, .int .i64 0, .slice none 0 0]),
      (some b3, 28, [.slice Ap' s.ps.length cp', .slice (ob.map mkA) k cap', .int .i64 s.ep, .slice Am' s.ms.length cm']), (ob, 45, cur)] ∧ Row ob k cap' 4 cur ∧ hs'.map (·.1) = s.rs.take k ∧ cur.take (k * 4) = hs'.flatMap rcells ∧ OHs (fun b => F' b ∧ w.heap.size ≤ b) w1' hs' ∧
      OwnF (fun b => F' b ∧ w.heap.size ≤ b) w1' 53 2 Ap' s.ps.length cp' (s.ps.flatMap LPair.cells) ∧ OwnF (fun b => F' b ∧ w.heap.size ≤ b) w1' 55 34 Am' s.ms.length cm' (s.ms.flatMap LMember.cells) ∧ Step F w F' w1' ∧ w.heap.size ≤ w1'.heap.size ∧
      Has E [(1, .pointer (some ⟨b1, 0, none⟩)), (2, .pointer (some ⟨b2, 0, none⟩)), (3, .pointer (some ⟨b3, 0, none⟩)), (14, .slice Ar s.rs.length cr), (15, .int .i64 (s.rs.length : Nat)), (16, .int .i64 (k : Nat))])
    _ ⟨0, none, 0, [], [], rfl, Nat.zero_le _, rfl, Row.none 4, by simp, by simp, fun _ h => (by cases h), hop, hom, hS, hZ, ⟨rfl, rfl, rfl, rfl, rfl, rfl, trivial⟩⟩ ?_
  clear hop hom hS hZ
  rintro m E S F' w1' ⟨k, ob, cap', cur, hs', rfl, hk, rfl, hrow, hhs', htk, hoh, hop, hom, hS, hZ, hE⟩
  refine JC.env hE (fun E => ?_)
  with_reducible refine JC.seq ?_
  with_reducible refine JC.region ?_
  refine JL.op (JO.val (y_lss rfl rfl) rfl ?_)
  with_reducible refine JL.nil ?_
  with_reducible refine JQ.seq (JC.seq ?_)
  by_cases hlt : k < s.rs.length
  · have hd : decide ((k : Int) < (s.rs.length : Int)) = true := by simpa using hlt
    refine JC.cond_true (congrArg Value.bool hd) ?_
    obtain ⟨x, hx⟩ : ∃ x, hs[k]? = some x := ⟨hs[k], by simp [hlen, hlt]⟩
    have hxr : s.rs[k]? = some x.1 := by rw [← hhs]; simp [hx]
    have hxm : x.1 ∈ s.rs := List.mem_of_getElem? hxr
    obtain ⟨bx, ox, hA, hat⟩ := (SlF.step hrow0 hS (by omega)).elem rcells_len hlen.symm hx
    with_reducible refine JC.skip (JQ.seq (JC.seq (JC.block (JC.seq ?_))))
    with_reducible refine JC.region ?_
    refine JL.op (JO.val (y_idx (b := bx) (o := ox) rfl rfl rfl rfl hA rfl hlt) rfl ?_)
    refine JL.op (JO.val (y_lddA rfl rfl hat rfl) rfl ?_)
    refine JL.op (JO.alloc rfl rfl ?_); intro b5
    refine JL.op (JO.storeA 4 rfl rfl rfl rfl (by first | rfl | assumption) (by first | rfl | assumption) (by first | rfl | assumption) ?_)
    with_reducible refine JL.nil ?_
    with_reducible refine JQ.seq (JC.seq ?_)
    with_reducible refine JC.region ?_
    refine JL.op (JO.val (y_fieldAddr rfl rfl rfl) rfl ?_)
    refine JL.op (JO.val (y_ld 4 rfl rfl rfl rfl) rfl ?_)
    refine JL.op (JO.call _ (fun wc hc => clone_strs _ x.2.1 x.1.vals.length x.2.2 _ wc ((SlF.step (hvals x (List.mem_of_getElem? hx)) hS (by omega)).step hc.step (by omega)) (flatMap_one fun m _ => sstr_one m) (by have := hsm.vals x.1 hxm; omega)) rfl rfl rfl ?_)
    rintro wc v wn hst hsz hfr hbl hst0 hvv
    obtain ⟨Av, cv, rfl, hov⟩ := hvv.own
    replace hov := hov.step (Step.weak (F' := fun b => Al _ _ b ∧ w.heap.size ≤ b) fun b hb => ⟨hfr b hb, Nat.le_trans hZ (Nat.le_trans hsz hb)⟩)
    replace hop := hop.step (hst.and _)
    replace hom := hom.step (hst.and _)
    replace hoh := hoh.step (hst.and _)
    replace hS := hS.trans hst hZ
    replace hZ := Nat.le_trans hZ (Nat.le_trans hsz hbl.size)
    clear hst hsz hfr hbl hst0 hvv
    refine JL.op (JO.val (y_fieldAddr rfl rfl rfl) rfl ?_)
    refine JL.op (JO.store1 4 rfl rfl rfl rfl rfl rfl rfl ?_)
    with_reducible refine JL.nil ?_
    with_reducible refine JQ.seq ?_
    with_reducible refine JC.region ?_
    refine JL.op (JO.val (y_fieldAddr rfl rfl rfl) rfl ?_)
    refine JL.op (JO.val (y_ld 2 rfl rfl rfl rfl) rfl ?_)
    refine JL.op (JO.val (y_ldA 4 rfl rfl rfl rfl) rfl ?_)
    refine JL.op (JO.build1 rfl rfl rfl (by first | rfl | assumption) rfl rfl ?_); intro b27
    refine JL.op (JO.append 3 (ob := ob) (rcells (x.1, Av, cv)) rfl rfl rfl rfl rfl rfl rfl hrow rfl (fun h => by cases h) (fun w2 hc => hc.src (i := 5) rfl) (rcells_one _) (by have := hrow.max; simp only [maxLen] at *; omega) (by omega) ?_)
    intro ob' cap'' cur' hrow' htk' _
    refine JL.op (JO.val (y_fieldAddr rfl rfl rfl) rfl ?_)
    refine JL.op (JO.store1 2 rfl rfl rfl rfl rfl rfl rfl ?_)
    with_reducible refine JL.nil ?_
    with_reducible refine JQ.blk (JQ.seq ?_)
    with_reducible refine JC.region ?_
    refine JL.op (JO.val (y_add rfl rfl (r := ((k + 1 : Nat) : Int)) (by rw [Int.natCast_add]; exact wrap_in (by omega) (by omega))) rfl ?_)
    refine JL.op (JO.val (y_move) rfl ?_)
    with_reducible refine JL.nil ?_
    refine JQ.takeN 4 ?_
    refine JQ.loop (s.rs.length - (k + 1)) ⟨k + 1, ob', cap'', cur', hs' ++ [(x.1, Av, cv)], rfl, hlt, rfl, hrow', ?_, cur_snoc htk htk', ?_, hop, hom, hS, hZ, ⟨rfl, rfl, rfl, rfl, rfl, rfl, trivial⟩⟩ (by omega)
    · rw [List.map_append, hhs', List.take_add_one, hxr]; rfl
    · intro y hy
      rcases List.mem_append.1 hy with h1 | h1
      · exact hoh y h1
      · rw [List.mem_singleton.1 h1]; exact hov
  · have hd : decide ((k : Int) < (s.rs.length : Int)) = false := by simpa using hlt
    refine JC.cond_false (congrArg Value.bool hd) ?_
    obtain rfl : k = s.rs.length := by omega
    with_reducible refine JC.exit (JQ.seq_exit (JQ.loop_exit (JQ.blk_here (JQ.seq (JC.seq ?_)))))
    with_reducible refine JC.region ?_
    refine JL.op (JO.val (y_ldA 2 rfl rfl rfl rfl) rfl ?_)
    refine JL.op (JO.storeA 1 rfl rfl rfl rfl (by first | rfl | assumption) (by first | rfl | assumption) (by first | rfl | assumption) ?_)
    with_reducible refine JL.nil ?_
    with_reducible refine JQ.seq (JC.ret ?_)
    refine ret_one rfl (ResV.cellA 1 rfl rfl rfl rfl) (fun w' hc => ⟨_, rfl, Ap', cp', ob.map mkA, cap', Am', cm', hs', rfl, ?_, ?_, ?_, ?_, ?_⟩)
    · exact hop.step ((hc.step.and _).mono (fun _ h => h) (fun _ h => h.2))
    · rw [hhs', List.take_length]
    · exact ⟨ob, cur, rfl, hrow, htk, fun b hb => hc.own0 rfl (ob, 45, cur) (by simp [sset]) b hb⟩
    · exact hoh.step ((hc.step.and _).mono (fun _ h => h) (fun _ h => h.2))
    · exact hom.step ((hc.step.and _).mono (fun _ h => h) (fun _ h => h.2))
end Go.Proofs.YtchnnplcpidkiaaDoor
