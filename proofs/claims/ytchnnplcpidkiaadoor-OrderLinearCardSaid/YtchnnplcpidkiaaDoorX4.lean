/- The alive of law 24 answers true; condition: the tables of the library (P8, C32, put together). -/
import Derived.Test.YtchnnplcpidkiaaDoorX3
namespace Go.Proofs.YtchnnplcpidkiaaDoor
open Go.RowKit Go.Lib
set_option linter.unusedSimpArgs false
set_option linter.unusedVariables false
set_option maxRecDepth 20000

def kq1 : LReq := ⟨1, 1, ⟨2, ⟨#[97]⟩, ⟨#[]⟩, ⟨#[]⟩, chg0⟩⟩
def kq2 : LReq := ⟨2, 1, ⟨1, ⟨#[97]⟩, ⟨#[]⟩, ⟨#[]⟩, chg0⟩⟩
def ke1 : LEvent := ⟨kq1, ⟨1, 1, 0, []⟩, 0, 1⟩
def ke2 : LEvent := ⟨kq2, ⟨2, 1, 7, []⟩, 2, 3⟩
def ks0 : LState := ⟨[], [], 0, [mm 1]⟩
def ks1 : LState := ⟨[⟨⟨#[97]⟩, ⟨#[]⟩⟩], [⟨1, 1, 0, []⟩], 0, [mm 1]⟩
theorem kp1 : applyD ks0 kq1 = (ks1, ⟨1, 1, 0, []⟩) := by
  have hg : goodB kq1 = true := rfl
  have hd : did [] 0 [mm 1] kq1.op = ⟨[⟨⟨#[97]⟩, ⟨#[]⟩⟩], 0, [mm 1], 0, []⟩ := by
    unfold did
    rw [if_neg (by simp [kq1]), if_neg (by simp [kq1]), if_pos (show kq1.op.kind = 2 from rfl)]
    rfl
  unfold applyD
  rw [if_neg (by rw [hg]; simp)]
  show doneD ks0 kq1 = _
  unfold doneD
  rw [show did ks0.ps ks0.ep ks0.ms kq1.op = _ from hd]
  rfl
theorem kp2 : (applyD ks1 kq2).2 = ⟨2, 1, 0, [⟨#[]⟩]⟩ := by
  have hg : goodB kq2 = true := rfl
  have hh : hasP [⟨⟨#[97]⟩, ⟨#[]⟩⟩] kq2.op.key = true := by simp [hasP, kq2]
  have hv : valOf [⟨⟨#[97]⟩, ⟨#[]⟩⟩] kq2.op.key = ⟨#[]⟩ := by simp [valOf, idx, kq2]
  have hd : did [⟨⟨#[97]⟩, ⟨#[]⟩⟩] 0 [mm 1] kq2.op = ⟨[⟨⟨#[97]⟩, ⟨#[]⟩⟩], 0, [mm 1], 0, [⟨#[]⟩]⟩ := by
    unfold did
    rw [hh, hv, if_neg (by simp), if_pos (show kq2.op.kind = 1 from rfl)]
  unfold applyD
  rw [if_neg (by rw [hg]; simp)]
  have hi : idx (fun r : LReply => decide (r.client = kq2.client)) [⟨1, 1, 0, []⟩] = none := rfl
  show (match idx (fun r : LReply => decide (r.client = kq2.client)) [⟨1, 1, 0, []⟩] with | _ => _ : LState × LReply).2 = _
  simp only [hi, ks1]
  unfold doneD
  rw [hd]
  rfl
theorem kr1 : runsB ks0 kq1 = true := rfl
theorem kr2 : runsB ks1 kq2 = true := rfl
theorem kchk : checkD ks0 [kq1, kq2] [ke1, ke2] = 9 := by
  have hl : runL ks0 [kq1, kq2] 0 = [((1, 1), 0, ⟨1, 1, 0, []⟩), ((2, 1), 1, ⟨2, 1, 0, [⟨#[]⟩]⟩)] := by
    rw [runL, if_pos kr1, kp1]
    show _ ++ runL ks1 [kq2] 1 = _
    rw [runL, if_pos kr2, kp2]
    rfl
  have h1 : evB (runL ks0 [kq1, kq2] 0) [kq1, kq2] ke1 = 0 := by
    rw [hl]
    unfold evB
    rw [if_neg (by decide)]
    show (match fnd [((1, 1), 0, ⟨1, 1, 0, []⟩), ((2, 1), 1, ⟨2, 1, 0, [⟨#[]⟩]⟩)] (1, 1) with | none => (7 : Int) | some (i, r) => _) = 0
    have hf : fnd [((1, 1), 0, (⟨1, 1, 0, []⟩ : LReply)), ((2, 1), 1, ⟨2, 1, 0, [⟨#[]⟩]⟩)] (1, 1) = some (0, ⟨1, 1, 0, []⟩) := rfl
    rw [hf]
    show (if (!eqQ kq1 kq1 || !sameR ⟨1, 1, 0, []⟩ ⟨1, 1, 0, []⟩) = true then (9 : Int) else 0) = 0
    rw [eqQ_self]; rfl
  have h2 : evB (runL ks0 [kq1, kq2] 0) [kq1, kq2] ke2 = 9 := by
    rw [hl]
    unfold evB
    rw [if_neg (by decide)]
    show (match fnd [((1, 1), 0, ⟨1, 1, 0, []⟩), ((2, 1), 1, ⟨2, 1, 0, [⟨#[]⟩]⟩)] (2, 1) with | none => (7 : Int) | some (i, r) => _) = 9
    have hf : fnd [((1, 1), 0, (⟨1, 1, 0, []⟩ : LReply)), ((2, 1), 1, ⟨2, 1, 0, [⟨#[]⟩]⟩)] (2, 1) = some (1, ⟨2, 1, 0, [⟨#[]⟩]⟩) := rfl
    rw [hf]
    show (if (!eqQ kq2 kq2 || !sameR ⟨2, 1, 0, [⟨#[]⟩]⟩ ⟨2, 1, 7, []⟩) = true then (9 : Int) else 0) = 9
    rw [eqQ_self]; rfl
  unfold checkD checkL
  have h3 : check1 (runL ks0 [kq1, kq2] 0) [kq1, kq2] [ke1, ke2] = 9 := by
    rw [check1_take (k := 1) (e := ke2) rfl (fun x hx => by rw [List.mem_singleton.1 hx]; exact h1) (by rw [h2]; decide)]
    exact h2
  rw [h3]
  rfl
theorem ksr : sameR ⟨2, 1, 0, [⟨#[]⟩]⟩ ⟨2, 1, 7, []⟩ = false := rfl
theorem kone : searchD 1 ks0 [ke1] = true := by
  rw [searchD, if_neg (by decide)]
  refine List.any_eq_true.2 ⟨0, by simp, ?_⟩
  show (!([ke1].any fun o => aheadB o ke1) && ((decide (ke1.done < 0) || sameR (applyD ks0 kq1).2 ke1.rep) && searchD 0 (applyD ks0 kq1).1 [])) = true
  rw [kp1]
  rfl
theorem ktwo : searchD 2 ks0 [ke1, ke2] = false := by
  rw [searchD, if_neg (by decide)]
  have ha : searchD 1 ks1 [ke2] = false := by
    rw [searchD, if_neg (by decide)]
    show ([0].any fun i => _) = false
    simp only [List.any_cons, List.any_nil, Bool.or_false]
    show (!([ke2].any fun o => aheadB o ke2) && ((decide (ke2.done < 0) || sameR (applyD ks1 kq2).2 ke2.rep) && searchD 0 (applyD ks1 kq2).1 [])) = false
    rw [kp2]
    rfl
  show ([0, 1].any fun i => _) = false
  simp only [List.any_cons, List.any_nil, Bool.or_false, Bool.or_eq_false_iff]
  refine ⟨?_, rfl⟩
  show (!([ke1, ke2].any fun o => aheadB o ke1) && ((decide (ke1.done < 0) || sameR (applyD ks0 kq1).2 ke1.rep) && searchD 1 (applyD ks0 kq1).1 [ke2])) = false
  rw [kp1]
  show (_ && (_ && searchD 1 ks1 [ke2])) = false
  rw [ha]
  simp
theorem kq_wf : kq1.wf ∧ kq2.wf := by
  have hz : I64 0 := by unfold I64; decide
  have h1 : I64 1 := by unfold I64; decide
  have h2 : I64 2 := by unfold I64; decide
  have hc : chg0.wf := ⟨hz, hz, hz, zkey_wf⟩
  have hs : ∀ x : UInt8, (⟨#[x]⟩ : ByteArray).size ≤ strMax := fun x => by show 1 ≤ strMax; decide
  have hs0 : (⟨#[]⟩ : ByteArray).size ≤ strMax := Nat.zero_le _
  exact ⟨⟨h1, h1, h2, hs _, hs0, hs0, hc⟩, ⟨h2, h1, h1, hs _, hs0, hs0, hc⟩⟩
theorem ke_ok : ke1.ok ∧ ke2.ok := by
  have hI : ∀ x : Int, 0 ≤ x → x ≤ 100 → I64 x := fun x h1 h2 => by unfold I64; omega
  exact ⟨⟨⟨kq_wf.1, ⟨hI _ (by decide) (by decide), hI _ (by decide) (by decide), hI _ (by decide) (by decide), fun v hv => by cases hv⟩, hI _ (by decide) (by decide), hI _ (by decide) (by decide)⟩, ⟨by decide, fun s hs => by cases hs⟩⟩,
    ⟨⟨kq_wf.2, ⟨hI _ (by decide) (by decide), hI _ (by decide) (by decide), hI _ (by decide) (by decide), fun v hv => by cases hv⟩, hI _ (by decide) (by decide), hI _ (by decide) (by decide)⟩, ⟨by decide, fun s hs => by cases hs⟩⟩⟩
theorem ks_fit : Fit2 0 ks0 := by
  refine ⟨⟨⟨fun p hp => (by cases hp), fun r hr => (by cases hr), (by unfold I64; decide), fun m hm => ?_⟩, ⟨by decide, by decide, by decide, fun r hr => (by cases hr)⟩, List.Pairwise.nil, List.Pairwise.nil⟩, ⟨fun p hp => (by cases hp), fun r hr => (by cases hr)⟩⟩
  rw [List.mem_singleton.1 hm]
  exact mm_wf (by unfold I64; omega)
end Go.Proofs.YtchnnplcpidkiaaDoor
namespace Go.Proofs.YtchnnplcpidkiaaDoor
open Go.RowKit Go.Lib
set_option linter.unusedSimpArgs false
set_option linter.unusedVariables false
set_option maxRecDepth 20000
set_option maxHeartbeats 16000000

theorem ks_mem {w : World} {b : Nat} (h : SlF (fun _ => True) w (some ⟨b, 0, none⟩) 1 1 34 ([mm 1].flatMap LMember.cells)) : RState (fun _ => True) w [.slice none 0 0, .slice none 0 0, .int .i64 0, .slice (some ⟨b, 0, none⟩) 1 1] ks0 :=
  ⟨none, 0, none, 0, some ⟨b, 0, none⟩, 1, rfl, ⟨Nat.le_refl _, by decide, rfl, fun _ => ⟨rfl, rfl⟩, fun h => absurd h (by decide)⟩, ⟨[], rfl, ⟨Nat.le_refl _, by decide, rfl, fun _ => ⟨rfl, rfl⟩, fun h => absurd h (by decide)⟩, fun x hx => (by cases hx)⟩, h⟩
theorem ke_l {w : World} : EvL (fun _ => True) w [(ke1, none, 0), (ke2, none, 0)] := fun h hh => by
  have hn : RStrs (fun _ => True) w none 0 [] := ⟨Nat.le_refl _, by decide, rfl, fun _ => ⟨rfl, rfl⟩, fun h => absurd h (by decide)⟩
  rcases List.mem_cons.1 hh with rfl | hh
  · exact ⟨ke_ok.1, hn⟩
  · rw [List.mem_singleton.1 hh]
    exact ⟨ke_ok.2, hn⟩
theorem kchk_any {cs : List Value} {bq be : Nat} {w : World} (h : RState (fun _ => True) w cs ks0) (hq : SlF (fun _ => True) w (some ⟨bq, 0, none⟩) 2 2 42 ([kq1, kq2].flatMap LReq.cells)) (he : SlF (fun _ => True) w (some ⟨be, 0, none⟩) 2 2 48 ([(ke1, (none : Option Addr), 0), (ke2, none, 0)].flatMap ecells)) (htab : Tab (fun _ => True) w) :
    CallsTo 16 #[.agg cs.toArray, .slice (some ⟨bq, 0, none⟩) 2 2, .slice (some ⟨be, 0, none⟩) 2 2] w (fun v _ => v = .int .i64 9) := by
  have := check16_any (fun _ => True) cs ks0 _ 2 [kq1, kq2] _ 2 [(ke1, none, 0), (ke2, none, 0)] w h hq (fun q hq => by
    rcases List.mem_cons.1 hq with rfl | hq
    · exact kq_wf.1
    · rw [List.mem_singleton.1 hq]; exact kq_wf.2) he ke_l ks_fit (by decide) (by decide) htab
  rw [show checkD ks0 [kq1, kq2] ([(ke1, (none : Option Addr), 0), (ke2, none, 0)].map (·.1)) = 9 from kchk] at this
  exact this
theorem ktwo_any {cs : List Value} {be : Nat} {w : World} (h : RState (fun _ => True) w cs ks0) (he : SlF (fun _ => True) w (some ⟨be, 0, none⟩) 2 2 48 ([(ke1, (none : Option Addr), 0), (ke2, none, 0)].flatMap ecells)) (htab : Tab (fun _ => True) w) :
    CallsTo 18 #[.agg cs.toArray, .slice (some ⟨be, 0, none⟩) 2 2] w (fun v _ => v = .tuple #[.bool false, .int .i64 0]) := by
  have := linear18_any (fun _ => True) cs ks0 _ 2 [(ke1, none, 0), (ke2, none, 0)] w h ks_fit he ke_l htab
  rw [show (if [(ke1, (none : Option Addr), 0), (ke2, none, 0)].length > 8 then false else searchD [(ke1, (none : Option Addr), 0), (ke2, none, 0)].length ks0 ([(ke1, (none : Option Addr), 0), (ke2, none, 0)].map (·.1))) = false from ktwo] at this
  exact this
theorem kone_any {cs : List Value} {be : Nat} {w : World} (h : RState (fun _ => True) w cs ks0) (he : SlF (fun _ => True) w (some ⟨be, 0, none⟩) 1 1 48 ([(ke1, (none : Option Addr), 0)].flatMap ecells)) (htab : Tab (fun _ => True) w) :
    CallsTo 18 #[.agg cs.toArray, .slice (some ⟨be, 0, none⟩) 1 1] w (fun v _ => v = .tuple #[.bool true, .int .i64 0]) := by
  have := linear18_any (fun _ => True) cs ks0 _ 1 [(ke1, none, 0)] w h ks_fit he (ke_l.sub (fun x hx => by rw [List.mem_singleton.1 hx]; simp)) htab
  rw [show (if [(ke1, (none : Option Addr), 0)].length > 8 then false else searchD [(ke1, (none : Option Addr), 0)].length ks0 ([(ke1, (none : Option Addr), 0)].map (·.1))) = true from kone] at this
  exact this
theorem alive14_any (F : Nat → Prop) (w : World) (htab : Tab F w) : CallsTo 14 #[] w (fun v _ => v = .bool true) := by
  have hl1 : (ecells (ke1, none, 0)).length = 48 := ecells_len ke_ok.1.wf
  have hl2 : (ecells (ke2, none, 0)).length = 48 := ecells_len ke_ok.2.wf
  have ho1 : allOne (ecells (ke1, none, 0)) = true := ecells_all1 ke_ok.1.wf
  have ho2 : allOne (ecells (ke2, none, 0)) = true := ecells_all1 ke_ok.2.wf
  refine CallsTo.enter 59 (fun _ => True) F Tryd.func14 rfl rfl rfl rfl (by intros; first | trivial | assumption) ?_
  with_reducible refine JC.seq ?_
  with_reducible refine JC.region ?_
  refine JL.op (JO.val (y_assign) rfl ?_)
  with_reducible refine JL.nil ?_
  with_reducible refine JQ.seq (JC.seq ?_)
  with_reducible refine JC.region ?_
  refine JL.op (JO.val (y_build rfl rfl (⟨_, _, _, rfl, rfl, rfl, rfl, rfl⟩)) rfl ?_)
  refine JL.op (JO.build1 rfl rfl rfl (by first | rfl | assumption) rfl rfl ?_); intro b10
  refine JL.op (JO.val (y_build rfl rfl (⟨_, _, _, rfl, rfl, rfl, rfl, rfl⟩)) rfl ?_)
  refine JL.op (JO.val (y_build rfl rfl (⟨_, _, _, rfl, rfl, rfl, rfl, rfl⟩)) rfl ?_)
  refine JL.op (JO.alloc rfl rfl ?_); intro b1
  refine JL.op (JO.storeA 1 rfl rfl rfl rfl (by first | rfl | assumption) (by first | rfl | assumption) (by first | rfl | assumption) ?_)
  with_reducible refine JL.nil ?_
  with_reducible refine JQ.seq (JC.seq ?_)
  with_reducible refine JC.region ?_
  refine JL.op (JO.val (y_build rfl rfl (⟨_, _, _, rfl, rfl, rfl, rfl, ⟨_, _, _, rfl, rfl, rfl, rfl, rfl⟩⟩)) rfl ?_)
  refine JL.op (JO.val (y_build rfl rfl (⟨_, _, _, rfl, rfl, rfl, rfl, ⟨_, _, _, rfl, rfl, rfl, rfl, ⟨_, _, _, rfl, rfl, rfl, rfl, rfl⟩⟩⟩)) rfl ?_)
  refine JL.op (JO.val (y_build rfl rfl (⟨_, _, _, rfl, rfl, rfl, rfl, ⟨_, _, _, rfl, rfl, rfl, rfl, rfl⟩⟩)) rfl ?_)
  refine JL.op (JO.val (y_build rfl rfl (⟨_, _, _, rfl, rfl, rfl, rfl, ⟨_, _, _, rfl, rfl, rfl, rfl, ⟨_, _, _, rfl, rfl, rfl, rfl, rfl⟩⟩⟩)) rfl ?_)
  refine JL.op (JO.alloc rfl rfl ?_); intro b2
  refine JL.op (JO.storeA 2 rfl rfl rfl rfl (by first | rfl | assumption) (by first | rfl | assumption) (by first | rfl | assumption) ?_)
  with_reducible refine JL.nil ?_
  with_reducible refine JQ.seq (JC.seq ?_)
  with_reducible refine JC.region ?_
  refine JL.op (JO.val (y_build rfl rfl (⟨_, _, _, rfl, rfl, rfl, rfl, ⟨_, _, _, rfl, rfl, rfl, rfl, rfl⟩⟩)) rfl ?_)
  refine JL.op (JO.val (y_build rfl rfl (⟨_, _, _, rfl, rfl, rfl, rfl, ⟨_, _, _, rfl, rfl, rfl, rfl, ⟨_, _, _, rfl, rfl, rfl, rfl, rfl⟩⟩⟩)) rfl ?_)
  refine JL.op (JO.val (y_build rfl rfl (⟨_, _, _, rfl, rfl, rfl, rfl, ⟨_, _, _, rfl, rfl, rfl, rfl, ⟨_, _, _, rfl, rfl, rfl, rfl, rfl⟩⟩⟩)) rfl ?_)
  refine JL.op (JO.val (y_build rfl rfl (⟨_, _, _, rfl, rfl, rfl, rfl, ⟨_, _, _, rfl, rfl, rfl, rfl, ⟨_, _, _, rfl, rfl, rfl, rfl, ⟨_, _, _, rfl, rfl, rfl, rfl, rfl⟩⟩⟩⟩)) rfl ?_)
  refine JL.op (JO.alloc rfl rfl ?_); intro b3
  refine JL.op (JO.storeA 3 rfl rfl rfl rfl (by first | rfl | assumption) (by first | rfl | assumption) (by first | rfl | assumption) ?_)
  with_reducible refine JL.nil ?_
  refine JQ.env (S := [(some b10, 55, (mm 1).cells), (some b1, 28, [.slice none 0 0, .slice none 0 0, .int .i64 0, .slice (some ⟨b10, 0, none⟩) 1 1]), (some b2, 90, ecells (ke1, none, 0)), (some b3, 90, ecells (ke2, none, 0))]) (l := [(1, .pointer (some ⟨b1, 0, none⟩)), (2, .pointer (some ⟨b2, 0, none⟩)), (3, .pointer (some ⟨b3, 0, none⟩))]) ⟨rfl, rfl, rfl, trivial⟩ (fun E => ?_)
  with_reducible refine JQ.seq (JC.seq ?_)
  with_reducible refine JC.region ?_
  refine JL.op (JO.val (y_ldA 1 rfl rfl rfl rfl) rfl ?_)
  refine JL.op (JO.val (y_fieldAddr rfl rfl rfl) rfl ?_)
  refine JL.op (JO.val (y_ldP 2 rfl rfl rfl (ev_req ke_ok.1.wf) (by rw [hl1]; rfl)) rfl ?_)
  refine JL.op (JO.val (y_fieldAddr rfl rfl rfl) rfl ?_)
  refine JL.op (JO.val (y_ldP 3 rfl rfl rfl (ev_req ke_ok.2.wf) (by rw [hl2]; rfl)) rfl ?_)
  refine JL.op (JO.buildN rfl rfl (⟨_, _, rfl, rfl, rfl, rfl, ⟨_, _, rfl, rfl, rfl, rfl, rfl⟩⟩) rfl rfl rfl ?_); intro b26
  refine JL.op (JO.val (y_ldA 2 rfl rfl rfl (by first | rfl | assumption)) rfl ?_)
  refine JL.op (JO.val (y_ldA 3 rfl rfl rfl (by first | rfl | assumption)) rfl ?_)
  refine JL.op (JO.buildN rfl rfl (⟨_, _, rfl, rfl, rfl, rfl, ⟨_, _, rfl, rfl, rfl, rfl, rfl⟩⟩) rfl rfl rfl ?_); intro b29
  refine JL.op (JO.callv (fun wc hc => kchk_any (ks_mem (SlF.step (rowSl (F := fun _ => True) (n := 1) (cap := 1) (sz := 34) (cs := [mm 1].flatMap LMember.cells) rfl rfl hc (i := 0) rfl ⟨rfl, Nat.le_refl _, by decide, fun h => by cases h⟩ rfl) (Step.weak fun _ _ => trivial) (by omega))) (SlF.step (rowSl (F := fun _ => True) (n := 2) (cap := 2) (sz := 42) (cs := [kq1, kq2].flatMap LReq.cells) rfl rfl hc (i := 4) rfl ⟨rfl, Nat.le_refl _, by decide, fun h => by cases h⟩ rfl) (Step.weak fun _ _ => trivial) (by omega)) (SlF.step (rowSl (F := fun _ => True) (n := 2) (cap := 2) (sz := 48) (cs := [(ke1, (none : Option Addr), 0), (ke2, none, 0)].flatMap ecells) rfl rfl hc (i := 5) rfl ⟨rfl, Nat.le_refl _, by decide, fun h => by cases h⟩ rfl) (Step.weak fun _ _ => trivial) (by omega)) ((htab.step hc.step).step (Step.weak fun _ _ => trivial))) rfl rfl rfl ?_)
  refine JL.op (JO.val (y_assign) rfl ?_)
  with_reducible refine JL.nil ?_
  with_reducible refine JQ.seq (JC.seq ?_)
  with_reducible refine JC.region ?_
  refine JL.op (JO.val (y_ldA 1 rfl rfl rfl rfl) rfl ?_)
  refine JL.op (JO.val (y_ldA 2 rfl rfl rfl (by first | rfl | assumption)) rfl ?_)
  refine JL.op (JO.val (y_ldA 3 rfl rfl rfl (by first | rfl | assumption)) rfl ?_)
  refine JL.op (JO.buildN rfl rfl (⟨_, _, rfl, rfl, rfl, rfl, ⟨_, _, rfl, rfl, rfl, rfl, rfl⟩⟩) rfl rfl rfl ?_); intro b35
  refine JL.op (JO.callv (fun wc hc => ktwo_any (ks_mem (SlF.step (rowSl (F := fun _ => True) (n := 1) (cap := 1) (sz := 34) (cs := [mm 1].flatMap LMember.cells) rfl rfl hc (i := 0) rfl ⟨rfl, Nat.le_refl _, by decide, fun h => by cases h⟩ rfl) (Step.weak fun _ _ => trivial) (by omega))) (SlF.step (rowSl (F := fun _ => True) (n := 2) (cap := 2) (sz := 48) (cs := [(ke1, (none : Option Addr), 0), (ke2, none, 0)].flatMap ecells) rfl rfl hc (i := 6) rfl ⟨rfl, Nat.le_refl _, by decide, fun h => by cases h⟩ rfl) (Step.weak fun _ _ => trivial) (by omega)) ((htab.step hc.step).step (Step.weak fun _ _ => trivial))) rfl rfl rfl ?_)
  refine JL.op (JO.val (y_move) rfl ?_)
  refine JL.op (JO.val (y_extract rfl rfl) rfl ?_)
  refine JL.op (JO.val (y_extract rfl rfl) rfl ?_)
  refine JL.op (JO.val (y_assign) rfl ?_)
  refine JL.op (JO.val (y_assign) rfl ?_)
  with_reducible refine JL.nil ?_
  with_reducible refine JQ.seq (JC.seq ?_)
  with_reducible refine JC.region ?_
  refine JL.op (JO.val (y_ldA 1 rfl rfl rfl rfl) rfl ?_)
  refine JL.op (JO.val (y_ldA 2 rfl rfl rfl (by first | rfl | assumption)) rfl ?_)
  refine JL.op (JO.build1 rfl rfl rfl (by first | rfl | assumption) rfl rfl ?_); intro b42
  refine JL.op (JO.callv (fun wc hc => kone_any (ks_mem (SlF.step (rowSl (F := fun _ => True) (n := 1) (cap := 1) (sz := 34) (cs := [mm 1].flatMap LMember.cells) rfl rfl hc (i := 0) rfl ⟨rfl, Nat.le_refl _, by decide, fun h => by cases h⟩ rfl) (Step.weak fun _ _ => trivial) (by omega))) (SlF.step (rowSl (F := fun _ => True) (n := 1) (cap := 1) (sz := 48) (cs := [(ke1, (none : Option Addr), 0)].flatMap ecells) rfl rfl hc (i := 7) rfl ⟨rfl, Nat.le_refl _, by decide, fun h => by cases h⟩ rfl) (Step.weak fun _ _ => trivial) (by omega)) ((htab.step hc.step).step (Step.weak fun _ _ => trivial))) rfl rfl rfl ?_)
  refine JL.op (JO.val (y_move) rfl ?_)
  refine JL.op (JO.val (y_extract rfl rfl) rfl ?_)
  refine JL.op (JO.val (y_extract rfl rfl) rfl ?_)
  refine JL.op (JO.val (y_assign) rfl ?_)
  refine JL.op (JO.val (y_assign) rfl ?_)
  with_reducible refine JL.nil ?_
  with_reducible refine JQ.seq (JC.seq ?_)
  with_reducible refine JC.region ?_
  refine JL.op (JO.val (y_move) rfl ?_)
  refine JL.op (JO.val (y_eql rfl rfl) rfl ?_)
  refine JL.op (JO.val (y_move) rfl ?_)
  refine JL.op_do rfl rfl rfl (JO.val (y_move) rfl ?_)
  refine JL.op_do rfl rfl rfl (JO.val (y_not rfl) rfl ?_)
  refine JL.op (JO.val (y_pick rfl) rfl ?_)
  refine JL.op (JO.val (y_move) rfl ?_)
  refine JL.op_do rfl rfl rfl (JO.val (y_move) rfl ?_)
  refine JL.op_do rfl rfl rfl (JO.val (y_eql rfl rfl) rfl ?_)
  refine JL.op (JO.val (y_pick rfl) rfl ?_)
  refine JL.op (JO.val (y_move) rfl ?_)
  refine JL.op_do rfl rfl rfl (JO.val (y_move) rfl ?_)
  refine JL.op (JO.val (y_pick rfl) rfl ?_)
  refine JL.op (JO.val (y_assign) rfl ?_)
  with_reducible refine JL.nil ?_
  with_reducible refine JQ.seq (JC.ret ?_)
  exact ret_one rfl ResV.tmp (fun w' hc => rfl)
end Go.Proofs.YtchnnplcpidkiaaDoor
