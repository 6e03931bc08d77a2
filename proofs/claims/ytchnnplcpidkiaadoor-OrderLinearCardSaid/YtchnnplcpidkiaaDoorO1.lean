/- How the arguments' readings open: the data of the registry lie in memory; no condition. -/
import Derived.Test.YtchnnplcpidkiaaDoorD1
import Derived.OpenShut
import Derived.Deep.Slices
import Derived.ReadAgain
import Derived.ChangeStays
import Derived.SizedLaws
import Derived.KernelRfl
namespace Go.Proofs.YtchnnplcpidkiaaDoor
open Go.RowKit
set_option linter.unusedSimpArgs false
set_option linter.unusedVariables false
set_option maxRecDepth 20000

theorem oc3 : Tryd.prog.cellsOf 3 = 1 := by kernel_rfl
theorem oc5 : Tryd.prog.cellsOf 5 = 1 := by kernel_rfl
theorem oc9 : Tryd.prog.cellsOf 9 = 1 := by kernel_rfl
theorem oc22 : Tryd.prog.cellsOf 22 = 1 := by kernel_rfl
theorem oc23 : Tryd.prog.cellsOf 23 = 1 := by kernel_rfl
theorem oc24 : Tryd.prog.cellsOf 24 = 1 := by kernel_rfl
theorem oc26 : Tryd.prog.cellsOf 26 = 2 := by kernel_rfl
theorem oc28 : Tryd.prog.cellsOf 28 = 4 := by kernel_rfl
theorem oc33 : Tryd.prog.cellsOf 33 = 32 := by kernel_rfl
theorem oc35 : Tryd.prog.cellsOf 35 = 33 := by kernel_rfl
theorem oc37 : Tryd.prog.cellsOf 37 = 36 := by kernel_rfl
theorem oc39 : Tryd.prog.cellsOf 39 = 40 := by kernel_rfl
theorem oc41 : Tryd.prog.cellsOf 41 = 42 := by kernel_rfl
theorem oc42 : Tryd.prog.cellsOf 42 = 1 := by kernel_rfl
theorem oc43 : Tryd.prog.cellsOf 43 = 1 := by kernel_rfl
theorem oc45 : Tryd.prog.cellsOf 45 = 4 := by kernel_rfl
theorem oc53 : Tryd.prog.cellsOf 53 = 2 := by kernel_rfl
theorem oc55 : Tryd.prog.cellsOf 55 = 34 := by kernel_rfl
theorem oc90 : Tryd.prog.cellsOf 90 = 48 := by kernel_rfl

section
variable {H : Type} {enc : TypeId × Value → H} {w : World}
/-- A reading, all of whose strings and slices a machine can hold. -/
def TR (enc : TypeId × Value → H) (w : World) (n : Nat) (t : TypeId) (cs : List Value) (x : DataW H × List MemPlace) : Prop :=
  DataW.trod enc Tryd.prog w 0 (fun _ => true) true n t cs = some x ∧ ∀ m ∈ DataW.weights Tryd.prog t x.1, m ≤ reachBytes
theorem rd_int {n : Nat} {t : TypeId} {cs : List Value} {x : DataW H × List MemPlace} (ht : Tryd.prog.underlying t = some (.int .i64)) (h : TR enc w n t cs x) : ∃ i : Int, cs = [.int .i64 i] ∧ I64 i := by
  obtain ⟨i, h1, _, h3⟩ := DataW.trod_int ht h.1
  exact ⟨i, h1, bounds_i64 h3⟩
theorem rd_u8 {n : Nat} {t : TypeId} {cs : List Value} {x : DataW H × List MemPlace} (ht : Tryd.prog.underlying t = some (.int .u8)) (h : TR enc w n t cs x) : ∃ v, cs = [v] ∧ isU8 v := by
  obtain ⟨i, h1, _, h3⟩ := DataW.trod_int ht h.1
  exact ⟨_, h1, i, rfl, bounds_u8 h3⟩
theorem rd_str {n : Nat} {t : TypeId} {cs : List Value} {x : DataW H × List MemPlace} (ht : Tryd.prog.underlying t = some .string) (h : TR enc w n t cs x) : ∃ s : ByteArray, cs = [.string s] ∧ s.size ≤ strMax := by
  obtain ⟨s, h1, h2, _⟩ := DataW.trod_string ht h.1
  refine ⟨s, h1, ?_⟩
  have := h.2 s.data.toList.length (by rw [h2]; simp only [DataW.weights, List.mem_singleton])
  have h3 : s.size = s.data.toList.length := rfl
  have h4 : reachBytes ≤ strMax := by unfold reachBytes strMax; omega
  omega
theorem rd_struct {n : Nat} {t : TypeId} {fs : Array Field} {cs : List Value} {x : DataW H × List MemPlace} (ht : Tryd.prog.underlying t = some (.struct fs)) (h : TR enc w n t cs x) :
    cs.length = Tryd.prog.cellsOf t ∧ ∀ (i : Nat) (f : Field), fs[i]? = some f → ∃ m y, TR enc w m f.type ((cs.drop f.offset).take (Tryd.prog.cellsOf f.type)) y := by
  obtain ⟨xs, m, _, h2, h3, h4, h5⟩ := DataW.trod_struct ht h.1
  refine ⟨h3, fun i f hf => ?_⟩
  have hlt : i < xs.length := by rw [h4]; exact (Array.getElem?_eq_some_iff.1 hf).1
  refine ⟨m, xs[i], by rw [h5 i f hf, List.getElem?_eq_getElem hlt], fun k hk => h.2 k ?_⟩
  rw [h2]
  simp only [DataW.weights, ht]
  refine DataW.weights_mem_each (j := i) (t := f.type) (d := xs[i].1) ?_ ?_ k hk
  · rw [List.getElem?_map]
    have : fs.toList[i]? = some f := by simpa using hf
    rw [this]; rfl
  · rw [List.getElem?_map, List.getElem?_eq_getElem hlt]; rfl
theorem rd_field {n i c : Nat} {t : TypeId} {fs : Array Field} {f : Field} {cs : List Value} {x : DataW H × List MemPlace} (ht : Tryd.prog.underlying t = some (.struct fs)) (h : TR enc w n t cs x) (hf : fs[i]? = some f) (hc : Tryd.prog.cellsOf f.type = c) :
    ∃ m y, TR enc w m f.type ((cs.drop f.offset).take c) y := by
  subst hc
  exact (rd_struct ht h).2 i f hf
theorem weights_all {e : TypeId} : ∀ {l : List (DataW H)} {d : DataW H}, d ∈ l → ∀ k ∈ DataW.weights Tryd.prog e d, k ∈ DataW.weightsAll Tryd.prog e l
  | [], _, h, _, _ => by cases h
  | a :: l, d, h, k, hk => by
    simp only [DataW.weightsAll, List.mem_append]
    rcases List.mem_cons.1 h with rfl | h
    · exact .inl hk
    · exact .inr (weights_all h k hk)
theorem rd_array {n m : Nat} {t e : TypeId} {cs : List Value} {x : DataW H × List MemPlace} (ht : Tryd.prog.underlying t = some (.array m e)) (h : TR enc w n t cs x) :
    cs.length = Tryd.prog.cellsOf t ∧ ∀ i, i < m → ∃ k y, TR enc w k e ((cs.drop (i * Tryd.prog.cellsOf e)).take (Tryd.prog.cellsOf e)) y := by
  obtain ⟨xs, k, _, h2, h3, h4, h5⟩ := DataW.trod_array ht h.1
  refine ⟨h3, fun i hi => ?_⟩
  have hlt : i < xs.length := by rw [h4]; exact hi
  refine ⟨k, xs[i], by rw [h5 i hi, List.getElem?_eq_getElem hlt], fun j hj => h.2 j ?_⟩
  rw [h2]
  simp only [DataW.weights, ht]
  exact weights_all (List.mem_map.2 ⟨xs[i], List.getElem_mem hlt, rfl⟩) j hj
theorem exists_list {α : Type} {p : Nat → α → Prop} : ∀ {n : Nat}, (∀ i, i < n → ∃ d, p i d) → ∃ ds : List α, ds.length = n ∧ ∀ i d, ds[i]? = some d → p i d
  | 0, _ => ⟨[], rfl, fun i d h => by simp at h⟩
  | n + 1, h => by
    obtain ⟨ds, h1, h2⟩ := exists_list (p := p) (n := n) fun i hi => h i (by omega)
    obtain ⟨d, hd⟩ := h n (by omega)
    refine ⟨ds ++ [d], by simp [h1], fun i e he => ?_⟩
    by_cases hi : i < ds.length
    · rw [List.getElem?_append_left hi] at he; exact h2 i e he
    · rw [List.getElem?_append_right (by omega)] at he
      have hi2 : i - ds.length = 0 := by
        have := (List.getElem?_eq_some_iff.1 he).1
        simp at this; omega
      rw [hi2] at he
      simp at he
      subst he
      have : i = n := by omega
      subst this
      exact hd
theorem add_twice {b o i j k : Nat} (h : i + j = k := by omega) : ((⟨b, o, none⟩ : Addr).add i).add j = ⟨b, o + k, none⟩ := by
  subst h
  unfold Addr.add
  by_cases h1 : i = 0
  · subst h1
    rw [if_pos rfl, Nat.zero_add]
    by_cases h2 : j = 0
    · subst h2; rw [if_pos rfl]; rfl
    · rw [if_neg h2]
  · rw [if_neg h1]
    by_cases h2 : j = 0
    · subst h2; rw [if_pos rfl]; rfl
    · rw [if_neg h2]
      simp only [Nat.add_assoc]
theorem rd_slice {t e : TypeId} {sz : Nat} {α : Type} {f : α → List Value} {P : α → Prop} (ht : Tryd.prog.underlying t = some (.slice e)) (hsz : Tryd.prog.cellsOf e = sz) (hz : 0 < sz) (he : ∀ n cs x, TR enc w n e cs x → ∃ d, cs = f d ∧ P d)
    {n : Nat} {cs : List Value} {x : DataW H × List MemPlace} (h : TR enc w n t cs x) : ∃ A cap, ∃ ds : List α, cs = [.slice A ds.length cap] ∧ SlF (fun _ => True) w A ds.length cap sz (ds.flatMap f) ∧ (∀ d ∈ ds, P d) ∧ ∀ d ∈ ds, (f d).length = sz := by
  rcases Deep.open_slice ht h.1 with ⟨h1, _⟩ | ⟨a, len, cap, m, k, D, Pl, h1, _, h3, h4, h5, h6, h7⟩
  · exact ⟨none, 0, [], h1, ⟨Nat.le_refl _, by simp [maxLen], by simp, fun _ => ⟨rfl, rfl⟩, fun h => absurd h (by simp)⟩, fun d hd => by (cases hd), fun d hd => by (cases hd)⟩
  · have hm : m = cap := by simpa using h5
    subst hm
    rw [hsz] at h7
    obtain ⟨ds, hl, hds⟩ := exists_list (n := len) (p := fun i d => w.cells? 0 (a.add (i * sz)) sz = some (f d) ∧ P d) fun i hi => by
      obtain ⟨cs', h8, h9⟩ := h7 i (by omega)
      obtain ⟨d, rfl, hd⟩ := he k cs' _ ⟨h9, fun j hj => h.2 j (by
        rw [h6]
        simp only [DataW.weights, ht, List.mem_cons, List.mem_append]
        exact .inr (.inl (weights_all (List.mem_map.2 ⟨i, List.mem_range.2 hi, rfl⟩) j hj)))⟩
      exact ⟨d, h8, hd⟩
    have hP : ∀ d ∈ ds, P d := fun d hd => by
      obtain ⟨i, hi⟩ := List.mem_iff_getElem?.1 hd
      exact (hds i d hi).2
    have hF : ∀ d ∈ ds, (f d).length = sz := fun d hd => by
      obtain ⟨i, hi⟩ := List.mem_iff_getElem?.1 hd
      exact (World.cells?_some (hds i d hi).1).2.1
    refine ⟨some a, m, ds, by rw [h1, hl], ⟨by omega, h4, flatMap_length hF, fun e => (by cases e), fun hn => ?_⟩, hP, hF⟩
    have hcell : ∀ i d j u, ds[i]? = some d → (f d)[j]? = some u → w.cell? ((a.add (i * sz)).add j) = some u := fun i d j u hi hj => by
      obtain ⟨_, h8, h9⟩ := World.cells?_some (hds i d hi).1
      rw [h9 j (by rw [← h8]; exact (List.getElem?_eq_some_iff.1 hj).1)]
      exact hj
    have hsp : a.spot = none := by
      have h0 : ds[0]? = some ds[0] := List.getElem?_eq_getElem hn
      have hf0 : (f ds[0])[0]? = some ((f ds[0])[0]'(by rw [hF _ (List.getElem_mem hn)]; exact hz)) := List.getElem?_eq_getElem _
      have := hcell 0 _ 0 _ h0 hf0
      simp only [Nat.zero_mul, Addr.add, if_true] at this
      unfold World.cell? at this
      cases hs : a.spot with
      | none => rfl
      | some s =>
        exfalso
        revert this
        cases w.heap[a.block]? with
        | none => simp
        | some o => cases o <;> simp [hs]
    obtain ⟨b, o, sp⟩ := a
    simp only at hsp
    subst hsp
    refine ⟨b, o, rfl, trivial, fun j u hj => ?_⟩
    have hjl := (List.getElem?_eq_some_iff.1 hj).1
    rw [flatMap_length hF] at hjl
    have hi : j / sz < ds.length := by rw [Nat.div_lt_iff_lt_mul hz]; exact hjl
    have hr : j % sz < sz := Nat.mod_lt _ hz
    have hd : ds[j / sz]? = some ds[j / sz] := List.getElem?_eq_getElem hi
    have hfr : (f ds[j / sz])[j % sz]? = some ((f ds[j / sz])[j % sz]'(by rw [hF _ (List.getElem_mem hi)]; exact hr)) := List.getElem?_eq_getElem _
    have h8 := flatMap_at hF hd hfr
    have h9 : j / sz * sz + j % sz = j := by rw [Nat.mul_comm]; exact Nat.div_add_mod j sz
    rw [h9, hj] at h8
    rw [← h8] at hfr
    have h10 := hcell _ _ _ _ hd hfr
    have h11 : ((⟨b, o, none⟩ : Addr).add (j / sz * sz)).add (j % sz) = ⟨b, o + j, none⟩ := by
      exact add_twice h9
    rw [h11] at h10
    exact h10
theorem cut2 {l : List Value} {a b : Nat} (h : l.length = a + b) : l = (l.drop 0).take a ++ (l.drop a).take b := by
  rw [List.drop_zero, List.take_of_length_le (l := l.drop a) (by rw [List.length_drop]; omega), List.take_append_drop]
theorem cut3 {l : List Value} {a b c : Nat} (h : l.length = a + (b + c)) : l = (l.drop 0).take a ++ ((l.drop a).take b ++ (l.drop (a + b)).take c) := by
  conv => lhs; rw [cut2 (a := a) (b := b + c) h]
  congr 1
  rw [List.take_of_length_le (l := l.drop a) (by rw [List.length_drop]; omega)]
  conv => lhs; rw [cut2 (l := l.drop a) (a := b) (b := c) (by rw [List.length_drop]; omega)]
  rw [List.drop_zero, List.drop_drop]
theorem cut4 {l : List Value} {a b c d : Nat} (h : l.length = a + (b + (c + d))) : l = (l.drop 0).take a ++ ((l.drop a).take b ++ ((l.drop (a + b)).take c ++ (l.drop (a + b + c)).take d)) := by
  conv => lhs; rw [cut2 (a := a) (b := b + (c + d)) h]
  congr 1
  rw [List.take_of_length_le (l := l.drop a) (by rw [List.length_drop]; omega)]
  conv => lhs; rw [cut3 (l := l.drop a) (a := b) (b := c) (c := d) (by rw [List.length_drop]; omega)]
  rw [List.drop_zero, List.drop_drop, List.drop_drop, ← Nat.add_assoc]
theorem cut5 {l : List Value} {a b c d e : Nat} (h : l.length = a + (b + (c + (d + e)))) : l = (l.drop 0).take a ++ ((l.drop a).take b ++ ((l.drop (a + b)).take c ++ ((l.drop (a + b + c)).take d ++ (l.drop (a + b + c + d)).take e))) := by
  conv => lhs; rw [cut2 (a := a) (b := b + (c + (d + e))) h]
  congr 1
  rw [List.take_of_length_le (l := l.drop a) (by rw [List.length_drop]; omega)]
  conv => lhs; rw [cut4 (l := l.drop a) (a := b) (b := c) (c := d) (d := e) (by rw [List.length_drop]; omega)]
  rw [List.drop_zero, List.drop_drop, List.drop_drop, List.drop_drop]
  simp only [Nat.add_assoc]
theorem rd_key {n : Nat} {cs : List Value} {x : DataW H × List MemPlace} (h : TR enc w n 35 cs x) : ∃ k : LKey, cs = k.cells ∧ k.wf := by
  have hl := (rd_struct Tryd.underlying35 h).1
  rw [oc35] at hl
  obtain ⟨_, _, h0⟩ := rd_field (i := 0) Tryd.underlying35 h rfl oc33
  obtain ⟨_, _, h1⟩ := rd_field (i := 1) Tryd.underlying35 h rfl oc3
  obtain ⟨i, e1, hi⟩ := rd_int Tryd.underlying3 h1
  obtain ⟨hr, hu⟩ := rd_array Tryd.underlying33 h0
  rw [oc33] at hr
  rw [oc5] at hu
  refine ⟨⟨(cs.drop 0).take 32, i⟩, ?_, ⟨hr, fun v hv => ?_, hi⟩⟩
  · have := cut2 (l := cs) (a := 32) (b := 1) hl
    rw [show (cs.drop 32).take 1 = _ from e1] at this
    exact this
  · obtain ⟨j, hj⟩ := List.mem_iff_getElem?.1 hv
    have hjl : j < 32 := by
      have := (List.getElem?_eq_some_iff.1 hj).1
      rwa [show ((cs.drop 0).take 32).length = 32 from hr] at this
    obtain ⟨_, _, hk⟩ := hu j (by omega)
    obtain ⟨u, e2, hu8⟩ := rd_u8 Tryd.underlying5 hk
    have : ((((cs.drop 0).take 32).drop (j * 1)).take 1)[0]? = some v := by
      rw [Nat.mul_one, List.getElem?_take, if_pos (by omega), List.getElem?_drop, Nat.add_zero]
      exact hj
    rw [show (((cs.drop 0).take 32).drop (j * 1)).take 1 = [u] from e2] at this
    simp at this
    rw [← this]
    exact hu8
theorem rd_member (n : Nat) (cs : List Value) (x : DataW H × List MemPlace) (h : TR enc w n 55 cs x) : ∃ m : LMember, cs = m.cells ∧ m.wf := by
  have hl := (rd_struct Tryd.underlying55 h).1
  rw [oc55] at hl
  obtain ⟨_, _, h0⟩ := rd_field (i := 0) Tryd.underlying55 h rfl oc3
  obtain ⟨_, _, h1⟩ := rd_field (i := 1) Tryd.underlying55 h rfl oc35
  obtain ⟨i, e0, hi⟩ := rd_int Tryd.underlying3 h0
  obtain ⟨k, e1, hk⟩ := rd_key h1
  refine ⟨⟨i, k⟩, ?_, ⟨hi, hk⟩⟩
  have := cut2 (l := cs) (a := 1) (b := 33) hl
  rw [show (cs.drop 0).take 1 = _ from e0, show (cs.drop 1).take 33 = _ from e1] at this
  exact this
theorem rd_pair (n : Nat) (cs : List Value) (x : DataW H × List MemPlace) (h : TR enc w n 53 cs x) : ∃ p : LPair, cs = p.cells ∧ p.wf := by
  have hl := (rd_struct Tryd.underlying53 h).1
  rw [oc53] at hl
  obtain ⟨_, _, h0⟩ := rd_field (i := 0) Tryd.underlying53 h rfl oc9
  obtain ⟨_, _, h1⟩ := rd_field (i := 1) Tryd.underlying53 h rfl oc9
  obtain ⟨a, e0, ha⟩ := rd_str Tryd.underlying9 h0
  obtain ⟨b, e1, hb⟩ := rd_str Tryd.underlying9 h1
  refine ⟨⟨a, b⟩, ?_, ⟨ha, hb⟩⟩
  have := cut2 (l := cs) (a := 1) (b := 1) hl
  rw [show (cs.drop 0).take 1 = _ from e0, show (cs.drop 1).take 1 = _ from e1] at this
  exact this
theorem rd_change {n : Nat} {cs : List Value} {x : DataW H × List MemPlace} (h : TR enc w n 37 cs x) : ∃ c : LChange, cs = c.cells ∧ c.wf := by
  have hl := (rd_struct Tryd.underlying37 h).1
  rw [oc37] at hl
  obtain ⟨_, _, h0⟩ := rd_field (i := 0) Tryd.underlying37 h rfl oc3
  obtain ⟨_, _, h1⟩ := rd_field (i := 1) Tryd.underlying37 h rfl oc3
  obtain ⟨_, _, h2⟩ := rd_field (i := 2) Tryd.underlying37 h rfl oc3
  obtain ⟨_, _, h3⟩ := rd_field (i := 3) Tryd.underlying37 h rfl oc35
  obtain ⟨a, e0, ha⟩ := rd_int Tryd.underlying3 h0
  obtain ⟨b, e1, hb⟩ := rd_int Tryd.underlying3 h1
  obtain ⟨c, e2, hc⟩ := rd_int Tryd.underlying3 h2
  obtain ⟨k, e3, hk⟩ := rd_key h3
  refine ⟨⟨a, b, c, k⟩, ?_, ⟨ha, hb, hc, hk⟩⟩
  have := cut4 (l := cs) (a := 1) (b := 1) (c := 1) (d := 33) hl
  rw [show (cs.drop 0).take 1 = _ from e0, show (cs.drop 1).take 1 = _ from e1, show (cs.drop (1 + 1)).take 1 = _ from e2, show (cs.drop (1 + 1 + 1)).take 33 = _ from e3] at this
  exact this
theorem rd_op {n : Nat} {cs : List Value} {x : DataW H × List MemPlace} (h : TR enc w n 39 cs x) : ∃ o : LOp, cs = o.cells ∧ o.wf := by
  have hl := (rd_struct Tryd.underlying39 h).1
  rw [oc39] at hl
  obtain ⟨_, _, h0⟩ := rd_field (i := 0) Tryd.underlying39 h rfl oc3
  obtain ⟨_, _, h1⟩ := rd_field (i := 1) Tryd.underlying39 h rfl oc9
  obtain ⟨_, _, h2⟩ := rd_field (i := 2) Tryd.underlying39 h rfl oc9
  obtain ⟨_, _, h3⟩ := rd_field (i := 3) Tryd.underlying39 h rfl oc9
  obtain ⟨_, _, h4⟩ := rd_field (i := 4) Tryd.underlying39 h rfl oc37
  obtain ⟨a, e0, ha⟩ := rd_int Tryd.underlying3 h0
  obtain ⟨b, e1, hb⟩ := rd_str Tryd.underlying9 h1
  obtain ⟨c, e2, hc⟩ := rd_str Tryd.underlying9 h2
  obtain ⟨d, e3, hd⟩ := rd_str Tryd.underlying9 h3
  obtain ⟨k, e4, hk⟩ := rd_change h4
  refine ⟨⟨a, b, c, d, k⟩, ?_, ⟨ha, hb, hc, hd, hk⟩⟩
  have := cut5 (l := cs) (a := 1) (b := 1) (c := 1) (d := 1) (e := 36) hl
  rw [show (cs.drop 0).take 1 = _ from e0, show (cs.drop 1).take 1 = _ from e1, show (cs.drop (1 + 1)).take 1 = _ from e2, show (cs.drop (1 + 1 + 1)).take 1 = _ from e3, show (cs.drop (1 + 1 + 1 + 1)).take 36 = _ from e4] at this
  exact this
theorem rd_req (n : Nat) (cs : List Value) (x : DataW H × List MemPlace) (h : TR enc w n 41 cs x) : ∃ q : LReq, cs = q.cells ∧ q.wf := by
  have hl := (rd_struct Tryd.underlying41 h).1
  rw [oc41] at hl
  obtain ⟨_, _, h0⟩ := rd_field (i := 0) Tryd.underlying41 h rfl oc3
  obtain ⟨_, _, h1⟩ := rd_field (i := 1) Tryd.underlying41 h rfl oc3
  obtain ⟨_, _, h2⟩ := rd_field (i := 2) Tryd.underlying41 h rfl oc39
  obtain ⟨a, e0, ha⟩ := rd_int Tryd.underlying3 h0
  obtain ⟨b, e1, hb⟩ := rd_int Tryd.underlying3 h1
  obtain ⟨o, e2, ho⟩ := rd_op h2
  refine ⟨⟨a, b, o⟩, ?_, ⟨ha, hb, ho⟩⟩
  have := cut3 (l := cs) (a := 1) (b := 1) (c := 40) hl
  rw [show (cs.drop 0).take 1 = _ from e0, show (cs.drop 1).take 1 = _ from e1, show (cs.drop (1 + 1)).take 40 = _ from e2] at this
  exact this
theorem rd_strs {n : Nat} {cs : List Value} {x : DataW H × List MemPlace} (h : TR enc w n 43 cs x) : ∃ A cap ss, cs = [.slice A ss.length cap] ∧ RStrs (fun _ => True) w A cap ss ∧ ∀ s ∈ ss, s.size ≤ strMax := by
  obtain ⟨A, cap, ss, h1, h2, h3, _⟩ := rd_slice (f := sstr) (P := fun s : ByteArray => s.size ≤ strMax) Tryd.underlying43 oc9 (by omega) (fun n cs x h => rd_str Tryd.underlying9 h) h
  exact ⟨A, cap, ss, h1, h2, h3⟩
theorem rd_reply (n : Nat) (cs : List Value) (x : DataW H × List MemPlace) (h : TR enc w n 45 cs x) : ∃ r : LReply × Option Addr × Nat, cs = rcells r ∧ (r.1.wf ∧ RStrs (fun _ => True) w r.2.1 r.2.2 r.1.vals) := by
  have hl := (rd_struct Tryd.underlying45 h).1
  rw [oc45] at hl
  obtain ⟨_, _, h0⟩ := rd_field (i := 0) Tryd.underlying45 h rfl oc3
  obtain ⟨_, _, h1⟩ := rd_field (i := 1) Tryd.underlying45 h rfl oc3
  obtain ⟨_, _, h2⟩ := rd_field (i := 2) Tryd.underlying45 h rfl oc42
  obtain ⟨_, _, h3⟩ := rd_field (i := 3) Tryd.underlying45 h rfl oc43
  obtain ⟨a, e0, ha⟩ := rd_int Tryd.underlying3 h0
  obtain ⟨b, e1, hb⟩ := rd_int Tryd.underlying3 h1
  obtain ⟨c, e2, hc⟩ := rd_int Tryd.underlying42 h2
  obtain ⟨A, cap, ss, e3, hs, hw⟩ := rd_strs h3
  refine ⟨(⟨a, b, c, ss⟩, A, cap), ?_, ⟨ha, hb, hc, hw⟩, hs⟩
  have := cut4 (l := cs) (a := 1) (b := 1) (c := 1) (d := 1) hl
  rw [show (cs.drop 0).take 1 = _ from e0, show (cs.drop 1).take 1 = _ from e1, show (cs.drop (1 + 1)).take 1 = _ from e2, show (cs.drop (1 + 1 + 1)).take 1 = _ from e3] at this
  exact this
theorem rd_event (n : Nat) (cs : List Value) (x : DataW H × List MemPlace) (h : TR enc w n 90 cs x) : ∃ r : LEvent × Option Addr × Nat, cs = ecells r ∧ (r.1.wf ∧ RStrs (fun _ => True) w r.2.1 r.2.2 r.1.rep.vals) := by
  have hl := (rd_struct Tryd.underlying90 h).1
  rw [oc90] at hl
  obtain ⟨_, _, h0⟩ := rd_field (i := 0) Tryd.underlying90 h rfl oc41
  obtain ⟨_, _, h1⟩ := rd_field (i := 1) Tryd.underlying90 h rfl oc45
  obtain ⟨_, _, h2⟩ := rd_field (i := 2) Tryd.underlying90 h rfl oc3
  obtain ⟨_, _, h3⟩ := rd_field (i := 3) Tryd.underlying90 h rfl oc3
  obtain ⟨q, e0, hq⟩ := rd_req _ _ _ h0
  obtain ⟨r, e1, hr, hs⟩ := rd_reply _ _ _ h1
  obtain ⟨c, e2, hc⟩ := rd_int Tryd.underlying3 h2
  obtain ⟨d, e3, hd⟩ := rd_int Tryd.underlying3 h3
  refine ⟨(⟨q, r.1, c, d⟩, r.2), ?_, ⟨hq, hr, hc, hd⟩, hs⟩
  have := cut4 (l := cs) (a := 42) (b := 4) (c := 1) (d := 1) hl
  rw [show (cs.drop 0).take 42 = _ from e0, show (cs.drop 42).take 4 = _ from e1, show (cs.drop (42 + 4)).take 1 = _ from e2, show (cs.drop (42 + 4 + 1)).take 1 = _ from e3] at this
  rw [this]
  simp [ecells]
theorem rd_state {n : Nat} {cs : List Value} {x : DataW H × List MemPlace} (h : TR enc w n 28 cs x) : ∃ s : LState, RState (fun _ => True) w cs s ∧ s.wf := by
  have hl := (rd_struct Tryd.underlying28 h).1
  rw [oc28] at hl
  obtain ⟨_, _, h0⟩ := rd_field (i := 0) Tryd.underlying28 h rfl oc22
  obtain ⟨_, _, h1⟩ := rd_field (i := 1) Tryd.underlying28 h rfl oc23
  obtain ⟨_, _, h2⟩ := rd_field (i := 2) Tryd.underlying28 h rfl oc26
  have hl2 := (rd_struct Tryd.underlying26 h2).1
  rw [oc26] at hl2
  obtain ⟨_, _, h3⟩ := rd_field (i := 0) Tryd.underlying26 h2 rfl oc3
  obtain ⟨_, _, h4⟩ := rd_field (i := 1) Tryd.underlying26 h2 rfl oc24
  obtain ⟨Ap, cp, ps, e0, hp, hpw, _⟩ := rd_slice (f := LPair.cells) (P := LPair.wf) Tryd.underlying22 oc53 (by omega) rd_pair h0
  obtain ⟨Ar, cr, hs, e1, hr, hrw, _⟩ := rd_slice (f := rcells) (P := fun r : LReply × Option Addr × Nat => r.1.wf ∧ RStrs (fun _ => True) w r.2.1 r.2.2 r.1.vals) Tryd.underlying23 oc45 (by omega) rd_reply h1
  obtain ⟨ep, e3, hep⟩ := rd_int Tryd.underlying3 h3
  obtain ⟨Am, cm, ms, e4, hm, hmw, _⟩ := rd_slice (f := LMember.cells) (P := LMember.wf) Tryd.underlying24 oc55 (by omega) rd_member h4
  refine ⟨⟨ps, hs.map (·.1), ep, ms⟩, ⟨Ap, cp, Ar, cr, Am, cm, ?_, hp, ⟨hs, rfl, by simpa using hr, fun x hx => (hrw x hx).2⟩, hm⟩, ⟨hpw, fun r hr => ?_, hep, hmw⟩⟩
  · have h5 := cut2 (l := (cs.drop 2).take 2) (a := 1) (b := 1) hl2
    rw [show ((((cs.drop 2).take 2).drop 0).take 1) = _ from e3, show ((((cs.drop 2).take 2).drop 1).take 1) = _ from e4] at h5
    have := cut3 (l := cs) (a := 1) (b := 1) (c := 2) hl
    rw [show (cs.drop 0).take 1 = _ from e0, show (cs.drop 1).take 1 = _ from e1, show (cs.drop (1 + 1)).take 2 = _ from h5] at this
    simpa using this
  · obtain ⟨x, hx, rfl⟩ := List.mem_map.1 hr
    exact (hrw x hx).1
theorem rd_reqs {n : Nat} {cs : List Value} {x : DataW H × List MemPlace} (h : TR enc w n 29 cs x) : ∃ A cap qs, cs = [.slice A qs.length cap] ∧ RReqs (fun _ => True) w A cap qs ∧ ∀ q ∈ qs, q.wf := by
  obtain ⟨A, cap, ss, h1, h2, h3, _⟩ := rd_slice (f := LReq.cells) (P := LReq.wf) Tryd.underlying29 oc41 (by omega) rd_req h
  exact ⟨A, cap, ss, h1, h2, h3⟩
theorem rd_events {n : Nat} {cs : List Value} {x : DataW H × List MemPlace} (h : TR enc w n 57 cs x) : ∃ A cap es, cs = [.slice A es.length cap] ∧ REvs (fun _ => True) w A cap es ∧ ∀ e ∈ es, e.wf := by
  obtain ⟨A, cap, hs, h1, h2, h3, _⟩ := rd_slice (f := ecells) (P := fun r : LEvent × Option Addr × Nat => r.1.wf ∧ RStrs (fun _ => True) w r.2.1 r.2.2 r.1.rep.vals) Tryd.underlying57 oc90 (by omega) rd_event h
  refine ⟨A, cap, hs.map (·.1), by simpa using h1, ⟨hs, rfl, by simpa using h2, fun x hx => (h3 x hx).2⟩, fun e he => ?_⟩
  obtain ⟨x, hx, rfl⟩ := List.mem_map.1 he
  exact (h3 x hx).1
end
end Go.Proofs.YtchnnplcpidkiaaDoor
