/-
  How an argument that reads as a datum lies in memory: no statement of the seat; no condition.
-/
import Derived.Test.YtfhmklinieaolaaGreatDoorKd
import Derived.ChangeArms
import Derived.SizedLaws
import Derived.DataReads
namespace Go.Proofs.YtfhmklinieaolaaGreatDoor
open Go.RowKit
def All : Nat → Prop := fun _ => True
/-- Whatever reads as a datum of type t lies as the kind k says; B: what its weight bounds. -/
def TrodK {α : Type} (P : Program) (t : TypeId) (k : Kd α) (B : α → Prop) : Prop :=
  ∀ {H : Type} (enc : TypeId × Value → H) (w : World) (base : Nat) (spare : Nat → Bool) (held : Bool) (fuel : Nat) (cs : List Value) (x : DataW H × List MemPlace), DataW.trod enc P w base spare held fuel t cs = some x →
    ∃ y, k.K All w y cs ∧ ((x.1.weights P t).all (· ≤ reachBytes) = true → B y)
section
variable {P : Program}
theorem trodK_int {t : TypeId} {ik : IntKind} (ht : P.underlying t = some (.int ik)) : TrodK P t (Kd.int ik) (fun n => (Lit.int ik n).wf = true) := by
  intro H enc w base spare held fuel cs x h
  obtain ⟨n, rfl, rfl, hw⟩ := DataW.trod_int ht h
  exact ⟨n, rfl, fun _ => hw⟩
theorem trodK_bool {t : TypeId} (ht : P.underlying t = some .bool) : TrodK P t Kd.bool (fun _ => True) := by
  intro H enc w base spare held fuel cs x h
  obtain ⟨n, rfl, rfl⟩ := DataW.trod_bool ht h
  exact ⟨n, rfl, fun _ => trivial⟩
theorem trodK_str {t : TypeId} (ht : P.underlying t = some .string) : TrodK P t Kd.str (fun s => s.size ≤ reachBytes) := by
  intro H enc w base spare held fuel cs x h
  obtain ⟨n, rfl, rfl, hw⟩ := DataW.trod_string ht h
  refine ⟨n, rfl, fun h => ?_⟩
  simpa [DataW.weights] using h
theorem all_append {l m : List Nat} (h : (l ++ m).all (· ≤ reachBytes) = true) : l.all (· ≤ reachBytes) = true ∧ m.all (· ≤ reachBytes) = true := by
  rw [List.all_append, Bool.and_eq_true] at h
  exact h
theorem weightsAll_mem {H : Type} {e : TypeId} : ∀ {ds : List (DataW H)}, (DataW.weightsAll P e ds).all (· ≤ reachBytes) = true → ∀ d ∈ ds, (d.weights P e).all (· ≤ reachBytes) = true
  | [], _, d, hd => by simp at hd
  | d0 :: ds, h, d, hd => by
    unfold DataW.weightsAll at h
    obtain ⟨h1, h2⟩ := all_append h
    rcases List.mem_cons.1 hd with rfl | hd
    · exact h1
    · exact weightsAll_mem h2 d hd
theorem trodK_slice {α : Type} {t e : TypeId} {k : Kd α} {B : α → Prop} (ht : P.underlying t = some (.slice e)) (hsz : P.cellsOf e = k.sz) (h0 : 0 < k.sz) (hk : TrodK P e k B) :
    TrodK P t k.slice (fun xs => xs.length * P.bytesOf e ≤ reachBytes ∧ ∀ x ∈ xs, B x) := by
  intro H enc w base spare held fuel cs x h
  rcases DataW.trod_slice ht h with ⟨rfl, rfl⟩ | ⟨a, len, cap, elems, rest, n, rfl, rfl, rfl, hb, hl, hc, hlen, hel, _, _⟩
  · exact ⟨[], ⟨none, 0, rfl, Nat.le_refl _, fun _ => rfl, .inl rfl⟩, fun _ => ⟨by simp [reachBytes], fun x hx => by simp at hx⟩⟩
  · have hch : ∀ i : Fin len, ∃ y cs, k.K All w y cs ∧ w.cells? base (a.add (i * P.cellsOf e)) (P.cellsOf e) = some cs ∧ ∃ z, elems[(i : Nat)]? = some z ∧ ((z.1.weights P e).all (· ≤ reachBytes) = true → B y) := by
      intro i
      have hz : elems[(i : Nat)]? = some elems[(i : Nat)] := List.getElem?_eq_getElem (by omega)
      have := hel i i.2
      rw [hz] at this
      obtain ⟨cs, hcs, hz2⟩ := Option.bind_eq_some_iff.1 this
      obtain ⟨y, hy, hB⟩ := hk enc w base spare held n cs _ hz2
      exact ⟨y, cs, hy, hcs, _, hz, hB⟩
    obtain ⟨f, hf⟩ : ∃ f : Fin len → α, ∀ i, ∃ cs, k.K All w (f i) cs ∧ w.cells? base (a.add (i * P.cellsOf e)) (P.cellsOf e) = some cs ∧ ∃ z, elems[(i : Nat)]? = some z ∧ ((z.1.weights P e).all (· ≤ reachBytes) = true → B (f i)) := ⟨fun i => (hch i).choose, fun i => (hch i).choose_spec⟩
    refine ⟨List.ofFn f, ⟨some a, cap, by simp, by simpa using hl, nofun, ?_⟩, fun hw => ?_⟩
    · by_cases hz : len = 0
      · subst hz
        exact .inl (by simp)
      · obtain ⟨cs, hy, hcs, _⟩ := hf ⟨0, by omega⟩
        have hlt := World.cells?_block hcs (by omega)
        have hspot : a.spot = none := by
          have hl2 := k.len hy
          have h1 := (World.cells?_some hcs).2.2 0 (by omega)
          rw [List.getElem?_eq_getElem (by omega)] at h1
          simp only [Nat.zero_mul, Addr.add_zero'] at h1
          cases hs : a.spot with
          | none => rfl
          | some q =>
            unfold World.cell? at h1
            rw [hs] at h1
            split at h1 <;> simp at h1
        have hblk : a.block < w.heap.size := by
          have : (a.add (0 * P.cellsOf e)).block = a.block := by rw [Nat.zero_mul, Addr.add_zero']
          rw [← this]; exact hlt
        obtain ⟨ab, ao, sp⟩ := a
        simp only at hspot hblk
        subst hspot
        refine .inr ⟨ab, ao, rfl, trivial, hblk, fun i y hi => ?_⟩
        have hil : i < len := by simpa using (List.getElem?_eq_some_iff.1 hi).1
        obtain ⟨cs, hy, hcs, _⟩ := hf ⟨i, hil⟩
        have hfy : f ⟨i, hil⟩ = y := by simpa [hil] using hi
        rw [hfy] at hy
        refine ⟨cs, hy, fun j u hj => ?_⟩
        have hjl := (List.getElem?_eq_some_iff.1 hj).1
        have h1 := (World.cells?_some hcs).2.2 j (by rw [← (World.cells?_some hcs).2.1]; exact hjl)
        rw [hj, Addr.add_lit, Addr.add_lit, hsz, Nat.add_assoc] at h1
        exact h1
    · simp only [DataW.weights, ht, List.all_cons, Bool.and_eq_true] at hw
      obtain ⟨h1, h2⟩ := hw
      obtain ⟨h2, _⟩ := all_append h2
      refine ⟨?_, fun y hy => ?_⟩
      · simp only [List.length_map, decide_eq_true_eq] at h1
        simp only [List.length_ofFn]
        refine Nat.le_trans (Nat.mul_le_mul_right _ ?_) h1
        omega
      · obtain ⟨i, rfl⟩ := (List.mem_ofFn ..).1 hy
        obtain ⟨cs, _, _, z, hz, hB⟩ := hf i
        exact hB (weightsAll_mem h2 _ (List.mem_map.2 ⟨z, List.mem_of_getElem? hz, rfl⟩))
/-- A struct of two fields. -/
theorem trodK_pair {α β : Type} {t : TypeId} {k : Kd α} {l : Kd β} {B : α → Prop} {C : β → Prop} {f1 f2 : Field} (ht : P.underlying t = some (.struct #[f1, f2])) (ho1 : f1.offset = 0) (ho2 : f2.offset = k.sz)
    (hs1 : P.cellsOf f1.type = k.sz) (hs2 : P.cellsOf f2.type = l.sz) (hst : P.cellsOf t = k.sz + l.sz) (hk : TrodK P f1.type k B) (hl : TrodK P f2.type l C) :
    TrodK P t (Kd.pair k l) (fun x => B x.1 ∧ C x.2) := by
  intro H enc w base spare held fuel cs x h
  obtain ⟨xs, n, rfl, rfl, hlen, hxl, hall⟩ := DataW.trod_struct ht h
  simp at hxl
  obtain ⟨x1, x2, rfl⟩ : ∃ x1 x2, xs = [x1, x2] := by
    match xs, hxl with
    | [a, b], _ => exact ⟨a, b, rfl⟩
  have h1 := hall 0 f1 rfl
  have h2 := hall 1 f2 rfl
  simp only [List.getElem?_cons_zero, List.getElem?_cons_succ, ho1, ho2, hs1, hs2, List.drop_zero] at h1 h2
  obtain ⟨y, hy, hB⟩ := hk _ _ _ _ _ _ _ _ h1
  obtain ⟨z, hz, hC⟩ := hl _ _ _ _ _ _ _ _ h2
  refine ⟨(y, z), ⟨_, _, ?_, hy, hz⟩, fun hw => ?_⟩
  · have : (cs.drop k.sz).take l.sz = cs.drop k.sz := List.take_of_length_le (by simp; omega)
    rw [this, List.take_append_drop]
  · simp only [DataW.weights, ht, List.map_cons, List.map_nil, DataW.weightsEach, List.append_nil] at hw
    obtain ⟨h3, h4⟩ := all_append hw
    exact ⟨hB h3, hC h4⟩
end
end Go.Proofs.YtfhmklinieaolaaGreatDoor
