/-
  apostillelaw30.GateKeys returns true for every input, and leaves its arguments as they were: the row and its tied card. No condition beyond the given row's own.
-/
import Derived.Test.YtfhmklinieaolaaGreatDoorKeys
import Derived.Test.YtfhmklinieaolaaGreatDoorKeysFacts
import Derived.Test.YtfhmklinieaolaaGreatDoorOpen
import Derived.Test.YtfhmklinieaolaaGreatDoorFacts
import Derived.Test.YtfhmklinieaolaaGreatDoorCards
import Derived.Test.YtfhmklinieaolaaGreatDoorTie
import Derived.ProofKit
import Derived.OpenShut
import Derived.ShutString
import Derived.ChangeOld
import Derived.Below
import Derived.LaidMore
import Derived.Lay
import Derived.SevenTiedAt
import Derived.Stop.Joined
namespace Go.Proofs.YtfhmklinieaolaaGreatDoor.gateKeysCard
open Go.ChangeShapes Go.WideShapes Go.ChangeAt Go.RowKit
open Go.ChangeMaps (open_string shut_string)
set_option linter.unusedVariables false

open gateKeysFacts (inPlace unfollowed_is recurses named found goes)
open Facts (own laidOut)

set_option maxRecDepth 100000 in
theorem lifted (os : Os) (started : os.Started) (H : Type) (enc : TypeId × Value → H) :
    ReturnsInHanded {} Tryz.checked os 4 .any (fun w args => (Rows.gateKeysSpec.pre enc Tryz.prog Tryz.f4 Rows.gateKeysRow.domain false w args ∧ laidMetH Tryz.prog Rows.gateKeysRow.laid w) ∧ sizedMet enc Tryz.prog Tryz.f4 (OpenSpec.ofChange Rows.gateKeysSpec) false w args)
      (Rows.gateKeysSpec.post enc Tryz.prog Tryz.f4 false true false false) := by
  refine returnsInHanded_of_change_and (C := Tryz.checked) (X := fun w _ => laidMetH Tryz.prog Rows.gateKeysRow.laid w) (fun _ _ _ hh h => h.of_heap hh) own started (by kernel_rfl) Tryz.func4
    (ChangeSpec.witness_shaped (enc := enc) (C := Tryz.checked) (os := os) (X := fun w _ => laidMetH Tryz.prog Rows.gateKeysRow.laid w) false (World.laidAll Tryz.prog os Rows.gateKeysRow.laid) #[.slice none 0 0, .agg #[.string ⟨#[]⟩, .slice none 0 0]] 12 (World.laidAll_os _ _ _)
      (World.shaped_of_ZipB (by kernel_rfl) (by kernel_rfl)) (by kernel_rfl) (by kernel_rfl) (by kernel_rfl)
      (by rw [MakeChecks.laidMetH_plain _ _ _ (by kernel_rfl)]; exact laidMet_laidAll _ (by kernel_rfl) (by kernel_rfl))) ?_
  intro W base args ds gs before hval0 hW hcnd hsz0 hL _
  have hval : ∀ (j : Nat) t v, Tryz.f4.params[j]? = some t → args[j]? = some v → Value.okWide Tryz.prog W .any base t v := hval0
  have hW' := hW
  obtain ⟨p, q, hA0, hV, rfl, hfz, hnd⟩ := hW
  have hA : DataW.TrodAll enc Tryz.prog W 0 (fun _ => true) true Tryz.f4.params.toList args.toList ds p := hA0
  rw [Tryz.params4] at hA hval
  obtain ⟨v0, vs0, d0, ds0, p0, q0, hargs, rfl, rfl, h0, r0⟩ := trodAll_cons hA
  obtain ⟨v1, vs1, d1, ds1, p1, q1, rfl, rfl, rfl, h1, r1⟩ := trodAll_cons r0
  obtain ⟨rfl, rfl, rfl⟩ := trodAll_nil r1
  obtain rfl : args = #[v0, v1] := by cases args; simp_all
  obtain ⟨rfl, rfl⟩ := trodVars_none hV
  have k0 := h0
  have lt0 : ∀ x ∈ p0, x.block < W.heap.size := by obtain ⟨m, hm⟩ := k0; exact DataW.trod_lt m _ _ _ hm
  have k1 := h1
  have lt1 : ∀ x ∈ p1, x.block < W.heap.size := by obtain ⟨m, hm⟩ := k1; exact DataW.trod_lt m _ _ _ hm
  obtain ⟨a0, n0, c0, rfl⟩ := okWide_slice Tryz.underlying30 (hval 0 30 v0 rfl rfl)
  obtain ⟨u0, u1, y0, y1, m1, rfl, _, _, t0, t1⟩ := Go.Joins.open_agg2 Tryz.underlying24 (by kernel_rfl) (by kernel_rfl) (hval 1 24 v1 rfl rfl) h1
  have hz : (DataW.weightsEach Tryz.prog [30, 24] [d0, d1]).all (· ≤ reachBytes) = true := by have h := hsz0; rw [Tryz.params4] at h; exact h
  obtain ⟨keys, s, xs, Ao, no, co, rfl, rfl, hkk, hko, hno, hsm, hnk⟩ := keys_open h0 h1 hz
  clear hA0 hval0
  refine (keys_law W keys a0 n0 c0 hkk s xs Ao no co hko hno hsm hnk).mono fun e W' ⟨he, bel⟩ => ?_
  subst he
  exact ⟨_, rfl, _, _, _, [], _, [], hW', trodAll_mk1 (shut_bool Tryz.underlying4 _), (trodAll_cons_mk (Below.trod laidOut (by kernel_rfl) (of_decide_eq_true (by kernel_rfl)) k0 bel lt0) (trodAll_cons_mk (Below.trod laidOut (by kernel_rfl) (of_decide_eq_true (by kernel_rfl)) k1 bel lt1) trodAll_mk0)), rfl, bel.frame _, fun h => by cases h⟩

theorem closed : joinedFacts Tryz.prog 4 Tryz.f4 Rows.gateKeysSpec Rows.gateKeysRow = true := by
  unfold joinedFacts
  simp only [Bool.and_eq_true]
  exact ⟨⟨⟨⟨⟨⟨⟨⟨⟨⟨⟨⟨⟨⟨⟨⟨⟨⟨⟨⟨⟨⟨⟨⟨⟨⟨⟨⟨⟨⟨⟨(by kernel_rfl), Facts.laidOut⟩, Facts.mapsRowed⟩, (by kernel_rfl)⟩, (by kernel_rfl)⟩, (by kernel_rfl)⟩, Facts.stops⟩, (by kernel_rfl)⟩, Facts.stopKnobs⟩, (beq_iff_eq.2 inPlace)⟩, (beq_iff_eq.2 unfollowed_is.symm)⟩, (beq_iff_eq.2 recurses)⟩, (beq_iff_eq.2 named)⟩, (by kernel_rfl)⟩, (by kernel_rfl)⟩, (by kernel_rfl)⟩, (by kernel_rfl)⟩, (by kernel_rfl)⟩, (by kernel_rfl)⟩, (by kernel_rfl)⟩, (by kernel_rfl)⟩, (by kernel_rfl)⟩, (by kernel_rfl)⟩, (by kernel_rfl)⟩, Facts.stopsHeard⟩, Facts.mayEnter⟩, (by kernel_rfl)⟩, (by kernel_rfl)⟩, (by kernel_rfl)⟩, (by kernel_rfl)⟩, (by kernel_rfl)⟩, (by kernel_rfl)⟩
theorem said : Rows.GateKeysSaid :=
  OpenClaim.holds_of_wide 4 Tryz.f4 rfl rfl rfl rfl rfl rfl rfl ⟨rfl, rfl, rfl, rfl, rfl⟩ rfl rfl rfl rfl rfl found Tryz.func4 closed
    (of_decide_eq_true (by kernel_rfl)) (by unfold Func.isWrapper; first | (rw [if_pos (by decide +kernel)]; kernel_rfl) | (rw [if_neg (by decide +kernel)]; exact ⟨rfl, rfl⟩))
    (fun os started H enc _ => lifted os started H enc)

theorem wants : ([30, 24].all fun u => !Tryz.prog.wantsStandIn u) = true := by kernel_rfl

theorem plain (f : FuncId) (fn : Func) (hf : Tryz.pinned.checked.prog.funcNamed Rows.gateKeysRow.func = some f) (hfn : Tryz.pinned.checked.prog.funcs[f]? = some fn) :
    true = Tryz.pinned.checked.prog.looks [] ∧ ∀ (j : Nat) t, fn.params[j]? = some t → Tryz.pinned.checked.prog.wantsStandIn t = false := by
  obtain rfl : f = 4 := (Option.some.inj (found.symm.trans hf)).symm
  obtain rfl : fn = Tryz.f4 := (Option.some.inj (Tryz.func4.symm.trans hfn)).symm
  refine ⟨Facts.looks, fun j t ht => ?_⟩
  rw [Tryz.params4] at ht
  have hm : t ∈ [30, 24] := by simpa using Array.mem_of_getElem? ht
  exact (show Tryz.prog.wantsStandIn t = false by simpa using List.all_eq_true.1 wants t hm)

theorem words : Rows.gateKeysRow.wfByText (OpenSpec.ofChange Rows.gateKeysSpec) = true := by kernel_rfl

/-- GateKeys: the tied card. -/
theorem card : Rows.GateKeysCardSaid :=
  Claim7.holds_tied_plain_at .later [] _ _ _ _ said (fun _ h => by cases h) words (fun _ h => by cases h) gateKeys_row_tie rfl ⟨rfl, rfl⟩ Facts.mainIs rfl plain goes
end Go.Proofs.YtfhmklinieaolaaGreatDoor.gateKeysCard
