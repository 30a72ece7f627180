/-
  The walks of verify.Bytes under a policy that is not right, and of apostillelaw27.VerifyNever, at every input.
-/
import Derived.Test.YtfhmklinieaolaaGreatDoorNil
namespace Go.Proofs.YtfhmklinieaolaaGreatDoor
open Go.RowKit
def RightP (fu rf : Int) : Prop := 0 ≤ fu ∧ fu ≤ 200000 ∧ 1 ≤ rf ∧ rf ≤ 8
set_option maxHeartbeats 400000 in
theorem right_not (fu rf : Int) (nd : Value) (w : World) (h : ¬ RightP fu rf) :
    Calls Tryz.prog 20 #[.agg #[.int .i64 fu, .int .i64 rf, nd]] w fun e w' => e = .returned (.bool false) ∧ Below w.heap.size w w' := by
  by_cases h1 : 0 ≤ fu
  · by_cases h2 : fu ≤ 200000
    · by_cases h3 : 1 ≤ rf
      · have h4 : ¬ rf ≤ 8 := fun h4 => h ⟨h1, h2, h3, h4⟩
        clear h
        go_enter Tryz.func20, Tryz.ntmps20
        go_wp2
        go_ret
        exact ⟨rfl, (Below.refl _ _).alloc (Nat.le_refl _) _⟩
      · clear h
        go_enter Tryz.func20, Tryz.ntmps20
        go_wp2
        go_ret
        exact ⟨rfl, (Below.refl _ _).alloc (Nat.le_refl _) _⟩
    · clear h
      go_enter Tryz.func20, Tryz.ntmps20
      go_wp2
      go_ret
      exact ⟨rfl, (Below.refl _ _).alloc (Nat.le_refl _) _⟩
  · clear h
    go_enter Tryz.func20, Tryz.ntmps20
    go_wp2
    go_ret
    exact ⟨rfl, (Below.refl _ _).alloc (Nat.le_refl _) _⟩
set_option maxHeartbeats 400000 in
theorem ref26_yes (fu rf : Int) (nd : Value) (w : World) (h : RightP fu rf) :
    Calls Tryz.prog 8 #[.agg #[.int .i64 fu, .int .i64 rf, nd]] w fun e w' => e = .returned (.bool true) ∧ Below w.heap.size w w' := by
  obtain ⟨h1, h2, h3, h4⟩ := h
  have h3' : 0 < rf := by omega
  have h4' : rf < 9 := by omega
  go_enter Tryz.func8, Tryz.ntmps8
  go_wp2
  go_ret
  exact ⟨rfl, (Below.refl _ _).alloc (Nat.le_refl _) _⟩
set_option maxHeartbeats 400000 in
theorem ref26_not (fu rf : Int) (nd : Value) (w : World) (h : ¬ RightP fu rf) :
    Calls Tryz.prog 8 #[.agg #[.int .i64 fu, .int .i64 rf, nd]] w fun e w' => e = .returned (.bool false) ∧ Below w.heap.size w w' := by
  by_cases h1 : 0 ≤ fu
  · by_cases h2 : fu ≤ 200000
    · by_cases h3 : 0 < rf
      · have h4 : ¬ rf < 9 := fun h4 => h ⟨h1, h2, by omega, by omega⟩
        clear h
        go_enter Tryz.func8, Tryz.ntmps8
        go_wp2
        go_ret
        exact ⟨rfl, (Below.refl _ _).alloc (Nat.le_refl _) _⟩
      · clear h
        go_enter Tryz.func8, Tryz.ntmps8
        go_wp2
        go_ret
        exact ⟨rfl, (Below.refl _ _).alloc (Nat.le_refl _) _⟩
    · clear h
      go_enter Tryz.func8, Tryz.ntmps8
      go_wp2
      go_ret
      exact ⟨rfl, (Below.refl _ _).alloc (Nat.le_refl _) _⟩
  · clear h
    go_enter Tryz.func8, Tryz.ntmps8
    go_wp2
    go_ret
    exact ⟨rfl, (Below.refl _ _).alloc (Nat.le_refl _) _⟩
set_option maxRecDepth 100000 in
set_option maxHeartbeats 1000000 in
theorem bytes_never (w : World) (b ks : Value) (fu rf : Int) (nd : Value) (hn : ∃ a n c, nd = .slice a n c) (h : ¬ RightP fu rf) :
    Calls Tryz.prog 9 #[b, ks, .agg #[.int .i64 fu, .int .i64 rf, nd]] w fun e w' => e = .returned (.tuple #[.agg #[.pointer none, .string ⟨#[]⟩, .slice none 0 0], .int .i64 1]) ∧ Below w.heap.size w w' := by
  obtain ⟨a, n, c, rfl⟩ := hn
  go_enter Tryz.func9, Tryz.ntmps9
  go_wp2_with (go_at_call 20; refine (right_not _ _ _ _ h).mono ?_; rintro e w1 ⟨rfl, hb⟩; obtain ⟨hc, hf⟩ := bcell hb; have hz := hb.size; simp at hz; have q1 : w.heap.size + 1 < w1.heap.size := by omega)
  refine bodyPost_ret (v := .tuple #[.agg #[.pointer none, .string ⟨#[]⟩, .slice none 0 0], .int .i64 1]) (by simp [results, Tryz.results9, go_sem, hc]) rfl ⟨rfl, ?_⟩
  have hb0 := ((((Below.refl w.heap.size w).alloc (Nat.le_refl _) _).alloc (by simp) _).trans (hb.mono (by simp; omega)))
  have hle : w.heap.size ≤ (⟨w.heap.size + 1, 0, none⟩ : Addr).block := Nat.le_succ _
  exact (((hb0.setCell hle _).setCell (p := ⟨w.heap.size + 1, 1, none⟩) hle _).setCell (p := ⟨w.heap.size + 1, 2, none⟩) hle _)
set_option maxRecDepth 100000 in
set_option maxHeartbeats 1000000 in
theorem equal_one (w : World) (a b : Nat) (ha : w.cell? ⟨a, 0, none⟩ = some (.int .u8 97)) (hb : w.cell? ⟨b, 0, none⟩ = some (.int .u8 97)) :
    Calls Tryz.prog 19 #[.slice (some ⟨a, 0, none⟩) 1 1, .slice (some ⟨b, 0, none⟩) 1 1] w fun e w' => e = .returned (.bool true) ∧ Below w.heap.size w w' := by
  go_enter Tryz.func19, Tryz.ntmps19
  go_wp2
  refine wp_loop_rounds 2 ?_; rw [rounds_succ]
  go_wp2
  go_quiet (fail)
  go_wp2
  rw [rounds_succ]
  go_wp2
  go_ret
  refine ⟨congrArg (fun b => Ending.returned (.bool b)) (by decide), ?_⟩
  exact below_drewN (Below.refl _ _) _
set_option maxRecDepth 100000 in
set_option maxHeartbeats 1000000 in
theorem awake27 (w : World) : Calls Tryz.prog 6 #[] w fun e w' => e = .returned (.bool true) ∧ Below w.heap.size w w' := by
  have kc := fun (w : World) (C : Array Value) (n c g : Nat) (hg : g = w.heap.size) => Go.Joins.run_convert_bytes_const_at (P := Tryz.prog) w 22 5 C n c g hg Tryz.underlying22 Tryz.underlying5
  go_enter Tryz.func6, Tryz.ntmps6
  go_wp2_with fail
  refine (bytes_nil _ _).mono ?_
  rintro e w1 ⟨rfl, hb1⟩
  go_wp2_with (go_at_call 19; refine (equal_one _ _ _ (cell_old_alloc (cell_new_at (by simp) 0 rfl) _) (cell_new_at (by simp) 0 rfl)).mono ?_; rintro e w2 ⟨rfl, hb2⟩)
  go_ret
  exact ⟨rfl, ((((hb1.alloc hb1.size _).alloc (by have := hb1.size; simp; omega) _).alloc (by have := hb1.size; simp; omega) _).trans (hb2.mono (by have := hb1.size; simp; omega)))⟩
/-- Some bool comes back; nothing that was there has turned. -/
def SomeBool (w : World) (e : Ending) (w' : World) : Prop := (∃ b, e = .returned (.bool b)) ∧ Below w.heap.size w w'
set_option maxRecDepth 100000 in
set_option maxHeartbeats 1000000 in
theorem few_one (w : World) (k : Nat) (s : ByteArray) (a : Option Addr) (n c : Nat) (h0 : w.cell? ⟨k, 0, none⟩ = some (.string s)) (h1 : w.cell? ⟨k, 1, none⟩ = some (.slice a n c)) :
    Calls Tryz.prog 7 #[.slice (some ⟨k, 0, none⟩) 1 1, .agg #[.int .i64 0, .int .i64 0, .slice none 0 0]] w (SomeBool w) := by
  have hk := World.block_lt_of_cell? w ⟨k, 0, none⟩ h0
  simp only at hk
  by_cases g1 : 200 < n
  · go_enter Tryz.func7, Tryz.ntmps7
    go_wp2
    refine wp_loop_rounds 2 ?_; rw [rounds_succ]
    go_wp2
    go_ret
    exact ⟨⟨_, rfl⟩, (Below.refl _ _).alloc (Nat.le_refl _) _⟩
  · by_cases g2 : 100 < s.size
    · go_enter Tryz.func7, Tryz.ntmps7
      go_wp2
      refine wp_loop_rounds 2 ?_; rw [rounds_succ]
      go_wp2
      go_ret
      exact ⟨⟨_, rfl⟩, (Below.refl _ _).alloc (Nat.le_refl _) _⟩
    · go_enter Tryz.func7, Tryz.ntmps7
      go_wp2
      refine wp_loop_rounds 2 ?_; rw [rounds_succ]
      go_wp2
      rw [rounds_succ]
      go_wp2
      go_ret
      exact ⟨⟨_, rfl⟩, (Below.refl _ _).alloc (Nat.le_refl _) _⟩
theorem below_drop {w w1 : World} (h : Below w.heap.size w w1) {B : Nat} (hB : B ≤ w.heap.size) : Below B w w1 := h.mono hB
set_option maxRecDepth 100000 in
set_option maxHeartbeats 2000000 in
theorem never_any (w : World) (a : Option Addr) (n c : Nat) (s : ByteArray) (ka : Option Addr) (kn kc : Nat) (fu rf : Int) (pa : Option Addr) (pn pc : Nat) :
    Calls Tryz.prog 3 #[.slice a n c, .agg #[.string s, .slice ka kn kc], .agg #[.int .i64 fu, .int .i64 rf, .slice pa pn pc]] w fun e w' => e = .returned (.bool true) ∧ Below w.heap.size w w' := by
  by_cases h1 : 3000 < n
  · go_enter Tryz.func3, Tryz.ntmps3
    go_wp2_with fail
    refine (awake27 _).mono ?_
    rintro e w1 ⟨rfl, hb1⟩
    go_wp2_with (go_at_call 6; refine (awake27 _).mono ?_; rintro e w2 ⟨rfl, hb2⟩)
    go_ret
    have z1 := hb1.size
    simp at z1
    exact ⟨rfl, ((((Below.refl w.heap.size w).alloc (Nat.le_refl _) _).alloc (by simp) _).trans (hb1.mono (by simp; omega))).trans (hb2.mono (by omega))⟩
  · by_cases hR : RightP fu rf
    · have HR := Lib.hid hR
      clear hR
      go_enter Tryz.func3, Tryz.ntmps3
      go_wp2_with fail
      refine (awake27 _).mono ?_
      rintro e w1 ⟨rfl, hb1⟩
      obtain ⟨hc1, hf1⟩ := bcell hb1
      have z1 := hb1.size
      simp at z1
      have q1 : w.heap.size < w1.heap.size := by omega
      have q2 : w.heap.size + 1 < w1.heap.size := by omega
      go_wp2_with fail
      refine (few_one _ _ s ka kn kc (by simp) (by simp)).mono ?_
      rintro e w2 ⟨⟨b, rfl⟩, hb2⟩
      obtain ⟨hc2, hf2⟩ := bcell hb2
      have z2 := hb2.size
      simp at z2
      have q3 : w.heap.size < w2.heap.size := by omega
      have q4 : w.heap.size + 1 < w2.heap.size := by omega
      have b2 := ((((((Below.refl w.heap.size w).alloc (Nat.le_refl _) (.cells #[.string s, .slice ka kn kc] 24)).alloc (by simp) (.cells #[.int .i64 fu, .int .i64 rf, .slice pa pn pc] 27)).trans (hb1.mono (by simp; omega))).alloc (by omega) (.cells #[.string s, .slice ka kn kc] 24)).trans (hb2.mono (by simp; omega)))
      cases b
      · go_wp2_with (go_at_call 6; refine (awake27 _).mono ?_; rintro e w3 ⟨rfl, hb3⟩)
        go_ret
        exact ⟨rfl, b2.trans (hb3.mono (by omega))⟩
      · go_wp2_with fail
        refine (ref26_yes _ _ _ _ HR.out).mono ?_
        rintro e w4 ⟨rfl, hb4⟩
        have z4 := hb4.size
        go_wp2_with (go_at_call 6; refine (awake27 _).mono ?_; rintro e w3 ⟨rfl, hb3⟩)
        go_ret
        exact ⟨rfl, (b2.trans (hb4.mono (by omega))).trans (hb3.mono (by omega))⟩
    · have HR := Lib.hid hR
      clear hR
      go_enter Tryz.func3, Tryz.ntmps3
      go_wp2_with fail
      refine (awake27 _).mono ?_
      rintro e w1 ⟨rfl, hb1⟩
      obtain ⟨hc1, hf1⟩ := bcell hb1
      have z1 := hb1.size
      simp at z1
      have q1 : w.heap.size < w1.heap.size := by omega
      have q2 : w.heap.size + 1 < w1.heap.size := by omega
      go_wp2_with fail
      refine (few_one _ _ s ka kn kc (by simp) (by simp)).mono ?_
      rintro e w2 ⟨⟨b, rfl⟩, hb2⟩
      obtain ⟨hc2, hf2⟩ := bcell hb2
      have z2 := hb2.size
      simp at z2
      have q3 : w.heap.size < w2.heap.size := by omega
      have q4 : w.heap.size + 1 < w2.heap.size := by omega
      have b2 := ((((((Below.refl w.heap.size w).alloc (Nat.le_refl _) (.cells #[.string s, .slice ka kn kc] 24)).alloc (by simp) (.cells #[.int .i64 fu, .int .i64 rf, .slice pa pn pc] 27)).trans (hb1.mono (by simp; omega))).alloc (by omega) (.cells #[.string s, .slice ka kn kc] 24)).trans (hb2.mono (by simp; omega)))
      cases b
      · go_wp2_with (go_at_call 6; refine (awake27 _).mono ?_; rintro e w3 ⟨rfl, hb3⟩)
        go_ret
        exact ⟨rfl, b2.trans (hb3.mono (by omega))⟩
      · go_wp2_with fail
        refine (ref26_not _ _ _ _ HR.out).mono ?_
        rintro e w4 ⟨rfl, hb4⟩
        obtain ⟨hc4, hf4⟩ := bcell hb4
        have z4 := hb4.size
        have q5 : w.heap.size < w4.heap.size := by omega
        have q6 : w.heap.size + 1 < w4.heap.size := by omega
        go_wp2_with fail
        refine (bytes_never _ _ _ _ _ _ ⟨_, _, _, rfl⟩ HR.out).mono ?_
        rintro e w5 ⟨rfl, hb5⟩
        have z5 := hb5.size
        simp at z5
        go_wp2
        go_ret
        exact ⟨rfl, ((((b2.trans (hb4.mono (by omega))).alloc (by omega) _).trans (hb5.mono (by simp; omega))).alloc (by omega) _)⟩
end Go.Proofs.YtfhmklinieaolaaGreatDoor
