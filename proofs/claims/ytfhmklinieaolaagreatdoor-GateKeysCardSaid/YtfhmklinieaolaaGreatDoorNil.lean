/-
  The walks of the gate over no document, and of a nil gate: what each of these calls comes to, at the arguments that are named.
-/
import Derived.Test.YtfhmklinieaolaaGreatDoorLib
namespace Go.Proofs.YtfhmklinieaolaaGreatDoor
open Go.RowKit
set_option maxHeartbeats 400000 in
theorem right_any (fu rf : Int) (nd : Value) (w : World)  (h1 : 0 ≤ fu) (h2 : fu ≤ 200000) (h3 : 1 ≤ rf) (h4 : rf ≤ 8) :
    Calls Tryz.prog 20 #[.agg #[.int .i64 fu, .int .i64 rf, nd]] w fun e w' => e = .returned (.bool true) ∧ Below w.heap.size w w' := by
  go_enter Tryz.func20, Tryz.ntmps20
  go_wp2
  go_ret
  exact ⟨rfl, (Below.refl _ _).alloc (Nat.le_refl _) _⟩
set_option maxRecDepth 100000 in
set_option maxHeartbeats 400000 in
theorem u8valid_nil (w : World) :
    Calls Tryz.prog 195 #[.slice none 0 0] w fun e w' => e = .returned (.bool true) ∧ w = w' := by
  go_enter Tryz.func195, Tryz.ntmps195
  go_wp2
  refine wp_loop_rounds 1 ?_; rw [rounds_succ]
  go_wp2
  go_ret
  exact ⟨rfl, rfl⟩
set_option maxRecDepth 100000 in
set_option maxHeartbeats 400000 in
theorem valid_nil (w : World) :
    Calls Tryz.prog 131 #[.slice none 0 0] w fun e w' => e = .returned (.bool true) ∧ w = w' := by
  go_enter Tryz.func131, Tryz.ntmps131
  go_wp2_with (go_at_call 195; refine (u8valid_nil _).mono ?_; rintro e w' ⟨rfl, rfl⟩)
  go_ret
  exact ⟨rfl, rfl⟩
set_option maxRecDepth 100000 in
set_option maxHeartbeats 400000 in
theorem chars_nil (w : World) :
    Calls Tryz.prog 72 #[.slice none 0 0] w fun e w' => e = .returned (.tuple #[.slice none 0 0, .bool true]) ∧ w = w' := by
  go_enter Tryz.func72, Tryz.ntmps72
  go_wp2_with (go_at_call 131; refine (valid_nil _).mono ?_; rintro e w' ⟨rfl, rfl⟩)
  refine wp_loop_rounds 1 ?_; rw [rounds_succ]
  go_wp2
  go_ret2
  exact ⟨rfl, rfl⟩
set_option maxRecDepth 100000 in
set_option maxHeartbeats 400000 in
theorem text_nil (w : World) :
    Calls Tryz.prog 44 #[.slice none 0 0] w fun e w' => e = .returned (.bool true) ∧ w = w' := by
  go_enter Tryz.func44, Tryz.ntmps44
  go_wp2_with (go_at_call 72; refine (chars_nil _).mono ?_; rintro e w' ⟨rfl, rfl⟩)
  refine wp_loop_rounds 1 ?_; rw [rounds_succ]
  go_wp2
  go_ret
  exact ⟨rfl, rfl⟩
set_option maxRecDepth 100000 in
set_option maxHeartbeats 400000 in
theorem index_empty (w : World) :
    Calls Tryz.prog 271 #[.string ⟨#[]⟩, .string ⟨#[13, 10]⟩] w fun e w' => e = .returned (.int .i64 (-1)) ∧ w = w' := by
  go_enter Tryz.func271, Tryz.ntmps271
  go_wp2

  go_ret
  exact ⟨rfl, rfl⟩
set_option maxRecDepth 100000 in
set_option maxHeartbeats 400000 in
theorem count_crlf (w : World) :
    Calls Tryz.prog 197 #[.string ⟨#[]⟩, .string ⟨#[13, 10]⟩] w fun e w' => e = .returned (.int .i64 0) ∧ w = w' := by
  go_enter Tryz.func197, Tryz.ntmps197
  go_wp2
  refine wp_loop_rounds 1 ?_; rw [rounds_succ]
  go_wp2_with (first | (go_at_call 271; refine (index_empty _).mono ?_; rintro e w' ⟨rfl, rfl⟩) | go_in)
  go_ret
  exact ⟨rfl, rfl⟩
set_option maxRecDepth 100000 in
set_option maxHeartbeats 400000 in
theorem count_cr (w : World) :
    Calls Tryz.prog 197 #[.string ⟨#[]⟩, .string ⟨#[13]⟩] w fun e w' => e = .returned (.int .i64 0) ∧ w = w' := by
  have hc : ∀ (n : Int) (w : World), (callFunc 269 #[.string ⟨#[]⟩, .int .u8 n]).run Tryz.prog w = .ok (.value (.int .i64 0)) w := fun _ _ => by kernel_rfl
  go_enter Tryz.func197, Tryz.ntmps197
  go_wp2
  go_ret
  exact ⟨rfl, rfl⟩
set_option maxRecDepth 100000 in
set_option maxHeartbeats 400000 in
theorem replace_crlf (w : World) :
    Calls Tryz.prog 133 #[.string ⟨#[]⟩, .string ⟨#[13, 10]⟩, .string ⟨#[10]⟩, .int .i64 (-1)] w fun e w' => e = .returned (.string ⟨#[]⟩) ∧ w = w' := by
  go_enter Tryz.func133, Tryz.ntmps133
  go_wp2_with (go_at_call 197; refine (count_crlf _).mono ?_; rintro e w' ⟨rfl, rfl⟩)
  go_ret
  exact ⟨rfl, rfl⟩
set_option maxRecDepth 100000 in
set_option maxHeartbeats 400000 in
theorem replace_cr (w : World) :
    Calls Tryz.prog 133 #[.string ⟨#[]⟩, .string ⟨#[13]⟩, .string ⟨#[10]⟩, .int .i64 (-1)] w fun e w' => e = .returned (.string ⟨#[]⟩) ∧ w = w' := by
  go_enter Tryz.func133, Tryz.ntmps133
  go_wp2_with (go_at_call 197; refine (count_cr _).mono ?_; rintro e w' ⟨rfl, rfl⟩)
  go_ret
  exact ⟨rfl, rfl⟩
set_option maxRecDepth 100000 in
set_option maxHeartbeats 400000 in
theorem lines_empty (w : World) :
    Calls Tryz.prog 45 #[.string ⟨#[]⟩] w fun e w' => e = .returned (.string ⟨#[]⟩) ∧ w = w' := by
  go_enter Tryz.func45, Tryz.ntmps45
  go_wp2_with (first | (go_at_call_of 133 (Value.string ⟨#[13, 10]⟩); refine (replace_crlf _).mono ?_; rintro e w' ⟨rfl, rfl⟩) | (go_at_call_of 133 (Value.string ⟨#[13]⟩); refine (replace_cr _).mono ?_; rintro e w' ⟨rfl, rfl⟩) | go_in)
  go_ret
  exact ⟨rfl, rfl⟩
set_option maxRecDepth 100000 in
set_option maxHeartbeats 400000 in
theorem bare_root (w : World) :
    Calls Tryz.prog 148 #[.agg #[.int .i64 0, .int .i64 (-1), .string ⟨#[]⟩, .string ⟨#[]⟩, .string ⟨#[]⟩, .string ⟨#[]⟩, .slice none 0 0, .slice none 0 0]] w fun e w' => e = .returned (.bool true) ∧ Below w.heap.size w w' := by
  go_enter Tryz.func148, Tryz.ntmps148
  go_wp2
  go_ret
  exact ⟨rfl, (Below.refl _ _).alloc (Nat.le_refl _) _⟩
set_option maxRecDepth 100000 in
set_option maxHeartbeats 400000 in
theorem decl_empty (w : World) (b : Nat) (h : w.cell? ⟨b, 0, none⟩ = some (.string ⟨#[]⟩)) :
    Calls Tryz.prog 46 #[.pointer (some ⟨b, 0, none⟩)] w fun e w' => e = .returned (.bool true) ∧ w = w' := by
  go_enter Tryz.func46, Tryz.ntmps46
  go_wp2
  go_ret
  exact ⟨rfl, rfl⟩

set_option maxRecDepth 100000 in
set_option maxHeartbeats 1000000 in
theorem check_root (w : World) (b : Nat) (h0 : w.cell? ⟨b, 0, none⟩ = some (.int .i64 0)) (h1 : w.cell? ⟨b, 1, none⟩ = some (.int .i64 (-1)))
  (h2 : w.cell? ⟨b, 2, none⟩ = some (.string ⟨#[]⟩)) (h3 : w.cell? ⟨b, 3, none⟩ = some (.string ⟨#[]⟩)) (h4 : w.cell? ⟨b, 4, none⟩ = some (.string ⟨#[]⟩)) (h5 : w.cell? ⟨b, 5, none⟩ = some (.string ⟨#[]⟩)) 
  (h6 : w.cell? ⟨b, 6, none⟩ = some (.slice none 0 0)) (h7 : w.cell? ⟨b, 7, none⟩ = some (.slice none 0 0)) :
    Calls Tryz.prog 88 #[.slice (some ⟨b, 0, none⟩) 1 1] w fun e w' => e = .returned (.tuple #[.int .i64 0, .bool false]) ∧ Below w.heap.size w w' := by
  have hmk : ∀ w, (Instr.makeSlice 144 (.int .i64 1) (.int .i64 1)).run Tryz.prog w = .ok (.slice (some ⟨w.heap.size, 0, none⟩) 1 1) (w.alloc (.cells #[.int .i64 0] 3)) := fun _ => by kernel_rfl
  have hbs := World.block_lt_of_cell? w ⟨b, 0, none⟩ h0
  simp only at hbs
  go_enter Tryz.func88, Tryz.ntmps88
  go_wp2_with (go_at_call 148; refine (bare_root _).mono ?_; rintro e w1 ⟨rfl, hb⟩; obtain ⟨hc, hf⟩ := bcell hb)
  refine wp_loop_rounds 2 ?_; rw [rounds_succ]
  go_wp2
  rw [rounds_succ]
  go_wp2
  refine wp_loop_rounds 1 ?_; rw [rounds_succ]
  go_wp2
  go_ret2
  exact ⟨rfl, hb.alloc (by have := hb.size; omega) _⟩

set_option maxRecDepth 100000 in
set_option maxHeartbeats 1000000 in
theorem of_root (w : World) (b : Nat) (h0 : w.cell? ⟨b, 0, none⟩ = some (.int .i64 0)) (h1 : w.cell? ⟨b, 1, none⟩ = some (.int .i64 (-1)))
  (h2 : w.cell? ⟨b, 2, none⟩ = some (.string ⟨#[]⟩)) (h3 : w.cell? ⟨b, 3, none⟩ = some (.string ⟨#[]⟩)) (h4 : w.cell? ⟨b, 4, none⟩ = some (.string ⟨#[]⟩)) (h5 : w.cell? ⟨b, 5, none⟩ = some (.string ⟨#[]⟩)) 
  (h6 : w.cell? ⟨b, 6, none⟩ = some (.slice none 0 0)) (h7 : w.cell? ⟨b, 7, none⟩ = some (.slice none 0 0)) :
    Calls Tryz.prog 48 #[.slice (some ⟨b, 0, none⟩) 1 1] w fun e w' => e = .returned (.tuple #[.pointer none, .int .i64 2]) ∧ Below w.heap.size w w' := by
  go_enter Tryz.func48, Tryz.ntmps48
  go_wp2_with (go_at_call 88; refine (check_root _ _ h0 h1 h2 h3 h4 h5 h6 h7).mono ?_; rintro e w1 ⟨rfl, hb⟩)
  go_ret2
  exact ⟨rfl, hb⟩
set_option maxRecDepth 100000 in
set_option maxHeartbeats 1000000 in
theorem parse_nil (w : World) :
    Calls Tryz.prog 32 #[.slice none 0 0] w fun e w' => e = .returned (.tuple #[.pointer none, .int .i64 2]) ∧ Below w.heap.size w w' := by
  have hcv : ∀ w, (convert 22 9 (.slice none 0 0)).run Tryz.prog w = .ok (.string ⟨#[]⟩) w := fun _ => by kernel_rfl
  go_enter Tryz.func32, Tryz.ntmps32
  go_wp2_with (first | (go_at_call 44; refine (text_nil _).mono ?_; rintro e w1 ⟨rfl, rfl⟩) | (go_at_call 45; refine (lines_empty _).mono ?_; rintro e w1 ⟨rfl, rfl⟩) | (go_at_call 46; refine (decl_empty _ _ (by simp)).mono ?_; rintro e w1 ⟨rfl, rfl⟩))
  refine wp_loop_rounds 1 ?_; rw [rounds_succ]
  go_wp2_with (go_at_call 48; refine (of_root _ _ (by simp) (by simp) (by simp) (by simp) (by simp) (by simp) (by simp) (by simp)).mono ?_; rintro e w1 ⟨rfl, hb⟩)
  go_ret2
  exact ⟨rfl, ((Below.refl _ _).alloc (by omega) _ |>.alloc (by simp) _).trans (hb.mono (by simp; omega))⟩
set_option maxRecDepth 100000 in
set_option maxHeartbeats 1000000 in
theorem read_nil (w : World) :
    Calls Tryz.prog 21 #[.slice none 0 0] w fun e w' => e = .returned (.tuple #[.pointer none, .agg #[.int .i64 0, .int .i64 0, .int .i64 0, .slice none 0 0, .bool false, .slice none 0 0, .slice none 0 0, .slice none 0 0, .string ⟨#[]⟩], .int .i64 2]) ∧ Below w.heap.size w w' := by
  go_enter Tryz.func21, Tryz.ntmps21
  go_wp2_with (go_at_call 32; refine (parse_nil _).mono ?_; rintro e w1 ⟨rfl, hb⟩; obtain ⟨hc, hf⟩ := bcell hb; have hz := hb.size; simp at hz)
  refine bodyPost_ret (v := .tuple #[.pointer none, .agg #[.int .i64 0, .int .i64 0, .int .i64 0, .slice none 0 0, .bool false, .slice none 0 0, .slice none 0 0, .slice none 0 0, .string ⟨#[]⟩], .int .i64 2]) (by simp [results, Tryz.results21, go_sem, hc]) rfl ⟨rfl, ?_⟩
  have hb0 := ((Below.refl w.heap.size w).alloc (Nat.le_refl _) _).trans (hb.mono (by simp))
  exact ((((((((hb0.setCell (by simp) _).setCell (by simp) _).setCell (by simp) _).setCell (by simp) _).setCell (by simp) _).setCell (by simp) _).setCell (by simp) _).setCell (by simp) _).setCell (by simp) _

set_option maxRecDepth 100000 in
set_option maxHeartbeats 1000000 in
theorem bytes_nil (w : World) (ks : Value) :
    Calls Tryz.prog 9 #[.slice none 0 0, ks, .agg #[.int .i64 0, .int .i64 1, .slice none 0 0]] w fun e w' => e = .returned (.tuple #[.agg #[.pointer none, .string ⟨#[]⟩, .slice none 0 0], .int .i64 2]) ∧ Below w.heap.size w w' := by
  go_enter Tryz.func9, Tryz.ntmps9
  go_wp2_with (first | (go_at_call 20; refine (right_any _ _ _ _ (by omega) (by omega) (by omega) (by omega)).mono ?_; rintro e w1 ⟨rfl, hb⟩; obtain ⟨hc, hf⟩ := bcell hb; have hz := hb.size; simp at hz; have q1 : w.heap.size + 1 < w1.heap.size := by omega) | (go_at_call 21; refine (read_nil _).mono ?_; rintro e w2 ⟨rfl, hb2⟩; obtain ⟨hc2, hf2⟩ := bcell hb2; have hz2 := hb2.size; have q2 : w.heap.size + 1 < w2.heap.size := by omega))
  refine bodyPost_ret (v := .tuple #[.agg #[.pointer none, .string ⟨#[]⟩, .slice none 0 0], .int .i64 2]) (by simp [results, Tryz.results9, go_sem, hc, hc2, q1, q2]) rfl ⟨rfl, ?_⟩
  have hb0 := ((((Below.refl w.heap.size w).alloc (Nat.le_refl _) _).alloc (by simp) _).trans (hb.mono (by simp; omega))).trans (hb2.mono (by omega))
  have hle : w.heap.size ≤ (⟨w.heap.size + 1, 0, none⟩ : Addr).block := Nat.le_succ _
  exact (((hb0.setCell hle _).setCell (p := ⟨w.heap.size + 1, 1, none⟩) hle _).setCell (p := ⟨w.heap.size + 1, 2, none⟩) hle _).alloc (by simp [World.setCell]; omega) _
set_option maxRecDepth 100000 in
set_option maxHeartbeats 1000000 in
theorem handle_nil (w : World) (g m : Nat) (h0 : w.cell? ⟨g, 0, none⟩ = some (.int .i64 0)) (h1 : w.cell? ⟨g, 1, none⟩ = some (.int .i64 1)) (h2 : w.cell? ⟨g, 2, none⟩ = some (.slice none 0 0))
  (h3 : w.cell? ⟨g, 3, none⟩ = some (.slice none 0 0)) (h4 : w.cell? ⟨g, 4, none⟩ = some (.map (some m))) (hm : w.heap[m]? = some (.map #[] 0)) :
    Calls Tryz.prog 16 #[.pointer (some ⟨g, 0, none⟩), .slice none 0 0] w fun e w' => e = .returned (.tuple #[.agg #[.pointer none, .string ⟨#[]⟩, .slice none 0 0], .int .i64 2]) ∧ Below m w w' ∧ w'.cell? ⟨g, 4, none⟩ = some (.map (some m)) ∧ w'.heap[m]? = some (.map #[⟨.int .i64 2, .int .i64 1, 0⟩] 1) := by
  have hgs := World.block_lt_of_cell? w ⟨g, 0, none⟩ h0
  simp only at hgs
  have hgs1 : g < w.heap.size + 1 := by omega
  have hgs2 : g < w.heap.size + 1 + 1 := by omega
  have hgn : w.heap.size ≠ g := by omega
  have hgn1 : w.heap.size + 1 ≠ g := by omega
  go_enter Tryz.func16, Tryz.ntmps16
  go_wp2
  go_region_held3 (fun w' => w'.cell? ⟨g, 0, none⟩ = some (.int .i64 0) ∧ w'.cell? ⟨g, 1, none⟩ = some (.int .i64 1) ∧ w'.cell? ⟨g, 2, none⟩ = some (.slice none 0 0) ∧ w'.cell? ⟨g, 3, none⟩ = some (.slice none 0 0)) (go_keep)
    (first | (go_at_call 9; refine (bytes_nil _ _).mono ?_; rintro e w1 ⟨rfl, hb⟩; obtain ⟨hc, hf⟩ := bcell hb; have hz := hb.size; try simp at hz))
  all_goals (have hmx := heap_old_below hb (heap_old_drew (by first | exact heap_old_alloc (heap_old_alloc hm _) _ | exact heap_old_alloc hm _)))
  · obtain ⟨hc, hf⟩ := bcell hb
    have q1 : g < w1.heap.size := by omega
    have q2 : w.heap.size < w1.heap.size := by omega
    have hc4 : w1.cell? ⟨g, 4, none⟩ = some (.map (some m)) := cell_old_below hb (cell_old_drew (cell_old_alloc h4 _))
    have hmg : m ≠ g := by
      rintro rfl
      simp [World.cell?, hm] at h0
    have hml : m < w.heap.size := (Array.getElem?_eq_some_iff.1 hm).1
    go_wp2_with (first | (at_lookup; refine wpList_lookup_now rfl _ _ 77 rfl rfl rfl Tryz.underlying77 Tryz.underlying37 rfl (heap_old_alloc hmx _) (show _ = some none from rfl) (show _ = Result.ok (Value.int .i64 0) _ from by kernel_rfl) ?_) | (at_mapUpdate; refine wpList_mapUpdate_new rfl _ _ _ 77 rfl rfl rfl rfl Tryz.underlying77 Tryz.underlying37 rfl (heap_old_alloc hmx _) rfl ?_; intro w2 hT; have hTc := hT.cell; have hTf := hT.frozen; have qa : w.heap.size ≠ m := (by omega); have qb : w1.heap.size ≠ m := (by omega)))
    refine bodyPost_ret (v := .tuple #[.agg #[.pointer none, .string ⟨#[]⟩, .slice none 0 0], .int .i64 2]) (by simp [results, Tryz.results16, go_sem, hTc, hc, qa, q2]) rfl ⟨rfl, ?_, ?_, ?_⟩
    · have b0 := (((((Below.refl m w).alloc (by omega) _).drew).trans (hb.mono (by simp; omega))).alloc (by omega) _).trans (hT.below (Nat.le_refl _))
      exact (((b0.setCell (p := ⟨w.heap.size, 0, none⟩) (Nat.le_of_lt hml) _).setCell (p := ⟨w.heap.size, 1, none⟩) (Nat.le_of_lt hml) _).setCell (p := ⟨w.heap.size, 2, none⟩) (Nat.le_of_lt hml) _)
    · exact cell_old_set (cell_old_set (cell_old_set (cell_old_turned hT (cell_old_alloc hc4 _) (fun e => hmg e.symm)) _ _ hgn) _ _ hgn) _ _ hgn
    · exact heap_old_set (heap_old_set (heap_old_set hT.here _ _ qa) _ _ qa) _ _ qa
  · obtain ⟨hc, hf⟩ := bcell hb
    have q1 : g < w1.heap.size := by omega
    have q2 : w.heap.size < w1.heap.size := by omega
    have q3 : w.heap.size + 1 < w1.heap.size := by omega
    have hc4 : w1.cell? ⟨g, 4, none⟩ = some (.map (some m)) := cell_old_below hb (cell_old_drew (cell_old_alloc (cell_old_alloc h4 _) _))
    have hmg : m ≠ g := by
      rintro rfl
      simp [World.cell?, hm] at h0
    have hml : m < w.heap.size := (Array.getElem?_eq_some_iff.1 hm).1
    have qa : w.heap.size ≠ m := (by omega)
    have qb : w.heap.size + 1 ≠ m := (by omega)
    have hmy := heap_old_set (heap_old_set (heap_old_set hmx ⟨w.heap.size + 1, 0, none⟩ (.pointer none) qb) ⟨w.heap.size + 1, 1, none⟩ (.string ⟨#[]⟩) qb) ⟨w.heap.size + 1, 2, none⟩ (.slice none 0 0) qb
    go_wp2_with (first | (at_lookup; refine wpList_lookup_now rfl _ _ 77 rfl rfl rfl Tryz.underlying77 Tryz.underlying37 rfl hmy (show _ = some none from rfl) (show _ = Result.ok (Value.int .i64 0) _ from by kernel_rfl) ?_) | (at_mapUpdate; refine wpList_mapUpdate_new rfl _ _ _ 77 rfl rfl rfl rfl Tryz.underlying77 Tryz.underlying37 rfl hmy rfl ?_; intro w2 hT; have hTc := hT.cell; have hTf := hT.frozen))
    have hnew : ∀ i v, (#[Value.pointer none, Value.string ⟨#[]⟩, Value.slice none 0 0])[i]? = some v → w2.cell? ⟨w.heap.size, i, none⟩ = some v := fun i v hv =>
      cell_old_turned hT (cell_old_set (cell_old_set (cell_old_set (cell_old_below hb (cell_old_drew (cell_old_alloc (cell_new i hv) _))) _ _ (Nat.succ_ne_self _)) _ _ (Nat.succ_ne_self _)) _ _ (Nat.succ_ne_self _)) qa
    have d0 := hnew 0 _ rfl
    have d1 := hnew 1 _ rfl
    have d2 := hnew 2 _ rfl
    refine bodyPost_ret (v := .tuple #[.agg #[.pointer none, .string ⟨#[]⟩, .slice none 0 0], .int .i64 2]) (by simp [results, Tryz.results16, go_sem, d0, d1, d2]) rfl ⟨rfl, ?_, ?_, ?_⟩
    · have hq : m ≤ w.heap.size + 1 := by omega
      have b0 := ((((Below.refl m w).alloc (by omega) _).alloc (by simp; omega) _).drew).trans (hb.mono (by simp; omega))
      have b1 := (((b0.setCell (p := ⟨w.heap.size + 1, 0, none⟩) hq (.pointer none)).setCell (p := ⟨w.heap.size + 1, 1, none⟩) hq (.string ⟨#[]⟩)).setCell (p := ⟨w.heap.size + 1, 2, none⟩) hq (.slice none 0 0)).trans (hT.below (Nat.le_refl _))
      exact (((b1.setCell (p := ⟨w.heap.size, 0, none⟩) (Nat.le_of_lt hml) _).setCell (p := ⟨w.heap.size, 1, none⟩) (Nat.le_of_lt hml) _).setCell (p := ⟨w.heap.size, 2, none⟩) (Nat.le_of_lt hml) _)
    · exact cell_old_set (cell_old_set (cell_old_set (cell_old_turned hT (cell_old_set (cell_old_set (cell_old_set hc4 _ _ hgn1) _ _ hgn1) _ _ hgn1) (fun e => hmg e.symm)) _ _ hgn) _ _ hgn) _ _ hgn
    · exact heap_old_set (heap_old_set (heap_old_set hT.here _ _ qa) _ _ qa) _ _ qa
/-- What gate.New leaves. -/
structure NewGate (w : World) (e : Ending) (w' : World) : Prop where
  mk ::
  all : ∃ g m, e = .returned (.tuple #[.pointer (some ⟨g, 0, none⟩), .int .i64 0]) ∧ w'.heap[g]? = some (.cells #[.int .i64 0, .int .i64 1, .slice none 0 0, .slice none 0 0, .map (some m), .slice none 0 0] 79) ∧ w'.heap[m]? = some (.map #[] 0) ∧
    w.heap.size ≤ g ∧ w.heap.size ≤ m ∧ m ≠ g ∧ Below w.heap.size w w'
set_option maxRecDepth 100000 in
set_option maxHeartbeats 1000000 in
theorem new_one (w : World) : Calls Tryz.prog 11 #[.agg #[.int .i64 0, .int .i64 1, .slice none 0 0]] w (NewGate w) := by
  have hmm := @run_makeMap Tryz.prog
  have hnl := fun w => Lib.run_eql_slice_nil (P := Tryz.prog) (w := w)
  go_enter Tryz.func11, Tryz.ntmps11
  go_wp2_with (first | (go_at_call 20; refine (right_any _ _ _ _ (by omega) (by omega) (by omega) (by omega)).mono ?_; rintro e w1 ⟨rfl, hb⟩; obtain ⟨hc, hf⟩ := bcell hb; have hz := hb.size; simp at hz; have q1 : w.heap.size < w1.heap.size := by omega) | go_in)
  go_ret2
  refine ⟨⟨w1.heap.size + 1, w1.heap.size, rfl, ?_, ?_, by omega, by omega, by omega, ?_⟩⟩
  · exact heap_new (by simp [World.setCell])
  · exact heap_old_alloc (heap_new (by simp [World.setCell])) _
  · have b0 := (((Below.refl w.heap.size w).alloc (Nat.le_refl _) _).trans (hb.mono (by simp))).setCell (p := ⟨w.heap.size, 2, none⟩) (Nat.le_refl _) (.slice none 0 0)
    exact (b0.alloc (by simp [World.setCell]; omega) _).alloc (by simp [World.setCell]; omega) _
theorem cell_of_block {w : World} {b : Nat} {c : Array Value} {t : TypeId} {fr : Nat × Nat} (h : w.heap[b]? = some (.cells c t fr)) (i : Nat) {v : Value} (hi : c[i]? = some v) : w.cell? ⟨b, i, none⟩ = some v := by
  simp [World.cell?, h, hi]
set_option maxRecDepth 100000 in
set_option maxHeartbeats 1000000 in
theorem count_two (w : World) (g m : Nat) (h4 : w.cell? ⟨g, 4, none⟩ = some (.map (some m))) (hm : w.heap[m]? = some (.map #[⟨.int .i64 2, .int .i64 1, 0⟩] 1)) :
    Calls Tryz.prog 18 #[.pointer (some ⟨g, 0, none⟩), .int .i64 2] w fun e w' => e = .returned (.int .i64 1) ∧ w = w' := by
  go_enter Tryz.func18, Tryz.ntmps18
  go_wp2_with (at_lookup; refine wpList_lookup_now rfl _ _ 77 rfl rfl rfl Tryz.underlying77 Tryz.underlying37 rfl hm (show _ = some (some (0, Value.int .i64 1)) from rfl) (show _ = Result.ok (Value.int .i64 0) _ from by kernel_rfl) ?_)
  go_ret
  exact ⟨rfl, rfl⟩
set_option maxRecDepth 100000 in
set_option maxHeartbeats 1000000 in
theorem awake30 (w : World) : Calls Tryz.prog 10 #[] w fun e w' => e = .returned (.bool true) ∧ Below w.heap.size w w' := by
  go_enter Tryz.func10, Tryz.ntmps10
  go_wp2_with fail
  refine (new_one _).mono ?_
  rintro e w1 ⟨g, m, rfl, hg, hm, gg, gm, hne, hb⟩
  have c0 := cell_of_block hg 0 rfl
  have c1 := cell_of_block hg 1 rfl
  have c2 := cell_of_block hg 2 rfl
  have c3 := cell_of_block hg 3 rfl
  have c4 := cell_of_block hg 4 rfl
  go_wp2_with fail
  refine (handle_nil _ g m c0 c1 c2 c3 c4 hm).mono ?_
  rintro e w2 ⟨rfl, hb2, d4, hm2⟩
  go_wp2_with (go_at_call 18; refine (count_two _ g m (cell_old_alloc d4 _) (heap_old_alloc hm2 _)).mono ?_; rintro e w3 ⟨rfl, rfl⟩)
  go_ret
  exact ⟨rfl, ((hb.trans (hb2.mono gm)).alloc (by have := hb.size; have := hb2.size; omega) _)⟩
set_option maxRecDepth 100000 in
set_option maxHeartbeats 400000 in
theorem handle_gnil (w : World) (b : Value) : Calls Tryz.prog 16 #[.pointer none, b] w fun e w' => e = .returned (.tuple #[.agg #[.pointer none, .string ⟨#[]⟩, .slice none 0 0], .int .i64 1]) ∧ Below w.heap.size w w' := by
  go_enter Tryz.func16, Tryz.ntmps16
  go_wp2
  refine bodyPost_ret (v := .tuple #[.agg #[.pointer none, .string ⟨#[]⟩, .slice none 0 0], .int .i64 1]) (by simp [results, Tryz.results16, go_sem]) rfl ⟨rfl, (Below.refl _ _).alloc (Nat.le_refl _) _⟩
set_option maxRecDepth 100000 in
set_option maxHeartbeats 400000 in
theorem add_gnil (w : World) (b : Value) : Calls Tryz.prog 12 #[.pointer none, b] w fun e w' => e = .returned (.int .i64 1) ∧ w = w' := by
  go_enter Tryz.func12, Tryz.ntmps12
  go_wp2
  go_ret
  exact ⟨rfl, rfl⟩
set_option maxRecDepth 100000 in
set_option maxHeartbeats 400000 in
theorem drop_gnil (w : World) (s : ByteArray) : Calls Tryz.prog 15 #[.pointer none, .string s] w fun e w' => e = .returned (.int .i64 1) ∧ Below w.heap.size w w' := by
  go_enter Tryz.func15, Tryz.ntmps15
  go_wp2
  go_ret
  exact ⟨rfl, (Below.refl _ _).alloc (Nat.le_refl _) _⟩
set_option maxRecDepth 100000 in
set_option maxHeartbeats 400000 in
theorem keys_gnil (w : World) : Calls Tryz.prog 13 #[.pointer none] w fun e w' => e = .returned (.slice none 0 0) ∧ w = w' := by
  go_enter Tryz.func13, Tryz.ntmps13
  go_wp2
  go_ret
  exact ⟨rfl, rfl⟩
set_option maxRecDepth 100000 in
set_option maxHeartbeats 400000 in
theorem seen_gnil (w : World) : Calls Tryz.prog 17 #[.pointer none] w fun e w' => e = .returned (.slice none 0 0) ∧ w = w' := by
  go_enter Tryz.func17, Tryz.ntmps17
  go_wp2
  go_ret
  exact ⟨rfl, rfl⟩
set_option maxRecDepth 100000 in
set_option maxHeartbeats 400000 in
theorem count_gnil (w : World) (n : Int) : Calls Tryz.prog 18 #[.pointer none, .int .i64 n] w fun e w' => e = .returned (.int .i64 0) ∧ w = w' := by
  go_enter Tryz.func18, Tryz.ntmps18
  go_wp2
  go_ret
  exact ⟨rfl, rfl⟩
set_option maxRecDepth 100000 in
set_option maxHeartbeats 1000000 in
theorem nil_any (w : World) (a : Option Addr) (n c : Nat) (s : ByteArray) : Calls Tryz.prog 5 #[.slice a n c, .string s] w fun e w' => e = .returned (.bool true) ∧ Below w.heap.size w w' := by
  by_cases h : n ≤ 1000 ∧ s.size ≤ 100
  · obtain ⟨h1, h2⟩ := h
    go_enter Tryz.func5, Tryz.ntmps5
    go_wp2_with fail
    refine (awake30 _).mono ?_
    rintro e w1 ⟨rfl, hb1⟩
    go_wp2_with fail
    refine (handle_gnil _ _).mono ?_
    rintro e w2 ⟨rfl, hb2⟩
    go_wp2_with (first | (go_at_call 12; refine (add_gnil _ _).mono ?_; rintro e w3 ⟨rfl, rfl⟩) | (go_at_call 13; refine (keys_gnil _).mono ?_; rintro e w3 ⟨rfl, rfl⟩) | (go_at_call 17; refine (seen_gnil _).mono ?_; rintro e w3 ⟨rfl, rfl⟩) | (go_at_call 18; refine (count_gnil _ _).mono ?_; rintro e w3 ⟨rfl, rfl⟩) | (go_at_call 15; refine (drop_gnil _ _).mono ?_; rintro e w4 ⟨rfl, hb4⟩))
    go_ret
    have b2 := (hb1.trans (hb2.mono hb1.size))
    exact ⟨rfl, ((b2.alloc (by have := hb1.size; have := hb2.size; omega) _).alloc (by have := hb1.size; have := hb2.size; simp; omega) _).trans (hb4.mono (by have := hb1.size; have := hb2.size; simp; omega))⟩
  · by_cases h1 : 1000 < n
    all_goals
      have h2 : 1000 < n ∨ 100 < s.size := by omega
      go_enter Tryz.func5, Tryz.ntmps5
      go_wp2_with fail
      refine (awake30 _).mono ?_
      rintro e w1 ⟨rfl, hb1⟩
      go_wp2_with (go_at_call 10; refine (awake30 _).mono ?_; rintro e w2 ⟨rfl, hb2⟩)
      go_ret
      exact ⟨rfl, hb1.trans (hb2.mono hb1.size)⟩
end Go.Proofs.YtfhmklinieaolaaGreatDoor
