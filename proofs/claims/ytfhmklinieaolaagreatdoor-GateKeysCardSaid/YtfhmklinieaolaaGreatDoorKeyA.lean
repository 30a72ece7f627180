/-
  The walks of Clone, Find, Add and Keys over a gate: no statement of the seat; no condition.
-/
import Derived.Test.YtfhmklinieaolaaGreatDoorKd
import Derived.Test.YtfhmklinieaolaaGreatDoorNil
namespace Go.Proofs.YtfhmklinieaolaaGreatDoor
open Go.RowKit
abbrev Key := ByteArray × List Int
def kKey : Kd Key := Kd.pair Kd.str (Kd.slice (Kd.int .u8))
theorem info24 : (Tryz.prog.info? 24).map (fun i => (i.zero, i.size, i.bytes)) = some (some (.agg #[.string ⟨#[]⟩, .slice none 0 0]), 2, 40) := by kernel_rfl
theorem info5 : (Tryz.prog.info? 5).map (fun i => (i.zero, i.size, i.bytes)) = some (some (.int .u8 0), 1, 1) := by kernel_rfl
/-- A slice comes back that reads as xs; nothing that was there has turned. -/
def Reads {α : Type} (k : Kd α) (S : Nat → Prop) (xs : α) (w : World) (e : Ending) (w' : World) : Prop := ∃ v, e = .returned v ∧ k.K S w' xs [v] ∧ Below w.heap.size w w'
set_option maxRecDepth 100000 in
set_option maxHeartbeats 400000 in
theorem clone_bytes (w : World) (S : Nat → Prop) (hS : ∀ b, w.heap.size ≤ b → S b) (xs : List Int) (A : Option Addr) (n c : Nat) (h : (Kd.slice (Kd.int .u8)).K S w xs [.slice A n c]) (hb : n ≤ 140737488351232) :
    Calls Tryz.prog 27 #[.slice A n c] w (Reads (Kd.slice (Kd.int .u8)) S xs w) := by
  obtain ⟨hl, hc, hn⟩ := Kd.slice_len h
  obtain ⟨i0, hi, hz0, hz1, hz2⟩ := info_parts info5
  have hnl := fun w => Lib.run_eql_slice_nil (P := Tryz.prog) w 22 5 A n c 0 0 Tryz.underlying22
  cases A with
  | none =>
    obtain ⟨rfl, rfl⟩ := hn rfl
    have HL := Lib.hid hl
    clear hl hn
    go_enter Tryz.func27, Tryz.ntmps27
    go_wp2
    go_ret
    exact ⟨_, rfl, h, Below.refl _ _⟩
  | some ad =>
    have hsrc : (Kd.slice (Kd.int .u8)).K (Sub S (.slice (some ⟨w.heap.size, 0, none⟩) 0 0)) (w.alloc (.cells #[] 5)) xs [.slice (some ad) n c] :=
      Kd.below _ (Kd.weak _ (fun b hb hlt => ⟨hb, fun e => by have := own_at e; omega⟩) h) (below_alloc (Below.refl _ _) _)
    have hb1 : (0 + xs.length) * i0.bytes ≤ 140737488355328 := by rw [hz2]; omega
    have hb2 : ([] : List Int).length + xs.length ≤ maxLen := by simp [maxLen]; omega
    have HL := Lib.hid hl
    clear hl hn
    go_enter Tryz.func27, Tryz.ntmps27
    go_wp2_with (at_builtin; go_loud (refine wpList_append_K (Kd.int .u8) _ _ 22 rfl rfl (base := w.heap.size) Tryz.underlying22 hi hz0 (by rw [hz1]; rfl) hz1 (by decide) (S := S) rfl (Kd.Own.lit0 _ 5 S w (Nat.le_refl _)) rfl hsrc hb1 hb2 (by simp) ?_); intro v' w' hown hg hw)
    go_ret
    refine ⟨_, rfl, hown.slice hS, ?_⟩
    exact below_grown (below_alloc (Below.refl _ _) _) hg (by simp) (fun k hk => by have := own_at hk; omega)
def OwnP {α : Type} (k : Kd α) (e : TypeId) (S : Nat → Prop) (xs : List α) (w : World) (en : Ending) (w' : World) : Prop := ∃ v, en = .returned v ∧ k.Own w.heap.size e S w' v xs ∧ Below w.heap.size w w'
set_option maxRecDepth 100000 in
set_option maxHeartbeats 400000 in
theorem clone_keys (w : World) (S : Nat → Prop) (xs : List Key) (A : Option Addr) (n c : Nat) (h : kKey.slice.K S w xs [.slice A n c]) (hb : n ≤ 100000000) :
    Calls Tryz.prog 25 #[.slice A n c] w (OwnP kKey 24 S xs w) := by
  obtain ⟨hl, hc, hn⟩ := Kd.slice_len h
  obtain ⟨i0, hi, hz0, hz1, hz2⟩ := info_parts info24
  have hnl := fun w => Lib.run_eql_slice_nil (P := Tryz.prog) w 30 24 A n c 0 0 Tryz.underlying30
  cases A with
  | none =>
    obtain ⟨rfl, rfl⟩ := hn rfl
    have h0 : xs = [] := List.eq_nil_of_length_eq_zero hl.symm
    subst h0
    clear hl hn
    go_enter Tryz.func25, Tryz.ntmps25
    go_wp2
    go_ret
    exact ⟨_, rfl, Kd.Own.nil _ _ _ _ _, Below.refl _ _⟩
  | some ad =>
    have hsrc : kKey.slice.K (Sub S (.slice (some ⟨w.heap.size, 0, none⟩) 0 0)) (w.alloc (.cells #[] 24)) xs [.slice (some ad) n c] :=
      Kd.below _ (Kd.weak _ (fun b hb hlt => ⟨hb, fun e => by have := own_at e; omega⟩) h) (below_alloc (Below.refl _ _) _)
    have hb1 : (0 + xs.length) * i0.bytes ≤ 140737488355328 := by rw [hz2]; omega
    have hb2 : ([] : List Key).length + xs.length ≤ maxLen := by simp [maxLen]; omega
    have HL := Lib.hid hl
    clear hl hn
    go_enter Tryz.func25, Tryz.ntmps25
    go_wp2_with (at_builtin; go_loud (refine wpList_append_K kKey _ _ 30 rfl rfl (base := w.heap.size) Tryz.underlying30 hi hz0 (by rw [hz1]; rfl) hz1 (by decide) (S := S) rfl (Kd.Own.lit0 _ 24 S w (Nat.le_refl _)) rfl hsrc hb1 hb2 (by simp) ?_); intro v' w' hown hg hw)
    go_ret
    exact ⟨_, rfl, hown, below_grown (below_alloc (Below.refl _ _) _) hg (by simp) (fun k hk => by have := own_at hk; omega)⟩
set_option maxRecDepth 100000 in
set_option maxHeartbeats 400000 in
theorem find1 (w : World) (s nm : ByteArray) (A : Option Addr) (n c : Nat) (bn : Nat) (h : w.cell? ⟨bn, 0, none⟩ = some (.string nm)) :
    Calls Tryz.prog 41 #[.agg #[.string s, .slice A n c], .pointer (some ⟨bn, 0, none⟩)] w fun e w' => e = .returned (.bool (s.toList == nm.toList)) ∧ Below w.heap.size w w' := by
  have hbn : bn < w.heap.size := World.block_lt_of_cell? w ⟨bn, 0, none⟩ h
  have hbn2 : w.heap.size ≠ bn := by omega
  go_enter Tryz.func41, Tryz.ntmps41
  go_wp2
  go_ret
  exact ⟨rfl, below_alloc (Below.refl _ _) _⟩
theorem kKey_at {S : Nat → Prop} {w : World} {ks : List Key} {A : Option Addr} {n c : Nat} (h : kKey.slice.K S w ks [.slice A n c]) {i : Nat} (hi : i < n) :
    ∃ b off x A2 n2 c2, A = some ⟨b, off, none⟩ ∧ ks[i]? = some x ∧ S b ∧ w.cell? ⟨b, off + i * 2, none⟩ = some (.string x.1) ∧ w.cell? ⟨b, off + i * 2 + 1, none⟩ = some (.slice A2 n2 c2) ∧ (Kd.slice (Kd.int .u8)).K S w x.2 [.slice A2 n2 c2] := by
  obtain ⟨hl, hc, hn⟩ := Kd.slice_len h
  have hx : ks[i]? = some ks[i] := List.getElem?_eq_getElem (by omega)
  obtain ⟨b, off, cs, hA, hSb, hK, hcell⟩ := Kd.slice_get h hx
  obtain ⟨c1, c2, rfl, rfl, A2, cap2, rfl, hr⟩ := hK
  exact ⟨b, off, _, A2, _, cap2, hA, hx, hSb, hcell 0 _ rfl, hcell 1 _ rfl, A2, cap2, rfl, hr⟩
def IdxOf (ks : List Key) (nm : ByteArray) (r : Int) : Prop := (r = -1 ∧ ∀ k ∈ ks, k.1 ≠ nm) ∨ ∃ (i : Nat) (k : Key), r = i ∧ ks[i]? = some k ∧ k.1 = nm ∧ ∀ (j : Nat) (q : Key), j < i → ks[j]? = some q → q.1 ≠ nm
def IdxP (ks : List Key) (nm : ByteArray) (w : World) (en : Ending) (w' : World) : Prop := ∃ r, en = .returned (.int .i64 r) ∧ IdxOf ks nm r ∧ Below w.heap.size w w'
set_option maxRecDepth 100000 in
set_option maxHeartbeats 400000 in
theorem index_find (w : World) (S : Nat → Prop) (nm : ByteArray) (bn : Nat) (hnm : w.cell? ⟨bn, 0, none⟩ = some (.string nm)) (ks : List Key) (A : Option Addr) (n c : Nat) (h : kKey.slice.K S w ks [.slice A n c]) (hb : n ≤ 100000000) :
    Calls Tryz.prog 40 #[.slice A n c, .func (.func 41) #[] #[.pointer (some ⟨bn, 0, none⟩)]] w (IdxP ks nm w) := by
  obtain ⟨hl, hc, hn⟩ := Kd.slice_len h
  have HL := Lib.hid hl
  clear hl hn
  go_enter Tryz.func40, Tryz.ntmps40
  go_wp2
  go_loopw [8] (fun i wr => ∃ k : Nat, k ≤ n ∧ i = .int .i64 k ∧ Below w.heap.size w wr ∧ ∀ (j : Nat) (q : Key), j < k → ks[j]? = some q → q.1 ≠ nm) (fun i _ => n - (intOf i).toNat)
  case atStart => exact ⟨0, Nat.zero_le _, rfl, Below.refl _ _, fun j q hj => by omega⟩
  case round =>
    obtain ⟨k, hk, rfl, hbel, hno⟩ := hrel
    by_cases hlt : k < n
    · obtain ⟨b, off, x, A2, n2, c2, hA, hx, hSb, d0, d1, hK⟩ := kKey_at (kKey.slice.below h hbel) hlt
      subst hA
      have hnw := cell_old_below hbel hnm
      have HX := Lib.hid hx
      clear hx h
      obtain ⟨s, hs⟩ : ∃ s, s = x.1 := ⟨_, rfl⟩
      rw [← hs] at d0
      have HS := Lib.hid hs
      clear hs
      by_cases heq : s = nm
      · have hq : (s.toList == nm.toList) = true := by rw [heq]; simp
        have HE := Lib.hid heq
        clear heq
        go_wp2_with (go_at_call 41; refine (find1 _ s nm A2 n2 c2 bn hnw).mono ?_; rintro e w1 ⟨rfl, hb1⟩)
        go_ret
        exact ⟨_, rfl, .inr ⟨k, x, rfl, HX.out, HS.out.symm.trans HE.out, hno⟩, hbel.trans (hb1.mono hbel.size)⟩
      · have hq : (s.toList == nm.toList) = false := by
          rw [beq_eq_false_iff_ne]
          intro e
          exact heq (ByteArray.ext (Array.toList_inj.1 (by simpa [ByteArray.toList_eq] using e)))
        have HE := Lib.hid heq
        clear heq
        go_wp2_with (go_at_call 41; refine (find1 _ s nm A2 n2 c2 bn hnw).mono ?_; rintro e w1 ⟨rfl, hb1⟩)
        go_roundw
        case rel =>
          refine ⟨k + 1, by omega, by go_num, hbel.trans (hb1.mono hbel.size), fun j q hj hq => ?_⟩
          by_cases hjk : j = k
          · subst hjk
            have := HX.out.symm.trans hq
            injection this with this
            subst this
            rw [← HS.out]
            exact HE.out
          · exact hno j q (by omega) hq
        case measure => simp [intOf]; omega
    · go_wp2
      go_ret
      refine ⟨_, rfl, .inl ⟨rfl, fun q hq => ?_⟩, hbel⟩
      obtain ⟨j, hj, rfl⟩ := List.getElem_of_mem hq
      exact hno j _ (by have := HL.out; omega) (List.getElem?_eq_getElem hj)
/-- policy.Find: the answer's error alone, and that a key comes back. -/
def FindP (ks : List Key) (nm : ByteArray) (w : World) (en : Ending) (w' : World) : Prop :=
  ∃ s A n c r, en = .returned (.tuple #[.agg #[.string s, .slice A n c], .int .i64 r]) ∧ ((r = 12 ∧ ∀ k ∈ ks, k.1 ≠ nm) ∨ (r = 0 ∧ ∃ k ∈ ks, k.1 = nm)) ∧ Below w.heap.size w w'
set_option maxRecDepth 100000 in
set_option maxHeartbeats 1000000 in
theorem find_any (w : World) (S : Nat → Prop) (hS : ∀ b, w.heap.size ≤ b → S b) (nm : ByteArray) (ks : List Key) (A : Option Addr) (n c : Nat) (h : kKey.slice.K S w ks [.slice A n c]) (hb : n ≤ 100000000) (hbb : ∀ k ∈ ks, k.2.length ≤ 140737488351232) :
    Calls Tryz.prog 26 #[.slice A n c, .string nm] w (FindP ks nm w) := by
  obtain ⟨hl, hc, hn⟩ := Kd.slice_len h
  have HL := Lib.hid hl
  clear hl hn
  go_enter Tryz.func26, Tryz.ntmps26
  go_wp2_with fail
  refine (index_find _ S nm w.heap.size (cell_old_alloc (cell_new 0 rfl) _) ks A n c (kKey.slice.below h (below_alloc (below_alloc (Below.refl _ _) _) _)) hb).mono ?_
  rintro e w1 ⟨r, rfl, hr, hb1⟩
  obtain ⟨hcc, hff⟩ := bcell hb1
  have hz := hb1.size
  simp at hz
  have q1 : w.heap.size + 1 < w1.heap.size := by omega
  rcases hr with ⟨rfl, hno⟩ | ⟨i, k, rfl, hik, hkn, hfirst⟩
  · have HN := Lib.hid hno
    clear hno
    go_wp2
    refine bodyPost_ret (v := .tuple #[.agg #[.string ⟨#[]⟩, .slice none 0 0], .int .i64 12]) (by simp [results, Tryz.results26, go_sem, hcc]) rfl ⟨_, _, _, _, _, rfl, .inl ⟨rfl, HN.out⟩, ?_⟩
    have hle : w.heap.size ≤ (⟨w.heap.size + 1, 0, none⟩ : Addr).block := Nat.le_succ _
    exact (((below_alloc (below_alloc (Below.refl _ _) _) _).trans (hb1.mono (by simp; omega))).setCell hle _).setCell (p := ⟨w.heap.size + 1, 1, none⟩) hle _
  · have hin : i < n := by rw [HL.out]; exact (List.getElem?_eq_some_iff.1 hik).1
    obtain ⟨b, off, x, A2, n2, c2, hA, hx, hSb, g0, g1, hK0⟩ := kKey_at h hin
    subst hA
    have hbw : Below w.heap.size w w1 := (below_alloc (below_alloc (Below.refl _ _) _) _).trans (hb1.mono (by simp; omega))
    have hbb0 := World.block_lt_of_cell? w ⟨b, _, none⟩ g0
    simp only at hbb0
    have hbne : w.heap.size + 1 ≠ b := by omega
    have d0 := cell_old_below hbw g0
    have d1 := cell_old_below hbw g1
    have hK := Kd.below _ hK0 hbw
    clear g0 g1 hK0
    obtain rfl : x = k := by rw [hik] at hx; injection hx with hx; exact hx.symm
    have hmem : x ∈ ks := List.mem_of_getElem? hik
    have hx2 : n2 ≤ 140737488351232 := by rw [(Kd.slice_len hK).1]; exact hbb x hmem
    have HF := Lib.hid hkn
    have HM := Lib.hid hmem
    clear hx hik hkn hfirst hmem hbb h
    obtain ⟨s, hs⟩ : ∃ s, s = x.1 := ⟨_, rfl⟩
    rw [← hs] at d0
    have HS := Lib.hid hs
    clear hs
    have e0 : w1.cell? ⟨w.heap.size + 1, 0, none⟩ = some (.string ⟨#[]⟩) := cell_old_below hb1 (cell_new_at (by simp) 0 rfl)
    have e1 : w1.cell? ⟨w.heap.size + 1, 1, none⟩ = some (.slice none 0 0) := cell_old_below hb1 (cell_new_at (by simp) 1 rfl)
    have f0 : w1.frozen? ⟨w.heap.size + 1, 0, none⟩ = false := frozen_old_below hb1 (by simp) (frozen_new_at (by simp) 0)
    have f1 : w1.frozen? ⟨w.heap.size + 1, 1, none⟩ = false := frozen_old_below hb1 (by simp) (frozen_new_at (by simp) 1)
    clear hcc hff
    have hSw : ∀ b, w1.heap.size ≤ b → S b := fun b hb => hS b (by omega)
    go_wp2
    go_region_held3 (fun w' => w'.cell? ⟨b, off + i * 2, none⟩ = some (.string s) ∧ w'.cell? ⟨b, off + i * 2 + 1, none⟩ = some (.slice A2 n2 c2)) (first | go_keep | exact ⟨cell_old_below hbx d0, cell_old_below hbx d1⟩)
      (first | (go_at_call 27; refine (clone_bytes _ S (by exact hSw) x.2 A2 n2 c2 (by exact Kd.drew _ hK) hx2).mono ?_; rintro e w2 ⟨v, rfl, hKv, hbx⟩; obtain ⟨A3, n3, c3, rfl⟩ := Kd.slice_val hKv; have e02 := cell_old_below hbx (cell_old_drew e0); have e12 := cell_old_below hbx (cell_old_drew e1); have f02 := frozen_old_below hbx q1 f0; have f12 := frozen_old_below hbx q1 f1; have hz2 : w1.heap.size ≤ w2.heap.size := hbx.size; have q2 : w.heap.size + 1 < w2.heap.size := by omega))
    clear d0 d1
    go_wp2
    refine bodyPost_ret (v := .tuple #[.agg #[.string s, .slice A3 n3 c3], .int .i64 0]) (by simp [results, Tryz.results26, go_sem, e02, e12]) rfl ⟨_, _, _, _, _, rfl, .inr ⟨rfl, x, HM.out, HF.out⟩, ?_⟩
    have hle : w.heap.size ≤ (⟨w.heap.size + 1, 0, none⟩ : Addr).block := Nat.le_succ _
    have hbx2 : Below w1.heap.size w1 w2 := (Below.refl _ _).drew.trans hbx
    exact ((hbw.trans (hbx2.mono hbw.size)).setCell hle _).setCell (p := ⟨w.heap.size + 1, 1, none⟩) hle _
/-- Add's loop, as the text has it. -/
def addGo (all : List Key) : List Key → Int × List Key
  | [] => (0, all)
  | k :: ks => if all.any (fun q => decide (q.1 = k.1)) then (9, all) else if all.length = 16 then (3, all) else addGo (all ++ [k]) ks
def small (ks : List Key) : Prop := ∀ k ∈ ks, k.2.length ≤ 140737488351232
/-- The gate at block g has the keys ks. -/
def GateK (B : Nat) (S : Nat → Prop) (w : World) (g : Nat) (ks : List Key) : Prop :=
  ∃ m A n c, w.heap[g]? = some (.cells #[.int .i64 0, .int .i64 1, .slice none 0 0, .slice A n c, .map (some m), .slice none 0 0] 79) ∧ kKey.Own B 24 S w (.slice A n c) ks ∧ (∀ b, (Value.slice A n c).ownBlock = some b → S b) ∧ ¬ S g
def AddP (B : Nat) (S : Nat → Prop) (g : Nat) (ks new : List Key) (w : World) (en : Ending) (w' : World) : Prop :=
  en = .returned (.int .i64 (addGo ks new).1) ∧ ((addGo ks new).1 = 0 → GateK w.heap.size S w' g (addGo ks new).2) ∧ ((addGo ks new).1 ≠ 0 → GateK B S w' g ks) ∧ w.grownBy w' (some g)
theorem any_no {all : List Key} {nm : ByteArray} (h : ∀ k ∈ all, k.1 ≠ nm) : (all.any fun q => decide (q.1 = nm)) = false := by
  rw [List.any_eq_false]
  intro q hq
  simp [h q hq]
theorem any_yes {all : List Key} {nm : ByteArray} (h : ∃ k ∈ all, k.1 = nm) : (all.any fun q => decide (q.1 = nm)) = true := by
  obtain ⟨k, hk, rfl⟩ := h
  exact List.any_eq_true.2 ⟨k, hk, by simp⟩
theorem addGo_dup {all l : List Key} {x : Key} (h : (all.any fun q => decide (q.1 = x.1)) = true) : addGo all (x :: l) = (9, all) := by rw [addGo, if_pos h]
theorem addGo_full {all l : List Key} {x : Key} (h : (all.any fun q => decide (q.1 = x.1)) = false) (hl : all.length = 16) : addGo all (x :: l) = (3, all) := by
  rw [addGo, if_neg (by rw [h]; decide), if_pos hl]
theorem addGo_step {all l : List Key} {x : Key} (h : (all.any fun q => decide (q.1 = x.1)) = false) (hl : all.length ≠ 16) : addGo all (x :: l) = addGo (all ++ [x]) l := by
  rw [addGo, if_neg (by rw [h]; decide), if_neg hl]
theorem cell_old_grown {w w1 : World} {row : Option Nat} {a : Addr} {v : Value} (hg : w.grownBy w1 row) (h : w.cell? a = some v) (hne : row ≠ some a.block) : w1.cell? a = some v :=
  match hg with
  | ⟨_, _, _, _, hb⟩ => (World.cell?_of_block (w := w) (hb a.block (World.block_lt_of_cell? w a h) (fun e => hne e.symm))).trans h
theorem frozen_of_block {w : World} {b : Nat} {cs : Array Value} {t : TypeId} (h : w.heap[b]? = some (.cells cs t)) (i : Nat) : w.frozen? ⟨b, i, none⟩ = false := by
  unfold World.frozen?
  rw [h]
  simp
/-- The gate is as it was, where nothing below B has turned but new blocks. -/
theorem GateK.below {B : Nat} {S : Nat → Prop} {w w' : World} {g : Nat} {ks : List Key} (h : GateK B S w g ks) (hb : Below w.heap.size w w') : GateK B S w' g ks := by
  obtain ⟨m, A, n, c, h1, h2, h3, h4⟩ := h
  exact ⟨m, A, n, c, heap_old_below hb h1, h2.below hb, h3, h4⟩
theorem grown_below {w w' : World} (h : Below w.heap.size w w') (row : Option Nat) : w.grownBy w' row := ⟨h.os, h.tape, h.output, h.size, fun k hk _ => h.block k hk⟩
set_option maxRecDepth 100000 in
set_option maxHeartbeats 4000000 in
theorem add_any (w : World) (B : Nat) (S : Nat → Prop) (hS : ∀ b, w.heap.size ≤ b → S b) (g : Nat) (ks new : List Key) (hg : GateK B S w g ks) (A : Option Addr) (n c : Nat) (hnew : kKey.slice.K S w new [.slice A n c]) (hks : ks.length ≤ 16) (hn : n ≤ 1000)
    (hsk : small ks) (hsn : small new) :
    Calls Tryz.prog 12 #[.pointer (some ⟨g, 0, none⟩), .slice A n c] w (AddP B S g ks new w) := by
  have HGate := Lib.hid hg
  obtain ⟨m, A0, n0, c0, hgb, hown, hoS, hgS⟩ := hg
  have hgl : g < w.heap.size := (Array.getElem?_eq_some_iff.1 hgb).1
  have e3 : w.cell? ⟨g, 3, none⟩ = some (.slice A0 n0 c0) := cell_of_block hgb 3 rfl
  obtain ⟨i0, hi, hz0, hz1, hz2'⟩ := info_parts info24
  obtain ⟨HL, hc, HN⟩ := Kd.slice_hid hnew
  have HN0 := hown.len
  go_enter Tryz.func12, Tryz.ntmps12
  go_wp2_with fail
  refine (clone_keys _ S ks A0 n0 c0 (by exact hown.sliceS hoS) (by have := HN0.out; omega)).mono ?_
  rintro e w1 ⟨v, rfl, hv, hb1⟩
  obtain ⟨A1, c1, rfl, hc1⟩ := hv.shape
  go_wp2
  go_loopw [5, 19] (fun v i wr => ∃ (k : Nat) (A2 : Option Addr) (n2 c2 : Nat) (all : List Key), k ≤ n ∧ i = .int .i64 k ∧ v = .slice A2 n2 c2 ∧ kKey.Own w.heap.size 24 S wr (.slice A2 n2 c2) all ∧ Below w.heap.size w wr ∧ Hid (addGo all (new.drop k) = addGo ks new) ∧ Hid (all.length ≤ 16) ∧ Hid (small all)) (fun _ i _ => n - (intOf i).toNat)
  case atStart => exact ⟨0, A1, _, c1, ks, Nat.zero_le _, rfl, rfl, hv, hb1, rfl, hks, hsk⟩
  case round =>
    obtain ⟨k, A2, n2, c2, all, hk, rfl, rfl, hall, hbel, HG, HA, HSA⟩ := hrel
    have HN2 := hall.len
    have hle2 : n2 ≤ 16 := by have := HN2.out; have := HA.out; omega
    have e3r := cell_old_below hbel e3
    by_cases hlt : k < n
    · obtain ⟨b, off, x, A3, n3, c3, hA, hx, hSb, d0w, d1w, hKw⟩ := kKey_at hnew hlt
      subst hA
      have d0 := cell_old_below hbel d0w
      have d1 := cell_old_below hbel d1w
      have hK : (Kd.slice (Kd.int .u8)).K (Sub S (.slice A2 n2 c2)) wr x.2 [.slice A3 n3 c3] := Kd.below _ (Kd.weak _ (fun b hb hlt => ⟨hb, fun e => by have := (hall.at_base b e).1; omega⟩) hKw) hbel
      have hown2 : ∀ b, wr.heap.size ≤ b → Sub S (.slice A2 n2 c2) b := fun b hb => ⟨hS b (by have := hbel.size; omega), fun e => by
        obtain ⟨_, cur, hcur⟩ := hall.at_base b e
        have := (Array.getElem?_eq_some_iff.1 hcur).1
        omega⟩
      clear d0w d1w hKw
      obtain ⟨s, hs⟩ : ∃ s, s = x.1 := ⟨_, rfl⟩
      rw [← hs] at d0
      have HS := Lib.hid hs
      have HX := Lib.hid hx
      clear hs hx
      have hSr : ∀ b, (wr.alloc (.cells #[.string s, .slice A3 n3 c3] 24)).heap.size ≤ b → S b := fun b hb => hS b (by have := hbel.size; simp at hb; omega)
      have hallS : ∀ b, (Value.slice A2 n2 c2).ownBlock = some b → S b := fun b hb => hS b (hall.at_base b hb).1
      go_wp2_with fail
      refine (find_any _ S (by exact hSr) s all A2 n2 c2 (by exact Kd.below _ (hall.sliceS hallS) (below_alloc (Below.refl _ _) _)) (by omega) (by exact HSA.out)).mono ?_
      rintro e w2 ⟨s4, A4, n4, c4, r, rfl, hr, hb2⟩
      have hdrop : new.drop k = x :: new.drop (k + 1) := by
        have h := (List.getElem?_eq_some_iff.1 HX.out)
        rw [List.drop_eq_getElem_cons h.1, h.2]
      have HD := Lib.hid hdrop
      clear hdrop
      have t0 : w2.cell? ⟨wr.heap.size, 0, none⟩ = some (.string s) := cell_old_below hb2 (cell_new 0 rfl)
      have t1 : w2.cell? ⟨wr.heap.size, 1, none⟩ = some (.slice A3 n3 c3) := cell_old_below hb2 (cell_new 1 rfl)
      have hb2r : Below wr.heap.size wr w2 := (below_alloc (Below.refl _ _) _).trans (hb2.mono (by simp))
      have hz2 := hb2.size
      simp at hz2
      have q2 : wr.heap.size < w2.heap.size := by omega
      have q2' : w2.heap.size ≠ wr.heap.size := by omega
      clear d0 d1
      rcases hr with ⟨rfl, hno⟩ | ⟨rfl, hyes⟩
      · have hno' := any_no hno
        have HNO := Lib.hid hno'
        clear hno hno'
        by_cases hn16 : n2 = 16
        · subst hn16
          go_wp2
          go_ret
          have hres : addGo ks new = (3, all) := by
            rw [← HG.out, HD.out]
            exact addGo_full (by rw [← HS.out]; exact HNO.out) HN2.out.symm
          have hbf : Below w.heap.size w _ := hbel.trans ((hb2r.alloc hb2r.size (.cells #[.string s4, .slice A4 n4 c4] 24)).mono hbel.size)
          refine ⟨by rw [hres]; rfl, ?_, fun _ => HGate.out.below hbf, grown_below hbf _⟩
          rw [hres]
          exact fun e => absurd (show (3 : Int) = 0 from e) (by decide)
        · have f8 : Below wr.heap.size wr (w2.alloc (.cells #[.string s4, .slice A4 n4 c4] 24)) := hb2r.alloc hb2r.size _
          have hSw : ∀ b, w2.heap.size ≤ b → S b := fun b hb => hS b (by have := hbel.size; omega)
          have hKx := Kd.below _ hK f8
          have hx3 : n3 ≤ 140737488351232 := by
            rw [(Kd.slice_len hK).1]
            exact hsn x (List.mem_of_getElem? HX.out)
          have hcl := clone_bytes ((w2.alloc (.cells #[.string s4, .slice A4 n4 c4] 24)).drew) (Sub S (.slice A2 n2 c2)) (fun b hb => hown2 b (by have hb' : (w2.alloc (.cells #[.string s4, .slice A4 n4 c4] 24)).heap.size ≤ b := hb; simp at hb'; omega)) x.2 A3 n3 c3 (Kd.drew _ hKx) hx3
          have hle0 : w.heap.size ≤ wr.heap.size := hbel.size
          have hne0 : (Value.slice A2 n2 c2).ownBlock ≠ some wr.heap.size := fun e => by
            obtain ⟨_, cur, hcur⟩ := hall.at_base _ e
            have := (Array.getElem?_eq_some_iff.1 hcur).1
            omega
          have hkeep : ∀ (w3 w4 : World) (o : Obj) (i : Nat) (u : Value), w3.cell? ⟨wr.heap.size, i, none⟩ = some u → (w3.alloc o).grownBy w4 (Value.slice A2 n2 c2).ownBlock → w4.cell? ⟨wr.heap.size, i, none⟩ = some u :=
            fun w3 w4 o i u h hg => cell_old_grown hg (cell_old_alloc h o) hne0
          have hnext : ∀ (w3 : World) (v : Value), (Kd.slice (Kd.int .u8)).K (Sub S (.slice A2 n2 c2)) w3 x.2 [v] → Below (w2.alloc (.cells #[.string s4, .slice A4 n4 c4] 24)).drew.heap.size (w2.alloc (.cells #[.string s4, .slice A4 n4 c4] 24)).drew w3 →
              (∃ A5 n5 c5, v = .slice A5 n5 c5) ∧ w2.heap.size + 1 ≤ w3.heap.size ∧ kKey.Own w.heap.size 24 S (w3.alloc (.cells #[.string s, v] 24)) (.slice A2 n2 c2) all ∧ kKey.slice.K (Sub S (.slice A2 n2 c2)) (w3.alloc (.cells #[.string s, v] 24)) [((s, x.2) : Key)] [.slice (some ⟨w3.heap.size, 0, none⟩) 1 1] := by
            intro w3 v hKv hbx
            have hz3 : w2.heap.size + 1 ≤ w3.heap.size := by
              have h : (w2.alloc (.cells #[.string s4, .slice A4 n4 c4] 24)).heap.size ≤ w3.heap.size := hbx.size
              simpa using h
            have hall3 : kKey.Own w.heap.size 24 S w3 (.slice A2 n2 c2) all := (hall.below f8).drew.below hbx
            have hel : kKey.K (Sub S (.slice A2 n2 c2)) w3 (s, x.2) [.string s, v] := ⟨[.string s], [v], rfl, rfl, hKv⟩
            have hsrc := Kd.lit1 (e := 24) rfl hel (hown2 _ (by omega))
            have hown3 := hall3.below (below_alloc (Below.refl _ w3) (.cells #[.string s, v] 24))
            exact ⟨Kd.slice_val hKv, hz3, hown3, hsrc⟩
          have hb1' : (all.length + [((s, x.2) : Key)].length) * i0.bytes ≤ 140737488355328 := by rw [hz2']; have := HA.out; simp; omega
          have hb2' : all.length + [((s, x.2) : Key)].length ≤ maxLen := by have := HA.out; simp [maxLen]; omega
          go_wp2
          go_region_held3 (fun w' => w'.cell? ⟨wr.heap.size, 0, none⟩ = some (.string s) ∧ w'.cell? ⟨wr.heap.size, 1, none⟩ = some (.slice A3 n3 c3)) (first | go_keep | exact ⟨cell_old_below hbx (cell_old_drew (cell_old_alloc t0 _)), cell_old_below hbx (cell_old_drew (cell_old_alloc t1 _))⟩ | exact ⟨hkeep _ _ _ _ _ hT.1 hg4, hkeep _ _ _ _ _ hT.2 hg4⟩)
            (first
              | (go_at_call 27; refine hcl.mono ?_; rintro e w3 ⟨v, rfl, hKv, hbx⟩; obtain ⟨⟨A5, n5, c5, rfl⟩, hz3, hown3, hsrc⟩ := hnext _ _ hKv hbx; have hbx0 := hbx; have hT := And.intro (cell_old_below hbx (cell_old_drew (cell_old_alloc t0 _))) (cell_old_below hbx (cell_old_drew (cell_old_alloc t1 _))))
              | (refine step_append_K kKey _ _ 30 rfl rfl (base := w.heap.size) Tryz.underlying30 hi hz0 (by rw [hz1]; rfl) hz1 (by decide) (S := S) rfl hown3 rfl hsrc hb1' hb2' (by simp; omega) ?_; intro v' w4 hown4 hg4 hw4; obtain ⟨A6, c6, rfl, hc6⟩ := hown4.shape))
          go_wp2
          go_roundw
          case rel =>
            have hxs : ((s, x.2) : Key) = x := by rw [HS.out]
            have hb3 : Below w.heap.size w w3 := hbel.trans (((f8.drew).trans (hbx0.mono f8.size)).mono hbel.size)
            have hb4 : Below w.heap.size w w4 := below_grown (hb3.alloc (by omega) _) hg4 (by simp; omega) (fun b hb => (hall.at_base b hb).1)
            refine ⟨k + 1, A6, _, c6, all ++ [(s, x.2)], by omega, by go_num, by simp, hown4, hb4, ?_, ?_, ?_⟩
            · show addGo (all ++ [(s, x.2)]) (new.drop (k + 1)) = addGo ks new
              rw [← HG.out, HD.out, hxs]
              exact (addGo_step (by rw [← HS.out]; exact HNO.out) (fun e => hn16 (HN2.out.trans e))).symm
            · show (all ++ [((s, x.2) : Key)]).length ≤ 16
              have h1 := HA.out
              have h2 := HN2.out
              simp
              omega
            · intro q hq
              rcases List.mem_append.1 hq with hq | hq
              · exact HSA.out q hq
              · rw [List.mem_singleton.1 hq, hxs]
                exact hsn x (List.mem_of_getElem? HX.out)
          case measure => simp [intOf]; omega
      · have hyes' := any_yes hyes
        have HY := Lib.hid hyes'
        clear hyes hyes'
        go_wp2
        go_ret
        have hres : addGo ks new = (9, all) := by
          rw [← HG.out, HD.out]
          exact addGo_dup (by rw [← HS.out]; exact HY.out)
        have hbf : Below w.heap.size w _ := hbel.trans ((hb2r.alloc hb2r.size (.cells #[.string s4, .slice A4 n4 c4] 24)).mono hbel.size)
        refine ⟨by rw [hres]; rfl, ?_, fun _ => HGate.out.below hbf, grown_below hbf _⟩
        rw [hres]
        exact fun e => absurd (show (9 : Int) = 0 from e) (by decide)
    · obtain rfl : k = n := by omega
      have f3 : wr.frozen? ⟨g, 3, none⟩ = false := frozen_old_below hbel hgl (frozen_of_block hgb 3)
      have hres : addGo ks new = (0, all) := by
        rw [← HG.out, List.drop_eq_nil_of_le (by rw [← HL.out]; exact Nat.le_refl _)]
        rfl
      have hgr := heap_old_below hbel hgb
      have HR := Lib.hid hres
      clear hres
      go_wp2
      go_ret
      have hblk := Go.Joins.block_setCell (i := 3) hgr (.slice A2 n2 c2)
      refine ⟨by rw [HR.out]; rfl, fun _ => ?_, fun h => absurd (by rw [HR.out]) h, ?_⟩
      · rw [HR.out]
        refine ⟨m, A2, n2, c2, hblk, ?_, fun b hb => hS b (hall.at_base b hb).1, hgS⟩
        refine hall.same (fun b hb hlt => Below.heap_setCell _ _ _ b (fun e => ?_))
        have e' : b = g := e
        rcases hb with hb | hb
        · exact hgS (e' ▸ hb)
        · have := (hall.at_base b hb).1
          omega
      · exact ⟨hbel.os, hbel.tape, hbel.output, by simpa using hbel.size, fun b hb hne => (Below.heap_setCell _ _ _ b (fun e => hne (by rw [e]))).trans (hbel.block b hb)⟩
theorem info9 : (Tryz.prog.info? 9).map (fun i => (i.zero, i.size, i.bytes)) = some (some (.string ⟨#[]⟩), 1, 16) := by kernel_rfl
set_option maxRecDepth 100000 in
set_option maxHeartbeats 2000000 in
theorem keys_any (w : World) (B : Nat) (S : Nat → Prop) (hS : ∀ b, w.heap.size ≤ b → S b) (g : Nat) (ks : List Key) (hg : GateK B S w g ks) (hk : ks.length ≤ 1000) :
    Calls Tryz.prog 13 #[.pointer (some ⟨g, 0, none⟩)] w (OwnP Kd.str 9 S (ks.map (·.1)) w) := by
  obtain ⟨m, A0, n0, c0, hgb, hown, hoS, hgS⟩ := hg
  have hgl : g < w.heap.size := (Array.getElem?_eq_some_iff.1 hgb).1
  have e3 : w.cell? ⟨g, 3, none⟩ = some (.slice A0 n0 c0) := cell_of_block hgb 3 rfl
  obtain ⟨i0, hi, hz0, hz1, hz2'⟩ := info_parts info9
  have hsl := hown.sliceS hoS
  have HN0 := hown.len
  have hn0 : n0 ≤ 1000 := by have := HN0.out; omega
  go_enter Tryz.func13, Tryz.ntmps13
  go_wp2
  go_loopw [3, 13] (fun v i wr => ∃ (k : Nat) (A2 : Option Addr) (n2 c2 : Nat), k ≤ n0 ∧ i = .int .i64 k ∧ v = .slice A2 n2 c2 ∧ Kd.str.Own w.heap.size 9 S wr (.slice A2 n2 c2) ((ks.take k).map (·.1)) ∧ Below w.heap.size w wr) (fun _ i _ => n0 - (intOf i).toNat)
  case atStart => exact ⟨0, none, 0, 0, Nat.zero_le _, rfl, rfl, Kd.Own.nil _ _ _ _ _, Below.refl _ _⟩
  case round =>
    obtain ⟨k, A2, n2, c2, hkn, rfl, rfl, hall, hbel⟩ := hrel
    by_cases hlt : k < n0
    · obtain ⟨b, off, x, A3, n3, c3, hA, hx, hSb, d0w, d1w, hKw⟩ := kKey_at hsl hlt
      subst hA
      have d0 := cell_old_below hbel d0w
      have d1 := cell_old_below hbel d1w
      have HX := Lib.hid hx
      clear d0w d1w hx hKw
      obtain ⟨s, hs⟩ : ∃ s, s = x.1 := ⟨_, rfl⟩
      rw [← hs] at d0
      have HS := Lib.hid hs
      clear hs
      have hz : w.heap.size ≤ wr.heap.size := hbel.size
      have hown3 := hall.below ((below_alloc (Below.refl _ wr) (.cells #[.string s, .slice A3 n3 c3] 24)).alloc (by simp) (.cells #[.string s] 9))
      have hsrc : Kd.str.slice.K (Sub S (.slice A2 n2 c2)) ((wr.alloc (.cells #[.string s, .slice A3 n3 c3] 24)).alloc (.cells #[.string s] 9)) [s] [.slice (some ⟨wr.heap.size + 1, 0, none⟩) 1 1] :=
        Kd.lit1 (cs := [.string s]) (by simp) rfl ⟨hS _ (by omega), fun e => by
          obtain ⟨_, cur, hcur⟩ := hall.at_base _ e
          have := (Array.getElem?_eq_some_iff.1 hcur).1
          omega⟩
      have hb1' : (((ks.take k).map (·.1)).length + [s].length) * i0.bytes ≤ 140737488355328 := by rw [hz2']; have := HN0.out; simp; omega
      have hb2' : ((ks.take k).map (·.1)).length + [s].length ≤ maxLen := by have := HN0.out; simp [maxLen]; omega
      go_wp2_with (at_builtin; go_loud (refine wpList_append_K Kd.str _ _ 25 rfl rfl (base := w.heap.size) Tryz.underlying25 hi hz0 (by rw [hz1]; rfl) hz1 (by decide) (S := S) rfl hown3 rfl hsrc hb1' hb2' (by simp; omega) ?_); intro v' w4 hown4 hg4 hw4)
      obtain ⟨A6, c6, rfl, hc6⟩ := hown4.shape
      go_roundw
      case rel =>
        have hb4 : Below w.heap.size w w4 := below_grown (((hbel.alloc hz (.cells #[.string s, .slice A3 n3 c3] 24))).alloc (by simp; omega) (.cells #[.string s] 9)) hg4 (by simp; omega) (fun b hb => (hall.at_base b hb).1)
        have htk : (ks.take (k + 1)).map (·.1) = (ks.take k).map (·.1) ++ [s] := by rw [List.take_add_one, HX.out]; simp [HS.out]
        exact ⟨k + 1, A6, _, c6, by omega, by go_num, rfl, by rw [htk]; exact hown4, hb4⟩
      case measure => simp [intOf]; omega
    · obtain rfl : k = n0 := by omega
      go_wp2
      go_ret
      refine ⟨_, rfl, ?_, hbel⟩
      rw [List.take_of_length_le (by have := HN0.out; omega)] at hall
      exact hall
theorem str_at {S : Nat → Prop} {w : World} {ks : List ByteArray} {A : Option Addr} {n c : Nat} (h : Kd.str.slice.K S w ks [.slice A n c]) {i : Nat} (hi : i < n) :
    ∃ b off x, A = some ⟨b, off, none⟩ ∧ ks[i]? = some x ∧ S b ∧ w.cell? ⟨b, off + i, none⟩ = some (.string x) := by
  obtain ⟨hl, hc, hn⟩ := Kd.slice_len h
  have hx : ks[i]? = some ks[i] := List.getElem?_eq_getElem (by omega)
  obtain ⟨b, off, cs, hA, hSb, hK, hcell⟩ := Kd.slice_get h hx
  have hK' : cs = [.string ks[i]] := hK
  have hc0 := hcell 0 (.string ks[i]) (by rw [hK']; rfl)
  have e : off + (i * Kd.str.sz + 0) = off + i := by show off + (i * 1 + 0) = off + i; omega
  rw [e] at hc0
  exact ⟨b, off, _, hA, hx, hSb, hc0⟩
theorem below_drewN {B : Nat} {a w : World} (h : Below B a w) (n : Nat) : Below B a (w.drewN n) := h.trans ⟨rfl, rfl, rfl, Nat.le_refl _, fun _ _ => rfl⟩
def SameP (ps qs : List ByteArray) (w : World) (en : Ending) (w' : World) : Prop := en = .returned (.bool (decide (ps = qs))) ∧ Below w.heap.size w w'
theorem take_same {α : Type} {ps qs : List α} {k : Nat} {x y : α} (h : ps.take k = qs.take k) (hx : ps[k]? = some x) (hy : qs[k]? = some y) (he : x = y) : ps.take (k + 1) = qs.take (k + 1) := by
  rw [List.take_add_one, List.take_add_one, h, hx, hy, he]
theorem take_differs {α : Type} {ps qs : List α} {k : Nat} {x y : α} (hx : ps[k]? = some x) (hy : qs[k]? = some y) (he : x ≠ y) : ps ≠ qs := by
  rintro rfl
  rw [hx] at hy
  exact he (Option.some.inj hy)
set_option maxRecDepth 100000 in
set_option maxHeartbeats 2000000 in
theorem same_any (w : World) (S T : Nat → Prop) (ps qs : List ByteArray) (A : Option Addr) (n c : Nat) (B : Option Addr) (m d : Nat) (hA : Kd.str.slice.K S w ps [.slice A n c]) (hB : Kd.str.slice.K T w qs [.slice B m d]) (hn : n ≤ 100000) :
    Calls Tryz.prog 14 #[.slice A n c, .slice B m d] w (SameP ps qs w) := by
  obtain ⟨HLA, _, _⟩ := Kd.slice_hid hA
  obtain ⟨HLB, _, _⟩ := Kd.slice_hid hB
  by_cases hnm : n = m
  · subst hnm
    go_enter Tryz.func14, Tryz.ntmps14
    go_wp2
    go_loopw [13] (fun i wr => ∃ k : Nat, k ≤ n ∧ i = .int .i64 k ∧ Hid (ps.take k = qs.take k) ∧ Below w.heap.size w wr) (fun i _ => n - (intOf i).toNat)
    case atStart => exact ⟨0, Nat.zero_le _, rfl, rfl, Below.refl _ _⟩
    case round =>
      obtain ⟨k, hk, rfl, HT, hbel⟩ := hrel
      by_cases hlt : k < n
      · obtain ⟨b1, o1, x, hA1, hx, hS1, g1⟩ := str_at hA hlt
        obtain ⟨b2, o2, y, hB1, hy, hS2, g2⟩ := str_at hB hlt
        subst hA1 hB1
        have d1 := cell_old_below hbel g1
        have d2 := cell_old_below hbel g2
        have HX := Lib.hid hx
        have HY := Lib.hid hy
        clear hx hy g1 g2
        by_cases heq : x = y
        · have HE := Lib.hid heq
          subst heq
          go_wp2_with fail
          go_quiet (fail)
          go_wp2
          go_roundw
          case rel => exact ⟨k + 1, by omega, by go_num, take_same HT.out HX.out HY.out rfl, below_drewN hbel _⟩
          case measure => simp [intOf]; omega
        · have hq : (x.toList == y.toList) = false := by
            rw [beq_eq_false_iff_ne]
            intro e
            exact heq (ByteArray.ext (Array.toList_inj.1 (by simpa [ByteArray.toList_eq] using e)))
          have HE := Lib.hid heq
          clear heq
          go_wp2_with fail
          go_quiet (fail)
          go_wp2
          go_ret
          exact ⟨by simp [take_differs HX.out HY.out HE.out], below_drewN hbel _⟩
      · obtain rfl : k = n := by omega
        go_wp2
        go_ret
        have hab : ps = qs := by
          have h := HT.out
          rw [List.take_of_length_le (by have := HLA.out; omega), List.take_of_length_le (by have := HLB.out; omega)] at h
          exact h
        exact ⟨by simp [hab], hbel⟩
  · have hab : ps ≠ qs := by
      rintro rfl
      exact hnm (HLA.out.trans HLB.out.symm)
    have HAB := Lib.hid hab
    clear hab
    go_enter Tryz.func14, Tryz.ntmps14
    go_wp2
    go_ret
    exact ⟨by simp [HAB.out], Below.refl _ _⟩
end Go.Proofs.YtfhmklinieaolaaGreatDoor
