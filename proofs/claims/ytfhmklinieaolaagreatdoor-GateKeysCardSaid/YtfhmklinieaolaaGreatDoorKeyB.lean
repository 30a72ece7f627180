/-
  The walks of DeleteFunc, Drop and Few, and what Add comes to: no statement of the seat; no condition.
-/
import Derived.Test.YtfhmklinieaolaaGreatDoorKeyA
import Derived.Lib.SliceRun
import Derived.Deep.Upon
namespace Go.Proofs.YtfhmklinieaolaaGreatDoor
open Go.RowKit
section
variable {P : Program}
/-- 'clear(s)' of one element. -/
theorem run_clear_one (w : World) (t e ty : TypeId) (z : Value) (zs : List Value) (ht : P.underlying t = some (.slice e)) (hv : ∀ w, (zeroValue e).run P w = .ok z w) (hz : z.cells = zs.toArray) (h1 : ∀ v ∈ zs, v.oneCell' = true) (b o c : Nat)
    (hc : ∀ j, j < zs.length → (w.cell? ⟨b, o + j, none⟩).isSome = true) (hf : ∀ j, j < zs.length → w.frozen? ⟨b, o + j, none⟩ = false) :
    (Builtin.clear_ #[t] ty #[.slice (some ⟨b, o, none⟩) 1 c]).run P w = .ok (.tuple #[]) (w.setCells b o zs) := by
  have hzc : (Builtin.zeroCells z.cells 1).toList = zs := by
    rw [hz]
    apply List.ext_getElem
    · simp [Builtin.zeroCells]
    · intro i h1 h2
      simp [Builtin.zeroCells, Nat.mod_eq_of_lt h2, List.getElem?_eq_getElem h2]
  have hst := run_storeCells_cells (P := P) b o zs 0 w (by simpa using hc) (by simpa using hf) h1
  simp only [Nat.add_zero] at hst
  simp [Builtin.clear_, run_underlying ht, hv, hzc, hst]
end
/-- Drop's own question. -/
theorem drop1 (w : World) (s nm : ByteArray) (A : Option Addr) (n c : Nat) (bn : Nat) (h : w.cell? ⟨bn, 0, none⟩ = some (.string nm)) :
    Calls Tryz.prog 29 #[.agg #[.string s, .slice A n c], .pointer (some ⟨bn, 0, none⟩)] w fun e w' => e = .returned (.bool (s.toList == nm.toList)) ∧ Below w.heap.size w w' := by
  have hbn : bn < w.heap.size := World.block_lt_of_cell? w ⟨bn, 0, none⟩ h
  have hbn2 : w.heap.size ≠ bn := by omega
  go_enter Tryz.func29, Tryz.ntmps29
  go_wp2
  go_ret
  exact ⟨rfl, below_alloc (Below.refl _ _) _⟩
set_option maxRecDepth 100000 in
set_option maxHeartbeats 400000 in
theorem index_drop (w : World) (S : Nat → Prop) (nm : ByteArray) (bn : Nat) (hnm : w.cell? ⟨bn, 0, none⟩ = some (.string nm)) (ks : List Key) (A : Option Addr) (n c : Nat) (h : kKey.slice.K S w ks [.slice A n c]) (hb : n ≤ 100000000) :
    Calls Tryz.prog 40 #[.slice A n c, .func (.func 29) #[] #[.pointer (some ⟨bn, 0, none⟩)]] w (IdxP ks nm w) := by
  obtain ⟨hl, hc, hn⟩ := Kd.slice_len h
  have HL := Lib.hid hl
  clear hl hn
  go_enter Tryz.func40, Tryz.ntmps40
  go_wp2
  go_loopw [8] (fun i wr => ∃ k : Nat, k ≤ n ∧ i = .int .i64 k ∧ Below w.heap.size w wr ∧ ∀ (j : Nat) (q : Key), j < k → ks[j]? = some q → q.1 ≠ nm) (fun i _ => n - (intOf i).toNat)
  case atStart => exact ⟨0, Nat.zero_le _, rfl, Below.refl _ _, fun j q hj => by omega⟩
  case round =>
    obtain ⟨k, hk, rfl, hbel, hno⟩ := hrel
    by_cases hlt : k < n
    · obtain ⟨b, off, x, A2, n2, c2, hA, hx, hSb, d0, d1, hK⟩ := kKey_at (kKey.slice.below h hbel) hlt
      subst hA
      have hnw := cell_old_below hbel hnm
      have HX := Lib.hid hx
      clear hx h
      obtain ⟨s, hs⟩ : ∃ s, s = x.1 := ⟨_, rfl⟩
      rw [← hs] at d0
      have HS := Lib.hid hs
      clear hs
      by_cases heq : s = nm
      · have hq : (s.toList == nm.toList) = true := by rw [heq]; simp
        have HE := Lib.hid heq
        clear heq
        go_wp2_with (go_at_call 29; refine (drop1 _ s nm A2 n2 c2 bn hnw).mono ?_; rintro e w1 ⟨rfl, hb1⟩)
        go_ret
        exact ⟨_, rfl, .inr ⟨k, x, rfl, HX.out, HS.out.symm.trans HE.out, hno⟩, hbel.trans (hb1.mono hbel.size)⟩
      · have hq : (s.toList == nm.toList) = false := by
          rw [beq_eq_false_iff_ne]
          intro e
          exact heq (ByteArray.ext (Array.toList_inj.1 (by simpa [ByteArray.toList_eq] using e)))
        have HE := Lib.hid heq
        clear heq
        go_wp2_with (go_at_call 29; refine (drop1 _ s nm A2 n2 c2 bn hnw).mono ?_; rintro e w1 ⟨rfl, hb1⟩)
        go_roundw
        case rel =>
          refine ⟨k + 1, by omega, by go_num, hbel.trans (hb1.mono hbel.size), fun j q hj hq => ?_⟩
          by_cases hjk : j = k
          · subst hjk
            have := HX.out.symm.trans hq
            injection this with this
            subst this
            rw [← HS.out]
            exact HE.out
          · exact hno j q (by omega) hq
        case measure => simp [intOf]; omega
    · go_wp2
      go_ret
      refine ⟨_, rfl, .inl ⟨rfl, fun q hq => ?_⟩, hbel⟩
      obtain ⟨j, hj, rfl⟩ := List.getElem_of_mem hq
      exact hno j _ (by have := HL.out; omega) (List.getElem?_eq_getElem hj)
theorem heap_setCells {g : Nat} {e : TypeId} : ∀ (zs : List Value) (o : Nat) (w : World) (cur : Array Value), w.heap[g]? = some (.cells cur e) → ∃ cur' : Array Value, (w.setCells g o zs).heap[g]? = some (.cells cur' e) ∧ cur'.size = cur.size ∧ ∀ i, i < o → cur'[i]? = cur[i]?
  | [], o, w, cur, h => ⟨cur, h, rfl, fun _ _ => rfl⟩
  | z :: zs, o, w, cur, h => by
    obtain ⟨cur', h1, h2, h3⟩ := heap_setCells zs (o + 1) (w.setCell ⟨g, o, none⟩ z) _ (Go.Joins.block_setCell h z)
    refine ⟨cur', h1, by simpa using h2, fun i hi => ?_⟩
    rw [h3 i (by omega), Array.getElem?_setIfInBounds_ne (by omega)]
/-- The last one is taken away: its cells are written over. -/
theorem Kd.Own.last {α : Type} {k : Kd α} {base : Nat} {e : TypeId} {S : Nat → Prop} {w : World} {gb n c : Nat} {xs : List α} {x : α} (h : k.Own base e S w (.slice (some ⟨gb, 0, none⟩) n c) (xs ++ [x])) (zs : List Value) (o : Nat) (ho : o = xs.length * k.sz) :
    k.Own base e S (w.setCells gb o zs) (.slice (some ⟨gb, 0, none⟩) xs.length c) xs := by
  subst ho
  have hlens := h
  obtain ⟨css, hl, hk, hx, hr⟩ := h
  have hcl := Kd.Own.lens hl hk
  have hsame : Same (Sub S (.slice (some ⟨gb, 0, none⟩) n c)) w (w.setCells gb (xs.length * k.sz) zs) := fun b hb hlt => World.heap_setCells_other w gb _ zs hlt (fun e => hb.2 (by rw [e]; rfl))
  have hlen : css.length = xs.length + 1 := by simpa using hl
  have hcl' : ∀ c ∈ css.take xs.length, c.length = k.sz := fun c hc => hcl c (List.mem_of_mem_take hc)
  refine ⟨css.take xs.length, by simp; omega, fun i y cs hi hc => ?_, ?_, ?_⟩
  · have hil : i < xs.length := (List.getElem?_eq_some_iff.1 hi).1
    refine k.mono (fun b hb _ => hb) hsame (hk i y cs (by rw [List.getElem?_append_left hil]; exact hi) (by rw [List.getElem?_take_of_lt hil] at hc; exact hc))
  · rw [flatten_len _ hcl', List.length_take, Nat.min_eq_left (by omega)]
  · rcases hr with ⟨h0, _⟩ | ⟨g, cap, cur, hv, hb, hh, hn, hm, hc, ht⟩
    · cases h0
    · injection hv with hv1 hv2 hv3
      injection hv1 with hv1
      injection hv1 with hv1
      subst hv1 hv2 hv3
      obtain ⟨cur', h1, h2, h3⟩ := heap_setCells zs (xs.length * k.sz) w cur hh
      refine .inr ⟨gb, c, cur', rfl, hb, h1, ?_, hm, by rw [h2]; exact hc, ?_⟩
      · simp at hn; omega
      · have hflat : (css.take xs.length).flatten.length = xs.length * k.sz := by rw [flatten_len _ hcl', List.length_take, Nat.min_eq_left (by omega)]
        have e1 : cur'.toList.take (xs.length * k.sz) = cur.toList.take (xs.length * k.sz) := by
          apply List.ext_getElem?
          intro i
          by_cases hi : i < xs.length * k.sz
          · rw [List.getElem?_take_of_lt hi, List.getElem?_take_of_lt hi]
            simpa using h3 i hi
          · rw [List.getElem?_eq_none (by simp; omega), List.getElem?_eq_none (by simp; omega)]
        have e2 : cur.toList.take (xs.length * k.sz) = (cur.toList.take ((xs ++ [x]).length * k.sz)).take (xs.length * k.sz) := by
          rw [List.take_take, Nat.min_eq_left (Nat.mul_le_mul_right _ (by simp))]
        rw [e1, e2, ht]
        have e3 : css.flatten = (css.take xs.length).flatten ++ (css.drop xs.length).flatten := by rw [← List.flatten_append, List.take_append_drop]
        rw [e3, List.take_append_of_le_length (by rw [hflat]; exact Nat.le_refl _), List.take_of_length_le (by rw [hflat]; exact Nat.le_refl _)]
section
variable {P : Program} {ops : Array Oper} {Q : Exit → Act → World → Prop} {a : Act} {w : World} {rest : List Oper} {o : Oper}
theorem wpList_clear_one (x : Operand) (t : TypeId) (ho : o.op = .call { callee := .builtin .clear, args := #[x], argTypes := #[t] }) (hw : Region.wanted o (yielded ops a.tmps) = true)
    {e : TypeId} (z : Value) (zs : List Value) (ht : P.underlying t = some (.slice e)) (hv : ∀ w, (zeroValue e).run P w = .ok z w) (hz : z.cells = zs.toArray) (h1 : ∀ v ∈ zs, v.oneCell' = true) {b off n c : Nat} (hx : a.eval x = .slice (some ⟨b, off, none⟩) n c) (hn : n = 1)
    (hc : ∀ j, j < zs.length → (w.cell? ⟨b, off + j, none⟩).isSome = true) (hf : ∀ j, j < zs.length → w.frozen? ⟨b, off + j, none⟩ = false)
    (next : wpList P ops Q rest (a.put o.dst (.tuple #[])) (w.setCells b off zs)) : wpList P ops Q (o :: rest) a w := by
  subst hn
  refine wpList_step fun K' hK' => ?_
  rw [if_pos hw]
  have hr := run_clear_one (P := P) w t e o.type z zs ht hv hz h1 b off c hc hf
  unfold Oper.wp execOp
  simp only [ho, resolve, invoke, builtin, Sem.run_bind, Sem.run_pure, Result.andThen_ok, List.map_toArray, List.map_cons, List.map_nil, hx, hr]
  exact hK' _ _ next
end
theorem idx_last {ks : List Key} {x : Key} {r : Int} (hno : ∀ k ∈ ks, k.1 ≠ x.1) (h : IdxOf (ks ++ [x]) x.1 r) : r = ks.length := by
  rcases h with ⟨_, h⟩ | ⟨i, k, rfl, hk, hkn, _⟩
  · exact absurd rfl (h x (by simp))
  · by_cases hi : i < ks.length
    · rw [List.getElem?_append_left hi] at hk
      exact absurd hkn (hno k (List.mem_of_getElem? hk))
    · have := (List.getElem?_eq_some_iff.1 hk).1
      simp at this
      omega
def DelP (B : Nat) (S : Nat → Prop) (gb c : Nat) (ks : List Key) (w : World) (en : Ending) (w' : World) : Prop :=
  en = .returned (.slice (some ⟨gb, 0, none⟩) ks.length c) ∧ kKey.Own B 24 S w' (.slice (some ⟨gb, 0, none⟩) ks.length c) ks ∧ w.grownBy w' (some gb)
set_option maxRecDepth 100000 in
set_option maxHeartbeats 2000000 in
theorem del_last (w : World) (B : Nat) (S : Nat → Prop) (ks : List Key) (x : Key) (gb n c : Nat) (hown : kKey.Own B 24 S w (.slice (some ⟨gb, 0, none⟩) n c) (ks ++ [x])) (hoS : S gb) (hno : ∀ k ∈ ks, k.1 ≠ x.1)
    (nm : ByteArray) (hx : nm = x.1) (bn : Nat) (hnm : w.cell? ⟨bn, 0, none⟩ = some (.string nm)) (hn : n ≤ 1000) :
    Calls Tryz.prog 28 #[.slice (some ⟨gb, 0, none⟩) n c, .func (.func 29) #[] #[.pointer (some ⟨bn, 0, none⟩)]] w (DelP B S gb c ks w) := by
  have HN := hown.len
  have hnk : n = ks.length + 1 := by have := HN.out; simpa using this
  obtain ⟨l, hl⟩ : ∃ l, l = ks.length := ⟨_, rfl⟩
  rw [← hl] at hnk
  have HLL := Lib.hid hl
  have HXN := Lib.hid hx
  have hsl := hown.sliceS (fun b hb => by rw [← own_at hb]; exact hoS)
  obtain ⟨_, cur, hcur⟩ := hown.at_base gb rfl
  have hnc := (Kd.slice_hid hsl).2.1
  subst hnk
  clear hl hx
  go_enter Tryz.func28, Tryz.ntmps28
  go_wp2_with fail
  refine (index_drop _ S nm bn hnm (ks ++ [x]) (some ⟨gb, 0, none⟩) (l + 1) c (by exact hsl) (by omega)).mono ?_
  rintro e w1 ⟨r, rfl, hr, hb1⟩
  obtain rfl : r = l := by rw [HLL.out]; exact idx_last hno (by rw [← HXN.out]; exact hr)
  go_wp2_with fail
  refine wp_loop_rounds 1 ?_; rw [rounds_succ]
  have hcs : ∀ j, j < [Value.string ⟨#[]⟩, Value.slice none 0 0].length → (w1.cell? ⟨gb, l * 2 + j, none⟩).isSome = true := by
    intro j hj
    obtain ⟨b, off, x', A2, n2, c2, hA, hx', hSb, d0, d1, hK⟩ := kKey_at hsl (i := l) (by omega)
    injection hA with hA
    injection hA with h1 h2
    subst h1 h2
    have d0 := cell_old_below hb1 d0
    have d1 := cell_old_below hb1 d1
    simp only [Nat.zero_add] at d0 d1
    have hj2 : j = 0 ∨ j = 1 := by simp at hj; omega
    rcases hj2 with rfl | rfl
    · simp [d0]
    · simp [d1]
  have hfs : ∀ j, j < [Value.string ⟨#[]⟩, Value.slice none 0 0].length → w1.frozen? ⟨gb, l * 2 + j, none⟩ = false := fun j _ => frozen_old_below hb1 (Array.getElem?_eq_some_iff.1 hcur).1 (frozen_of_block hcur _)
  have hz24 : ∀ w, (zeroValue 24).run Tryz.prog w = .ok (.agg #[.string ⟨#[]⟩, .slice none 0 0]) w := fun w => by kernel_rfl
  have hclr := run_clear_one (P := Tryz.prog) w1 30 24 0 (.agg #[.string ⟨#[]⟩, .slice none 0 0]) [.string ⟨#[]⟩, .slice none 0 0] Tryz.underlying30 hz24 rfl (by simp [Value.oneCell']) gb (l * 2) (c - l) hcs hfs
  go_wp2
  go_ret
  have hlast := (hown.below hb1).last [.string ⟨#[]⟩, .slice none 0 0] (l * 2) (by rw [HLL.out]; rfl)
  rw [← HLL.out] at hlast
  refine ⟨by rw [← HLL.out]; rfl, ?_, ?_⟩
  · rw [← HLL.out]; exact hlast
  · exact ⟨hb1.os, hb1.tape, hb1.output, by simpa [World.setCells] using hb1.size, fun b hb hne => (World.heap_setCells_other w1 gb _ _ (by have := hb1.size; omega) (fun e => hne (by rw [e]))).trans (hb1.block b hb)⟩
theorem Kd.Own.addr {α : Type} {k : Kd α} {base : Nat} {e : TypeId} {S : Nat → Prop} {w : World} {A : Option Addr} {n c : Nat} {xs : List α} (h : k.Own base e S w (.slice A n c) xs) (h0 : xs ≠ []) : ∃ gb, A = some ⟨gb, 0, none⟩ ∧ base ≤ gb := by
  obtain ⟨css, hl, hk, hx, ho⟩ := h
  rcases ho with ⟨hv, h⟩ | ⟨g, cap, cur, hv, hb, _⟩
  · exact absurd (List.eq_nil_of_length_eq_zero h) h0
  · injection hv with h1 _ _
    exact ⟨g, h1, hb⟩
/-- All but the gate's block and what lies from B on is as it was. -/
structure KeptBut (B g : Nat) (w w' : World) : Prop where
  os : w'.os = w.os
  tape : w'.tape = w.tape
  output : w'.output = w.output
  size : w.heap.size ≤ w'.heap.size
  block : ∀ b, b < w.heap.size → b < B → b ≠ g → w'.heap[b]? = w.heap[b]?
def DropP (B : Nat) (S : Nat → Prop) (g : Nat) (ks : List Key) (w : World) (en : Ending) (w' : World) : Prop :=
  en = .returned (.int .i64 0) ∧ GateK B S w' g ks ∧ KeptBut B g w w'
set_option maxRecDepth 100000 in
set_option maxHeartbeats 4000000 in
theorem drop_last (w : World) (B : Nat) (S : Nat → Prop) (hS : ∀ b, w.heap.size ≤ b → S b) (g : Nat) (ks : List Key) (x : Key) (hg : GateK B S w g (ks ++ [x])) (hno : ∀ k ∈ ks, k.1 ≠ x.1) (hk : ks.length ≤ 16) (hsm : small (ks ++ [x]))
    (nm : ByteArray) (hx : nm = x.1) :
    Calls Tryz.prog 15 #[.pointer (some ⟨g, 0, none⟩), .string nm] w (DropP B S g ks w) := by
  obtain ⟨m, A0, n0, c0, hgb, hown, hoS, hgS⟩ := hg
  obtain ⟨gb, rfl, hBg⟩ := hown.addr (by simp)
  have hgl : g < w.heap.size := (Array.getElem?_eq_some_iff.1 hgb).1
  have e3 : w.cell? ⟨g, 3, none⟩ = some (.slice (some ⟨gb, 0, none⟩) n0 c0) := cell_of_block hgb 3 rfl
  have HN0 := hown.len
  have hn0 : n0 ≤ 17 := by have := HN0.out; simp at this; omega
  have hSgb : S gb := hoS gb rfl
  obtain ⟨_, cur, hcur⟩ := hown.at_base gb rfl
  have hgbl : gb < w.heap.size := (Array.getElem?_eq_some_iff.1 hcur).1
  have hne : g ≠ gb := fun e => hgS (by rw [e]; exact hSgb)
  have HX := Lib.hid hx
  clear hx
  have e3' : (w.alloc (.cells #[.string nm] 9)).cell? ⟨g, 3, none⟩ = some (.slice (some ⟨gb, 0, none⟩) n0 c0) := cell_old_alloc e3 _
  have b0 : (w.alloc (.cells #[.string nm] 9)).cell? ⟨w.heap.size, 0, none⟩ = some (.string nm) := cell_new 0 rfl
  have hfind : ∀ W, Below (w.alloc (.cells #[.string nm] 9)).heap.size (w.alloc (.cells #[.string nm] 9)) W → Calls Tryz.prog 26 #[.slice (some ⟨gb, 0, none⟩) n0 c0, .string nm] W fun e w' => (∃ s A n c, e = .returned (.tuple #[.agg #[.string s, .slice A n c], .int .i64 0])) ∧ Below w.heap.size w w' ∧ Below W.heap.size W w' ∧ w'.cell? ⟨g, 3, none⟩ = some (.slice (some ⟨gb, 0, none⟩) n0 c0) ∧ w'.cell? ⟨w.heap.size, 0, none⟩ = some (.string nm) := by
    intro W hW
    have hz : w.heap.size + 1 ≤ W.heap.size := by simpa using hW.size
    have hwW : Below w.heap.size w W := (below_alloc (Below.refl _ w) _).trans (hW.mono (by simp))
    refine (find_any W S (fun b hb => hS b (by omega)) nm (ks ++ [x]) (some ⟨gb, 0, none⟩) n0 c0 (Kd.below _ (hown.sliceS hoS) hwW) (by omega) hsm).mono ?_
    rintro e w' ⟨s, A, n, c, r, rfl, hr, hb⟩
    have hr0 : r = 0 := by
      rcases hr with ⟨_, h⟩ | ⟨h, _⟩
      · exact absurd HX.out.symm (h x (by simp))
      · exact h
    subst hr0
    exact ⟨⟨s, A, n, c, rfl⟩, hwW.trans (hb.mono (by omega)), hb, cell_old_below hb (cell_old_below hwW e3), cell_old_below hb (cell_old_below hW b0)⟩
  have hle : w.heap.size ≤ (⟨w.heap.size + 1, 0, none⟩ : Addr).block := Nat.le_succ _
  have hs1 : w.heap.size + 1 ≠ g := by omega
  have hs2 : w.heap.size + 1 ≠ w.heap.size := by omega
  go_enter Tryz.func15, Tryz.ntmps15
  go_wp2_with fail
  go_region_held3 (fun w' => w'.cell? ⟨g, 3, none⟩ = some (.slice (some ⟨gb, 0, none⟩) n0 c0) ∧ w'.cell? ⟨w.heap.size, 0, none⟩ = some (.string nm)) (first | exact ⟨g3, g0⟩ | ((try dsimp only); refine And.intro ?_ ?_ <;> (first | exact g3 | exact g0 | exact cell_old_set (cell_old_set g3 _ _ hs1) _ _ hs1 | exact cell_old_set (cell_old_set g0 _ _ hs2) _ _ hs2 | go_keep)))
    (first | (go_at_call 26; refine (hfind _ (by first | exact (Below.refl _ _).drew | exact (below_alloc (Below.refl _ _) _).drew)).mono ?_; rintro e w1 ⟨⟨s4, A4, n4, c4, rfl⟩, hbA, hbB, g3, g0⟩; have q1 : w1.heap.size ≠ g := (by have := hbA.size; omega); have q3 : g ≠ w1.heap.size := q1.symm; have hbc := bcell hbB))
  all_goals
    (go_wp2_with fail
     refine (del_last _ B S ks x gb n0 c0 (by first | exact hown.below (hbA.alloc hbA.size _) | exact hown.below ((hbA.setCell hle _).setCell hle _)) hSgb hno nm HX.out w.heap.size (by first | exact cell_old_alloc g0 _ | exact cell_old_set (cell_old_set g0 _ _ hs2) _ _ hs2) (by omega)).mono ?_
     rintro e w2 ⟨rfl, hown2, hgr⟩
     have hX : ∃ wX : World, Below w.heap.size w wX ∧ wX.grownBy w2 (some gb) := ⟨_, (by first | exact (hbA.alloc hbA.size _) | exact ((hbA.setCell hle _).setCell hle _)), hgr⟩
     clear hgr
     obtain ⟨wX, hBX, hgX⟩ := hX
     have hzX : w.heap.size ≤ w2.heap.size := Nat.le_trans hBX.size hgX.size
     have hg2 := (hgX.block g (by have := hBX.size; omega) (fun e => hne (by simpa using e))).trans (heap_old_below hBX hgb)
     have c2 := cell_of_block hg2 3 rfl
     have f2 := frozen_of_block hg2 3
     go_wp2
     go_ret
     refine ⟨rfl, ⟨m, _, _, _, Go.Joins.block_setCell (i := 3) hg2 _, ?_, fun b hb => by rw [← own_at hb]; exact hSgb, hgS⟩, ⟨hgX.os.trans hBX.os, hgX.tape.trans hBX.tape, hgX.output.trans hBX.output, by simpa using hzX, fun b hb hlB hbg => ?_⟩⟩
     · refine hown2.same (fun b hb hlt => Below.heap_setCell _ _ _ b (fun e => ?_))
       have e' : b = g := e
       rcases hb with hb | hb
       · exact hgS (e' ▸ hb)
       · exact hne ((own_at hb).trans e').symm
     · exact (Below.heap_setCell _ _ _ b hbg).trans ((hgX.block b (by have := hBX.size; omega) (fun e => by injection e with e; omega)).trans (hBX.block b hb)))
def FewP (ks : List Key) (w : World) (en : Ending) (w' : World) : Prop :=
  ∃ b, en = .returned (.bool b) ∧ Below w.heap.size w w' ∧ (10 < ks.length → b = false)
set_option maxRecDepth 100000 in
set_option maxHeartbeats 2000000 in
theorem few_any (w : World) (S : Nat → Prop) (ks : List Key) (A : Option Addr) (n c : Nat) (h : kKey.slice.K S w ks [.slice A n c]) (hn : n ≤ 1000) :
    Calls Tryz.prog 7 #[.slice A n c, .agg #[.int .i64 0, .int .i64 0, .slice none 0 0]] w (FewP ks w) := by
  obtain ⟨HL, _, _⟩ := Kd.slice_hid h
  go_enter Tryz.func7, Tryz.ntmps7
  go_wp2
  go_loopw [8] (fun i wr => ∃ k : Nat, k ≤ n ∧ i = .int .i64 k ∧ Below w.heap.size w wr ∧ wr.cell? ⟨w.heap.size, 0, none⟩ = some (.int .i64 0) ∧ wr.cell? ⟨w.heap.size, 2, none⟩ = some (.slice none 0 0)) (fun i _ => n - (intOf i).toNat)
  case atStart => exact ⟨0, Nat.zero_le _, rfl, below_alloc (Below.refl _ _) _, cell_new 0 rfl, cell_new 2 rfl⟩
  case round =>
    obtain ⟨k, hk, rfl, hbel, x0, x2⟩ := hrel
    by_cases hlt : k < n
    · obtain ⟨b, off, x, A2, n2, c2, hA, hx, hSb, d0, d1, hK⟩ := kKey_at (kKey.slice.below h hbel) hlt
      subst hA
      obtain ⟨s, hs⟩ : ∃ s, s = x.1 := ⟨_, rfl⟩
      rw [← hs] at d0
      clear hs hx hK h
      by_cases h1 : 200 < n2
      · go_wp2
        go_ret
        exact ⟨_, rfl, hbel, fun _ => rfl⟩
      · by_cases h2 : 100 < s.size
        · go_wp2
          go_ret
          exact ⟨_, rfl, hbel, fun _ => rfl⟩
        · go_wp2
          go_roundw
          case rel => exact ⟨k + 1, by omega, by go_num, hbel, x0, x2⟩
          case measure => simp [intOf]; omega
    · by_cases h10 : n ≤ 10
      · go_wp2
        go_ret
        exact ⟨_, rfl, hbel, fun e => by have := HL.out; omega⟩
      · go_wp2
        go_ret
        exact ⟨_, rfl, hbel, fun e => rfl⟩
/-- One Add of one key: what the gate has then. -/
def add1 (all : List Key) (k : Key) : List Key := if (addGo all [k]).1 = 0 then (addGo all [k]).2 else all
theorem add1_or (all : List Key) (k : Key) : add1 all k = all ∨ add1 all k = all ++ [k] := by
  unfold add1
  by_cases h : (all.any fun q => decide (q.1 = k.1)) = true
  · exact .inl (by rw [addGo, if_pos h]; rfl)
  · by_cases h2 : all.length = 16
    · exact .inl (by rw [addGo, if_neg h, if_pos h2]; rfl)
    · exact .inr (by rw [addGo, if_neg h, if_neg h2]; rfl)
theorem add1_len (all : List Key) (k : Key) : (add1 all k).length ≤ all.length + 1 := by
  rcases add1_or all k with h | h <;> rw [h] <;> simp
theorem addGo_one (all : List Key) (k : Key) (h : all.length < 16) : addGo all [k] = if all.any (fun q => decide (q.1 = k.1)) then (9, all) else (0, all ++ [k]) := by
  rw [addGo]
  split
  · rfl
  · rw [if_neg (by omega)]
    rfl
theorem addGo_again (all : List Key) (k : Key) : addGo (all ++ [k]) [k] = (9, all ++ [k]) := by
  rw [addGo, if_pos (by simp)]
theorem addGo_odd (all : List Key) (o k : Key) (h : all.length < 15) (hk : all.any (fun q => decide (q.1 = k.1)) = true) : (addGo all [o, k]).1 = 9 := by
  rw [addGo]
  split
  · rfl
  · rw [if_neg (by omega), addGo, if_pos (by rw [List.any_append, hk]; rfl)]
theorem add1_small {all : List Key} {k : Key} (h : small all) (hk : k.2.length ≤ 140737488351232) : small (add1 all k) := by
  rcases add1_or all k with e | e <;> rw [e]
  · exact h
  · intro q hq
    rcases List.mem_append.1 hq with hq | hq
    · exact h q hq
    · rw [List.mem_singleton.1 hq]
      exact hk
def NoneP (w : World) (en : Ending) (w' : World) : Prop := en = .returned (.int .i64 12) ∧ Below w.heap.size w w'
set_option maxRecDepth 100000 in
set_option maxHeartbeats 4000000 in
theorem drop_none (w : World) (B : Nat) (S : Nat → Prop) (hS : ∀ b, w.heap.size ≤ b → S b) (g : Nat) (ks : List Key) (hg : GateK B S w g ks) (hk : ks.length ≤ 16) (hsm : small ks)
    (nm : ByteArray) (hno : ∀ k ∈ ks, k.1 ≠ nm) :
    Calls Tryz.prog 15 #[.pointer (some ⟨g, 0, none⟩), .string nm] w (NoneP w) := by
  obtain ⟨m, A0, n0, c0, hgb, hown, hoS, hgS⟩ := hg
  have HGate : True := trivial
  have hgl : g < w.heap.size := (Array.getElem?_eq_some_iff.1 hgb).1
  have e3 : w.cell? ⟨g, 3, none⟩ = some (.slice A0 n0 c0) := cell_of_block hgb 3 rfl
  have HN0 := hown.len
  have hn0 : n0 ≤ 17 := by have := HN0.out; omega
  have HX := Lib.hid hno
  clear hno
  have e3' : (w.alloc (.cells #[.string nm] 9)).cell? ⟨g, 3, none⟩ = some (.slice A0 n0 c0) := cell_old_alloc e3 _
  have b0 : (w.alloc (.cells #[.string nm] 9)).cell? ⟨w.heap.size, 0, none⟩ = some (.string nm) := cell_new 0 rfl
  have hfind : ∀ W, Below (w.alloc (.cells #[.string nm] 9)).heap.size (w.alloc (.cells #[.string nm] 9)) W → Calls Tryz.prog 26 #[.slice A0 n0 c0, .string nm] W fun e w' => (∃ s A n c, e = .returned (.tuple #[.agg #[.string s, .slice A n c], .int .i64 12])) ∧ Below w.heap.size w w' ∧ Below W.heap.size W w' ∧ w'.cell? ⟨g, 3, none⟩ = some (.slice A0 n0 c0) ∧ w'.cell? ⟨w.heap.size, 0, none⟩ = some (.string nm) := by
    intro W hW
    have hz : w.heap.size + 1 ≤ W.heap.size := by simpa using hW.size
    have hwW : Below w.heap.size w W := (below_alloc (Below.refl _ w) _).trans (hW.mono (by simp))
    refine (find_any W S (fun b hb => hS b (by omega)) nm ks A0 n0 c0 (Kd.below _ (hown.sliceS hoS) hwW) (by omega) hsm).mono ?_
    rintro e w' ⟨s, A, n, c, r, rfl, hr, hb⟩
    have hr0 : r = 12 := by
      rcases hr with ⟨h, _⟩ | ⟨_, q, hq, hqn⟩
      · exact h
      · exact absurd hqn (HX.out q hq)
    subst hr0
    exact ⟨⟨s, A, n, c, rfl⟩, hwW.trans (hb.mono (by omega)), hb, cell_old_below hb (cell_old_below hwW e3), cell_old_below hb (cell_old_below hW b0)⟩
  have hle : w.heap.size ≤ (⟨w.heap.size + 1, 0, none⟩ : Addr).block := Nat.le_succ _
  have hs1 : w.heap.size + 1 ≠ g := by omega
  have hs2 : w.heap.size + 1 ≠ w.heap.size := by omega
  go_enter Tryz.func15, Tryz.ntmps15
  go_wp2_with fail
  go_region_held3 (fun w' => w'.cell? ⟨g, 3, none⟩ = some (.slice A0 n0 c0) ∧ w'.cell? ⟨w.heap.size, 0, none⟩ = some (.string nm)) (first | exact ⟨g3, g0⟩ | ((try dsimp only); refine And.intro ?_ ?_ <;> (first | exact g3 | exact g0 | exact cell_old_set (cell_old_set g3 _ _ hs1) _ _ hs1 | exact cell_old_set (cell_old_set g0 _ _ hs2) _ _ hs2 | go_keep)))
    (first | (go_at_call 26; refine (hfind _ (by first | exact (Below.refl _ _).drew | exact (below_alloc (Below.refl _ _) _).drew)).mono ?_; rintro e w1 ⟨⟨s4, A4, n4, c4, rfl⟩, hbA, hbB, g3, g0⟩; have q1 : w1.heap.size ≠ g := (by have := hbA.size; omega); have q3 : g ≠ w1.heap.size := q1.symm; have hbc := bcell hbB))
  all_goals
    (go_wp2
     go_ret
     exact ⟨rfl, by first | exact hbA.alloc hbA.size _ | exact (hbA.setCell hle _).setCell hle _⟩)
end Go.Proofs.YtfhmklinieaolaaGreatDoor
