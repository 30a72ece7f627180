/-
  The walk of apostillelaw30.GateKeys, at every input.
-/
import Derived.Test.YtfhmklinieaolaaGreatDoorKeyB
import Derived.Test.YtfhmklinieaolaaGreatDoorTrod
import Derived.Deep.DeepCutAuto
import Derived.WideShapes
namespace Go.Proofs.YtfhmklinieaolaaGreatDoor
open Go.RowKit

/-- A literal of two elements lies in a block of its own. -/
theorem Kd.lit2 {α : Type} {k : Kd α} {S : Nat → Prop} {w : World} {x y : α} {cs ds : List Value} {e : TypeId} {g : Nat} (hg : g = w.heap.size) (h : k.K S w x cs) (h2 : k.K S w y ds) (hS : S g) : k.slice.K S (w.alloc (.cells (cs ++ ds).toArray e)) [x, y] [.slice (some ⟨g, 0, none⟩) 2 2] := by
  subst hg
  refine ⟨_, 2, rfl, Nat.le_refl _, nofun, .inr ⟨w.heap.size, 0, rfl, hS, by simp, fun i z hi => ?_⟩⟩
  have hlt := (List.getElem?_eq_some_iff.1 hi).1
  simp at hlt
  have hb : Same S w (w.alloc (.cells (cs ++ ds).toArray e)) := Same.of_below (below_alloc (Below.refl _ _) _)
  have hl1 := k.len h
  have hl2 := k.len h2
  match i, hlt, hi with
  | 0, _, hi =>
    obtain rfl : x = z := by simpa using hi
    refine ⟨cs, k.mono (fun _ h _ => h) hb h, fun j u hj => ?_⟩
    have hjl := (List.getElem?_eq_some_iff.1 hj).1
    have := cell_new (w := w) (c := (cs ++ ds).toArray) (t := e) (fr := (0, 0)) j (v := u) (by simpa [List.getElem?_append_left hjl] using hj)
    simpa using this
  | 1, _, hi =>
    obtain rfl : y = z := by simpa using hi
    refine ⟨ds, k.mono (fun _ h _ => h) hb h2, fun j u hj => ?_⟩
    have := cell_new (w := w) (c := (cs ++ ds).toArray) (t := e) (fr := (0, 0)) (cs.length + j) (v := u) (by simpa [List.getElem?_append_right] using hj)
    rw [show 0 + (1 * k.sz + j) = cs.length + j by omega]
    exact this
theorem Kd.Own.lit1 {α : Type} (k : Kd α) {base : Nat} (e : TypeId) (S : Nat → Prop) (w : World) (x : α) (cs : List Value) (h : k.K S w x cs) (hb : base ≤ w.heap.size) : k.Own base e S (w.alloc (.cells cs.toArray e)) (.slice (some ⟨w.heap.size, 0, none⟩) 1 1) [x] := by
  refine ⟨[cs], rfl, fun i y ds h1 h2 => ?_, by simp [k.len h], .inr ⟨w.heap.size, 1, cs.toArray, rfl, hb, heap_new rfl, Nat.le_refl _, by simp [maxLen], by simp [k.len h], by simp [← k.len h]⟩⟩
  have h0 : i = 0 := by
    have := (List.getElem?_eq_some_iff.1 h1).1
    simp at this
    exact this
  subst h0
  obtain rfl : x = y := by simpa using h1
  obtain rfl : cs = ds := by simpa using h2
  exact k.mono (fun b hS hlt => ⟨hS, fun e => by have := own_at e; omega⟩) (Same.of_below (below_alloc (Below.refl _ _) _)) h
def gateOf (keys : List Key) : List Key := keys.foldl add1 []
theorem foldl_len (keys : List Key) : ∀ all : List Key, (keys.foldl add1 all).length ≤ all.length + keys.length := by
  induction keys with
  | nil => intro all; simp
  | cons k ks ih => intro all; have := ih (add1 all k); have := add1_len all k; simp only [List.foldl_cons, List.length_cons]; omega
theorem gateOf_take_succ {keys : List Key} {k : Nat} {x : Key} (h : keys[k]? = some x) : gateOf (keys.take (k + 1)) = add1 (gateOf (keys.take k)) x := by
  unfold gateOf
  rw [List.take_add_one, h]
  simp
theorem gateOf_small {keys : List Key} (h : small keys) : ∀ k, small (gateOf (keys.take k))
  | 0 => by intro q hq; simp [gateOf] at hq
  | k + 1 => by
    by_cases hk : k < keys.length
    · have hx : keys[k]? = some keys[k] := List.getElem?_eq_getElem hk
      rw [gateOf_take_succ hx]
      exact add1_small (gateOf_small h k) (h _ (List.getElem_mem hk))
    · rw [List.take_of_length_le (by omega), ← List.take_of_length_le (i := k) (l := keys) (by omega)]
      exact gateOf_small h k
theorem gateOf_len (keys : List Key) (k : Nat) : (gateOf (keys.take k)).length ≤ k := by
  have := foldl_len (keys.take k) []
  have h2 : (keys.take k).length ≤ k := List.length_take_le _ _
  simp only [List.length_nil, Nat.zero_add] at this
  exact Nat.le_trans this h2
/-- All blocks but one. -/
def But (g : Nat) : Nat → Prop := fun b => b ≠ g
theorem GateK.lt {B : Nat} {S : Nat → Prop} {w : World} {g : Nat} {ks : List Key} (h : GateK B S w g ks) : g < w.heap.size := by
  obtain ⟨m, A, n, c, h1, _⟩ := h
  exact (Array.getElem?_eq_some_iff.1 h1).1
theorem below_kept {h B g : Nat} {a w w' : World} (hb : Below h a w) (hk : KeptBut B g w w') (h1 : h ≤ B) (h2 : h ≤ g) (h3 : h ≤ w.heap.size) : Below h a w' :=
  ⟨hk.os.trans hb.os, hk.tape.trans hb.tape, hk.output.trans hb.output, Nat.le_trans hb.size hk.size, fun k hlt => (hk.block k (by omega) (by omega) (by omega)).trans (hb.block k hlt)⟩
/-- What Add of one key leaves. -/
theorem AddP.one {B : Nat} {S : Nat → Prop} {g : Nat} {ks : List Key} {x : Key} {w : World} {en : Ending} {w' : World} (h : AddP B S g ks [x] w en w') : en = .returned (.int .i64 (addGo ks [x]).1) ∧ w.grownBy w' (some g) ∧ (GateK B S w' g (add1 ks x) ∨ GateK w.heap.size S w' g (add1 ks x)) := by
  obtain ⟨h1, h2, h3, h4⟩ := h
  refine ⟨h1, h4, ?_⟩
  unfold add1
  by_cases h0 : (addGo ks [x]).1 = 0
  · exact .inr (by rw [if_pos h0]; exact h2 h0)
  · exact .inl (by rw [if_neg h0]; exact h3 h0)
theorem own_str {base : Nat} {e : TypeId} {S T : Nat → Prop} {w : World} {v : Value} {xs : List ByteArray} (h : Kd.str.Own base e S w v xs) : Kd.str.Own base e T w v xs := by
  obtain ⟨css, hl, hk, ho⟩ := h
  exact ⟨css, hl, fun i x cs h1 h2 => hk i x cs h1 h2, ho⟩
theorem same_grown {S : Nat → Prop} {w w' : World} {o : Obj} {g : Nat} (h : (w.alloc o).grownBy w' (some g)) (hS : ∀ b, S b → b ≠ g) : Same S w w' := fun b hb hlt =>
  (h.block b (by simp; omega) (fun e => hS b hb (by injection e))).trans (Below.heap_alloc w o b hlt)
theorem same_trans {S : Nat → Prop} {w1 w2 w3 : World} (h1 : Same S w1 w2) (h2 : Same S w2 w3) (hz : w1.heap.size ≤ w2.heap.size) : Same S w1 w3 := fun b hb hlt => (h2 b hb (by omega)).trans (h1 b hb hlt)
def odd : ByteArray := ⟨#[97, 110, 111, 116, 104, 101, 114, 32, 111, 110, 101, 32, 111, 102, 32, 97, 110, 32, 111, 100, 100, 32, 110, 97, 109, 101]⟩
def LawP (w : World) (en : Ending) (w' : World) : Prop := en = .returned (.bool true) ∧ Below w.heap.size w w'
set_option maxRecDepth 100000 in
set_option maxHeartbeats 4000000 in
theorem keys_law (w : World) (keys : List Key) (Ak : Option Addr) (nk ck : Nat) (hk : kKey.slice.K All w keys [.slice Ak nk ck]) (s : ByteArray) (xs : List Int) (Ao : Option Addr) (no co : Nat) (ho : (Kd.slice (Kd.int .u8)).K All w xs [.slice Ao no co])
    (hno : no ≤ 140737488351232) (hsm : small keys) (hck : nk ≤ 140737488351232) :
    Calls Tryz.prog 4 #[.slice Ak nk ck, .agg #[.string s, .slice Ao no co]] w (LawP w) := by
  obtain ⟨HL, hnc, HN⟩ := Kd.slice_hid hk
  obtain ⟨HLo, _, _⟩ := Kd.slice_hid ho
  obtain ⟨i0, hi, hz0, hz1, hz2⟩ := info_parts info24
  go_enter Tryz.func4, Tryz.ntmps4
  go_upto_region 1 with fail
  go_cut [32] (fun c wx => ∃ b, c = .bool b ∧ (b = false → nk ≤ 10) ∧ Below (w.heap.size + 1) (w.alloc (.cells #[.string s, .slice Ao no co] 24)) wx)
  case first =>
    go_wp2_with fail
    refine (awake30 _).mono ?_
    rintro e w1 ⟨rfl, hb1⟩
    obtain ⟨hc1, hf1⟩ := bcell hb1
    have z1 := hb1.size
    simp at z1
    have q1 : w.heap.size < w1.heap.size := by omega
    by_cases hn : 10 < nk
    · go_wp2_with fail
      go_meet
      exact ⟨true, rfl, by simp, by simpa using hb1⟩
    · have x0 : w1.cell? ⟨w.heap.size, 0, none⟩ = some (.string s) := cell_old_below hb1 (cell_new 0 rfl)
      have x1 : w1.cell? ⟨w.heap.size, 1, none⟩ = some (.slice Ao no co) := cell_old_below hb1 (cell_new 1 rfl)
      have hb1w : Below w.heap.size w w1 := (below_alloc (Below.refl _ _) _).trans (hb1.mono (by simp))
      have hone : kKey.K All w1 (s, xs) [.string s, .slice Ao no co] := ⟨[.string s], _, rfl, rfl, Kd.below _ ho hb1w⟩
      have hown : kKey.Own w1.heap.size 24 All (w1.alloc (.cells #[.string s, .slice Ao no co] 24)) (.slice (some ⟨w1.heap.size, 0, none⟩) 1 1) [(s, xs)] := Kd.Own.lit1 kKey 24 All w1 (s, xs) _ hone (Nat.le_refl _)
      have hsrc : kKey.slice.K (Sub All (.slice (some ⟨w1.heap.size, 0, none⟩) 1 1)) (w1.alloc (.cells #[.string s, .slice Ao no co] 24)) keys [.slice Ak nk ck] :=
        Kd.below _ (Kd.weak _ (fun b hb hlt => ⟨hb, fun e => by have := own_at e; have := hb1w.size; omega⟩) (Kd.below _ hk hb1w)) (below_alloc (Below.refl _ _) _)
      have hbb1 : (1 + keys.length) * i0.bytes ≤ 140737488355328 := by rw [hz2]; have := HL.out; omega
      have hbb2 : [((s, xs) : Key)].length + keys.length ≤ maxLen := by have := HL.out; simp [maxLen]; omega
      go_wp2_with (at_builtin; go_loud (refine wpList_append_K kKey _ _ 30 rfl (by simp [go_sem]; omega) (base := w1.heap.size) Tryz.underlying30 hi hz0 (by rw [hz1]; rfl) hz1 (by decide) (S := All) rfl hown rfl hsrc hbb1 hbb2 (by simp) ?_); intro v' w2 hown2 hg2 hw2; obtain ⟨A2, c2, rfl, hc2⟩ := hown2.shape)
      have hsl := hown2.sliceS (fun _ _ => trivial)
      refine (few_any _ All _ A2 _ c2 hsl (by have := HL.out; simp; omega)).mono ?_
      rintro e w3 ⟨b, rfl, hb3, hb4⟩
      have hb5 : Below (w.heap.size + 1) (w.alloc (.cells #[.string s, .slice Ao no co] 24)) w3 := by
        have h1 : Below (w.heap.size + 1) (w.alloc (.cells #[.string s, .slice Ao no co] 24)) w1 := by simpa using hb1
        have h2 := below_grown (h1.alloc (by omega) (.cells #[.string s, .slice Ao no co] 24)) hg2 (by simp; omega) (fun b hb => by have := own_at hb; omega)
        exact h2.trans (hb3.mono (by have := h2.size; simp at this; omega))
      by_cases hn2 : nk < 10
      · cases b
        · go_wp2_with fail
          go_meet
          exact ⟨true, by simp; omega, by simp, hb5⟩
        · go_wp2_with fail
          go_meet
          exact ⟨false, by simp; omega, fun _ => by omega, hb5⟩
      · cases b
        · go_wp2_with fail
          go_meet
          exact ⟨false, by simp; omega, fun _ => by omega, hb5⟩
        · go_wp2_with fail
          go_meet
          exact ⟨false, by simp; omega, fun _ => by omega, hb5⟩
  case rest =>
    obtain ⟨b, rfl, hb10, hb0⟩ := hcut
    cases b
    · have hn10 : nk ≤ 10 := hb10 rfl
      clear hb10
      have z0 := hb0.size
      simp at z0
      go_wp2_with fail
      refine (new_one _).mono ?_
      rintro e w1 ⟨g, m, rfl, hg, hm, gg, gm, hne, hb1⟩
      have hbg : w.heap.size + 1 ≤ g := by omega
      have old : ∀ wr, Below (w.heap.size + 1) (w.alloc (.cells #[.string s, .slice Ao no co] 24)) wr →
          wr.cell? ⟨w.heap.size, 0, none⟩ = some (.string s) ∧ wr.cell? ⟨w.heap.size, 1, none⟩ = some (.slice Ao no co) ∧ kKey.slice.K (But g) wr keys [.slice Ak nk ck] ∧ kKey.K (But g) wr (s, xs) [.string s, .slice Ao no co] := by
        intro wr hwr
        have hwr' : Below (w.alloc (.cells #[.string s, .slice Ao no co] 24)).heap.size (w.alloc (.cells #[.string s, .slice Ao no co] 24)) wr := by simpa using hwr
        have hww : Below w.heap.size w wr := (below_alloc (Below.refl _ _) _).trans (hwr.mono (by omega))
        exact ⟨cell_old_below hwr' (cell_new 0 rfl), cell_old_below hwr' (cell_new 1 rfl), Kd.below _ (Kd.weak _ (fun b _ hlt => by show b ≠ g; omega) hk) hww, ⟨[.string s], _, rfl, rfl, Kd.below _ (Kd.weak _ (fun b _ hlt => by show b ≠ g; omega) ho) hww⟩⟩
      have HOld := Lib.hid old
      clear old
      have hgate0 : GateK (w.heap.size + 1) (But g) w1 g [] := ⟨m, none, 0, 0, hg, Kd.Own.nil _ _ _ _ _, fun b hb => by simp [Value.ownBlock] at hb, fun h => h rfl⟩
      clear hm gm hne hg
      go_wp2
      go_loopw [41] (fun i wr => ∃ (k B : Nat), k ≤ nk ∧ i = .int .i64 k ∧ Below (w.heap.size + 1) (w.alloc (.cells #[.string s, .slice Ao no co] 24)) wr ∧ w.heap.size + 1 ≤ B ∧ B ≤ wr.heap.size ∧ GateK B (But g) wr g (gateOf (keys.take k))) (fun i _ => nk - (intOf i).toNat)
      case atStart => exact ⟨0, _, Nat.zero_le _, rfl, hb0.trans (hb1.mono (by omega)), Nat.le_refl _, by have := hb1.size; omega, hgate0⟩
      case round =>
        obtain ⟨k, B, hkn, rfl, hbel, hB, hBw, hgate⟩ := hrel
        have hS : ∀ b, wr.heap.size ≤ b → But g b := fun b hb => by have := hgate.lt; show b ≠ g; omega
        have HS := Lib.hid hS
        clear hS
        by_cases hlt : k < nk
        · obtain ⟨b, off, x, A3, n3, c3, hA, hx, hSb, d0, d1, hK⟩ := kKey_at (HOld.out wr hbel).2.2.1 hlt
          subst hA
          obtain ⟨s', hs'⟩ : ∃ s', s' = x.1 := ⟨_, rfl⟩
          rw [← hs'] at d0
          have HS' := Lib.hid hs'
          have HX := Lib.hid hx
          clear hs' hx
          have hel : kKey.K (But g) wr (s', x.2) [.string s', .slice A3 n3 c3] := ⟨[.string s'], _, rfl, rfl, hK⟩
          have hnew := Kd.lit1 (e := 24) rfl hel (HS.out _ (Nat.le_refl _))
          have hadd := add_any (wr.alloc (.cells #[.string s', .slice A3 n3 c3] 24)) B (But g) (fun b hb => HS.out b (by simp at hb; omega)) g (gateOf (keys.take k)) [(s', x.2)] (hgate.below (below_alloc (Below.refl _ _) _)) _ 1 1 hnew (by have := gateOf_len keys k; omega) (by omega) (gateOf_small hsm k)
            (fun q hq => by rw [List.mem_singleton.1 hq]; exact hsm x (List.mem_of_getElem? HX.out))
          go_wp2_with fail
          refine hadd.mono ?_
          rintro e w2 hp
          obtain ⟨rfl, hgrow, hor⟩ := hp.one
          go_wp2
          go_roundw
          case rel =>
            have hxs : ((s', x.2) : Key) = x := by rw [HS'.out]
            have z2 := hgrow.size
            simp at z2
            have hbel2 := below_grown (hbel.alloc (by have := hbel.size; simp at this; omega) (.cells #[.string s', .slice A3 n3 c3] 24)) hgrow (by simp; omega) (fun b hb => by injection hb with hb; omega)
            rw [hxs, ← gateOf_take_succ HX.out] at hor
            rcases hor with hor | hor
            · exact ⟨k + 1, B, by omega, by go_num, hbel2, hB, by omega, hor⟩
            · exact ⟨k + 1, _, by omega, by go_num, hbel2, by simp; omega, by simp; omega, hor⟩
          case measure => simp [intOf]; omega
        · obtain rfl : k = nk := by omega
          have htake : keys.take k = keys := List.take_of_length_le (by have := HL.out; omega)
          have hlen : (gateOf keys).length ≤ k := by have := gateOf_len keys k; rwa [htake] at this
          have hsmk : small (gateOf keys) := by have := gateOf_small hsm k; rwa [htake] at this
          rw [htake] at hgate
          obtain ⟨ks, hks⟩ : ∃ ks, ks = gateOf keys := ⟨_, rfl⟩
          rw [← hks] at hgate hlen hsmk
          clear hks htake
          go_wp2_with fail
          refine (keys_any _ B (But g) HS.out g ks hgate (by omega)).mono ?_
          rintro e w2 ⟨v, rfl, hv, hb2⟩
          have hgate2 := hgate.below hb2
          have hbel2 := hbel.trans (hb2.mono (by have := hbel.size; simp at this; omega))
          have z2 := hb2.size
          have gl := hgate.lt
          have hwas : Kd.str.slice.K (fun b => b < w2.heap.size ∧ b ≠ g) w2 (ks.map (·.1)) [v] := (own_str (T := fun b => b < w2.heap.size ∧ b ≠ g) hv).sliceS (fun b hb => by
            obtain ⟨h1, cur, h2⟩ := hv.at_base b hb
            exact ⟨(Array.getElem?_eq_some_iff.1 h2).1, by omega⟩)
          obtain ⟨A6, c6, rfl, hc6⟩ := hv.shape
          clear hv
          simp only [List.length_map] at hwas
          obtain ⟨o0, o1, _, hel⟩ := HOld.out w2 hbel2
          have hS2 : ∀ b, w2.heap.size ≤ b → But g b := fun b hb => HS.out b (by omega)
          have HS2 := Lib.hid hS2
          clear hS2
          have hnew := Kd.lit1 (e := 24) rfl hel (HS2.out _ (Nat.le_refl _))
          have hadd := add_any (w2.alloc (.cells #[.string s, .slice Ao no co] 24)) B (But g) (fun b hb => HS2.out b (by simp at hb; omega)) g ks [(s, xs)] (hgate2.below (below_alloc (Below.refl _ _) _)) _ 1 1 hnew (by omega) (by omega) hsmk
            (fun q hq => by rw [List.mem_singleton.1 hq]; show xs.length ≤ _; have := HLo.out; omega)
          by_cases hdup : (ks.any fun q => decide (q.1 = s)) = true
          · have hres : addGo ks [(s, xs)] = (9, ks) := addGo_dup hdup
            have HD := Lib.hid hdup
            clear hdup
            go_wp2_with fail
            refine hadd.mono ?_
            rintro e w3 ⟨he, -, h0, hgrow⟩
            rw [hres] at he h0
            subst he
            clear hres
            have hgate3 := h0 (fun e => absurd (show (9 : Int) = 0 from e) (by decide))
            clear h0
            have z3 := hgrow.size
            simp at z3
            have hbel3 := below_grown (hbel2.alloc (by have := hbel2.size; simp at this; omega) (.cells #[.string s, .slice Ao no co] 24)) hgrow (by simp; omega) (fun b hb => by injection hb with hb; omega)
            have hwas3 := Kd.mono _ (fun _ h _ => h) (same_grown hgrow (fun b hb => hb.2)) hwas
            obtain ⟨o0, o1, _, hel⟩ := HOld.out w3 hbel3
            have hS3 : ∀ b, w3.heap.size ≤ b → But g b := fun b hb => HS2.out b (by omega)
            have HS3 := Lib.hid hS3
            clear hS3
            have hodd : kKey.K (But g) w3 (odd, []) [.string odd, .slice none 0 0] := ⟨[.string odd], _, rfl, rfl, ⟨none, 0, rfl, Nat.le_refl _, fun _ => rfl, .inl rfl⟩⟩
            have hnew2 := Kd.lit2 (e := 24) rfl hodd hel (HS3.out _ (Nat.le_refl _))
            have hadd2 := add_any (w3.alloc (.cells #[.string odd, .slice none 0 0, .string s, .slice Ao no co] 24)) B (But g) (fun b hb => HS3.out b (by simp at hb; omega)) g ks [(odd, []), (s, xs)] (hgate3.below (below_alloc (Below.refl _ _) _)) _ 2 2 hnew2 (by omega) (by omega) hsmk
              (fun q hq => by
                rcases List.mem_cons.1 hq with rfl | hq
                · show ([] : List Int).length ≤ _; simp
                · rw [List.mem_singleton.1 hq]; show xs.length ≤ _; have := HLo.out; omega)
            have hres2 := addGo_odd ks (odd, []) (s, xs) (by omega) HD.out
            go_wp2_with fail
            refine hadd2.mono ?_
            rintro e w4 ⟨he, -, h0, hgrow4⟩
            rw [hres2] at he h0
            subst he
            clear hres2
            have hgate4 := h0 (by decide)
            clear h0
            have z4 := hgrow4.size
            simp at z4
            have hbel4 := below_grown (hbel3.alloc (by have := hbel3.size; simp at this; omega) (.cells #[.string odd, .slice none 0 0, .string s, .slice Ao no co] 24)) hgrow4 (by simp; omega) (fun b hb => by injection hb with hb; omega)
            have hwas4 := Kd.mono _ (fun _ h _ => h) (same_grown hgrow4 (fun b hb => hb.2)) hwas3
            go_wp2_with fail
            refine (keys_any _ B (But g) (fun b hb => HS3.out b (by omega)) g ks hgate4 (by omega)).mono ?_
            rintro e w5 ⟨v, rfl, hv5, hb5⟩
            have hn5 : Kd.str.slice.K All w5 (ks.map (·.1)) [v] := (own_str (T := All) hv5).sliceS (fun _ _ => trivial)
            obtain ⟨A7, c7, rfl, hc7⟩ := hv5.shape
            simp only [List.length_map] at hn5
            have hwas5 := Kd.below _ hwas4 hb5
            have z5 := hb5.size
            have hfin : ∀ w6, Below w5.heap.size w5 w6 → Below w.heap.size w w6 := fun w6 h6 => (below_alloc (Below.refl _ _) _).trans (((hbel4.trans (hb5.mono (by omega))).trans (h6.mono (by omega))).mono (by omega))
            go_wp2_with fail
            refine (same_any w5 _ _ _ _ A7 _ c7 A6 _ c6 hn5 hwas5 (by omega)).mono ?_
            rintro e w6 ⟨rfl, hb6⟩
            go_wp2
            go_ret
            exact ⟨by simp, hfin _ hb6⟩
          · have hdup' : (ks.any fun q => decide (q.1 = s)) = false := Bool.eq_false_iff.2 hdup
            clear hdup
            have hres : addGo ks [(s, xs)] = (0, ks ++ [(s, xs)]) := by
              rw [addGo_one _ _ (by omega), if_neg (by rw [hdup']; decide)]
            have HD := Lib.hid hdup'
            clear hdup'
            go_wp2_with fail
            refine hadd.mono ?_
            rintro e w3 ⟨he, h0, -, hgrow⟩
            rw [hres] at he h0
            subst he
            clear hres
            have hgate3 := h0 rfl
            clear h0
            have z3 := hgrow.size
            simp at z3
            have hbel3 := below_grown (hbel2.alloc (by have := hbel2.size; simp at this; omega) (.cells #[.string s, .slice Ao no co] 24)) hgrow (by simp; omega) (fun b hb => by injection hb with hb; omega)
            have hwas3 := Kd.mono _ (fun _ h _ => h) (same_grown hgrow (fun b hb => hb.2)) hwas
            obtain ⟨o0, o1, _, hel⟩ := HOld.out w3 hbel3
            have hS3 : ∀ b, w3.heap.size ≤ b → But g b := fun b hb => HS2.out b (by omega)
            have HS3 := Lib.hid hS3
            clear hS3
            have hnew2 := Kd.lit1 (e := 24) rfl hel (HS3.out _ (Nat.le_refl _))
            have hsm2 : small (ks ++ [((s, xs) : Key)]) := fun q hq => by
              rcases List.mem_append.1 hq with hq | hq
              · exact hsmk q hq
              · rw [List.mem_singleton.1 hq]; show xs.length ≤ _; have := HLo.out; omega
            have hadd2 := add_any (w3.alloc (.cells #[.string s, .slice Ao no co] 24)) (w2.heap.size + 1) (But g) (fun b hb => HS3.out b (by simp at hb; omega)) g (ks ++ [(s, xs)]) [(s, xs)] (by simpa using hgate3.below (below_alloc (Below.refl _ _) (.cells #[.string s, .slice Ao no co] 24))) _ 1 1 hnew2 (by simp; omega) (by omega) hsm2
              (fun q hq => by rw [List.mem_singleton.1 hq]; show xs.length ≤ _; have := HLo.out; omega)
            have hres2 := addGo_again ks ((s, xs) : Key)
            go_wp2_with fail
            refine hadd2.mono ?_
            rintro e w4 ⟨he, -, h0, hgrow4⟩
            rw [hres2] at he h0
            subst he
            clear hres2
            have hgate4 := h0 (fun e => absurd (show (9 : Int) = 0 from e) (by decide))
            clear h0
            have z4 := hgrow4.size
            simp at z4
            have hbel4 := below_grown (hbel3.alloc (by have := hbel3.size; simp at this; omega) (.cells #[.string s, .slice Ao no co] 24)) hgrow4 (by simp; omega) (fun b hb => by injection hb with hb; omega)
            have hwas4 := Kd.mono _ (fun _ h _ => h) (same_grown hgrow4 (fun b hb => hb.2)) hwas3
            go_wp2_with fail
            refine (keys_any _ (w2.heap.size + 1) (But g) (fun b hb => HS3.out b (by omega)) g (ks ++ [(s, xs)]) hgate4 (by simp; omega)).mono ?_
            rintro e w5 ⟨v, rfl, hv5, hb5⟩
            obtain ⟨A7, c7, rfl, hc7⟩ := hv5.shape
            clear hv5 hc7
            simp only [List.length_map, List.length_append, List.length_cons, List.length_nil]
            have hgate5 := hgate4.below hb5
            have z5 := hb5.size
            have hbel5 := hbel4.trans (hb5.mono (by omega))
            have hwas5 := Kd.below _ hwas4 hb5
            have hx : ∀ q ∈ ks, q.1 ≠ s := fun q hq e => by
              have := List.any_eq_false.1 HD.out q hq
              simp [e] at this
            have HX := Lib.hid hx
            clear hx
            obtain ⟨o0, o1, _, _⟩ := HOld.out w5 hbel5
            go_wp2_with fail
            refine (drop_last w5 (w2.heap.size + 1) (But g) (fun b hb => HS3.out b (by omega)) g ks (s, xs) hgate5 (by exact HX.out) (by omega) hsm2 s rfl).mono ?_
            rintro e w6 ⟨rfl, hgate6, hkept⟩
            have z6 := hkept.size
            have hbel6 := below_kept hbel5 hkept (by omega) hbg (by omega)
            have hwas6 : Kd.str.slice.K (fun b => b < w2.heap.size ∧ b ≠ g) w6 (ks.map (·.1)) _ := Kd.mono _ (fun _ h _ => h) (fun b hb hlt => hkept.block b hlt (by omega) hb.2) hwas5
            go_wp2_with fail
            refine (keys_any w6 (w2.heap.size + 1) (But g) (fun b hb => HS3.out b (by omega)) g ks hgate6 (by omega)).mono ?_
            rintro e w7 ⟨v, rfl, hv7, hb7⟩
            have hn7 : Kd.str.slice.K All w7 (ks.map (·.1)) [v] := (own_str (T := All) hv7).sliceS (fun _ _ => trivial)
            obtain ⟨A8, c8, rfl, hc8⟩ := hv7.shape
            simp only [List.length_map] at hn7
            have hwas7 := Kd.below _ hwas6 hb7
            have hgate7 := hgate6.below hb7
            have z7 := hb7.size
            have hbel7 := hbel6.trans (hb7.mono (by omega))
            go_wp2_with fail
            refine (same_any w7 _ _ _ _ A8 _ c8 A6 _ c6 hn7 hwas7 (by omega)).mono ?_
            rintro e w8 ⟨rfl, hb8⟩
            have hgate8 := hgate7.below hb8
            have z8 := hb8.size
            have hbel8 := hbel7.trans (hb8.mono (by omega))
            obtain ⟨o0, o1, _, _⟩ := HOld.out w8 hbel8
            simp only [decide_true]
            go_wp2_with fail
            refine (drop_none w8 (w2.heap.size + 1) (But g) (fun b hb => HS3.out b (by omega)) g ks hgate8 (by omega) hsmk s (by exact HX.out)).mono ?_
            rintro e w9 ⟨rfl, hb9⟩
            go_wp2
            go_ret
            exact ⟨rfl, (below_alloc (Below.refl _ _) _).trans ((hbel8.trans (hb9.mono (by omega))).mono (by omega))⟩
    · go_wp2_with (go_at_call 10; refine (awake30 _).mono ?_; rintro e w1 ⟨rfl, hb1⟩)
      go_ret
      exact ⟨rfl, ((below_alloc (Below.refl _ _) _).trans (hb0.mono (by omega))).trans (hb1.mono (by have := hb0.size; simp at this; omega))⟩
theorem trod_key : TrodK Tryz.prog 24 kKey (fun x => x.1.size ≤ reachBytes ∧ (x.2.length * Tryz.prog.bytesOf 5 ≤ reachBytes ∧ ∀ n ∈ x.2, (Lit.int .u8 n).wf = true)) :=
  trodK_pair (Tryz.underlying24) rfl rfl (by kernel_rfl) (by kernel_rfl) (by kernel_rfl) (trodK_str Tryz.underlying9) (trodK_slice Tryz.underlying22 (by kernel_rfl) (by decide) (trodK_int Tryz.underlying5))
theorem trod_keys : TrodK Tryz.prog 30 kKey.slice (fun xs => xs.length * Tryz.prog.bytesOf 24 ≤ reachBytes ∧ ∀ x ∈ xs, x.1.size ≤ reachBytes ∧ (x.2.length * Tryz.prog.bytesOf 5 ≤ reachBytes ∧ ∀ n ∈ x.2, (Lit.int .u8 n).wf = true)) :=
  trodK_slice Tryz.underlying30 (by kernel_rfl) (by decide) trod_key
theorem bytes24 : Tryz.prog.bytesOf 24 = 40 := by kernel_rfl
theorem bytes5 : Tryz.prog.bytesOf 5 = 1 := by kernel_rfl
theorem keys_open {H : Type} {enc : TypeId × Value → H} {W : World} {sp : Nat → Bool} {held : Bool} {a : Option Addr} {n c : Nat} {u0 u1 : Value} {d0 d1 : DataW H} {p0 p1 : List MemPlace}
    (h0 : DataW.Trod enc Tryz.prog W 0 sp held 30 (.slice a n c) d0 p0) (h1 : DataW.Trod enc Tryz.prog W 0 sp held 24 (.agg #[u0, u1]) d1 p1) (hz : (DataW.weightsEach Tryz.prog [30, 24] [d0, d1]).all (· ≤ reachBytes) = true) :
    ∃ (keys : List Key) (s : ByteArray) (xs : List Int) (Ao : Option Addr) (no co : Nat), u0 = .string s ∧ u1 = .slice Ao no co ∧ kKey.slice.K All W keys [.slice a n c] ∧ (Kd.slice (Kd.int .u8)).K All W xs [.slice Ao no co] ∧ no ≤ 140737488351232 ∧ small keys ∧ n ≤ 140737488351232 := by
  simp only [DataW.weightsEach, List.append_nil] at hz
  obtain ⟨hz0, hz1⟩ := all_append hz
  obtain ⟨m0, hm0⟩ := h0
  obtain ⟨keys, hk, hB⟩ := trod_keys _ _ _ _ _ _ _ _ hm0
  obtain ⟨m1, hm1⟩ := h1
  obtain ⟨⟨s, xs⟩, ⟨c1, c2, hc, rfl, hx⟩, hB1⟩ := trod_key _ _ _ _ _ _ _ _ hm1
  obtain ⟨Ao, co, rfl, _⟩ := id hx
  have hc' : [u0, u1] = [.string s, .slice Ao xs.length co] := hc
  injection hc' with e1 e2
  injection e2 with e2 _
  obtain ⟨hb1, hb2⟩ := hB hz0
  obtain ⟨_, hb3, _⟩ := hB1 hz1
  rw [bytes24] at hb1
  rw [bytes5] at hb3
  simp only [reachBytes] at hb1 hb3 hb2
  have hn := (Kd.slice_len hk).1
  refine ⟨keys, s, xs, Ao, _, co, e1, e2, hk, hx, by simp at hb3; omega, fun k hkm => ?_, by omega⟩
  have := (hb2 k hkm).2.1
  rw [bytes5] at this
  omega
end Go.Proofs.YtfhmklinieaolaaGreatDoor
