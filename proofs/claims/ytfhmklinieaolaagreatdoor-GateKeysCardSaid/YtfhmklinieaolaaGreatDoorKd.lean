/-
  How data lie in memory: kinds, slices of the own, append: no statement of the seat; no condition.
-/
import Derived.Test.YtfhmklinieaolaaGreatDoorLib
namespace Go.Proofs.YtfhmklinieaolaaGreatDoor
open Go.RowKit
/-! ## How data lie in memory -/
/-- The blocks of S that there are read in w' as in w. -/
def Same (S : Nat → Prop) (w w' : World) : Prop := ∀ b, S b → b < w.heap.size → w'.heap[b]? = w.heap[b]?
theorem Same.of_below {S : Nat → Prop} {w w' : World} (h : Below w.heap.size w w') : Same S w w' := fun b _ hb => h.block b hb
theorem Same.refl (S : Nat → Prop) (w : World) : Same S w w := fun _ _ _ => rfl
theorem Same.cell {S : Nat → Prop} {w w' : World} (h : Same S w w') {b o : Nat} {v : Value} (hS : S b) (hc : w.cell? ⟨b, o, none⟩ = some v) : w'.cell? ⟨b, o, none⟩ = some v :=
  (World.cell?_of_block (w := w) (h b hS (World.block_lt_of_cell? w ⟨b, o, none⟩ hc))).trans hc
/-- A kind: how a datum lies in cells, through blocks of S alone. -/
structure Kd (α : Type) where
  sz : Nat
  K : (Nat → Prop) → World → α → List Value → Prop
  len : ∀ {S : Nat → Prop} {w : World} {x : α} {cs : List Value}, K S w x cs → cs.length = sz
  one : ∀ {S : Nat → Prop} {w : World} {x : α} {cs : List Value}, K S w x cs → ∀ u ∈ cs, u.oneCell' = true
  mono : ∀ {S S' : Nat → Prop} {w w' : World} {x : α} {cs : List Value}, (∀ b, S b → b < w.heap.size → S' b) → Same S w w' → K S w x cs → K S' w' x cs
theorem Kd.below {α : Type} (k : Kd α) {S : Nat → Prop} {w w' : World} {x : α} {cs : List Value} (h : k.K S w x cs) (hb : Below w.heap.size w w') : k.K S w' x cs := k.mono (fun _ h _ => h) (Same.of_below hb) h
theorem Kd.weak {α : Type} (k : Kd α) {S S' : Nat → Prop} {w : World} {x : α} {cs : List Value} (hS : ∀ b, S b → b < w.heap.size → S' b) (h : k.K S w x cs) : k.K S' w x cs := k.mono hS (Same.refl _ _) h
def Kd.int (ik : IntKind) : Kd Int where
  sz := 1
  K := fun _ _ n cs => cs = [.int ik n]
  len := by rintro _ _ _ _ rfl; rfl
  one := by rintro _ _ _ _ rfl u hu; simp at hu; subst hu; rfl
  mono := fun _ _ h => h
def Kd.bool : Kd Bool where
  sz := 1
  K := fun _ _ n cs => cs = [.bool n]
  len := by rintro _ _ _ _ rfl; rfl
  one := by rintro _ _ _ _ rfl u hu; simp at hu; subst hu; rfl
  mono := fun _ _ h => h
def Kd.str : Kd ByteArray where
  sz := 1
  K := fun _ _ n cs => cs = [.string n]
  len := by rintro _ _ _ _ rfl; rfl
  one := by rintro _ _ _ _ rfl u hu; simp at hu; subst hu; rfl
  mono := fun _ _ h => h
/-- The elements xs lie behind A. -/
def Kd.At {α : Type} (k : Kd α) (S : Nat → Prop) (w : World) (A : Option Addr) (xs : List α) : Prop :=
  xs = [] ∨ ∃ b off, A = some ⟨b, off, none⟩ ∧ S b ∧ b < w.heap.size ∧ ∀ i x, xs[i]? = some x → ∃ cs, k.K S w x cs ∧ ∀ j u, cs[j]? = some u → w.cell? ⟨b, off + (i * k.sz + j), none⟩ = some u
theorem Kd.At.mono {α : Type} {k : Kd α} {S S' : Nat → Prop} {w w' : World} {A : Option Addr} {xs : List α} (hS : ∀ b, S b → b < w.heap.size → S' b) (hw : Same S w w') (h : k.At S w A xs) : k.At S' w' A xs := by
  rcases h with h | ⟨b, off, hA, hb, hlt, h⟩
  · exact .inl h
  · refine .inr ⟨b, off, hA, hS b hb hlt, ?_, fun i x hi => ?_⟩
    · have := hw b hb hlt
      rw [Array.getElem?_eq_getElem hlt] at this
      exact (Array.getElem?_eq_some_iff.1 this).1
    · obtain ⟨cs, hk, hc⟩ := h i x hi
      exact ⟨cs, k.mono hS hw hk, fun j u hj => hw.cell hb (hc j u hj)⟩
def Kd.slice {α : Type} (k : Kd α) : Kd (List α) where
  sz := 1
  K := fun S w xs cs => ∃ A c, cs = [.slice A xs.length c] ∧ xs.length ≤ c ∧ (A = none → c = 0) ∧ k.At S w A xs
  len := by rintro _ _ _ _ ⟨A, c, rfl, _⟩; rfl
  one := by rintro _ _ _ _ ⟨A, c, rfl, _⟩ u hu; simp at hu; subst hu; rfl
  mono := by
    rintro S S' w w' x cs hS hw ⟨A, c, rfl, hl, hn, h⟩
    exact ⟨A, c, rfl, hl, hn, h.mono hS hw⟩
def Kd.pair {α β : Type} (k : Kd α) (l : Kd β) : Kd (α × β) where
  sz := k.sz + l.sz
  K := fun S w x cs => ∃ c1 c2, cs = c1 ++ c2 ∧ k.K S w x.1 c1 ∧ l.K S w x.2 c2
  len := by
    rintro _ _ _ _ ⟨c1, c2, rfl, h1, h2⟩
    simp [k.len h1, l.len h2]
  one := by
    rintro _ _ _ _ ⟨c1, c2, rfl, h1, h2⟩ u hu
    rcases List.mem_append.1 hu with hu | hu
    · exact k.one h1 u hu
    · exact l.one h2 u hu
  mono := by
    rintro S S' w w' x cs hS hw ⟨c1, c2, rfl, h1, h2⟩
    exact ⟨c1, c2, rfl, k.mono hS hw h1, l.mono hS hw h2⟩
def Kd.iso {α β : Type} (k : Kd α) (f : β → α) : Kd β where
  sz := k.sz
  K := fun S w x cs => k.K S w (f x) cs
  len := fun h => k.len h
  one := fun h => k.one h
  mono := fun hS hw h => k.mono hS hw h
/-- A cell that holds whatever one cell may hold. -/
def Kd.any : Kd Value where
  sz := 1
  K := fun _ _ v cs => cs = [v] ∧ v.oneCell' = true
  len := by rintro _ _ _ _ ⟨rfl, _⟩; rfl
  one := by rintro _ _ _ _ ⟨rfl, h⟩ u hu; simp at hu; subst hu; exact h
  mono := fun _ _ h => h
/-- A slice value's shape. -/
theorem Kd.slice_shape {α : Type} {k : Kd α} {S : Nat → Prop} {w : World} {xs : List α} {cs : List Value} (h : k.slice.K S w xs cs) : ∃ A c, cs = [.slice A xs.length c] ∧ xs.length ≤ c ∧ (A = none → c = 0) := by
  obtain ⟨A, c, h1, h2, h3, _⟩ := h
  exact ⟨A, c, h1, h2, h3⟩
/-- An element of a slice that is read. -/
theorem Kd.slice_get {α : Type} {k : Kd α} {S : Nat → Prop} {w : World} {xs : List α} {A : Option Addr} {n c : Nat} (h : k.slice.K S w xs [.slice A n c]) {i : Nat} {x : α} (hi : xs[i]? = some x) :
    ∃ b off cs, A = some ⟨b, off, none⟩ ∧ S b ∧ k.K S w x cs ∧ ∀ j u, cs[j]? = some u → w.cell? ⟨b, off + (i * k.sz + j), none⟩ = some u := by
  obtain ⟨A', c', he, hl, _, hat⟩ := h
  injection he with he _
  injection he with h1 h2 h3
  subst h1
  rcases hat with rfl | ⟨b, off, hA, hb, hlt, hat⟩
  · simp at hi
  · obtain ⟨cs, hk, hc⟩ := hat i x hi
    exact ⟨b, off, cs, hA, hb, hk, hc⟩
/-- S without the block that v owns. -/
def Sub (S : Nat → Prop) (v : Value) : Nat → Prop := fun b => S b ∧ v.ownBlock ≠ some b
/-- A slice of the call's own: its elements' cells, one behind the other; what they lead to lies elsewhere. -/
def Kd.Own {α : Type} (k : Kd α) (base : Nat) (e : TypeId) (S : Nat → Prop) (w : World) (v : Value) (xs : List α) : Prop :=
  ∃ css : List (List Value), css.length = xs.length ∧ (∀ (i : Nat) (x : α) (cs : List Value), xs[i]? = some x → css[i]? = some cs → k.K (Sub S v) w x cs) ∧ w.ownsRow base e k.sz v xs.length css.flatten
theorem flatten_len {β : Type} {n : Nat} : ∀ (css : List (List β)), (∀ c ∈ css, c.length = n) → css.flatten.length = css.length * n
  | [], _ => by simp
  | c :: css, h => by
    simp only [List.flatten_cons, List.length_append, List.length_cons, flatten_len css (fun c hc => h c (List.mem_cons_of_mem _ hc)), h c (List.mem_cons_self ..), Nat.add_mul, Nat.one_mul]
    omega
theorem flatten_get {β : Type} {n : Nat} : ∀ (css : List (List β)) (i j : Nat) (c : List β) (u : β), (∀ c ∈ css, c.length = n) → css[i]? = some c → c[j]? = some u → css.flatten[i * n + j]? = some u
  | [], i, j, c, u, _, hi, _ => by simp at hi
  | c0 :: css, 0, j, c, u, h, hi, hj => by
    simp at hi
    subst hi
    have := (List.getElem?_eq_some_iff.1 hj).1
    rw [Nat.zero_mul, Nat.zero_add, List.flatten_cons, List.getElem?_append_left this, hj]
  | c0 :: css, i + 1, j, c, u, h, hi, hj => by
    have hl : c0.length = n := h c0 (List.mem_cons_self ..)
    have ih := flatten_get css i j c u (fun c hc => h c (List.mem_cons_of_mem _ hc)) (by simpa using hi) hj
    rw [List.flatten_cons, List.getElem?_append_right (by rw [hl, Nat.add_mul]; omega)]
    rw [hl, show (i + 1) * n + j - n = i * n + j from by rw [Nat.add_mul]; omega]
    exact ih
theorem Kd.Own.nil {α : Type} (k : Kd α) (base : Nat) (e : TypeId) (S : Nat → Prop) (w : World) : k.Own base e S w (.slice none 0 0) [] :=
  ⟨[], rfl, fun i x cs h => by simp at h, by simp, .inl ⟨rfl, rfl⟩⟩
theorem Kd.Own.lens {α : Type} {k : Kd α} {S : Nat → Prop} {w : World} {xs : List α} {css : List (List Value)} (hl : css.length = xs.length) (h : ∀ (i : Nat) (x : α) (cs : List Value), xs[i]? = some x → css[i]? = some cs → k.K S w x cs) : ∀ c ∈ css, c.length = k.sz := by
  intro c hc
  obtain ⟨i, hi, rfl⟩ := List.getElem_of_mem hc
  exact k.len (h i _ _ (List.getElem?_eq_getElem (by omega)) (List.getElem?_eq_getElem hi))
/-- What is owned is read. -/
theorem Kd.Own.slice {α : Type} {k : Kd α} {base : Nat} {e : TypeId} {S : Nat → Prop} {w : World} {v : Value} {xs : List α} (h : k.Own base e S w v xs) (hS : ∀ b, base ≤ b → S b) : k.slice.K S w xs [v] := by
  obtain ⟨css, hl, hk, hx, h⟩ := h
  rcases h with ⟨rfl, h0⟩ | ⟨g, cap, cur, rfl, hb, hh, hn, hm, hc, ht⟩
  · have : xs = [] := List.eq_nil_of_length_eq_zero h0
    subst this
    exact ⟨none, 0, rfl, Nat.le_refl _, fun _ => rfl, .inl rfl⟩
  · refine ⟨_, cap, rfl, hn, nofun, .inr ⟨g, 0, rfl, hS g hb, (Array.getElem?_eq_some_iff.1 hh).1, fun i x hi => ?_⟩⟩
    have hil : i < css.length := by rw [hl]; exact (List.getElem?_eq_some_iff.1 hi).1
    refine ⟨css[i], k.weak (fun b hb _ => hb.1) (hk i x _ hi (List.getElem?_eq_getElem hil)), fun j u hj => ?_⟩
    have hg := flatten_get css i j _ u (Kd.Own.lens hl hk) (List.getElem?_eq_getElem hil) hj
    have hlt := (List.getElem?_eq_some_iff.1 hg).1
    rw [hx] at hlt
    rw [← ht, List.getElem?_take, if_pos hlt] at hg
    simp only [World.cell?, hh, Nat.zero_add]
    simpa using hg
theorem Kd.Own.shape {α : Type} {k : Kd α} {base : Nat} {e : TypeId} {S : Nat → Prop} {w : World} {v : Value} {xs : List α} (h : k.Own base e S w v xs) : ∃ A c, v = .slice A xs.length c ∧ xs.length ≤ c := by
  obtain ⟨css, hl, hk, hx, h⟩ := h
  rcases h with ⟨rfl, h0⟩ | ⟨g, cap, cur, rfl, hb, hh, hn, hm, hc, ht⟩
  · exact ⟨none, 0, by rw [h0], by omega⟩
  · exact ⟨_, cap, rfl, hn⟩
theorem Kd.Own.below {α : Type} {k : Kd α} {base : Nat} {e : TypeId} {S : Nat → Prop} {w w' : World} {v : Value} {xs : List α} (h : k.Own base e S w v xs) (hb : Below w.heap.size w w') : k.Own base e S w' v xs := by
  obtain ⟨css, hl, hk, ho⟩ := h
  exact ⟨css, hl, fun i x cs hi hc => k.below (hk i x cs hi hc) hb, ho.kept (row := none) ⟨hb.os, hb.tape, hb.output, hb.size, fun i hi _ => hb.block i hi⟩ (by cases v.ownBlock <;> simp)⟩
/-- What is written is no block of this one, and none of S. -/
theorem Kd.Own.same {α : Type} {k : Kd α} {base : Nat} {e : TypeId} {S : Nat → Prop} {w w' : World} {v : Value} {xs : List α} (h : k.Own base e S w v xs) (hs : Same (fun b => S b ∨ v.ownBlock = some b) w w') : k.Own base e S w' v xs := by
  obtain ⟨css, hl, hk, hx, h⟩ := h
  refine ⟨css, hl, fun i x cs hi hc => k.mono (fun _ h _ => h) (fun b hb hlt => hs b (.inl hb.1) hlt) (hk i x cs hi hc), hx, ?_⟩
  rcases h with h | ⟨g, cap, cur, rfl, hb, hh, r⟩
  · exact .inl h
  · exact .inr ⟨g, cap, cur, rfl, hb, (hs g (.inr rfl) (Array.getElem?_eq_some_iff.1 hh).1).trans hh, r⟩
theorem Kd.slice_len {α : Type} {k : Kd α} {S : Nat → Prop} {w : World} {xs : List α} {A : Option Addr} {n c : Nat} (h : k.slice.K S w xs [.slice A n c]) : n = xs.length ∧ n ≤ c ∧ (A = none → n = 0 ∧ c = 0) := by
  obtain ⟨A', c', he, hl, hn, _⟩ := h
  injection he with he _
  injection he with h1 h2 h3
  subst h1 h2 h3
  exact ⟨rfl, hl, fun e => by have := hn e; omega⟩
theorem Kd.slice_val {α : Type} {k : Kd α} {S : Nat → Prop} {w : World} {xs : List α} {v : Value} (h : k.slice.K S w xs [v]) : ∃ A n c, v = .slice A n c := by
  obtain ⟨A', c', he, _⟩ := h
  injection he with he _
  exact ⟨_, _, _, he⟩
/-- An empty slice that was made by 'S{}' owns nothing. -/
theorem Kd.Own.lit0 {α : Type} (k : Kd α) {base : Nat} (e : TypeId) (S : Nat → Prop) (w : World) (hb : base ≤ w.heap.size) : k.Own base e S (w.alloc (.cells #[] e)) (.slice (some ⟨w.heap.size, 0, none⟩) 0 0) [] :=
  ⟨[], rfl, fun i x cs h => by simp at h, by simp, .inr ⟨w.heap.size, 0, #[], rfl, hb, heap_new rfl, Nat.le_refl _, by simp [maxLen], by simp, by simp⟩⟩
theorem Kd.slice_hid {α : Type} {k : Kd α} {S : Nat → Prop} {w : World} {xs : List α} {A : Option Addr} {n c : Nat} (h : k.slice.K S w xs [.slice A n c]) : Hid (n = xs.length) ∧ n ≤ c ∧ Hid (A = none → n = 0 ∧ c = 0) := by
  obtain ⟨h1, h2, h3⟩ := Kd.slice_len h
  exact ⟨h1, h2, h3⟩
theorem Kd.drew {α : Type} (k : Kd α) {S : Nat → Prop} {w : World} {x : α} {cs : List Value} (h : k.K S w x cs) : k.K S w.drew x cs := k.mono (w := w) (fun _ h _ => h) (fun _ _ _ => rfl) h
theorem Kd.Own.drew {α : Type} {k : Kd α} {base : Nat} {e : TypeId} {S : Nat → Prop} {w : World} {v : Value} {xs : List α} (h : k.Own base e S w v xs) : k.Own base e S w.drew v xs := h.same (fun _ _ _ => rfl)
/-- A literal of one element lies in a block of its own. -/
theorem Kd.lit1 {α : Type} {k : Kd α} {S : Nat → Prop} {w : World} {x : α} {cs : List Value} {e : TypeId} {g : Nat} (hg : g = w.heap.size) (h : k.K S w x cs) (hS : S g) : k.slice.K S (w.alloc (.cells cs.toArray e)) [x] [.slice (some ⟨g, 0, none⟩) 1 1] := by
  subst hg
  refine ⟨_, 1, rfl, Nat.le_refl _, nofun, .inr ⟨w.heap.size, 0, rfl, hS, by simp, fun i y hi => ?_⟩⟩
  have h0 : i = 0 := by
    have := (List.getElem?_eq_some_iff.1 hi).1
    simp at this
    exact this
  subst h0
  obtain rfl : x = y := by simpa using hi
  refine ⟨cs, k.mono (fun _ h _ => h) (Same.of_below (below_alloc (Below.refl _ _) _)) h, fun j u hj => ?_⟩
  have := cell_new (w := w) (c := cs.toArray) (t := e) (fr := (0, 0)) j (v := u) (by simpa using hj)
  simpa using this
theorem Kd.Own.sliceS {α : Type} {k : Kd α} {base : Nat} {e : TypeId} {S : Nat → Prop} {w : World} {v : Value} {xs : List α} (h : k.Own base e S w v xs) (hS : ∀ b, v.ownBlock = some b → S b) : k.slice.K S w xs [v] := by
  obtain ⟨css, hl, hk, hx, ho⟩ := h
  rcases ho with ⟨rfl, h0⟩ | ⟨g, cap, cur, rfl, hb, hh, hn, hm, hc, ht⟩
  · have : xs = [] := List.eq_nil_of_length_eq_zero h0
    subst this
    exact ⟨none, 0, rfl, Nat.le_refl _, fun _ => rfl, .inl rfl⟩
  · refine ⟨_, cap, rfl, hn, nofun, .inr ⟨g, 0, rfl, hS g rfl, (Array.getElem?_eq_some_iff.1 hh).1, fun i x hi => ?_⟩⟩
    have hil : i < css.length := by rw [hl]; exact (List.getElem?_eq_some_iff.1 hi).1
    refine ⟨css[i], k.weak (fun b hb _ => hb.1) (hk i x _ hi (List.getElem?_eq_getElem hil)), fun j u hj => ?_⟩
    have hg := flatten_get css i j _ u (Kd.Own.lens hl hk) (List.getElem?_eq_getElem hil) hj
    have hlt := (List.getElem?_eq_some_iff.1 hg).1
    rw [hx] at hlt
    rw [← ht, List.getElem?_take, if_pos hlt] at hg
    simp only [World.cell?, hh, Nat.zero_add]
    simpa using hg
theorem Kd.Own.len {α : Type} {k : Kd α} {base : Nat} {e : TypeId} {S : Nat → Prop} {w : World} {A : Option Addr} {n c : Nat} {xs : List α} (h : k.Own base e S w (.slice A n c) xs) : Hid (n = xs.length) := by
  obtain ⟨A', c', he, _⟩ := h.shape
  injection he
/-- Less is asked of base, and S may be another one that has what is led to. -/
theorem Kd.Own.to {α : Type} {k : Kd α} {base base' : Nat} {e : TypeId} {S S' : Nat → Prop} {w : World} {v : Value} {xs : List α} (h : k.Own base e S w v xs) (hb : base' ≤ base) (hS : ∀ b, S b → b < w.heap.size → S' b) : k.Own base' e S' w v xs := by
  obtain ⟨css, hl, hk, hx, ho⟩ := h
  refine ⟨css, hl, fun i x cs hi hc => k.weak (fun b hb hlt => ⟨hS b hb.1 hlt, hb.2⟩) (hk i x cs hi hc), hx, ?_⟩
  rcases ho with h | ⟨g, cap, cur, rfl, hb', r⟩
  · exact .inl h
  · exact .inr ⟨g, cap, cur, rfl, Nat.le_trans hb hb', r⟩
theorem Kd.Own.at_base {α : Type} {k : Kd α} {base : Nat} {e : TypeId} {S : Nat → Prop} {w : World} {v : Value} {xs : List α} (h : k.Own base e S w v xs) : ∀ b, v.ownBlock = some b → base ≤ b ∧ ∃ cur, w.heap[b]? = some (.cells cur e (0, 0)) := by
  obtain ⟨css, hl, hk, hx, ho⟩ := h
  intro b hb
  rcases ho with ⟨rfl, h⟩ | ⟨g, cap, cur, rfl, hb', hh, r⟩
  · cases hb
  · obtain rfl := own_at hb
    exact ⟨hb', cur, hh⟩
section
variable {P : Program}
/-- append onto a row of the call's own, whatever is appended: where the row lies behind it. -/
theorem run_append_where {w : World} (base : Nat) {t ty e : TypeId} {i : TypeInfo} {z : Value} (ht : P.underlying t = some (.slice e)) (hi : P.info? e = some i) (hz : i.zero = some z) (hzs : z.cells.size = i.size) (hsz : 0 < i.size)
    {v : Value} {n : Nat} {xs : List Value} (hown : w.ownsRow base e i.size v n xs) {ax : Option Addr} {m c : Nat} {news : List Value} (hl : news.length = m * i.size)
    (hnews : m = 0 ∧ ((ax = none ∧ c = 0) ∨ ax ≠ none) ∨ ∃ ad, ax = some ad ∧ ∀ j u, news[j]? = some u → w.cell? (ad.add j) = some u) (h1 : ∀ u ∈ news, u.oneCell' = true)
    (hbytes : (n + m) * i.bytes ≤ 140737488355328) (h63 : n + m ≤ maxLen) (hbase : base ≤ w.heap.size) :
    ∃ v' w', (Builtin.append_ #[t, t] ty #[v, .slice ax m c]).run P w = .ok v' w' ∧ w'.ownsRow base e i.size v' (n + m) (xs ++ news) ∧ w.grownBy w' v.ownBlock ∧ (v'.ownBlock = v.ownBlock ∨ ∃ g, v'.ownBlock = some g ∧ w.heap.size ≤ g) := by
  by_cases hn0 : ax = none ∧ m = 0 ∧ c = 0
  · obtain ⟨rfl, rfl, rfl⟩ := hn0
    have hnil : news = [] := List.eq_nil_of_length_eq_zero (by simpa using hl)
    subst hnil
    exact ⟨v, w, run_append_owned_none (P := P) (w := w) base t ty e i i.size ht hi v n xs hown, by simpa using hown, ⟨rfl, rfl, rfl, Nat.le_refl _, fun _ _ _ => rfl⟩, .inl rfl⟩
  · obtain ⟨ad, rfl, hcells⟩ : ∃ ad, ax = some ad ∧ ∀ j u, news[j]? = some u → w.cell? (ad.add j) = some u := by
      rcases hnews with ⟨rfl, h⟩ | h
      · rcases h with ⟨rfl, rfl⟩ | h
        · exact absurd ⟨rfl, rfl, rfl⟩ hn0
        · obtain ⟨ad, rfl⟩ := Option.ne_none_iff_exists'.1 h
          have hnil : news = [] := List.eq_nil_of_length_eq_zero (by simpa using hl)
          subst hnil
          exact ⟨ad, rfl, fun j u hj => by simp at hj⟩
      · exact h
    obtain ⟨v', w', hr, ho, hg, _⟩ := run_append_own (P := P) w base t ty e i z i.size i.bytes ht hi hz rfl rfl hzs hsz v n xs hown ad m c news hl hcells h1 h63 hbytes hbase
    refine ⟨v', w', hr, ho, hg, ?_⟩
    have hsame : (v = .slice none 0 0 ∧ n = 0) ∨ ∃ g cap cur, v = .slice (some ⟨g, 0, none⟩) n cap ∧ w.heap[g]? = some (.cells cur e (0, 0)) ∧ cur.size = cap * i.size ∧ xs.length = n * i.size := by
      rcases hown.2 with h | ⟨g, cap, cur, h1, _, h3, _, _, h6, _⟩
      · exact .inl h
      · exact .inr ⟨g, cap, cur, h1, h3, h6, hown.1⟩
    rcases hsame with ⟨rfl, rfl⟩ | ⟨g, cap, cur, rfl, hrow, hcur, hxl⟩
    · by_cases hm : m = 0
      · subst hm
        have hnil : news = [] := List.eq_nil_of_length_eq_zero (by simpa using hl)
        subst hnil
        have hs : (Builtin.append_ #[t, t] ty #[.slice none 0 0, .slice (some ad) 0 c]).run P w = .ok (.slice none 0 0) w := by
          simp [Builtin.append_, run_underlying ht, sizeOf, typeInfo, hi, Builtin.lenOf, Builtin.firstCells, loadCells, loadCellsFrom]
        rw [hr] at hs
        injection hs with h _
        exact .inl (by rw [h])
      · have hs := run_append_nil (P := P) w t ty e i z ht hi hz ad m c news hl hcells (by omega) (by simp only [maxLen] at h63; omega) (by have := hbytes; simp only [Nat.zero_add] at this; omega)
        rw [hr] at hs
        injection hs with h _
        exact .inr ⟨_, by rw [h]; rfl, Nat.le_refl _⟩
    · by_cases hroom : n + m ≤ cap
      · have hs := run_append_room (P := P) w t ty e i ht hi g n cap cur hrow ad m c news hl hcells h1 hroom (by rw [hl, hcur, ← Nat.add_mul]; exact Nat.mul_le_mul_right _ hroom)
        rw [hr] at hs
        injection hs with h _
        exact .inl (by rw [h]; rfl)
      · have hs := run_append_grow (P := P) w t ty e i z ht hi hz ⟨g, 0, none⟩ n cap xs hxl (hown.cells (g := g) rfl) ad m c news hl hcells (by omega) (by simp only [maxLen] at h63; omega) (growslice_fits (by omega) hbytes)
        rw [hr] at hs
        injection hs with h _
        exact .inr ⟨_, by rw [h]; rfl, Nat.le_refl _⟩
/-- append: what is owned behind it. -/
theorem Kd.Own.append {α : Type} {k : Kd α} {w : World} {base : Nat} {t ty e : TypeId} {i : TypeInfo} {z : Value} (ht : P.underlying t = some (.slice e)) (hi : P.info? e = some i) (hz : i.zero = some z) (hzs : z.cells.size = i.size) (hsk : i.size = k.sz) (hsz : 0 < k.sz)
    {S : Nat → Prop} {v : Value} {xs : List α} (hown : k.Own base e S w v xs) {ax : Option Addr} {m c : Nat} {ys : List α} (hsrc : k.slice.K (Sub S v) w ys [.slice ax m c])
    (hbytes : (xs.length + ys.length) * i.bytes ≤ 140737488355328) (h63 : xs.length + ys.length ≤ maxLen) (hbase : base ≤ w.heap.size) :
    ∃ v' w', (Builtin.append_ #[t, t] ty #[v, .slice ax m c]).run P w = .ok v' w' ∧ k.Own base e S w' v' (xs ++ ys) ∧ w.grownBy w' v.ownBlock ∧ (v'.ownBlock = v.ownBlock ∨ ∃ g, v'.ownBlock = some g ∧ w.heap.size ≤ g) := by
  obtain ⟨css, hl, hk, ho⟩ := hown
  obtain ⟨A, c', he, hc, hnil, hat⟩ := hsrc
  injection he with he _
  injection he with e1 e2 e3
  subst e1 e2 e3
  obtain ⟨dss, hdl, hdk, hdc⟩ : ∃ dss : List (List Value), dss.length = ys.length ∧ (∀ (i : Nat) (x : α) (cs : List Value), ys[i]? = some x → dss[i]? = some cs → k.K (Sub S v) w x cs) ∧ (ys = [] ∨ ∃ ad, ax = some ad ∧ ∀ j u, dss.flatten[j]? = some u → w.cell? (ad.add j) = some u) := by
    rcases hat with rfl | ⟨b, off, rfl, hb, hlt, hat⟩
    · exact ⟨[], rfl, fun i x cs h => by simp at h, .inl rfl⟩
    · have hch : ∀ i : Fin ys.length, ∃ cs, k.K (Sub S v) w ys[i] cs ∧ ∀ j u, cs[j]? = some u → w.cell? ⟨b, off + (i * k.sz + j), none⟩ = some u := fun i => hat i _ (by simp)
      have hf : ∃ f : Fin ys.length → List Value, ∀ i, k.K (Sub S v) w ys[i] (f i) ∧ ∀ j u, (f i)[j]? = some u → w.cell? ⟨b, off + (i * k.sz + j), none⟩ = some u := ⟨fun i => (hch i).choose, fun i => (hch i).choose_spec⟩
      obtain ⟨f, hf⟩ := hf
      have hlen : ∀ c ∈ List.ofFn f, c.length = k.sz := by
        intro c hc
        obtain ⟨i, rfl⟩ := (List.mem_ofFn ..).1 hc
        exact k.len (hf i).1
      refine ⟨List.ofFn f, by simp, ?_, .inr ⟨_, rfl, ?_⟩⟩
      · intro i x cs hi hcs
        have hil := (List.getElem?_eq_some_iff.1 hi).1
        simp [hil] at hcs
        subst hcs
        have := (hf ⟨i, hil⟩).1
        have hx : ys[i] = x := (List.getElem?_eq_some_iff.1 hi).2
        simpa [hx] using this
      · intro j u hj
        have hlt2 := (List.getElem?_eq_some_iff.1 hj).1
        rw [flatten_len _ hlen, List.length_ofFn] at hlt2
        have hdiv : j / k.sz < ys.length := (Nat.div_lt_iff_lt_mul hsz).2 hlt2
        have hmod : j % k.sz < (f ⟨j / k.sz, hdiv⟩).length := by rw [k.len (hf _).1]; exact Nat.mod_lt _ hsz
        have hg := flatten_get (List.ofFn f) (j / k.sz) (j % k.sz) (f ⟨j / k.sz, hdiv⟩) _ hlen (by simp [hdiv]) (List.getElem?_eq_getElem hmod)
        have hj2 : j / k.sz * k.sz + j % k.sz = j := by rw [Nat.mul_comm]; exact Nat.div_add_mod j k.sz
        rw [hj2, hj] at hg
        have := (hf ⟨j / k.sz, hdiv⟩).2 (j % k.sz) u (by rw [List.getElem?_eq_getElem hmod, ← hg])
        simp only [hj2] at this
        simpa [Addr.add_lit] using this
  have hdlen : dss.flatten.length = ys.length * i.size := by rw [flatten_len _ (Kd.Own.lens hdl hdk), hdl, hsk]
  rw [← hsk] at ho
  obtain ⟨v', w', hr, ho', hg, hw⟩ := run_append_where (P := P) (ty := ty) base ht hi hz hzs (by omega) ho (ax := ax) (m := ys.length) (c := c) hdlen (by
    rcases hdc with h0 | h
    · refine .inl ⟨by simp [h0], ?_⟩
      by_cases hax : ax = none
      · exact .inl ⟨hax, hnil hax⟩
      · exact .inr hax
    · exact .inr h) (by
    intro u hu
    obtain ⟨cs, hcs, hu⟩ := List.mem_flatten.1 hu
    obtain ⟨j, hj, rfl⟩ := List.getElem_of_mem hcs
    exact k.one (hdk j _ _ (List.getElem?_eq_getElem (by omega)) (List.getElem?_eq_getElem hj)) u hu) hbytes h63 hbase
  have hsame : Same (Sub S v) w w' := fun b hb hlt => hg.block b hlt (fun e => hb.2 e.symm)
  have hsub : ∀ b, Sub S v b → b < w.heap.size → Sub S v' b := fun b hb hlt => ⟨hb.1, fun e => by
    rcases hw with h | ⟨g, h, hge⟩
    · exact hb.2 (h ▸ e)
    · rw [h] at e
      injection e with e
      omega⟩
  refine ⟨v', w', hr, ⟨css ++ dss, by simp [hl, hdl], ?_, by simpa [hsk] using ho'⟩, hg, hw⟩
  intro j x cs hj hcs
  by_cases hjl : j < xs.length
  · rw [List.getElem?_append_left hjl] at hj
    rw [List.getElem?_append_left (by omega)] at hcs
    exact k.mono hsub hsame (hk j x cs hj hcs)
  · rw [List.getElem?_append_right (by omega)] at hj
    rw [List.getElem?_append_right (by omega), hl] at hcs
    exact k.mono hsub hsame (hdk _ x cs hj hcs)
variable {ops : Array Oper} {Q : Exit → Act → World → Prop} {a : Act} {w : World} {rest : List Oper} {o : Oper}
/-- append at the operation: the destination is the call's own. -/
theorem wpList_append_K {α : Type} (k : Kd α) (s x : Operand) (t : TypeId) (ho : o.op = .call { callee := .builtin .append, args := #[s, x], argTypes := #[t, t] }) (hw : Region.wanted o (yielded ops a.tmps) = true)
    {base : Nat} {e : TypeId} {i : TypeInfo} {z : Value} (ht : P.underlying t = some (.slice e)) (hi : P.info? e = some i) (hz : i.zero = some z) (hzs : z.cells.size = i.size) (hsk : i.size = k.sz) (hsz : 0 < k.sz)
    {S : Nat → Prop} {v : Value} {xs : List α} (hs : a.eval s = v) (hown : k.Own base e S w v xs) {ax : Option Addr} {m c : Nat} {ys : List α} (hx : a.eval x = .slice ax m c) (hsrc : k.slice.K (Sub S v) w ys [.slice ax m c])
    (hbytes : (xs.length + ys.length) * i.bytes ≤ 140737488355328) (h63 : xs.length + ys.length ≤ maxLen) (hbase : base ≤ w.heap.size)
    (next : ∀ v' w', k.Own base e S w' v' (xs ++ ys) → w.grownBy w' v.ownBlock → (v'.ownBlock = v.ownBlock ∨ ∃ g, v'.ownBlock = some g ∧ w.heap.size ≤ g) → wpList P ops Q rest (a.put o.dst v') w') : wpList P ops Q (o :: rest) a w := by
  refine wpList_step fun K' hK' => ?_
  rw [if_pos hw]
  obtain ⟨v', w', hr, h1, h2, h3⟩ := Kd.Own.append (P := P) (ty := o.type) ht hi hz hzs hsk hsz hown hsrc hbytes h63 hbase
  unfold Oper.wp execOp
  simp only [ho, resolve, invoke, builtin, Sem.run_bind, Sem.run_pure, Result.andThen_ok, List.map_toArray, List.map_cons, List.map_nil, hs, hx, hr]
  exact hK' _ _ (next v' w' h1 h2 h3)
/-- The same at a step of a region that draws. -/
theorem step_append_K {K' : Act → World → Prop} {E : Prop} {α : Type} (k : Kd α) (s x : Operand) (t : TypeId) (ho : o.op = .call { callee := .builtin .append, args := #[s, x], argTypes := #[t, t] }) (hgd : o.guard = none)
    {base : Nat} {e : TypeId} {i : TypeInfo} {z : Value} (ht : P.underlying t = some (.slice e)) (hi : P.info? e = some i) (hz : i.zero = some z) (hzs : z.cells.size = i.size) (hsk : i.size = k.sz) (hsz : 0 < k.sz)
    {S : Nat → Prop} {v : Value} {xs : List α} (hs : a.eval s = v) (hown : k.Own base e S w v xs) {ax : Option Addr} {m c : Nat} {ys : List α} (hx : a.eval x = .slice ax m c) (hsrc : k.slice.K (Sub S v) w ys [.slice ax m c])
    (hbytes : (xs.length + ys.length) * i.bytes ≤ 140737488355328) (h63 : xs.length + ys.length ≤ maxLen) (hbase : base ≤ w.heap.size)
    (next : ∀ v' w', k.Own base e S w' v' (xs ++ ys) → w.grownBy w' v.ownBlock → (v'.ownBlock = v.ownBlock ∨ ∃ g, v'.ownBlock = some g ∧ w.heap.size ≤ g) → K' (a.put o.dst v') w') :
    if Region.wanted o (yielded ops a.tmps) = true then Oper.wp P o a w K' Q else E := by
  have hw : Region.wanted o (yielded ops a.tmps) = true := by simp [Region.wanted, hgd]
  rw [if_pos hw]
  obtain ⟨v', w', hr, h1, h2, h3⟩ := Kd.Own.append (P := P) (ty := o.type) ht hi hz hzs hsk hsz hown hsrc hbytes h63 hbase
  unfold Oper.wp execOp
  simp only [ho, resolve, invoke, builtin, Sem.run_bind, Sem.run_pure, Result.andThen_ok, List.map_toArray, List.map_cons, List.map_nil, hs, hx, hr]
  exact next v' w' h1 h2 h3
end
end Go.Proofs.YtfhmklinieaolaaGreatDoor
