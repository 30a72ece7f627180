/-
  Small lemmas on worlds, blocks and maps: no statement of the seat; no condition.
-/
import Derived.Test.YtfhmklinieaolaaGreatDoorProg
import Derived.WalkKit
import Derived.WalkSpells
import Derived.WalkLawsBesides
import Derived.BigQuiet
import Derived.Deep.QuietTactic
import Derived.Deep.RegionWith
import Derived.Deep.RegionHeld3
import Derived.MapKept
import Derived.WideLaws
import Derived.Laws.OwnMore
import Derived.Lib.Hide
import Derived.Lib.SlBytesConst
import Derived.Lib.SmallJoins
namespace Go.Proofs.YtfhmklinieaolaaGreatDoor
open Go.RowKit
/-- Only block r has turned (it holds the object o now); nothing new was made. -/
structure Turned (r : Nat) (o : Obj) (w w' : World) : Prop where
  os : w'.os = w.os
  tape : w'.tape = w.tape
  output : w'.output = w.output
  size : w'.heap.size = w.heap.size
  here : w'.heap[r]? = some o
  block : ∀ b, b ≠ r → w'.heap[b]? = w.heap[b]?
theorem Turned.cell {r : Nat} {o : Obj} {w w' : World} (h : Turned r o w w') : ∀ b i, b ≠ r → w'.cell? ⟨b, i, none⟩ = w.cell? ⟨b, i, none⟩ := fun b _ hb => World.cell?_of_block (w := w) (h.block b hb)
theorem Turned.frozen {r : Nat} {o : Obj} {w w' : World} (h : Turned r o w w') : ∀ b i, b ≠ r → w'.frozen? ⟨b, i, none⟩ = w.frozen? ⟨b, i, none⟩ := fun b _ hb => World.frozen?_of_block (w := w) (h.block b hb)
theorem Turned.below {r : Nat} {o : Obj} {w w' : World} (h : Turned r o w w') {B : Nat} (hB : B ≤ r) : Below B w w' := ⟨h.os, h.tape, h.output, Nat.le_of_eq h.size.symm, fun k hk => h.block k (by omega)⟩
theorem turned_set {r : Nat} {w : World} {o0 : Obj} (o : Obj) (h : w.heap[r]? = some o0) : Turned r o w { w with heap := w.heap.setIfInBounds r o } :=
  ⟨rfl, rfl, rfl, by simp, (MapKept.heap_set h).1, fun b hb => (MapKept.heap_set (o' := o) h).2 b hb⟩
theorem bcell {W w1 : World} (hb : Below W.heap.size W w1) : (∀ b o, b < W.heap.size → w1.cell? ⟨b, o, none⟩ = W.cell? ⟨b, o, none⟩) ∧ (∀ b o, b < W.heap.size → w1.frozen? ⟨b, o, none⟩ = W.frozen? ⟨b, o, none⟩) :=
  ⟨fun b o h => hb.cell (p := ⟨b, o, none⟩) h, fun b o h => hb.frozen (p := ⟨b, o, none⟩) h⟩
section
variable {P : Program}
/-- A look-up in a map whose entries are known. -/
theorem run_lookup_now {w : World} {t kt et : TypeId} {kd : TypeDesc} {r : Nat} {es : Array MapEntry} {clock : Nat} {key z : Value} {res : Option (Nat × Value)} (hm : P.underlying t = some (.map kt et)) (hk : P.underlying kt = some kd)
    (hkey : MapKept.IsKey kd key) (hb : w.heap[r]? = some (.map es clock)) (hf : Instr.findNow kd key es.toList 0 = some res) (hz : (zeroValue et).run P w = .ok z w) :
    (Instr.lookup t (.map (some r)) key false).run P w = .ok ((res.map (·.2)).getD z) w := by
  have hc := MapKept.run_checkKey (P := P) (w := w) (k := key) hk hkey es.isEmpty 9999
  cases res with
  | none => simp [Instr.lookup, run_underlying hm, MapKept.run_getObj_map hb, hc, MapKept.run_findKey hk hf, hz, Result.andThen]
  | some q => simp [Instr.lookup, run_underlying hm, MapKept.run_getObj_map hb, hc, MapKept.run_findKey hk hf, Result.andThen]
/-- A new key's store. -/
theorem run_mapUpdate_new {w : World} {t kt et : TypeId} {kd : TypeDesc} {r : Nat} {es : Array MapEntry} {clock : Nat} {key val : Value} (hm : P.underlying t = some (.map kt et)) (hk : P.underlying kt = some kd)
    (hkey : MapKept.IsKey kd key) (hb : w.heap[r]? = some (.map es clock)) (hf : Instr.findNow kd key es.toList 0 = some none) :
    (Instr.mapUpdate t (.map (some r)) key val).run P w = .ok () { w with heap := w.heap.setIfInBounds r (.map (es.push { key, val, born := clock }) (clock + 1)) } := by
  have hc := MapKept.run_checkKey (P := P) (w := w) (k := key) hk hkey false 9999
  simp [Instr.mapUpdate, run_underlying hm, MapKept.run_getObj_map hb, hc, MapKept.run_findKey hk hf, MapKept.run_setObj_map _ hb, Result.andThen]
variable {ops : Array Oper} {Q : Exit → Act → World → Prop} {a : Act} {w : World} {rest : List Oper} {o : Oper}
theorem wpList_lookup_now (hg : o.guard = none) (m x : Operand) (t : TypeId) (hop : o.op = Op.lookup t m x false) {kt et : TypeId} {kd : TypeDesc} {r : Nat} {es : Array MapEntry} {clock : Nat} {key z : Value} {res : Option (Nat × Value)}
    (hmv : a.eval m = .map (some r)) (hx : a.eval x = key) (hm : P.underlying t = some (.map kt et)) (hk : P.underlying kt = some kd) (hkey : MapKept.IsKey kd key) (hb : w.heap[r]? = some (.map es clock))
    (hf : Instr.findNow kd key es.toList 0 = some res) (hz : (zeroValue et).run P w = .ok z w) (next : wpList P ops Q rest (a.put o.dst ((res.map (·.2)).getD z)) w) : wpList P ops Q (o :: rest) a w := by
  refine wpList_plain hg fun K' hK' => ?_
  unfold Oper.wp
  simp [execOp, hop, hmv, hx, run_lookup_now hm hk hkey hb hf hz, Result.andThen]
  exact hK' _ _ next
theorem wpList_mapUpdate_new (hg : o.guard = none) (m x v : Operand) (t : TypeId) (hop : o.op = Op.mapUpdate t m x v) {kt et : TypeId} {kd : TypeDesc} {r : Nat} {es : Array MapEntry} {clock : Nat} {key val : Value}
    (hmv : a.eval m = .map (some r)) (hx : a.eval x = key) (hv : a.eval v = val) (hm : P.underlying t = some (.map kt et)) (hk : P.underlying kt = some kd) (hkey : MapKept.IsKey kd key) (hb : w.heap[r]? = some (.map es clock))
    (hf : Instr.findNow kd key es.toList 0 = some none) (next : ∀ w', Turned r (.map (es.push { key, val, born := clock }) (clock + 1)) w w' → wpList P ops Q rest (a.put o.dst undef) w') : wpList P ops Q (o :: rest) a w := by
  refine wpList_plain hg fun K' hK' => ?_
  unfold Oper.wp
  simp [execOp, hop, hmv, hx, hv, run_mapUpdate_new (val := val) hm hk hkey hb hf, Result.andThen]
  exact hK' _ _ (next _ (turned_set _ hb))
end
theorem heap_old_alloc {w : World} {m : Nat} {o : Obj} (h : w.heap[m]? = some o) (x : Obj) : (w.alloc x).heap[m]? = some o :=
  (Below.heap_alloc w x m (Array.getElem?_eq_some_iff.1 h).1).trans h
theorem heap_old_below {w w1 : World} {m : Nat} {o : Obj} (hb : Below w.heap.size w w1) (h : w.heap[m]? = some o) : w1.heap[m]? = some o :=
  (hb.block m (Array.getElem?_eq_some_iff.1 h).1).trans h
theorem heap_old_set {w : World} {m : Nat} {o : Obj} (h : w.heap[m]? = some o) (p : Addr) (v : Value) (hne : p.block ≠ m) : (w.setCell p v).heap[m]? = some o :=
  (Below.heap_setCell w p v m (fun e => hne e.symm)).trans h
theorem heap_old_drew {w : World} {m : Nat} {o : Obj} (h : w.heap[m]? = some o) : w.drew.heap[m]? = some o := h
theorem cell_old_alloc {w : World} {a : Addr} {v : Value} (h : w.cell? a = some v) (x : Obj) : (w.alloc x).cell? a = some v :=
  (World.cell?_of_block (w := w) (Below.heap_alloc w x a.block (World.block_lt_of_cell? w a h))).trans h
theorem cell_old_below {w w1 : World} {a : Addr} {v : Value} (hb : Below w.heap.size w w1) (h : w.cell? a = some v) : w1.cell? a = some v :=
  (hb.cell (World.block_lt_of_cell? w a h)).trans h
theorem cell_old_drew {w : World} {a : Addr} {v : Value} (h : w.cell? a = some v) : w.drew.cell? a = some v := h
theorem cell_old_set {w : World} {a : Addr} {v : Value} (h : w.cell? a = some v) (p : Addr) (u : Value) (hne : p.block ≠ a.block) : (w.setCell p u).cell? a = some v :=
  (World.cell?_of_block (w := w) (Below.heap_setCell w p u a.block (fun e => hne e.symm))).trans h
theorem cell_old_turned {r : Nat} {o : Obj} {w w1 : World} {a : Addr} {v : Value} (ht : Turned r o w w1) (h : w.cell? a = some v) (hne : a.block ≠ r) : w1.cell? a = some v :=
  (World.cell?_of_block (w := w) (ht.block _ hne)).trans h
theorem cell_new {w : World} {c : Array Value} {t : TypeId} {fr : Nat × Nat} (i : Nat) {v : Value} (h : c[i]? = some v) : (w.alloc (.cells c t fr)).cell? ⟨w.heap.size, i, none⟩ = some v := by
  show (match (w.heap.push (.cells c t fr))[w.heap.size]? with | some (.cells c _ _) => _ | _ => none) = _
  simp [h]
theorem heap_new {w : World} {o : Obj} {n : Nat} (h : n = w.heap.size) : (w.alloc o).heap[n]? = some o := by
  subst h
  exact (MapKept.heap_alloc w o).1
theorem cell_new_at {w : World} {c : Array Value} {t : TypeId} {fr : Nat × Nat} {n : Nat} (hn : n = w.heap.size) (i : Nat) {v : Value} (h : c[i]? = some v) : (w.alloc (.cells c t fr)).cell? ⟨n, i, none⟩ = some v := by
  subst hn
  exact cell_new i h
theorem below_alloc {w W : World} (h : Below w.heap.size w W) (o : Obj) : Below w.heap.size w (W.alloc o) := h.alloc h.size o
theorem below_grown {B : Nat} {a w w1 : World} {row : Option Nat} (h : Below B a w) (hg : w.grownBy w1 row) (hB : B ≤ w.heap.size) (hr : ∀ k, row = some k → B ≤ k) : Below B a w1 := h.grown hg hB hr
theorem own_at {b n c k : Nat} (h : (Value.slice (some ⟨b, 0, none⟩) n c).ownBlock = some k) : b = k := by
  simpa [Value.ownBlock] using h
theorem frozen_new_at {w : World} {c : Array Value} {t : TypeId} {n : Nat} (hn : n = w.heap.size) (i : Nat) : (w.alloc (.cells c t)).frozen? ⟨n, i, none⟩ = false := by
  have h := heap_new (w := w) (o := .cells c t) hn
  unfold World.frozen?
  rw [h]
  simp
theorem frozen_old_below {w w1 : World} {a : Addr} {r : Bool} (hb : Below w.heap.size w w1) (hl : a.block < w.heap.size) (h : w.frozen? a = r) : w1.frozen? a = r := (hb.frozen hl).trans h
theorem frozen_old_alloc {w : World} {a : Addr} {r : Bool} (hl : a.block < w.heap.size) (h : w.frozen? a = r) (x : Obj) : (w.alloc x).frozen? a = r :=
  (World.frozen?_of_block (w := w) (Below.heap_alloc w x a.block hl)).trans h
end Go.Proofs.YtfhmklinieaolaaGreatDoor
