/- Plain words on worlds that all proofs of this seat use: a block of cells and what stays of it; 'Ch S w w2': of the blocks of w only those of S may have changed. No program in sight. -/
import Derived.WalkKit
import Derived.WalkSpells
import Derived.WalkLawsBesides
import Derived.Deep.RegionHeld3
import Derived.Deep.LoopGhost
import Derived.BigQuiet
import Derived.BigRegion
import Derived.Deep.QuietTactic
import Derived.Deep.DeepCutAuto
import Derived.Lib.Hide
set_option linter.unusedVariables false
set_option linter.unusedSimpArgs false
namespace Go.Proofs.Ytpdibjaeopcimaa
open Go.RowKit

/-- Block b holds these cells, none frozen. -/
def Blk (w : World) (b : Nat) (cs : Array Value) (t : TypeId) : Prop := w.heap[b]? = some (.cells cs t (0, 0))

/-- Of the blocks of w only those of S may have changed. -/
structure Ch (S : Nat → Prop) (w w' : World) : Prop where
  os : w'.os = w.os
  tape : w'.tape = w.tape
  output : w'.output = w.output
  size : w.heap.size ≤ w'.heap.size
  block : ∀ k, k < w.heap.size → ¬ S k → w'.heap[k]? = w.heap[k]?

section
variable {S S' : Nat → Prop} {w w1 w2 : World} {b t : Nat} {cs : Array Value}

theorem Ch.refl (S : Nat → Prop) (w : World) : Ch S w w := ⟨rfl, rfl, rfl, Nat.le_refl _, fun _ _ _ => rfl⟩
theorem Ch.step (h : Ch S w w1) (h2 : Ch S' w1 w2) (hs : ∀ k, k < w.heap.size → S' k → S k) : Ch S w w2 :=
  ⟨h2.os.trans h.os, h2.tape.trans h.tape, h2.output.trans h.output, Nat.le_trans h.size h2.size,
    fun k hk hn => (h2.block k (Nat.lt_of_lt_of_le hk h.size) (fun e => hn (hs k hk e))).trans (h.block k hk hn)⟩
theorem Ch.trans (h : Ch S w w1) (h2 : Ch S w1 w2) : Ch S w w2 := h.step h2 (fun _ _ e => e)
theorem Ch.mono (h : Ch S w w1) (hs : ∀ k, S k → S' k) : Ch S' w w1 := ⟨h.os, h.tape, h.output, h.size, fun k hk hn => h.block k hk (fun e => hn (hs k e))⟩
theorem Ch.of_below (S : Nat → Prop) (h : Below w.heap.size w w1) : Ch S w w1 := ⟨h.os, h.tape, h.output, h.size, fun k hk _ => h.block k hk⟩
theorem Ch.below (h : Ch (fun _ => False) w w1) : Below w.heap.size w w1 := ⟨h.os, h.tape, h.output, h.size, fun k hk => h.block k hk id⟩
theorem Ch.call (h : Ch S w w1) (h2 : Below w1.heap.size w1 w2) : Ch S w w2 := h.trans (Ch.of_below S h2)
theorem Ch.of_grown {row : Option Nat} (h : w.grownBy w1 row) : Ch (fun k => some k = row) w w1 := ⟨h.os, h.tape, h.output, h.size, h.block⟩
theorem Ch.alloc (h : Ch S w w1) (o : Obj) : Ch S w (w1.alloc o) := h.call ((Below.refl _ _).alloc (Nat.le_refl _) o)
theorem Ch.drew (h : Ch S w w1) : Ch S w w1.drew := ⟨h.os, h.tape, h.output, h.size, h.block⟩
theorem Ch.set (h : Ch S w w1) {p : Addr} (hp : w.heap.size ≤ p.block ∨ S p.block) (u : Value) : Ch S w (w1.setCell p u) :=
  ⟨h.os, h.tape, h.output, by simpa [World.setCell] using h.size, fun k hk hn => (Below.heap_setCell _ _ _ _ (by
    rintro rfl
    rcases hp with hp | hp
    · omega
    · exact hn hp)).trans (h.block k hk hn)⟩

theorem Ch.set' {p : Addr} {u : Value} (hp : w.heap.size ≤ p.block ∨ S p.block) (h : Ch S w w1) : Ch S w (w1.setCell p u) := h.set hp u
theorem Blk.lt (h : Blk w b cs t) : b < w.heap.size := lt_of_block h
theorem Blk.ch (h : Blk w b cs t) (hc : Ch S w w1) (hn : ¬ S b) : Blk w1 b cs t := (hc.block b h.lt hn).trans h
theorem Blk.below (h : Blk w b cs t) (hc : Below w.heap.size w w1) : Blk w1 b cs t := (hc.block b h.lt).trans h
theorem Blk.alloc (h : Blk w b cs t) (o : Obj) : Blk (w.alloc o) b cs t := h.below ((Below.refl _ _).alloc (Nat.le_refl _) o)
theorem Blk.drew (h : Blk w b cs t) : Blk w.drew b cs t := h
theorem Blk.new (w : World) (cs : Array Value) (t : TypeId) : Blk (w.alloc (.cells cs t)) w.heap.size cs t := heap_alloc_new w _
theorem Blk.new' {w : World} {cs : Array Value} {t b : Nat} (h : b = w.heap.size) : Blk (w.alloc (.cells cs t)) b cs t := by rw [h]; exact heap_alloc_new w _
theorem Blk.far (h : Blk w b cs t) {p : Addr} (hn : b ≠ p.block) (u : Value) : Blk (w.setCell p u) b cs t := (Below.heap_setCell _ _ _ _ hn).trans h
theorem Blk.set (h : Blk w b cs t) (o : Nat) (u : Value) : Blk (w.setCell ⟨b, o, none⟩ u) b (cs.setIfInBounds o u) t := by
  have hlt := h.lt
  have h' : w.heap[b] = .cells cs t (0, 0) := by simpa [Blk, Array.getElem?_eq_getElem hlt] using h
  show (w.heap.modify b _)[b]? = _
  rw [Array.getElem?_eq_getElem (by simpa using hlt), Array.getElem_modify_self, h']
  rfl
/-- What the walk reads. -/
theorem Blk.cells (h : Blk w b cs t) : (∀ o, w.cell? ⟨b, o, none⟩ = cs[o]?) ∧ (∀ o, w.frozen? ⟨b, o, none⟩ = false) :=
  ⟨fun o => by simp [World.cell?, (show w.heap[b]? = _ from h)], fun o => by simp only [World.frozen?, (show w.heap[b]? = _ from h)]; simp⟩
theorem Blk.cell (h : Blk w b cs t) (o : Nat) : w.cell? ⟨b, o, none⟩ = cs[o]? := h.cells.1 o
theorem Blk.free (h : Blk w b cs t) (o : Nat) : w.frozen? ⟨b, o, none⟩ = false := h.cells.2 o
end

/-- Old cells and old marks read as before: two rules for the walk. -/
theorem bcell {W w1 : World} (hb : Below W.heap.size W w1) : (∀ b o, b < W.heap.size → w1.cell? ⟨b, o, none⟩ = W.cell? ⟨b, o, none⟩) ∧ (∀ b o, b < W.heap.size → w1.frozen? ⟨b, o, none⟩ = W.frozen? ⟨b, o, none⟩) :=
  ⟨fun b o h => hb.cell (p := ⟨b, o, none⟩) h, fun b o h => hb.frozen (p := ⟨b, o, none⟩) h⟩
theorem below2 (w : World) (o o' : Obj) : Below w.heap.size w ((w.alloc o).alloc o') := ((Below.refl _ _).alloc (Nat.le_refl _) o).alloc (by simp) o'
theorem below1 (w : World) (o : Obj) : Below w.heap.size w (w.alloc o) := (Below.refl _ _).alloc (Nat.le_refl _) o

/-- A world in which all that was there in v is as it was. -/
structure Later (v : World) where
  w : World
  h : Below v.heap.size v w
instance (v : World) : Nonempty (Later v) := ⟨⟨v, Below.refl _ _⟩⟩
/-- A region that draws its order, whose operations read, and whose calls make new memory alone: one walk, in the text's order. -/
theorem wp_region_later {P : Program} {id : Nat} {Q : Exit → Act → World → Prop} {a : Act} {v : World} {l : List Oper} (hm : P.follows .mixedOrders = true) (hB : Region.lexB .any l.toArray = true)
    (h : wpQuiet P l.toArray (fun w' => ∃ x : Later v, w' = x.w) (fun a' => ∀ w', (∃ x : Later v, w' = x.w) → Q .normal a' w') l a) : (Code.region id l.toArray true).wp P Q a v :=
  wp_region_quiet (C := fun w' => ∃ x : Later v, w' = x.w) hm hB ⟨⟨v.drew, (Below.refl _ _).drew⟩, rfl⟩ (by simpa using h)
/-- A callee that makes new memory alone. -/
theorem Calls.later {P : Program} {f : FuncId} {args : Array Value} {v : World} {x : Later v} {r : Value} (h : Calls P f args x.w fun e w' => e = .returned r ∧ Below x.w.heap.size x.w w') :
    Calls P f args x.w fun e w'' => e = .returned r ∧ ∃ y : Later v, w'' = y.w :=
  h.mono fun _ w' ⟨he, hb⟩ => ⟨he, ⟨w', x.h.trans (hb.mono x.h.size)⟩, rfl⟩
theorem Blk.later {v : World} {b t : Nat} {cs : Array Value} (h : Blk v b cs t) : ∀ x : Later v, Blk x.w b cs t := fun x => h.below x.h
/-- A block's cells and marks, in every later world. -/
theorem Blk.laterCells {v : World} {b t : Nat} {cs : Array Value} (h : Blk v b cs t) : (∀ (x : Later v) o, x.w.cell? ⟨b, o, none⟩ = cs[o]?) ∧ (∀ (x : Later v) o, x.w.frozen? ⟨b, o, none⟩ = false) :=
  ⟨fun x => (h.later x).cell, fun x => (h.later x).free⟩
end Go.Proofs.Ytpdibjaeopcimaa
