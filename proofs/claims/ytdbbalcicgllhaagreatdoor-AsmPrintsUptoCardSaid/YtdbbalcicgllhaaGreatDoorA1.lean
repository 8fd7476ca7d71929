import Derived.Test.YtdbbalcicgllhaaGreatDoorRows
import Derived.WalkKit
import Derived.WalkSpells
import Derived.WalkLawsBesides
import Derived.Lib.Hide
import Derived.OwnWalk
import Derived.Maps.AppendAt
import Derived.Lib.AppendStr
import Derived.Lib.Builder
import Derived.Lib.UnsafeStr
import Derived.Laws.Externs
import Derived.Below
namespace Go.Proofs.YtdbbalcicgllhaaGreatDoor
open Go.RowKit

abbrev Bytes := List UInt8

/-- Outside of the blocks of 'S' what was there is as it was. -/
structure Upd (S : Nat → Prop) (w w' : World) : Prop where
  os : w'.os = w.os
  tape : w'.tape = w.tape
  output : w'.output = w.output
  size : w.heap.size ≤ w'.heap.size
  block : ∀ k, k < w.heap.size → ¬ S k → w'.heap[k]? = w.heap[k]?

theorem Upd.refl (S : Nat → Prop) (w : World) : Upd S w w := ⟨rfl, rfl, rfl, Nat.le_refl _, fun _ _ _ => rfl⟩
theorem Upd.trans {S T : Nat → Prop} {a b c : World} (h : Upd S a b) (k : Upd T b c) (hs : ∀ k, k < a.heap.size → T k → S k) : Upd S a c :=
  ⟨k.os.trans h.os, k.tape.trans h.tape, k.output.trans h.output, Nat.le_trans h.size k.size,
    fun i hi hn => (k.block i (Nat.lt_of_lt_of_le hi h.size) (fun s => hn (hs i hi s))).trans (h.block i hi hn)⟩
theorem Upd.wide {S T : Nat → Prop} {w w' : World} (h : Upd S w w') (hs : ∀ k, k < w.heap.size → S k → T k) : Upd T w w' :=
  ⟨h.os, h.tape, h.output, h.size, fun k hk hn => h.block k hk (fun s => hn (hs k hk s))⟩
theorem Upd.alloc (S : Nat → Prop) (w : World) (o : Obj) : Upd S w (w.alloc o) :=
  ⟨rfl, rfl, rfl, by simp, fun k hk _ => Below.heap_alloc w o k hk⟩
theorem Upd.setCell {S : Nat → Prop} (w : World) (a : Addr) (v : Value) (h : S a.block) : Upd S w (w.setCell a v) :=
  ⟨rfl, rfl, rfl, by simp [World.setCell], fun k _ hn => Below.heap_setCell w a v k (fun e => hn (e ▸ h))⟩
theorem Upd.drewN (S : Nat → Prop) (w : World) (n : Nat) : Upd S w (w.drewN n) := ⟨rfl, rfl, rfl, Nat.le_refl _, fun _ _ _ => rfl⟩
theorem Upd.drew (S : Nat → Prop) (w : World) : Upd S w w.drew := ⟨rfl, rfl, rfl, Nat.le_refl _, fun _ _ _ => rfl⟩
theorem Upd.grown {S : Nat → Prop} {w w' : World} {row : Option Nat} (h : w.grownBy w' row) (hr : ∀ k, row = some k → S k) : Upd S w w' :=
  ⟨h.os, h.tape, h.output, h.size, fun k hk hn => h.block k hk (fun e => hn (hr k e.symm))⟩
theorem Upd.toBelow {S : Nat → Prop} {B : Nat} {w w' : World} (h : Upd S w w') (hB : B ≤ w.heap.size) (hs : ∀ k, S k → B ≤ k) : Below B w w' :=
  ⟨h.os, h.tape, h.output, h.size, fun k hk => h.block k (by omega) (fun s => by have := hs k s; omega)⟩
theorem Upd.ofBelow {S : Nat → Prop} {w w' : World} (h : Below w.heap.size w w') : Upd S w w' := ⟨h.os, h.tape, h.output, h.size, fun k hk _ => h.block k hk⟩
theorem Upd.cell {S : Nat → Prop} {w w' : World} (h : Upd S w w') {a : Addr} {v : Value} (hc : w.cell? a = some v) (hn : ¬ S a.block) : w'.cell? a = some v :=
  (World.cell?_of_block (h.block a.block (World.block_lt_of_cell? _ _ hc) hn)).trans hc
theorem Upd.at_ {S : Nat → Prop} {w w' : World} (h : Upd S w w') {k : Nat} {o : Obj} (hc : w.heap[k]? = some o) (hn : ¬ S k) : w'.heap[k]? = some o :=
  (h.block k (Array.getElem?_eq_some_iff.1 hc).1 hn).trans hc

theorem heap_alloc_new (w : World) (o : Obj) : (w.alloc o).heap[w.heap.size]? = some o := by
  show (w.heap.push o)[w.heap.size]? = some o
  simp

theorem ownsRow_upd {S : Nat → Prop} {w w' : World} {B e z n : Nat} {v : Value} {xs : List Value} (h : w.ownsRow B e z v n xs) (hu : Upd S w w') (hs : ∀ k, v.ownBlock = some k → ¬ S k) : w'.ownsRow B e z v n xs := by
  refine ⟨h.1, ?_⟩
  rcases h.2 with hn | ⟨g, cap, cur, rfl, hb, hg, rest⟩
  · exact .inl hn
  · refine .inr ⟨g, cap, cur, rfl, hb, ?_, rest⟩
    rw [hu.block g (Array.getElem?_eq_some_iff.1 hg).1 (hs g rfl)]
    exact hg

/-- A builder that lies at the head of a struct of type 'T' in block 'b': what it has written. -/
structure Bd (T : TypeId) (ex : List Value) (b : Nat) (w : World) (out : Bytes) : Prop where
  at_ : ∃ p v, w.heap[b]? = some (.cells (p :: v :: ex).toArray T (0, 0)) ∧ (p = .pointer none ∨ p = .pointer (some ⟨b, 0, none⟩)) ∧ w.ownsRow 0 5 1 v out.length (Lib.byteCells out) ∧ v.ownBlock ≠ some b

/-- The block of what it has written. -/
def Own (b : Nat) (w : World) (k : Nat) : Prop := ∃ v, w.cell? ⟨b, 1, none⟩ = some v ∧ v.ownBlock = some k
def WS (b : Nat) (w : World) (k : Nat) : Prop := k = b ∨ Own b w k

/-- What a writing keeps. -/
structure WStep (b : Nat) (w w' : World) : Prop where
  up : Upd (WS b w) w w'
  own : ∀ k, k < w.heap.size → Own b w' k → Own b w k

theorem WStep.refl (b : Nat) (w : World) : WStep b w w := ⟨Upd.refl _ _, fun _ _ h => h⟩
theorem WStep.trans {b : Nat} {u v w : World} (h : WStep b u v) (k : WStep b v w) : WStep b u w :=
  ⟨h.up.trans k.up fun i hi hs => hs.elim .inl fun ho => .inr (h.own i hi ho), fun i hi ho => h.own i hi (k.own i (Nat.lt_of_lt_of_le hi h.up.size) ho)⟩
/-- What only makes new memory. -/
theorem WStep.new {b : Nat} {w w' : World} (hb : b < w.heap.size) (h : Upd (fun _ => False) w w') : WStep b w w' :=
  ⟨h.wide fun _ _ h => h.elim, fun k _ ⟨v, hv, ho⟩ => ⟨v, (World.cell?_of_block (h.block b hb (fun h => h))).symm.trans hv, ho⟩⟩
theorem Bd.new {T : TypeId} {ex : List Value} {b : Nat} {w w' : World} {out : Bytes} (h : Bd T ex b w out) (hu : Upd (fun _ => False) w w') : Bd T ex b w' out := by
  obtain ⟨p, v, h1, h2, h3, h4⟩ := h.at_
  exact ⟨p, v, hu.at_ h1 (fun h => h), h2, ownsRow_upd h3 hu (fun _ _ h => h), h4⟩
theorem Bd.lt {T : TypeId} {ex : List Value} {b : Nat} {w : World} {out : Bytes} (h : Bd T ex b w out) : b < w.heap.size := by
  obtain ⟨p, v, h1, _⟩ := h.at_
  exact (Array.getElem?_eq_some_iff.1 h1).1
/-- A block that is there and is not the builder's. -/
theorem WStep.at_ {b : Nat} {w w' : World} (h : WStep b w w') {k : Nat} {o : Obj} (hc : w.heap[k]? = some o) (hn : ¬ WS b w k) : w'.heap[k]? = some o ∧ ¬ WS b w' k :=
  ⟨h.up.at_ hc hn, fun hs => hs.elim (fun e => hn (.inl e)) fun ho => hn (.inr (h.own k (Array.getElem?_eq_some_iff.1 hc).1 ho))⟩
/-- What lies in no row of bytes is not the builder's. -/
theorem Bd.not_ws {T : TypeId} {ex : List Value} {b : Nat} {w : World} {out : Bytes} (h : Bd T ex b w out) {k : Nat} {cs : Array Value} {t : TypeId} (hc : w.heap[k]? = some (.cells cs t (0, 0))) (ht : t ≠ 5) (hk : k ≠ b) : ¬ WS b w k := by
  obtain ⟨p, v, h1, h2, h3, h4⟩ := h.at_
  rintro (e | ⟨v', hv', ho⟩)
  · exact hk e
  · have : v' = v := by simpa [World.cell?, h1] using hv'.symm
    subst this
    rcases h3.2 with ⟨rfl, _⟩ | ⟨g, cap, cur, rfl, _, hg, _⟩
    · simp [Value.ownBlock] at ho
    · simp [Value.ownBlock] at ho
      subst ho
      rw [hc] at hg
      injection hg with hg
      injection hg with _ hg _
      exact ht hg

theorem i5 : (Tryz.prog.info? 5).map (fun i => (i.zero, i.size, i.bytes)) = some (some (.int .u8 0), 1, 1) := by kernel_rfl
theorem c5 : Tryz.prog.cellsOf 5 = 1 := by kernel_rfl
theorem s47 : (Tryz.prog.info? 47).map (·.size) = some 2 := by kernel_rfl

/-- Where a builder may lie: a type whose head is a Builder. -/
def Head (T : TypeId) (n : Nat) : Prop := liesAt Tryz.prog Tryz.prog.depth T ((n + 2) / Tryz.prog.cellsOf T) 0 47 1 = true
theorem head49 : Head 49 0 := by unfold Head; kernel_rfl
theorem head67 : Head 67 1 := by unfold Head; kernel_rfl

set_option maxRecDepth 100000 in
theorem copy_used (b : Nat) (w : World) (h0 : w.cell? ⟨b, 0, none⟩ = some (.pointer (some ⟨b, 0, none⟩))) :
    Calls Tryz.prog 21 #[.pointer (some ⟨b, 0, none⟩)] w fun e w' => e = .returned (.tuple #[]) ∧ w' = w := by
  obtain ⟨j, hj, _⟩ := Option.map_eq_some_iff.1 s47
  go_enter Tryz.func21, Tryz.ntmps21
  go_wp2
  rw [Lib.run_neq_ptr_same w _ Tryz.underlying45 hj]
  go_wp2
  go_end0
  exact ⟨rfl, rfl⟩

set_option maxRecDepth 100000 in
theorem copy_fresh (T : TypeId) (n : Nat) (hT : Head T n) (b : Nat) (w : World) (h0 : w.cell? ⟨b, 0, none⟩ = some (.pointer none)) (hsh : w.shape? b = some (T, n + 2)) (hfz : w.frozen? ⟨b, 0, none⟩ = false) :
    Calls Tryz.prog 21 #[.pointer (some ⟨b, 0, none⟩)] w fun e w' => e = .returned (.tuple #[]) ∧ w' = w.setCell ⟨b, 0, none⟩ (.pointer (some ⟨b, 0, none⟩)) := by
  obtain ⟨j, hj, hjs⟩ := Option.map_eq_some_iff.1 s47
  go_enter Tryz.func21, Tryz.ntmps21
  go_wp2
  rw [Lib.run_to_unsafe w ⟨b, 0, none⟩ Tryz.underlying45 Tryz.underlying76 hj (by rw [hjs]; decide) hsh (Nat.zero_lt_succ (n + 1))]
  simp only [Result.andThen]
  rw [Oper.upon_value]
  go_wp2
  rw [run_callFunc_extern Tryz.func32 (by kernel_rfl) (by kernel_rfl) (by kernel_rfl) (e := Extern.AbiNoEscape.same) (by kernel_rfl)]
  rw [Lib.run_noEscape]
  simp only [Result.andThen]
  rw [Oper.upon_value]
  go_wp2
  rw [Lib.run_from_unsafe w ⟨b, 0, none⟩ Tryz.underlying76 Tryz.underlying45 hj hsh hT]
  simp only [Result.andThen]
  rw [Oper.upon_value]
  go_wp2
  go_end0
  exact ⟨rfl, rfl⟩
end Go.Proofs.YtdbbalcicgllhaaGreatDoor
