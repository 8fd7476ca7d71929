import Derived.Test.YtoffodgjpeeenaaRows
import Derived.WalkKit
import Derived.WalkSpells
import Derived.WalkLawsBesides
namespace Go.Proofs.Ytoffodgjpeeenaa
open Go.RowKit

/-- Outside of the blocks of 'S' what was there is as it was. -/
structure Upd (S : Nat → Prop) (w w' : World) : Prop where
  os : w'.os = w.os
  tape : w'.tape = w.tape
  output : w'.output = w.output
  size : w.heap.size ≤ w'.heap.size
  block : ∀ k, k < w.heap.size → ¬ S k → w'.heap[k]? = w.heap[k]?

theorem Upd.refl (S : Nat → Prop) (w : World) : Upd S w w := ⟨rfl, rfl, rfl, Nat.le_refl _, fun _ _ _ => rfl⟩
theorem Upd.mono {S T : Nat → Prop} {w w' : World} (h : Upd S w w') (hs : ∀ k, k < w.heap.size → S k → T k) : Upd T w w' :=
  ⟨h.os, h.tape, h.output, h.size, fun k hk hn => h.block k hk (fun s => hn (hs k hk s))⟩
theorem Upd.trans {S T : Nat → Prop} {a b c : World} (h : Upd S a b) (k : Upd T b c) (hs : ∀ k, k < a.heap.size → T k → S k) : Upd S a c :=
  ⟨k.os.trans h.os, k.tape.trans h.tape, k.output.trans h.output, Nat.le_trans h.size k.size,
    fun i hi hn => (k.block i (Nat.lt_of_lt_of_le hi h.size) (fun s => hn (hs i hi s))).trans (h.block i hi hn)⟩
theorem Upd.alloc (S : Nat → Prop) (w : World) (o : Obj) : Upd S w (w.alloc o) :=
  ⟨rfl, rfl, rfl, by simp, fun k hk _ => Below.heap_alloc w o k hk⟩
theorem Upd.setCell {S : Nat → Prop} (w : World) (a : Addr) (v : Value) (h : S a.block) : Upd S w (w.setCell a v) :=
  ⟨rfl, rfl, rfl, by simp [World.setCell], fun k _ hn => Below.heap_setCell w a v k (fun e => hn (e ▸ h))⟩
theorem Upd.drewN (S : Nat → Prop) (w : World) (n : Nat) : Upd S w (w.drewN n) := ⟨rfl, rfl, rfl, Nat.le_refl _, fun _ _ _ => rfl⟩
theorem Upd.grown {S : Nat → Prop} {w w' : World} {row : Option Nat} (h : w.grownBy w' row) (hr : ∀ k, row = some k → S k) : Upd S w w' :=
  ⟨h.os, h.tape, h.output, h.size, fun k hk hn => h.block k hk (fun e => hn (hr k e.symm))⟩
theorem Upd.below {B : Nat} {w w' : World} (h : Below B w w') : Upd (fun k => B ≤ k) w w' :=
  ⟨h.os, h.tape, h.output, h.size, fun k _ hn => h.block k (by omega)⟩
theorem Upd.toBelow {S : Nat → Prop} {B : Nat} {w w' : World} (h : Upd S w w') (hB : B ≤ w.heap.size) (hs : ∀ k, S k → B ≤ k) : Below B w w' :=
  ⟨h.os, h.tape, h.output, h.size, fun k hk => h.block k (by omega) (fun s => by have := hs k s; omega)⟩

/-- A slice that reads as these numbers. -/
def View (w : World) (v : Value) (xs : List Int) : Prop :=
  ∃ a c, v = .slice a xs.length c ∧ xs.length ≤ c ∧ (xs ≠ [] → ∃ b o, a = some ⟨b, o, none⟩ ∧ ∀ i (h : i < xs.length), w.cell? ⟨b, o + i, none⟩ = some (.int .i64 xs[i]))

theorem View.upd {S : Nat → Prop} {w w' : World} {v : Value} {xs : List Int} (h : View w v xs) (hu : Upd S w w') (hs : ∀ k, v.ownBlock = some k → ¬ S k) : View w' v xs := by
  obtain ⟨a, c, rfl, hl, hc⟩ := h
  refine ⟨a, c, rfl, hl, fun hne => ?_⟩
  obtain ⟨b, o, rfl, hcell⟩ := hc hne
  refine ⟨b, o, rfl, fun i hi => ?_⟩
  have h1 := hcell i hi
  have hb := World.block_lt_of_cell? _ _ h1
  rw [World.cell?_of_block (w := w) (hu.block b hb (hs b rfl))]
  exact h1

theorem ownsRow_upd {S : Nat → Prop} {w w' : World} {B e z n : Nat} {v : Value} {xs : List Value} (h : w.ownsRow B e z v n xs) (hu : Upd S w w') (hs : ∀ k, v.ownBlock = some k → ¬ S k) : w'.ownsRow B e z v n xs := by
  refine ⟨h.1, ?_⟩
  rcases h.2 with hn | ⟨g, cap, cur, rfl, hb, hg, rest⟩
  · exact .inl hn
  · refine .inr ⟨g, cap, cur, rfl, hb, ?_, rest⟩
    rw [hu.block g (Array.getElem?_eq_some_iff.1 hg).1 (hs g rfl)]
    exact hg

/-- What a list's own row reads as. -/
theorem ownsRow_view {w : World} {B : Nat} {v : Value} {xs : List Int} (h : w.ownsRow B 3 1 v xs.length (xs.map (.int .i64))) : View w v xs := by
  rcases h.2 with ⟨rfl, hn⟩ | ⟨g, cap, cur, rfl, hb, hg, hc, hm, hs, ht⟩
  · obtain rfl : xs = [] := List.length_eq_zero_iff.1 hn
    exact ⟨none, 0, rfl, Nat.le_refl _, fun h => absurd rfl h⟩
  · refine ⟨_, cap, rfl, hc, fun _ => ⟨g, 0, rfl, fun i hi => ?_⟩⟩
    have h1 := h.cells (g := g) rfl i (.int .i64 xs[i]) (by simp [List.getElem?_eq_getElem hi])
    rw [Addr.add_lit] at h1
    simpa using h1

/-- The queue at block 'b': its two slices, what they read as, and that no two of its parts lie in one block. -/
structure Que (B : Nat) (w : World) (b : Nat) (sv lv : Value) (scr l : List Int) : Prop where
  hb : w.heap[b]? = some (.cells #[sv, lv] 45 (0, 0))
  vs : View w sv scr
  ol : w.ownsRow B 3 1 lv l.length (l.map (.int .i64))
  nb : lv.ownBlock ≠ some b
  sb : sv.ownBlock ≠ some b
  sl : ∀ k, sv.ownBlock = some k → lv.ownBlock ≠ some k
  top : ∀ x ∈ scr, x ≤ 9223372036854775807
  sx : ∀ k, sv.ownBlock = some k → k < w.heap.size

theorem Que.lt {B b : Nat} {w : World} {sv lv : Value} {scr l : List Int} (h : Que B w b sv lv scr l) : b < w.heap.size := (Array.getElem?_eq_some_iff.1 h.hb).1
theorem Que.c0 {B b : Nat} {w : World} {sv lv : Value} {scr l : List Int} (h : Que B w b sv lv scr l) : w.cell? ⟨b, 0, none⟩ = some sv := by simp [World.cell?, h.hb]
theorem Que.c1 {B b : Nat} {w : World} {sv lv : Value} {scr l : List Int} (h : Que B w b sv lv scr l) : w.cell? ⟨b, 1, none⟩ = some lv := by simp [World.cell?, h.hb]
theorem Que.f0 {B b : Nat} {w : World} {sv lv : Value} {scr l : List Int} (h : Que B w b sv lv scr l) : w.frozen? ⟨b, 0, none⟩ = false := by simp [World.frozen?, h.hb]
theorem Que.f1 {B b : Nat} {w : World} {sv lv : Value} {scr l : List Int} (h : Que B w b sv lv scr l) : w.frozen? ⟨b, 1, none⟩ = false := by simp [World.frozen?, h.hb]

/-- A queue that another one's steps leave alone. -/
theorem Que.upd {S : Nat → Prop} {B b : Nat} {w w' : World} {sv lv : Value} {scr l : List Int} (h : Que B w b sv lv scr l) (hu : Upd S w w')
    (h1 : ¬ S b) (h2 : ∀ k, sv.ownBlock = some k → ¬ S k) (h3 : ∀ k, lv.ownBlock = some k → ¬ S k) : Que B w' b sv lv scr l :=
  ⟨(hu.block b h.lt h1).trans h.hb, h.vs.upd hu h2, ownsRow_upd h.ol hu h3, h.nb, h.sb, h.sl, h.top, fun k hk => Nat.lt_of_lt_of_le (h.sx k hk) hu.size⟩

/-- The next number of a schedule. -/
def numOf : List Int → Int
  | [] => 0
  | x :: _ => max 0 x

theorem numOf_nonneg (s : List Int) : 0 ≤ numOf s := by cases s <;> simp [numOf]; omega
theorem numOf_top (s : List Int) (h : ∀ x ∈ s, x ≤ 9223372036854775807) : numOf s ≤ 9223372036854775807 := by
  cases s with
  | nil => simp [numOf]
  | cons x t => have := h x (by simp); simp only [numOf]; omega

/-- What an operation may have written, and where a list may lie behind it. -/
def Fresh (w : World) (lv lv' : Value) : Prop := lv'.ownBlock = lv.ownBlock ∨ ∀ k, lv'.ownBlock = some k → w.heap.size ≤ k

def QS (b : Nat) (lv : Value) (k : Nat) : Prop := k = b ∨ lv.ownBlock = some k

set_option maxHeartbeats 400000 in
theorem num_nil (b : Nat) (a : Option Addr) (c : Nat) (w : World) (h : w.cell? ⟨b, 0, none⟩ = some (.slice a 0 c)) :
    Calls Try.prog 17 #[.pointer (some ⟨b, 0, none⟩)] w fun e w' => e = .returned (.int .i64 0) ∧ w' = w := by
  go_enter Try.func17, Try.ntmps17
  go_wp2
  go_ret
  exact ⟨rfl, rfl⟩

def Num1 (b sb so n c : Nat) (x : Int) (w : World) (e : Ending) (w' : World) : Prop :=
  e = .returned (.int .i64 (max 0 x)) ∧ w' = w.setCell ⟨b, 0, none⟩ (if c = 1 then .slice (some ⟨sb, so, none⟩) n 0 else .slice (some ⟨sb, so + 1, none⟩) n (c - 1))

set_option maxHeartbeats 400000 in
theorem num_cons (b sb so n c : Nat) (x : Int) (w : World) (h : w.cell? ⟨b, 0, none⟩ = some (.slice (some ⟨sb, so, none⟩) (n+1) c)) (hn : n + 1 ≤ 1000000)
    (hf : w.frozen? ⟨b, 0, none⟩ = false) (hx : w.cell? ⟨sb, so, none⟩ = some (.int .i64 x)) (hc : n + 1 ≤ c) :
    Calls Try.prog 17 #[.pointer (some ⟨b, 0, none⟩)] w (Num1 b sb so n c x w) := by
  go_enter Try.func17, Try.ntmps17
  go_wp2
  all_goals
    go_ret
    constructor
    · simp [Int.max_def] <;> omega
    · simp_all

/-- 'Number': the schedule's next number is taken. -/
theorem number (B b : Nat) (sv lv : Value) (scr l : List Int) (w : World) (h : Que B w b sv lv scr l) (hs : scr.length ≤ 1000000) :
    Calls Try.prog 17 #[.pointer (some ⟨b, 0, none⟩)] w fun e w' => e = .returned (.int .i64 (numOf scr)) ∧
      ∃ sv', Que B w' b sv' lv scr.tail l ∧ Upd (fun k => k = b) w w' ∧ sv'.ownBlock = sv.ownBlock := by
  obtain ⟨a, c, rfl, hlc, hcell⟩ := h.vs
  cases scr with
  | nil =>
    refine (num_nil b a c w h.c0).mono ?_
    rintro e w' ⟨rfl, rfl⟩
    exact ⟨rfl, _, h, Upd.refl _ _, rfl⟩
  | cons x t =>
    obtain ⟨sb, so, rfl, hc⟩ := hcell (by simp)
    have hx := hc 0 (by simp)
    refine (num_cons b sb so t.length c x w h.c0 (by simpa using hs) h.f0 (by simpa using hx) (by simpa using hlc)).mono ?_
    rintro e w' ⟨rfl, rfl⟩
    have hsb : sb ≠ b := fun e => h.sb (by simp [Value.ownBlock, e])
    refine ⟨rfl, (if c = 1 then .slice (some ⟨sb, so, none⟩) t.length 0 else .slice (some ⟨sb, so + 1, none⟩) t.length (c - 1)), ⟨?_, ?_, ?_, h.nb, ?_, ?_, ?_, ?_⟩, Upd.setCell _ _ _ rfl, ?_⟩
    · simp only [World.setCell, Array.getElem?_modify, h.hb]; simp
    · by_cases h1 : c = 1
      · have ht : t = [] := by simp [h1] at hlc; exact hlc
        subst ht
        rw [if_pos h1]
        exact ⟨_, 0, rfl, by simp, fun h => absurd rfl h⟩
      · rw [if_neg h1]
        refine ⟨_, c - 1, rfl, by simp at hlc ⊢; omega, fun _ => ⟨sb, so + 1, rfl, fun i hi => ?_⟩⟩
        have := hc (i + 1) (by simp at hi ⊢; omega)
        rw [World.cell?_setCell_other _ _ _ _ (by simp), show so + 1 + i = so + (i + 1) by omega, this]
        simp
    · exact ownsRow_upd h.ol (Upd.setCell (S := fun k => k = b) w _ _ rfl) (fun k hk e => h.nb (e ▸ hk))
    · by_cases h1 : c = 1
      · rw [if_pos h1]; simpa [Value.ownBlock] using hsb
      · rw [if_neg h1]; simpa [Value.ownBlock] using hsb
    · intro k hk
      refine h.sl k ?_
      by_cases h1 : c = 1 <;> simp [h1, Value.ownBlock] at hk <;> simp [Value.ownBlock, hk]
    · intro y hy; exact h.top y (by simp at hy ⊢; exact .inr hy)
    · intro k hk
      have h2 := h.sx k (by by_cases h1 : c = 1 <;> simp [h1, Value.ownBlock] at hk <;> simp [Value.ownBlock, hk])
      simpa [World.setCell] using h2
    · by_cases h1 : c = 1 <;> simp [h1, Value.ownBlock]

end Go.Proofs.Ytoffodgjpeeenaa
