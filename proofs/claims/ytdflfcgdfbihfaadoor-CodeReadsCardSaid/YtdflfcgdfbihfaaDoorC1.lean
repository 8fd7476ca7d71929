import Derived.Test.YtdflfcgdfbihfaaDoorRows
import Derived.Test.YtdflfcgdfbihfaaDoorC0
import Derived.WalkKit
import Derived.WalkSpells
import Derived.WalkLawsBesides
import Derived.Lib.Hide
import Derived.Lib.VarintBits
import Derived.Lib.VarintDec
import Derived.Lib.Zigzag
namespace Go.Proofs.YtdflfcgdfbihfaaDoor
open Go.RowKit CodeText

/-- Outside of the blocks of 'S' what was there is as it was. -/
structure Upd (S : Nat → Prop) (w w' : World) : Prop where
  os : w'.os = w.os
  tape : w'.tape = w.tape
  output : w'.output = w.output
  size : w.heap.size ≤ w'.heap.size
  block : ∀ k, k < w.heap.size → ¬ S k → w'.heap[k]? = w.heap[k]?

theorem Upd.refl (S : Nat → Prop) (w : World) : Upd S w w := ⟨rfl, rfl, rfl, Nat.le_refl _, fun _ _ _ => rfl⟩
theorem Upd.trans {S T : Nat → Prop} {a b c : World} (h : Upd S a b) (k : Upd T b c) (hs : ∀ k, k < a.heap.size → T k → S k) : Upd S a c :=
  ⟨k.os.trans h.os, k.tape.trans h.tape, k.output.trans h.output, Nat.le_trans h.size k.size,
    fun i hi hn => (k.block i (Nat.lt_of_lt_of_le hi h.size) (fun s => hn (hs i hi s))).trans (h.block i hi hn)⟩
theorem Upd.alloc (S : Nat → Prop) (w : World) (o : Obj) : Upd S w (w.alloc o) :=
  ⟨rfl, rfl, rfl, by simp, fun k hk _ => Below.heap_alloc w o k hk⟩
theorem Upd.setCell {S : Nat → Prop} (w : World) (a : Addr) (v : Value) (h : S a.block) : Upd S w (w.setCell a v) :=
  ⟨rfl, rfl, rfl, by simp [World.setCell], fun k _ hn => Below.heap_setCell w a v k (fun e => hn (e ▸ h))⟩
theorem Upd.drewN (S : Nat → Prop) (w : World) (n : Nat) : Upd S w (w.drewN n) := ⟨rfl, rfl, rfl, Nat.le_refl _, fun _ _ _ => rfl⟩
theorem Upd.grown {S : Nat → Prop} {w w' : World} {row : Option Nat} (h : w.grownBy w' row) (hr : ∀ k, row = some k → S k) : Upd S w w' :=
  ⟨h.os, h.tape, h.output, h.size, fun k hk hn => h.block k hk (fun e => hn (hr k e.symm))⟩
theorem Upd.toBelow {S : Nat → Prop} {B : Nat} {w w' : World} (h : Upd S w w') (hB : B ≤ w.heap.size) (hs : ∀ k, S k → B ≤ k) : Below B w w' :=
  ⟨h.os, h.tape, h.output, h.size, fun k hk => h.block k (by omega) (fun s => by have := hs k s; omega)⟩
theorem Upd.cell {S : Nat → Prop} {w w' : World} (h : Upd S w w') {a : Addr} {v : Value} (hc : w.cell? a = some v) (hn : ¬ S a.block) : w'.cell? a = some v :=
  (World.cell?_of_block (h.block a.block (World.block_lt_of_cell? _ _ hc) hn)).trans hc

/-- A slice into block 'I' that reads as these bytes. -/
def Src (w : World) (I : Nat) (v : Value) (xs : Bytes) : Prop :=
  ∃ a c, v = .slice a xs.length c ∧ xs.length ≤ c ∧ c ≤ 9223372036854775807 ∧ ((a = none ∧ c = 0) ∨ ∃ o, a = some ⟨I, o, none⟩ ∧ ∀ i (h : i < xs.length), w.cell? ⟨I, o + i, none⟩ = some (.int .u8 xs[i].toNat))

/-- The error that stands in a package's variable. -/
def short (E : Addr) : Value := .iface 94 (.pointer (some E))

/-- The reader at block 'R', over bytes in block 'I'. -/
structure Rd (E : Addr) (R I : Nat) (w : World) (s : St) : Prop where
  at_ : ∃ v e, w.heap[R]? = some (.cells #[v, e] 43 (0, 0)) ∧ Src w I v s.1 ∧ ((s.2 = false ∧ e = .nilIface) ∨ (s.2 = true ∧ ∃ x, e = .iface 78 (.agg #[.string x, short E])))
  glob : w.cell? ⟨0, 0, none⟩ = some (short E)
  few : s.1.length ≤ 1000000
  nI : R ≠ I
  n0 : R ≠ 0
  iL : I < w.heap.size

def RS (R : Nat) (k : Nat) : Prop := k = R

theorem Src.upd {w w' : World} {I : Nat} {v : Value} {xs : Bytes} {S : Nat → Prop} (h : Src w I v xs) (hu : Upd S w w') (hn : ¬ S I) : Src w' I v xs := by
  obtain ⟨a, c, h1, h2, h3, h4⟩ := h
  refine ⟨a, c, h1, h2, h3, ?_⟩
  rcases h4 with h4 | ⟨o, h5, h6⟩
  · exact .inl h4
  · exact .inr ⟨o, h5, fun i hi => hu.cell (h6 i hi) hn⟩

/-- A reader that others' steps leave alone. -/
theorem Rd.upd {E : Addr} {R I : Nat} {w w' : World} {s : St} {S : Nat → Prop} (h : Rd E R I w s) (hu : Upd S w w') (h1 : ¬ S R) (h2 : ¬ S I) (h3 : ¬ S 0) : Rd E R I w' s := by
  obtain ⟨⟨v, e, k1, k2, k3⟩, hg, hf, ha, hb, hl⟩ := h
  exact ⟨⟨v, e, (hu.block R (Array.getElem?_eq_some_iff.1 k1).1 h1).trans k1, k2.upd hu h2, k3⟩, hu.cell hg h3, hf, ha, hb, Nat.lt_of_lt_of_le hl hu.size⟩

theorem Rd.lt {E : Addr} {R I : Nat} {w : World} {s : St} (h : Rd E R I w s) : R < w.heap.size := by
  obtain ⟨v, e, k1, _⟩ := h.at_
  exact (Array.getElem?_eq_some_iff.1 k1).1

theorem Src.drop {w : World} {I : Nat} {v : Value} {xs : Bytes} (h : Src w I v xs) {a : Option Addr} {n c : Nat} (hv : v = .slice a n c) (j : Nat) (hj : j ≤ xs.length) :
    n = xs.length ∧ ∀ a', (a' = a ∧ c = j ∨ (∃ o, a = some ⟨I, o, none⟩ ∧ a' = some ⟨I, o + j, none⟩) ∨ (a = none ∧ a' = none)) → Src w I (.slice a' (n - j) (c - j)) (xs.drop j) := by
  obtain ⟨a0, c0, h1, h2, h3, h4⟩ := h
  rw [hv] at h1
  injection h1 with e1 e2 e3
  subst e1; subst e2; subst e3
  refine ⟨rfl, ?_⟩
  intro a' ha
  refine ⟨a', c - j, by rw [List.length_drop], by rw [List.length_drop]; omega, by omega, ?_⟩
  rcases ha with ⟨rfl, hc⟩ | ⟨o, rfl, rfl⟩ | ⟨rfl, rfl⟩
  · rcases h4 with ⟨h4, h5⟩ | ⟨o, h5, h6⟩
    · exact .inl ⟨h4, by omega⟩
    · refine .inr ⟨o, h5, ?_⟩
      intro i hi
      rw [List.length_drop] at hi
      omega
  · rcases h4 with ⟨h4, _⟩ | ⟨o2, h5, h6⟩
    · cases h4
    · injection h5 with h5
      injection h5 with _ h5 _
      subst h5
      refine .inr ⟨o + j, rfl, ?_⟩
      intro i hi
      rw [List.length_drop] at hi
      have := h6 (j + i) (by omega)
      rw [List.getElem_drop, show o + j + i = o + (j + i) by omega]
      exact this
  · rcases h4 with ⟨_, h5⟩ | ⟨o2, h5, _⟩
    · exact .inl ⟨rfl, by omega⟩
    · cases h5

theorem or_shift (acc y m : Nat) (hacc : acc < 2 ^ m) (hm : m ≤ 63) : bits .or .u64 (acc : Int) (IntKind.u64.wrap ((y : Int) * ((2 ^ m : Nat) : Int))) = (((acc + y * 2 ^ m) % 2 ^ 64 : Nat) : Int) := by
  have hp : 2 ^ 64 = 2 ^ m * 2 ^ (64 - m) := by rw [← Nat.pow_add]; congr 1; omega
  have hmod : (y * 2 ^ m) % 2 ^ 64 = (y % 2 ^ (64 - m)) * 2 ^ m := by
    rw [hp, Nat.mul_comm y, Nat.mul_mod_mul_left, Nat.mul_comm]
  have hw : IntKind.u64.wrap ((y : Int) * ((2 ^ m : Nat) : Int)) = (((y % 2 ^ (64 - m)) * 2 ^ m : Nat) : Int) := by
    rw [IntKind.wrap_u64, ← Int.natCast_mul, ← hmod]
    exact (Int.natCast_emod _ _).symm
  have hlt : (y % 2 ^ (64 - m)) * 2 ^ m + acc < 2 ^ 64 := by
    have h1 : y % 2 ^ (64 - m) < 2 ^ (64 - m) := Nat.mod_lt _ (Nat.two_pow_pos _)
    have h2 : (y % 2 ^ (64 - m) + 1) * 2 ^ m ≤ 2 ^ (64 - m) * 2 ^ m := Nat.mul_le_mul_right _ h1
    rw [Nat.add_mul, Nat.one_mul] at h2
    rw [hp, Nat.mul_comm (2 ^ m)]
    omega
  rw [hw]
  have h64 : (2 : Nat) ^ 64 = 18446744073709551616 := by decide
  have hal : acc < 2 ^ 64 := by omega
  have e1 : (BitVec.ofInt 64 (acc : Int)).toNat = acc := by rw [BitVec.ofInt_natCast, BitVec.toNat_ofNat]; exact Nat.mod_eq_of_lt hal
  have e2 : (BitVec.ofInt 64 (((y % 2 ^ (64 - m)) * 2 ^ m : Nat) : Int)).toNat = (y % 2 ^ (64 - m)) * 2 ^ m := by rw [BitVec.ofInt_natCast, BitVec.toNat_ofNat]; exact Nat.mod_eq_of_lt (by omega)
  show IntKind.u64.wrap ((BitVec.ofInt 64 (acc : Int) ||| BitVec.ofInt 64 (((y % 2 ^ (64 - m)) * 2 ^ m : Nat) : Int)).toNat : Int) = _
  rw [BitVec.toNat_or, e1, e2]
  have h3 := Nat.two_pow_add_eq_or_of_lt hacc (y % 2 ^ (64 - m))
  rw [Nat.mul_comm (2 ^ m)] at h3
  rw [Nat.or_comm, ← h3, IntKind.wrap_u64]
  have h4 : (acc + y * 2 ^ m) % 2 ^ 64 = (y % 2 ^ (64 - m)) * 2 ^ m + acc := by
    rw [Nat.add_mod, hmod, Nat.mod_eq_of_lt hal, Nat.mod_eq_of_lt (by omega)]
    omega
  rw [h4]
  omega

theorem byte_or (acc m : Nat) (b : UInt8) (hacc : acc < 2 ^ m) (hm : m ≤ 63) :
    bits .or .u64 (acc : Int) (IntKind.u64.wrap (IntKind.u64.wrap (bits .and .u8 (b.toNat : Int) 127) * ((2 ^ m : Nat) : Int))) = (((acc + b.toNat % 128 * 2 ^ m) % 2 ^ 64 : Nat) : Int) := by
  have hb : b.toNat < 256 := b.toNat_lt
  rw [show bits .and .u8 (b.toNat : Int) 127 = (b.toNat : Int) % 128 from u8_and127 _ (by omega) (by omega)]
  rw [show IntKind.u64.wrap ((b.toNat : Int) % 128) = ((b.toNat % 128 : Nat) : Int) by rw [IntKind.wrap_u64]; omega]
  exact or_shift acc (b.toNat % 128) m hacc hm

theorem zig_even (u : Nat) (hu : u < 2 ^ 64) (h : u % 2 = 0) : bits .xor .i64 ((u / 2 : Nat) : Int) 0 = zig u := by
  have hx : u / 2 < 9223372036854775808 := by omega
  unfold zig
  rw [if_pos h]
  have e1 : (BitVec.ofInt 64 ((u / 2 : Nat) : Int)).toNat = u / 2 := by rw [BitVec.ofInt_natCast, BitVec.toNat_ofNat]; exact Nat.mod_eq_of_lt (by omega)
  show IntKind.i64.wrap ((BitVec.ofInt 64 ((u / 2 : Nat) : Int) ^^^ BitVec.ofInt 64 0).toNat : Int) = _
  rw [BitVec.toNat_xor, e1]
  simp [IntKind.wrap, IntKind.bits, IntKind.signed]
  omega

theorem zig_odd (u : Nat) (hu : u < 2 ^ 64) (h : u % 2 = 1) : bits .xor .i64 ((u / 2 : Nat) : Int) (-1) = zig u := by
  have hx : u / 2 < 9223372036854775808 := by omega
  have := Lib.i64_not (u / 2) hx
  have hc : bits .xor .i64 ((u / 2 : Nat) : Int) (-1) = bits .xor .i64 (-1) ((u / 2 : Nat) : Int) := by
    show IntKind.i64.wrap ((BitVec.ofInt 64 ((u / 2 : Nat) : Int) ^^^ BitVec.ofInt 64 (-1)).toNat : Int) = IntKind.i64.wrap ((BitVec.ofInt 64 (-1) ^^^ BitVec.ofInt 64 ((u / 2 : Nat) : Int)).toNat : Int)
    rw [BitVec.xor_comm]
  rw [hc, this]
  unfold zig
  rw [if_neg (by omega)]

end Go.Proofs.YtdflfcgdfbihfaaDoor
