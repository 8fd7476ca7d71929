import Derived.WalkKit
import Derived.Below
import Derived.Deep.AppendSrc
import Derived.OrdersHeld
import Derived.Laws.CopyRow
set_option linter.unusedVariables false
set_option linter.unusedSimpArgs false
namespace Go.Proofs.YtnfdkmnmniiokaaGreatDoor
open Go.RowKit

/-! An engine that runs the program's code over objects of its own; what it finds holds of every world. -/

/-- The number that a text's bytes are. -/
def bnumL : List UInt8 → Nat → Nat
  | [], a => a
  | b :: bs, a => bnumL bs (a * 256 + b.toNat)
def bnum (s : ByteArray) : Nat := bnumL s.data.toList 0

theorem bnumL_eq : ∀ (l : List UInt8) (a : Nat), bnumL l a = a * 256 ^ l.length + bnumL l 0
  | [], a => by simp [bnumL]
  | b :: bs, a => by
    rw [bnumL, bnumL_eq bs, bnumL, bnumL_eq bs (0 * 256 + b.toNat), List.length_cons, Nat.pow_succ]
    rw [Nat.zero_mul, Nat.zero_add, Nat.add_mul, Nat.mul_assoc, Nat.mul_comm 256 (256 ^ bs.length), Nat.add_assoc]
theorem bnumL_lt : ∀ (l : List UInt8), bnumL l 0 < 256 ^ l.length
  | [] => by simp [bnumL]
  | b :: bs => by
    rw [bnumL, bnumL_eq, List.length_cons, Nat.pow_succ]
    have h1 := bnumL_lt bs
    have h2 : b.toNat < 256 := b.toNat_lt
    have h3 : (b.toNat + 1) * 256 ^ bs.length ≤ 256 * 256 ^ bs.length := Nat.mul_le_mul_right _ (by omega)
    rw [Nat.add_mul, Nat.one_mul] at h3
    rw [Nat.zero_mul, Nat.zero_add, Nat.mul_comm (256 ^ bs.length) 256]
    omega
theorem bnumL_append (l m : List UInt8) : bnumL (l ++ m) 0 = bnumL l 0 * 256 ^ m.length + bnumL m 0 := by
  have key : ∀ (l : List UInt8) (a : Nat), bnumL (l ++ m) a = bnumL m (bnumL l a) := fun l => by
    induction l with
    | nil => intro a; rfl
    | cons b bs ih => intro a; rw [List.cons_append, bnumL, ih, bnumL]
  rw [key, bnumL_eq]
theorem bnumL_inj : ∀ {l m : List UInt8}, l.length = m.length → bnumL l 0 = bnumL m 0 → l = m
  | [], [], _, _ => rfl
  | [], _ :: _, h, _ => by simp at h
  | _ :: _, [], h, _ => by simp at h
  | a :: l, b :: m, h, e => by
    have hl : l.length = m.length := by simpa using h
    rw [bnumL, bnumL_eq, bnumL, bnumL_eq m] at e
    simp only [Nat.zero_mul, Nat.zero_add, hl] at e
    have h1 := bnumL_lt l
    have h2 := bnumL_lt m
    rw [hl] at h1
    have hp : 0 < 256 ^ m.length := Nat.pos_of_ne_zero (by simp)
    have d1 : (a.toNat * 256 ^ m.length + bnumL l 0) / 256 ^ m.length = a.toNat := by
      rw [Nat.mul_comm, Nat.mul_add_div hp, Nat.div_eq_of_lt h1, Nat.add_zero]
    have d2 : (b.toNat * 256 ^ m.length + bnumL m 0) / 256 ^ m.length = b.toNat := by
      rw [Nat.mul_comm, Nat.mul_add_div hp, Nat.div_eq_of_lt h2, Nat.add_zero]
    have hab : a.toNat = b.toNat := by rw [← d1, ← d2, e]
    have hlm : bnumL l 0 = bnumL m 0 := by rw [hab] at e; omega
    rw [UInt8.toNat_inj.1 hab, bnumL_inj hl hlm]

theorem bnum_inj {s t : ByteArray} (h : s.size = t.size) (e : bnum s = bnum t) : s = t := by
  have hl : s.data.toList = t.data.toList := bnumL_inj (by simpa using h) e
  cases s; cases t
  congr 1
  exact Array.toList_inj.1 hl

/-- What the engine holds: constants; places in its own objects; texts as numbers. -/
inductive EV where
  | bool (b : Bool)
  | int (k : IntKind) (n : Int)
  | str (l v : Nat)
  | val (v : Value)
  | ptr (o off : Nat)
  | slc (o off n sz off0 : Nat)
  | mp (o : Nat)
  | fn (f : FuncId) (first cap : List EV)
  | ifc (t : TypeId) (x : EV)
  | mfn (m : String) (x : EV)
  | agg (cs : List EV)
  | tup (cs : List EV)
  | sym (i : Nat)
  | any

/-- Where an object lies: its block, its first cell, how many cells the block has. -/
abbrev Pl := Nat → Option (Nat × Nat × Nat)

section
variable (ρ : Pl) (η : Nat → Value)
mutual
def VR : EV → Value → Prop
  | .bool b, u => u = .bool b
  | .int k n, u => u = .int k n
  | .str l v, u => ∃ s, u = .string s ∧ s.size = l ∧ bnum s = v
  | .val v, u => u = v
  | .ptr o off, u => ∃ b d N, ρ o = some (b, d, N) ∧ u = .pointer (some ⟨b, d + off, none⟩)
  | .slc o off n sz off0, u => ∃ b d N c, ρ o = some (b, d, N) ∧ u = .slice (some ⟨b, d + (if c = 0 then off0 else off), none⟩) n c ∧ n ≤ c ∧ c ≤ maxLen ∧ 0 < sz ∧ d + off + c * sz = N
  | .mp o, u => ∃ b d N, ρ o = some (b, d, N) ∧ u = .map (some b)
  | .fn f fs cs, u => ∃ us vs, u = .func (.func f) us vs ∧ VL fs us.toList ∧ VL cs vs.toList
  | .ifc t x, u => ∃ v, u = .iface t v ∧ VR x v
  | .mfn m x, u => ∃ v, u = .func (.method m) #[v] #[] ∧ VR x v
  | .agg cs, u => ∃ us, u = .agg us ∧ VL cs us.toList
  | .tup cs, u => ∃ us, u = .tuple us ∧ VL cs us.toList
  | .sym i, u => u = η i
  | .any, _ => True
def VL : List EV → List Value → Prop
  | [], [] => True
  | x :: xs, u :: us => VR x u ∧ VL xs us
  | [], _ :: _ => False
  | _ :: _, [] => False
end
end

def Pl.Le (ρ ρ' : Pl) : Prop := ∀ o x, ρ o = some x → ρ' o = some x
theorem Pl.Le.refl (ρ : Pl) : ρ.Le ρ := fun _ _ h => h
theorem Pl.Le.trans {a b c : Pl} (h : a.Le b) (k : b.Le c) : a.Le c := fun o x e => k o x (h o x e)

section
variable {η : Nat → Value}
mutual
theorem VR.le {ρ ρ' : Pl} (l : ρ.Le ρ') : ∀ (x : EV) (u : Value), VR ρ η x u → VR ρ' η x u
  | .bool _, _, h => h
  | .int _ _, _, h => h
  | .str _ _, _, h => h
  | .val _, _, h => h
  | .ptr o off, _, ⟨b, d, N, h, e⟩ => ⟨b, d, N, l o _ h, e⟩
  | .slc o off n sz off0, _, ⟨b, d, N, c, h, e⟩ => ⟨b, d, N, c, l o _ h, e⟩
  | .mp o, _, ⟨b, d, N, h, e⟩ => ⟨b, d, N, l o _ h, e⟩
  | .fn f fs cs, _, ⟨us, vs, e, h1, h2⟩ => ⟨us, vs, e, VL.le l fs _ h1, VL.le l cs _ h2⟩
  | .ifc t x, _, ⟨v, e, h⟩ => ⟨v, e, VR.le l x v h⟩
  | .mfn t x, _, ⟨v, e, h⟩ => ⟨v, e, VR.le l x v h⟩
  | .agg cs, _, ⟨us, e, h⟩ => ⟨us, e, VL.le l cs _ h⟩
  | .tup cs, _, ⟨us, e, h⟩ => ⟨us, e, VL.le l cs _ h⟩
  | .sym _, _, h => h
  | .any, _, h => h
theorem VL.le {ρ ρ' : Pl} (l : ρ.Le ρ') : ∀ (cs : List EV) (us : List Value), VL ρ η cs us → VL ρ' η cs us
  | [], [], h => h
  | x :: xs, u :: us, ⟨h, hs⟩ => ⟨VR.le l x u h, VL.le l xs us hs⟩
  | [], _ :: _, h => h.elim
  | _ :: _, [], h => h.elim
end
mutual
/-- Is all of a thing told? -/
def sure : EV → Bool
  | .any => false
  | .fn _ a b => sureL a && sureL b
  | .ifc _ x => sure x
  | .mfn _ x => sure x
  | .agg cs => sureL cs
  | .tup cs => sureL cs
  | _ => true
def sureL : List EV → Bool
  | [] => true
  | x :: xs => sure x && sureL xs
end
mutual
/-- One thing of the engine's stands for one value. -/
theorem VR.same {ρ : Pl} : ∀ (x : EV) (u v : Value), sure x = true → VR ρ η x u → VR ρ η x v → u = v
  | .bool _, _, _, _, h, k => Eq.trans h (Eq.symm k)
  | .int _ _, _, _, _, h, k => Eq.trans h (Eq.symm k)
  | .str _ _, _, _, _, ⟨s, e1, e2, e3⟩, ⟨t, k1, k2, k3⟩ => by
    rw [e1, k1, bnum_inj (e2.trans k2.symm) (e3.trans k3.symm)]
  | .val _, _, _, _, h, k => Eq.trans h (Eq.symm k)
  | .ptr o off, _, _, _, ⟨b, d, N, h, e⟩, ⟨b', d', N', h', e'⟩ => by
    rw [h] at h'; simp only [Option.some.injEq, Prod.mk.injEq] at h'
    obtain ⟨rfl, rfl, rfl⟩ := h'
    rw [e, e']
  | .slc o off n sz off0, _, _, _, ⟨b, d, N, c, h, e, _, _, hz, hN⟩, ⟨b', d', N', c', h', e', _, _, _, hN'⟩ => by
    rw [h] at h'; simp only [Option.some.injEq, Prod.mk.injEq] at h'
    obtain ⟨rfl, rfl, rfl⟩ := h'
    have hc : c = c' := Nat.eq_of_mul_eq_mul_right hz (by omega)
    rw [e, e', hc]
  | .mp o, _, _, _, ⟨b, d, N, h, e⟩, ⟨b', d', N', h', e'⟩ => by
    rw [h] at h'; simp only [Option.some.injEq, Prod.mk.injEq] at h'
    rw [e, e', h'.1]
  | .fn f fs cs, _, _, hs, ⟨us, vs, e, h1, h2⟩, ⟨us', vs', e', h1', h2'⟩ => by
    simp only [sure, Bool.and_eq_true] at hs
    rw [e, e', Array.toList_inj.1 (VL.same fs _ _ hs.1 h1 h1'), Array.toList_inj.1 (VL.same cs _ _ hs.2 h2 h2')]
  | .ifc t x, _, _, hs, ⟨v, e, h⟩, ⟨v', e', h'⟩ => by rw [e, e', VR.same x v v' (by simpa [sure] using hs) h h']
  | .mfn t x, _, _, hs, ⟨v, e, h⟩, ⟨v', e', h'⟩ => by rw [e, e', VR.same x v v' (by simpa [sure] using hs) h h']
  | .agg cs, _, _, hs, ⟨us, e, h⟩, ⟨us', e', h'⟩ => by rw [e, e', Array.toList_inj.1 (VL.same cs _ _ (by simpa [sure] using hs) h h')]
  | .tup cs, _, _, hs, ⟨us, e, h⟩, ⟨us', e', h'⟩ => by rw [e, e', Array.toList_inj.1 (VL.same cs _ _ (by simpa [sure] using hs) h h')]
  | .sym _, _, _, _, h, k => Eq.trans h (Eq.symm k)
  | .any, _, _, hs, _, _ => by simp [sure] at hs
theorem VL.same {ρ : Pl} : ∀ (cs : List EV) (us vs : List Value), sureL cs = true → VL ρ η cs us → VL ρ η cs vs → us = vs
  | [], [], [], _, _, _ => rfl
  | x :: xs, u :: us, v :: vs, hs, ⟨h, hs1⟩, ⟨k, ks⟩ => by
    simp only [sureL, Bool.and_eq_true] at hs
    rw [VR.same x u v hs.1 h k, VL.same xs us vs hs.2 hs1 ks]
  | [], _ :: _, _, _, h, _ => h.elim
  | [], [], _ :: _, _, _, h => h.elim
  | _ :: _, [], _, _, h, _ => h.elim
  | _ :: _, _ :: _, [], _, _, h => h.elim
end

variable {ρ : Pl}
theorem VL.length : ∀ {cs : List EV} {us : List Value}, VL ρ η cs us → us.length = cs.length
  | [], [], _ => rfl
  | _ :: _, _ :: _, ⟨_, h⟩ => by simp [VL.length h]
  | [], _ :: _, h => h.elim
  | _ :: _, [], h => h.elim
theorem VL.get : ∀ {cs : List EV} {us : List Value} (i : Nat) {x : EV}, VL ρ η cs us → cs[i]? = some x → ∃ u, us[i]? = some u ∧ VR ρ η x u
  | [], _, _, _, _, h => by simp at h
  | _ :: _, [], _, _, h, _ => h.elim
  | y :: ys, u :: us, 0, x, ⟨h, _⟩, e => by simp at e; subst e; exact ⟨u, rfl, h⟩
  | y :: ys, u :: us, i + 1, x, ⟨_, h⟩, e => by simpa using VL.get i h (by simpa using e)
theorem VL.append : ∀ {cs ds : List EV} {us vs : List Value}, VL ρ η cs us → VL ρ η ds vs → VL ρ η (cs ++ ds) (us ++ vs)
  | [], _, [], _, _, k => k
  | _ :: _, _, _ :: _, _, ⟨h, hs⟩, k => ⟨h, VL.append hs k⟩
  | [], _, _ :: _, _, h, _ => h.elim
  | _ :: _, _, [], _, h, _ => h.elim
theorem VL.take : ∀ {cs : List EV} {us : List Value} (n : Nat), VL ρ η cs us → VL ρ η (cs.take n) (us.take n)
  | [], [], n, _ => by simp [VL]
  | _ :: _, _ :: _, 0, _ => by simp [VL]
  | _ :: _, _ :: _, n + 1, ⟨h, hs⟩ => ⟨h, VL.take n hs⟩
  | [], _ :: _, _, h => h.elim
  | _ :: _, [], _, h => h.elim
theorem VL.drop : ∀ {cs : List EV} {us : List Value} (n : Nat), VL ρ η cs us → VL ρ η (cs.drop n) (us.drop n)
  | [], [], n, _ => by simp [VL]
  | _ :: _, _ :: _, 0, h => h
  | _ :: _, _ :: _, n + 1, ⟨_, hs⟩ => VL.drop n hs
  | [], _ :: _, _, h => h.elim
  | _ :: _, [], _, h => h.elim
theorem VL.set : ∀ {cs : List EV} {us : List Value} (i : Nat) {x : EV} {u : Value}, VL ρ η cs us → VR ρ η x u → VL ρ η (cs.set i x) (us.set i u)
  | [], [], _, _, _, _, _ => by simp [VL]
  | _ :: _, _ :: _, 0, _, _, ⟨_, hs⟩, k => ⟨k, hs⟩
  | _ :: _, _ :: _, i + 1, _, _, ⟨h, hs⟩, k => ⟨h, VL.set i hs k⟩
  | [], _ :: _, _, _, _, h, _ => h.elim
  | _ :: _, [], _, _, _, h, _ => h.elim
theorem VL.one {x : EV} {u : Value} (h : VR ρ η x u) : VL ρ η [x] [u] := ⟨h, trivial⟩
end

/-- A constant of the program's. -/
def ofVal : Value → EV
  | .bool b => .bool b
  | .int k n => .int k n
  | .string s => .str s.size (bnum s)
  | v => .val v
theorem ofVal_sound (ρ : Pl) (η : Nat → Value) (v : Value) : VR ρ η (ofVal v) v := by
  cases v <;> first | rfl | exact ⟨_, rfl, rfl, rfl⟩
theorem vl_ofVal (ρ : Pl) (η : Nat → Value) : ∀ (l : List Value), VL ρ η (l.map ofVal) l
  | [] => trivial
  | v :: l => ⟨ofVal_sound ρ η v, vl_ofVal ρ η l⟩

end Go.Proofs.YtnfdkmnmniiokaaGreatDoor
