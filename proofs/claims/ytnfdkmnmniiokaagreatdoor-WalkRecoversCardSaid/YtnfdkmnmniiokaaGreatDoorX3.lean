import Derived.Test.YtnfdkmnmniiokaaGreatDoorX2
set_option linter.unusedVariables false
set_option linter.unusedSimpArgs false
namespace Go.Proofs.YtnfdkmnmniiokaaGreatDoor
open Go.RowKit

/-! What the program's types are, told shortly (each a closed fact). -/
def sizeA (P : Program) (t : TypeId) : Option Nat := (P.info? t).map (·.size)
def bytesA (P : Program) (t : TypeId) : Option Nat := (P.info? t).map (·.bytes)
def zeroA (P : Program) (t : TypeId) : Option (List Value) := ((P.info? t).bind (·.zero)).map (·.cells.toList)
def elemA (P : Program) (t : TypeId) : Option TypeId := match P.underlying t with | some (.slice e) => some e | _ => none
def aggA (P : Program) (t : TypeId) : Option Bool := match P.underlying t with | some (.struct _) => some true | some (.array _ _) => some true | some _ => some false | none => none
def fieldA (P : Program) (s : TypeId) (f : Nat) : Option (Nat × TypeId) := match P.underlying s with | some (.struct fs) => (fs[f]?).map (fun x => (x.offset, x.type)) | _ => none
def stringA (P : Program) (t : TypeId) : Bool := match P.underlying t with | some .string => true | _ => false
def boolA (P : Program) (t : TypeId) : Bool := match P.underlying t with | some .bool => true | _ => false
def concreteA (P : Program) (t : TypeId) : Bool := match P.underlying t with | some (.interface _) => false | some _ => true | none => false

/-- What an operand is. -/
def evO (fr : List EV) : Operand → EV
  | .tmp t => match fr[t]? with | some x => x | none => .val undef
  | .const v => ofVal v
  | .global g => .val (.pointer (some ⟨g, 0, none⟩))
  | .func f => .fn f [] []

section
variable {ρ : Pl} {η : Nat → Value}
theorem evO_sound {fr : List EV} {a : Act} (h : VL ρ η fr a.tmps.toList) (x : Operand) : VR ρ η (evO fr x) (a.eval x) := by
  cases x with
  | tmp t =>
    simp only [evO, Act.eval]
    cases ht : fr[t]? with
    | none =>
      have hl := VL.length h
      rw [List.getElem?_eq_none_iff] at ht
      rw [Array.length_toList] at hl
      simp only
      rw [Array.getD_eq_getD_getElem?, Array.getElem?_eq_none (by omega)]
      exact rfl
    | some v =>
      obtain ⟨u, h1, h2⟩ := VL.get t h ht
      simp only
      rw [Array.getD_eq_getD_getElem?, ← Array.getElem?_toList, h1]
      exact h2
  | const v => exact ofVal_sound ρ η v
  | global g => exact rfl
  | func f => exact ⟨#[], #[], rfl, trivial, trivial⟩
end

/-- Is a text less than another, byte by byte? -/
def sless (l v m w : Nat) : Bool :=
  let k := max l m
  let a := v * 256 ^ (k - l)
  let b := w * 256 ^ (k - m)
  Nat.blt a b || (Nat.beq a b && Nat.blt l m)

theorem pad_lt (x : List UInt8) (L : Nat) (h : x.length ≤ L) : bnumL x 0 * 256 ^ (L - x.length) < 256 ^ L := by
  have h1 := bnumL_lt x
  have e : (256 : Nat) ^ L = 256 ^ x.length * 256 ^ (L - x.length) := by rw [← Nat.pow_add]; congr 1; omega
  rw [e]
  exact Nat.mul_lt_mul_of_pos_right h1 (Nat.pos_of_ne_zero (by simp))

theorem less_pad : ∀ (x y : List UInt8) (L : Nat), x.length ≤ L → y.length ≤ L →
    (Op.bytesLess x y = true ↔ bnumL x 0 * 256 ^ (L - x.length) < bnumL y 0 * 256 ^ (L - y.length) ∨ bnumL x 0 * 256 ^ (L - x.length) = bnumL y 0 * 256 ^ (L - y.length) ∧ x.length < y.length)
  | x, [], L, _, _ => by
    simp [Op.bytesLess, bnumL]
  | [], b :: y, L, _, _ => by
    simp only [Op.bytesLess, bnumL, true_iff, Nat.zero_mul, List.length_nil, List.length_cons]
    by_cases h : bnumL y (0 + b.toNat) * 256 ^ (L - (y.length + 1)) = 0
    · exact .inr ⟨h.symm, by omega⟩
    · exact .inl (by omega)
  | a :: x, b :: y, 0, h, _ => by simp at h
  | a :: x, b :: y, L + 1, h1, h2 => by
    simp only [List.length_cons] at h1 h2
    have ih := less_pad x y L (by omega) (by omega)
    have p1 := pad_lt x L (by omega)
    have p2 := pad_lt y L (by omega)
    have e1 : bnumL (a :: x) 0 * 256 ^ (L + 1 - (a :: x).length) = a.toNat * 256 ^ L + bnumL x 0 * 256 ^ (L - x.length) := by
      rw [bnumL, bnumL_eq, Nat.zero_mul, Nat.zero_add, List.length_cons, Nat.add_mul, Nat.mul_assoc, ← Nat.pow_add]
      rw [show L + 1 - (x.length + 1) = L - x.length by omega, show x.length + (L - x.length) = L by omega]
    have e2 : bnumL (b :: y) 0 * 256 ^ (L + 1 - (b :: y).length) = b.toNat * 256 ^ L + bnumL y 0 * 256 ^ (L - y.length) := by
      rw [bnumL, bnumL_eq, Nat.zero_mul, Nat.zero_add, List.length_cons, Nat.add_mul, Nat.mul_assoc, ← Nat.pow_add]
      rw [show L + 1 - (y.length + 1) = L - y.length by omega, show y.length + (L - y.length) = L by omega]
    rw [e1, e2]
    simp only [Op.bytesLess, Bool.or_eq_true, decide_eq_true_eq, Bool.and_eq_true, beq_iff_eq, List.length_cons, ih, UInt8.lt_iff_toNat_lt]
    generalize bnumL x 0 * 256 ^ (L - x.length) = X at *
    generalize bnumL y 0 * 256 ^ (L - y.length) = Y at *
    rcases Nat.lt_trichotomy a.toNat b.toNat with h | h | h
    · have h3 : (a.toNat + 1) * 256 ^ L ≤ b.toNat * 256 ^ L := Nat.mul_le_mul_right _ h
      rw [Nat.add_mul, Nat.one_mul] at h3
      have q : ¬ a = b := fun e => by rw [e] at h; omega
      constructor
      · intro _; left; omega
      · intro _; exact .inl h
    · have q : a = b := UInt8.toNat_inj.1 h
      subst q
      simp only [Nat.lt_irrefl, false_or, true_and]
      constructor
      · rintro (k | ⟨k, k2⟩)
        · left; omega
        · right; exact ⟨by omega, by omega⟩
      · rintro (k | ⟨k, k2⟩)
        · left; omega
        · right; exact ⟨by omega, by omega⟩
    · have h3 : (b.toNat + 1) * 256 ^ L ≤ a.toNat * 256 ^ L := Nat.mul_le_mul_right _ h
      rw [Nat.add_mul, Nat.one_mul] at h3
      have q : ¬ a = b := fun e => by rw [e] at h; omega
      constructor
      · rintro (k | ⟨k, _⟩)
        · omega
        · exact absurd k q
      · rintro (k | ⟨k, _⟩) <;> omega

theorem sless_eq (x y : ByteArray) : Op.bytesLess x.toList y.toList = sless x.size (bnum x) y.size (bnum y) := by
  rw [ByteArray.toList_eq, ByteArray.toList_eq]
  have hx : x.data.toList.length = x.size := by simp
  have hy : y.data.toList.length = y.size := by simp
  have h := less_pad x.data.toList y.data.toList (max x.size y.size) (by rw [hx]; exact Nat.le_max_left _ _) (by rw [hy]; exact Nat.le_max_right _ _)
  rw [hx, hy] at h
  rw [Bool.eq_iff_iff, h]
  unfold sless bnum
  simp only [Bool.or_eq_true, Nat.blt_eq, Bool.and_eq_true, Nat.beq_eq]
theorem seq_eq (x y : ByteArray) : (x.toList == y.toList) = (Nat.beq x.size y.size && Nat.beq (bnum x) (bnum y)) := by
  rw [ByteArray.toList_eq, ByteArray.toList_eq, Bool.eq_iff_iff]
  simp only [beq_iff_eq, Bool.and_eq_true, Nat.beq_eq]
  constructor
  · intro h
    exact ⟨by simpa using congrArg List.length h, by unfold bnum; rw [h]⟩
  · rintro ⟨h1, h2⟩
    rw [bnum_inj h1 h2]
theorem bnum_append (x y : ByteArray) : bnum (x ++ y) = bnum x * 256 ^ y.size + bnum y := by
  unfold bnum
  have h : (x ++ y).data.toList = x.data.toList ++ y.data.toList := by rw [ByteArray.data_append, Array.toList_append]
  rw [h, bnumL_append]
  rfl

/-- Answers that are laid down: of what the engine cannot tell by itself. -/
structure Orc (P : Program) (η : Nat → Value) where
  bin : BinOp → EV → EV → Option EV
  ok : ∀ op x y r, bin op x y = some r → ∀ (ρ : Pl) (t : TypeId) (u v : Value) (ox oy : Operand) (w : World), VR ρ η x u → VR ρ η y v →
    ∃ q, (do eqGuard op t ox oy u v; binOp op t u v : Sem Value).run P w = .ok q w ∧ VR ρ η r q
def Orc.none (P : Program) (η : Nat → Value) : Orc P η := ⟨fun _ _ _ => .none, fun _ _ _ _ h => by cases h⟩

def wrapQ (k : IntKind) (n : Int) : Int := k.wrap n

/-- One of the two is nothing: which nothing it is. -/
inductive Nil | ptr | slc | mp | fn | ifc deriving DecidableEq
def nilOf (P : Program) (t : TypeId) : Option Nil :=
  match P.underlying t with
  | some (.pointer _) => some .ptr
  | some (.slice _) => some .slc
  | some (.map _ _) => some .mp
  | some (.func _ _ _) => some .fn
  | some (.interface _) => some .ifc
  | _ => none
/-- Is a thing nil? -/
def isNil : Nil → EV → Option Bool
  | .ptr, .val (.pointer none) => some true
  | .ptr, .ptr _ _ => some false
  | .slc, .val (.slice none _ _) => some true
  | .slc, .slc _ _ _ _ _ => some false
  | .mp, .val (.map none) => some true
  | .mp, .mp _ => some false
  | .fn, .val .nilFunc => some true
  | .fn, .fn _ _ _ => some false
  | .ifc, .ifc _ _ => some false
  | _, _ => none

section
variable {P : Program} {η : Nat → Value}

/-- Two operands. -/
def abin (P : Program) (O : Orc P η) (op : BinOp) (t : TypeId) (x y : EV) : Option EV :=
  match x, y with
  | .int k a, .int k' b =>
    match op with
    | .shl => if b < 0 then none else some (.int k (wrapQ k (a * 2 ^ (min b.toNat k.bits))))
    | .shr => if b < 0 then none else some (.int k (a.fdiv (2 ^ (min b.toNat k.bits))))
    | _ =>
    if k = k' then
      match op with
      | .add => some (.int k (wrapQ k (a + b)))
      | .sub => some (.int k (wrapQ k (a - b)))
      | .mul => some (.int k (wrapQ k (a * b)))
      | .quo => if b = 0 then none else some (.int k (wrapQ k (a.tdiv b)))
      | .rem => if b = 0 then none else some (.int k (a.tmod b))
      | .and => some (.int k (wrapQ k ((BitVec.ofInt k.bits a &&& BitVec.ofInt k.bits b).toNat)))
      | .or => some (.int k (wrapQ k ((BitVec.ofInt k.bits a ||| BitVec.ofInt k.bits b).toNat)))
      | .xor => some (.int k (wrapQ k ((BitVec.ofInt k.bits a ^^^ BitVec.ofInt k.bits b).toNat)))
      | .eql => some (.bool (decide (a = b)))
      | .neq => some (.bool (!decide (a = b)))
      | .lss => some (.bool (decide (a < b)))
      | .leq => some (.bool (decide (a ≤ b)))
      | .gtr => some (.bool (decide (a > b)))
      | .geq => some (.bool (decide (a ≥ b)))
      | _ => none
    else none
  | .str l v, .str m w =>
    match op with
    | .add => if l + m ≤ 9223372036854775807 then some (.str (l + m) (v * 256 ^ m + w)) else none
    | .eql => some (.bool (Nat.beq l m && Nat.beq v w))
    | .neq => some (.bool (!(Nat.beq l m && Nat.beq v w)))
    | .lss => some (.bool (sless l v m w))
    | .leq => some (.bool (sless l v m w || (Nat.beq l m && Nat.beq v w)))
    | .gtr => some (.bool (!(sless l v m w || (Nat.beq l m && Nat.beq v w))))
    | .geq => some (.bool (!sless l v m w))
    | _ => none
  | .bool a, .bool b =>
    if boolA P t then
      match op with
      | .eql => some (.bool (a == b))
      | .neq => some (.bool (!(a == b)))
      | _ => none
    else none
  | x, y =>
    match nilOf P t with
    | some nk => match isNil nk x, isNil nk y with
      | some a, some b => if a || b then (match op with | .eql => some (.bool (a && b)) | .neq => some (.bool (!(a && b))) | _ => none) else O.bin op x y
      | _, _ => O.bin op x y
    | none => O.bin op x y

theorem boolA_eq {t : TypeId} (h : boolA P t = true) : P.underlying t = some .bool := by
  unfold boolA at h
  split at h
  · assumption
  · cases h

def NilForm : Nil → Bool → Value → Prop
  | .ptr, true, u => u = .pointer none
  | .ptr, false, u => ∃ a, u = .pointer (some a)
  | .slc, true, u => ∃ n c, u = .slice none n c
  | .slc, false, u => ∃ a n c, u = .slice (some a) n c
  | .mp, true, u => u = .map none
  | .mp, false, u => ∃ b, u = .map (some b)
  | .fn, true, u => u = .nilFunc
  | .fn, false, u => ∃ f a b, u = .func f a b
  | .ifc, true, _ => False
  | .ifc, false, u => ∃ t v, u = .iface t v
theorem isNil_nf {ρ : Pl} {nk : Nil} {x : EV} {u : Value} {a : Bool} (hx : isNil nk x = some a) (hu : VR ρ η x u) : NilForm nk a u := by
  unfold isNil at hx
  split at hx <;> first | (cases hx; done) | (injection hx with hx; subst hx)
  · exact hu
  · obtain ⟨b, d, N, _, h⟩ := hu; exact ⟨_, h⟩
  · exact ⟨_, _, hu⟩
  · obtain ⟨b, d, N, c, _, h, _⟩ := hu; exact ⟨_, _, _, h⟩
  · exact hu
  · obtain ⟨b, d, N, _, h⟩ := hu; exact ⟨_, h⟩
  · exact hu
  · obtain ⟨us, vs, h, _⟩ := hu; exact ⟨_, _, _, h⟩
  · obtain ⟨v, h, _⟩ := hu; exact ⟨_, _, h⟩
theorem nil_sound {t : TypeId} {nk : Nil} {u v : Value} {a b : Bool} (hn : nilOf P t = some nk) (hu : NilForm nk a u) (hv : NilForm nk b v) (hab : (a || b) = true) (w : World) :
    (Op.equal t u v).run P w = .ok (a && b) w := by
  unfold nilOf at hn
  have hund : ∀ d, P.underlying t = some d → (underlying t).run P w = .ok d w := fun d hd => by simp [underlying, hd]
  unfold Op.equal
  rw [show Op.maxDepth = (Op.maxDepth - 1) + 1 from rfl]
  split at hn <;> first | (cases hn; done) | skip
  all_goals
    rename_i hd
    injection hn with hn
    subst hn
    have hd := hund _ hd
    cases a <;> cases b <;> first | (exact absurd hab (by decide)) | skip
  · obtain ⟨a, rfl⟩ := hu; obtain rfl := hv; simp only [Op.equalIn, Sem.run_bind, hd, Result.andThen_ok, Sem.run_pure, Option.isNone]; rfl
  · obtain ⟨a, rfl⟩ := hv; obtain rfl := hu; simp only [Op.equalIn, Sem.run_bind, hd, Result.andThen_ok, Sem.run_pure, Option.isNone]; rfl
  · obtain rfl := hv; obtain rfl := hu; simp only [Op.equalIn, Sem.run_bind, hd, Result.andThen_ok, Sem.run_pure, Option.isNone]; rfl
  · obtain ⟨a, n, c, rfl⟩ := hu; obtain ⟨_, _, rfl⟩ := hv; simp only [Op.equalIn, Sem.run_bind, hd, Result.andThen_ok, Sem.run_pure, Option.isNone]; rfl
  · obtain ⟨a, n, c, rfl⟩ := hv; obtain ⟨_, _, rfl⟩ := hu; simp only [Op.equalIn, Sem.run_bind, hd, Result.andThen_ok, Sem.run_pure, Option.isNone]; rfl
  · obtain ⟨_, _, rfl⟩ := hv; obtain ⟨_, _, rfl⟩ := hu; simp only [Op.equalIn, Sem.run_bind, hd, Result.andThen_ok, Sem.run_pure, Option.isNone]; rfl
  · obtain ⟨a, rfl⟩ := hu; obtain rfl := hv; simp only [Op.equalIn, Sem.run_bind, hd, Result.andThen_ok, Sem.run_pure, Option.isNone]; rfl
  · obtain ⟨a, rfl⟩ := hv; obtain rfl := hu; simp only [Op.equalIn, Sem.run_bind, hd, Result.andThen_ok, Sem.run_pure, Option.isNone]; rfl
  · obtain rfl := hv; obtain rfl := hu; simp only [Op.equalIn, Sem.run_bind, hd, Result.andThen_ok, Sem.run_pure, Option.isNone]; rfl
  · obtain ⟨_, _, _, rfl⟩ := hu; obtain rfl := hv; simp only [Op.equalIn, Sem.run_bind, hd, Result.andThen_ok, Sem.run_pure, Option.isNone]; rfl
  · obtain ⟨_, _, _, rfl⟩ := hv; obtain rfl := hu; simp only [Op.equalIn, Sem.run_bind, hd, Result.andThen_ok, Sem.run_pure, Option.isNone]; rfl
  · obtain rfl := hv; obtain rfl := hu; simp only [Op.equalIn, Sem.run_bind, hd, Result.andThen_ok, Sem.run_pure, Option.isNone]; rfl
  · exact hv.elim
  · exact hu.elim
  · exact hu.elim

theorem NilForm.plain {nk : Nil} {u : Value} {a : Bool} (h : NilForm nk a u) :
    (∀ k n, u ≠ .int k n) ∧ (∀ s, u ≠ .string s) ∧ (∀ k n, u ≠ .float k n) ∧ (∀ k n m, u ≠ .complex k n m) ∧ u ≠ .nilIface ∧ (∀ cs, u ≠ .agg cs) := by
  cases nk <;> cases a <;> simp only [NilForm] at h <;> first
    | (exact h.elim)
    | (subst h; simp; done)
    | (obtain ⟨_, rfl⟩ := h; simp; done)
    | (obtain ⟨_, _, rfl⟩ := h; simp; done)
    | (obtain ⟨_, _, _, rfl⟩ := h; simp; done)

set_option maxRecDepth 4000 in
theorem abin_sound {O : Orc P η} {ρ : Pl} {op : BinOp} {t : TypeId} {x y r : EV} {u v : Value} (h : abin P O op t x y = some r) (hu : VR ρ η x u) (hv : VR ρ η y v) (ox oy : Operand) (w : World) :
    ∃ q, (do eqGuard op t ox oy u v; binOp op t u v : Sem Value).run P w = .ok q w ∧ VR ρ η r q := by
  unfold abin at h
  split at h
  · rename_i k a k' b
    obtain rfl : u = .int k a := hu
    obtain rfl : v = .int k' b := hv
    have hg : (eqGuard op t ox oy (.int k a) (.int k' b)).run P w = .ok () w := by
      unfold eqGuard
      split <;> simp
    rw [Sem.run_bind, hg, Result.andThen_ok]
    split at h
    · split at h
      · cases h
      · rename_i hb
        injection h with h; subst h
        exact ⟨_, by simp only [binOp, Op.shift]; rw [if_neg hb]; rfl, rfl⟩
    · split at h
      · cases h
      · rename_i hb
        injection h with h; subst h
        exact ⟨_, by simp only [binOp, Op.shift]; rw [if_neg hb]; rfl, rfl⟩
    · rename_i n1 n2
      split at h
      · rename_i hk
        subst hk
        cases op <;> simp only [binOp, Op.intArith, Op.intDiv, Op.intCmp, Op.intBits, ne_eq, not_true_eq_false, if_false] at h ⊢ <;>
          first
            | (injection h with h; subst h; exact ⟨_, rfl, rfl⟩)
            | (split at h <;> first | (cases h; done) | (rename_i hb; injection h with h; subst h; rw [if_neg hb]; exact ⟨_, rfl, rfl⟩))
            | (cases h; done)
            | (exact absurd rfl n1)
            | (exact absurd rfl n2)
      · cases h
  · rename_i l v1 m w1
    obtain ⟨s, rfl, rfl, rfl⟩ := hu
    obtain ⟨s', rfl, rfl, rfl⟩ := hv
    have hg : (eqGuard op t ox oy (.string s) (.string s')).run P w = .ok () w := by
      unfold eqGuard
      split <;> simp
    rw [Sem.run_bind, hg, Result.andThen_ok]
    cases op <;> simp only [binOp, Op.stringOp] at h ⊢ <;>
      first
        | (injection h with h; subst h; exact ⟨_, rfl, by simp only [VR, seq_eq, sless_eq]⟩)
        | (split at h <;> first
            | (cases h; done)
            | (rename_i hb; injection h with h; subst h
               rw [if_neg (by
                 rw [show IntKind.i64.max = 9223372036854775807 from rfl]; omega)]
               exact ⟨_, rfl, _, rfl, ByteArray.size_append, bnum_append s s'⟩))
        | (cases h; done)
  · rename_i a b
    obtain rfl : u = .bool a := hu
    obtain rfl : v = .bool b := hv
    split at h
    · rename_i hb
      have hu := boolA_eq hb
      have hg : (eqGuard op t ox oy (.bool a) (.bool b)).run P w = .ok () w := by
        unfold eqGuard
        split <;> simp
      rw [Sem.run_bind, hg, Result.andThen_ok]
      have hund : (underlying t).run P w = .ok .bool w := by simp [underlying, hu]
      have heq : (Op.equal t (.bool a) (.bool b)).run P w = .ok (a == b) w := by
        unfold Op.equal
        rw [show Op.maxDepth = (Op.maxDepth - 1) + 1 from rfl]
        simp only [Op.equalIn, Sem.run_bind, hund, Result.andThen_ok, Sem.run_pure]
      cases op <;> simp only [binOp] at h ⊢ <;>
        first
          | (injection h with h; subst h; exact ⟨_, by simp only [Sem.run_bind, heq, Result.andThen_ok, Sem.run_pure], rfl⟩)
          | (cases h; done)
    · cases h
  · split at h
    · rename_i nk hn
      split at h
      · rename_i a b ha hb
        split at h
        · rename_i hab
          have hfu := isNil_nf ha hu
          have hfv := isNil_nf hb hv
          have heq := nil_sound hn hfu hfv hab w
          obtain ⟨u1, u2, u3, u4, u5, u6⟩ := hfu.plain
          obtain ⟨v1, v2, v3, v4, v5, v6⟩ := hfv.plain
          have hg : (eqGuard op t ox oy u v).run P w = .ok () w := by
            unfold eqGuard
            cases op <;> simp only [Bool.not_true, Bool.not_false, Bool.false_eq_true, if_false, if_true, Sem.run_pure] <;>
              (split <;> first | (exact absurd rfl u5) | (exact absurd rfl (u6 _)) | rfl)
          rw [Sem.run_bind, hg, Result.andThen_ok]
          have hbin : ∀ op, op = .eql ∨ op = .neq → (binOp op t u v).run P w = .ok (.bool (if op = .eql then (a && b) else !(a && b))) w := by
            rintro op (rfl | rfl)
            · cases u <;> first | (exact absurd rfl (u1 _ _)) | (exact absurd rfl (u2 _)) | (exact absurd rfl (u3 _ _)) | (exact absurd rfl (u4 _ _ _)) | (simp only [binOp, Sem.run_bind, heq, Result.andThen_ok, Sem.run_pure, if_true])
            · cases u <;> first | (exact absurd rfl (u1 _ _)) | (exact absurd rfl (u2 _)) | (exact absurd rfl (u3 _ _)) | (exact absurd rfl (u4 _ _ _)) | (simp only [binOp, Sem.run_bind, heq, Result.andThen_ok, Sem.run_pure, reduceCtorEq, if_false])
          split at h
          · injection h with h; subst h
            exact ⟨_, hbin .eql (.inl rfl), rfl⟩
          · injection h with h; subst h
            exact ⟨_, hbin .neq (.inr rfl), rfl⟩
          · cases h
        · exact O.ok _ _ _ _ h ρ t u v ox oy w hu hv
      · exact O.ok _ _ _ _ h ρ t u v ox oy w hu hv
    · exact O.ok _ _ _ _ h ρ t u v ox oy w hu hv

def aun (op : UnOp) : EV → Option EV
  | .int k a => match op with
    | .neg => some (.int k (wrapQ k (0 - a)))
    | .xor => some (.int k (wrapQ k ((BitVec.ofInt k.bits (if k.signed then -1 else k.max) ^^^ BitVec.ofInt k.bits a).toNat)))
    | _ => none
  | .bool b => match op with | .not => some (.bool (!b)) | _ => none
  | _ => none
theorem aun_sound {ρ : Pl} {op : UnOp} {x r : EV} {u : Value} (h : aun op x = some r) (hu : VR ρ η x u) (w : World) : ∃ q, (Op.unary op u).run P w = .ok q w ∧ VR ρ η r q := by
  unfold aun at h
  split at h
  · rename_i k a
    obtain rfl : u = .int k a := hu
    cases op <;> simp only at h <;> first | (injection h with h; subst h; exact ⟨_, rfl, rfl⟩) | (cases h; done)
  · rename_i b
    obtain rfl : u = .bool b := hu
    cases op <;> simp only at h <;> first | (injection h with h; subst h; exact ⟨_, rfl, rfl⟩) | (cases h; done)
  · cases h
end

end Go.Proofs.YtnfdkmnmniiokaaGreatDoor
