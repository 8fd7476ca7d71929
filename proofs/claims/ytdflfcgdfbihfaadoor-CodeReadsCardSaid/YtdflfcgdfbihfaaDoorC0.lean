/-
  The plain side of programs as bytes: how they are written and read, by definition, and that what was read is written and read again.
-/
namespace CodeText
abbrev Bytes := List UInt8
/-- A reader's state: the bytes that are left, and whether it has failed. -/
abbrev St := Bytes × Bool

structure Ins where
  op : Int
  a : Int
  b : Int
  c : Int
  d : Int
  list : List Int

structure Fnc where
  name : Bytes
  refs : List Bool
  params : Int
  captures : Int
  result : Bool
  code : List Ins

structure Pg where
  texts : List Bytes
  globals : List Bool
  structs : List (List Bool)
  funcs : List Fnc
  main : Int

/-! ### Reading -/
def unum : Nat → Nat → Bytes → Option (Nat × Bytes)
  | _, _, [] => none
  | k, acc, b :: l =>
    if 10 ≤ k then none
    else if b.toNat < 128 then some ((acc + b.toNat * 2 ^ (7 * k)) % 2 ^ 64, l)
    else unum (k + 1) ((acc + b.toNat % 128 * 2 ^ (7 * k)) % 2 ^ 64) l

def zig (u : Nat) : Int := if u % 2 = 0 then ((u / 2 : Nat) : Int) else -((u / 2 : Nat) : Int) - 1

def rnum (s : St) : Int × St :=
  if s.2 = true then (0, s) else match unum 0 0 s.1 with
    | none => (0, (s.1, true))
    | some (u, l) => (zig u, (l, false))

def rsize (s : St) : Nat × St :=
  if (rnum s).1 < 0 ∨ ((rnum s).2.1.length : Int) < (rnum s).1 then (0, ((rnum s).2.1, true)) else ((rnum s).1.toNat, (rnum s).2)

def rtext (s : St) : Bytes × St := ((rsize s).2.1.take (rsize s).1, ((rsize s).2.1.drop (rsize s).1, (rsize s).2.2))
def rflag (s : St) : Bool × St := (decide ((rnum s).1 ≠ 0), (rnum s).2)

def rloop {α : Type} (one : St → α × St) : Nat → St → List α → List α × St
  | 0, s, acc => (acc, s)
  | n + 1, s, acc => if s.2 = true then ([], s) else rloop one n (one s).2 (acc ++ [(one s).1])

def rsome {α : Type} (one : St → α × St) (s : St) : List α × St := rloop one (rsize s).1 (rsize s).2 []

def rins (s : St) : Ins × St :=
  let a := rnum s
  let b := rnum a.2
  let c := rnum b.2
  let d := rnum c.2
  let e := rnum d.2
  let l := rsome rnum e.2
  (⟨a.1, b.1, c.1, d.1, e.1, l.1⟩, l.2)

def rfn (s : St) : Fnc × St :=
  let n := rtext s
  let r := rsome rflag n.2
  let p := rnum r.2
  let c := rnum p.2
  let l := rsome rflag c.2
  let k := rsome rins l.2
  (⟨n.1, r.1, p.1, c.1, (match l.1 with | [x] => x | _ => false), k.1⟩, k.2)

def rpg (s : St) : Pg × St :=
  let t := rsome rtext s
  let g := rsome rflag t.2
  let u := rsome (rsome rflag) g.2
  let f := rsome rfn u.2
  let m := rnum f.2
  (⟨t.1, g.1, u.1, f.1, m.1⟩, m.2)

def decode (b : Bytes) : Option Pg := if (rpg (b, false)).2.2 = true ∨ (rpg (b, false)).2.1 ≠ [] then none else some (rpg (b, false)).1

/-! ### Writing -/
def uenc (u : Nat) : Bytes := if h : u < 128 then [UInt8.ofNat u] else UInt8.ofNat (u % 128 + 128) :: uenc (u / 128)
termination_by u
decreasing_by omega

def zag (n : Int) : Nat := if n < 0 then (-2 * n - 1).toNat else (2 * n).toNat
def wnum (n : Int) : Bytes := uenc (zag n)
def weach {α : Type} (one : α → Bytes) (l : List α) : Bytes := wnum l.length ++ (l.map one).flatten
def wtext (s : Bytes) : Bytes := wnum s.length ++ s
def wflag (b : Bool) : Bytes := wnum (if b = true then 1 else 0)
def wflags (l : List Bool) : Bytes := weach wflag l
def wins (i : Ins) : Bytes := wnum i.op ++ wnum i.a ++ wnum i.b ++ wnum i.c ++ wnum i.d ++ weach wnum i.list
def wfn (f : Fnc) : Bytes := wtext f.name ++ wflags f.refs ++ wnum f.params ++ wnum f.captures ++ wflags [f.result] ++ weach wins f.code
def wpg (p : Pg) : Bytes := weach wtext p.texts ++ wflags p.globals ++ weach wflags p.structs ++ weach wfn p.funcs ++ wnum p.main

/-! ### Numbers go there and back -/
theorem uenc_small {u : Nat} (h : u < 128) : uenc u = [UInt8.ofNat u] := by rw [uenc]; simp [h]
theorem uenc_big {u : Nat} (h : ¬ u < 128) : uenc u = UInt8.ofNat (u % 128 + 128) :: uenc (u / 128) := by
  conv => lhs; rw [uenc]
  simp [h]

theorem toNat_ofNat {u : Nat} (h : u < 256) : (UInt8.ofNat u).toNat = u := by
  rw [UInt8.toNat_ofNat']; exact Nat.mod_eq_of_lt h

theorem uenc_len : ∀ (d u : Nat), u < 128 ^ (d + 1) → (uenc u).length ≤ d + 1
  | 0, u, h => by rw [uenc_small (by simpa using h)]; simp
  | d + 1, u, h => by
    by_cases hs : u < 128
    · rw [uenc_small hs]; simp
    · rw [uenc_big hs, List.length_cons]
      have := uenc_len d (u / 128) (by rw [Nat.pow_succ] at h; omega)
      omega

theorem uenc_pos (u : Nat) : 0 < (uenc u).length := by
  by_cases hs : u < 128
  · rw [uenc_small hs]; simp
  · rw [uenc_big hs]; simp

theorem unum_uenc : ∀ (d u k acc : Nat) (rest : Bytes), u < 128 ^ (d + 1) → k + d < 10 → acc + u * 2 ^ (7 * k) < 2 ^ 64 → unum k acc (uenc u ++ rest) = some (acc + u * 2 ^ (7 * k), rest)
  | d, u, k, acc, rest, h, hk, hb => by
    by_cases hs : u < 128
    · rw [uenc_small hs, List.singleton_append, unum, if_neg (by omega), toNat_ofNat (by omega), if_pos hs, Nat.mod_eq_of_lt hb]
    · match d, h, hk with
      | 0, h, hk => simp at h; omega
      | d + 1, h, hk =>
        have e : u = u % 128 + 128 * (u / 128) := by omega
        have hp : 2 ^ (7 * (k + 1)) = 128 * 2 ^ (7 * k) := by rw [Nat.mul_add, Nat.pow_add]; simp [Nat.mul_comm]
        have hval : acc + u * 2 ^ (7 * k) = acc + u % 128 * 2 ^ (7 * k) + u / 128 * 2 ^ (7 * (k + 1)) := by
          rw [hp]
          have : u * 2 ^ (7 * k) = u % 128 * 2 ^ (7 * k) + u / 128 * (128 * 2 ^ (7 * k)) := by
            conv => lhs; rw [e]
            rw [Nat.add_mul, Nat.mul_comm 128 (u / 128), Nat.mul_assoc]
          omega
        have hlt : acc + u % 128 * 2 ^ (7 * k) < 2 ^ 64 := by omega
        rw [uenc_big hs, List.cons_append, unum, if_neg (by omega), toNat_ofNat (by omega), if_neg (by omega)]
        rw [show (u % 128 + 128) % 128 = u % 128 by omega, Nat.mod_eq_of_lt hlt]
        rw [unum_uenc d (u / 128) (k + 1) _ rest (by rw [Nat.pow_succ] at h; omega) (by omega) (by rw [← hval]; exact hb), hval]

def Fits (n : Int) : Prop := -9223372036854775808 ≤ n ∧ n < 9223372036854775808

theorem zag_lt {n : Int} (h : Fits n) : zag n < 2 ^ 64 := by
  unfold Fits at h; unfold zag; split <;> omega
theorem zig_zag (n : Int) : zig (zag n) = n := by
  unfold zag zig; split <;> split <;> omega
theorem zig_fits {u : Nat} (h : u < 2 ^ 64) : Fits (zig u) := by
  unfold zig Fits; split <;> omega

theorem wnum_len {n : Int} (h : Fits n) : (wnum n).length ≤ 10 := by
  have := zag_lt h
  exact uenc_len 9 _ (Nat.lt_of_lt_of_le this (by decide))
theorem wnum_pos (n : Int) : 0 < (wnum n).length := uenc_pos _

theorem rnum_wnum {n : Int} (h : Fits n) (rest : Bytes) : rnum (wnum n ++ rest, false) = (n, (rest, false)) := by
  have hz := zag_lt h
  unfold rnum wnum
  rw [if_neg (by simp)]
  have := unum_uenc 9 (zag n) 0 0 rest (Nat.lt_of_lt_of_le hz (by decide)) (by omega) (by simpa using hz)
  simp only [Nat.mul_zero, Nat.pow_zero, Nat.mul_one, Nat.zero_add] at this
  simp only [this, zig_zag]

/-- A reader that reads what a writer wrote of what is so. -/
def Back {α : Type} (r : St → α × St) (w : α → Bytes) (V : α → Prop) : Prop := ∀ x, V x → 0 < (w x).length ∧ ∀ rest, r (w x ++ rest, false) = (x, (rest, false))

theorem back_num : Back rnum wnum Fits := fun x h => ⟨wnum_pos x, fun rest => rnum_wnum h rest⟩

theorem fits_len {n : Nat} (h : n < 9223372036854775808) : Fits (n : Int) := by unfold Fits; omega

theorem rsize_wnum {n : Nat} (h : n < 9223372036854775808) {rest : Bytes} (hr : n ≤ rest.length) : rsize (wnum n ++ rest, false) = (n, (rest, false)) := by
  unfold rsize
  rw [rnum_wnum (fits_len h)]
  simp only
  rw [if_neg (by omega), Int.toNat_natCast]

theorem back_text : Back rtext wtext (fun s => s.length < 9223372036854775808) := by
  intro s h
  refine ⟨by unfold wtext; rw [List.length_append]; have := wnum_pos s.length; omega, ?_⟩
  intro rest
  unfold rtext wtext
  rw [List.append_assoc, rsize_wnum h (by simp)]
  simp

theorem back_flag : Back rflag wflag (fun _ => True) := by
  intro b _
  refine ⟨wnum_pos _, ?_⟩
  intro rest
  unfold rflag wflag
  rw [rnum_wnum (by cases b <;> (unfold Fits; simp))]
  cases b <;> simp

def VList {α : Type} (V : α → Prop) (l : List α) : Prop := l.length < 9223372036854775808 ∧ ∀ x ∈ l, V x

theorem flatten_len {α : Type} {w : α → Bytes} : ∀ (l : List α), (∀ x ∈ l, 0 < (w x).length) → l.length ≤ (l.map w).flatten.length
  | [], _ => by simp
  | x :: l, h => by
    have := flatten_len l (fun y hy => h y (List.mem_cons_of_mem _ hy))
    have := h x (by simp)
    simp only [List.map_cons, List.flatten_cons, List.length_append, List.length_cons]
    omega

theorem rloop_back {α : Type} {r : St → α × St} {w : α → Bytes} {V : α → Prop} (hb : Back r w V) :
    ∀ (l : List α) (acc : List α) (rest : Bytes), (∀ x ∈ l, V x) → rloop r l.length ((l.map w).flatten ++ rest, false) acc = (acc ++ l, (rest, false))
  | [], acc, rest, _ => by simp [rloop]
  | x :: l, acc, rest, h => by
    simp only [List.map_cons, List.flatten_cons, List.length_cons, List.append_assoc]
    rw [rloop, if_neg (by simp), (hb x (h x (by simp))).2, rloop_back hb l _ rest (fun y hy => h y (List.mem_cons_of_mem _ hy))]
    simp

theorem back_some {α : Type} {r : St → α × St} {w : α → Bytes} {V : α → Prop} (hb : Back r w V) : Back (rsome r) (weach w) (VList V) := by
  intro l h
  refine ⟨by unfold weach; rw [List.length_append]; have := wnum_pos l.length; omega, ?_⟩
  intro rest
  have hl := flatten_len (w := w) l (fun x hx => (hb x (h.2 x hx)).1)
  unfold rsome weach
  rw [List.append_assoc, rsize_wnum h.1 (by rw [List.length_append]; omega)]
  simp only
  rw [rloop_back hb l [] rest h.2]
  rfl

def VIns (i : Ins) : Prop := Fits i.op ∧ Fits i.a ∧ Fits i.b ∧ Fits i.c ∧ Fits i.d ∧ VList Fits i.list

theorem back_ins : Back rins wins VIns := by
  rintro ⟨o, a, b, c, d, l⟩ ⟨h1, h2, h3, h4, h5, h6⟩
  simp only at h1 h2 h3 h4 h5 h6
  refine ⟨by simp only [wins, List.length_append]; have := wnum_pos o; omega, ?_⟩
  intro rest
  simp only [rins, wins, List.append_assoc, rnum_wnum h1, rnum_wnum h2, rnum_wnum h3, rnum_wnum h4, rnum_wnum h5, (back_some back_num l h6).2]

def VFn (f : Fnc) : Prop := f.name.length < 9223372036854775808 ∧ VList (fun _ => True) f.refs ∧ Fits f.params ∧ Fits f.captures ∧ VList VIns f.code

theorem back_fn : Back rfn wfn VFn := by
  rintro ⟨n, r, p, c, res, k⟩ ⟨h1, h2, h3, h4, h5⟩
  simp only at h1 h2 h3 h4 h5
  refine ⟨by simp only [wfn, List.length_append]; have := wnum_pos p; omega, ?_⟩
  intro rest
  have hres : VList (fun _ => True) [res] := ⟨by simp, fun _ _ => trivial⟩
  simp only [rfn, wfn, wflags, List.append_assoc, (back_text n h1).2, (back_some back_flag r h2).2, rnum_wnum h3, rnum_wnum h4, (back_some back_flag [res] hres).2, (back_some back_ins k h5).2]

def VPg (p : Pg) : Prop := VList (fun s => s.length < 9223372036854775808) p.texts ∧ VList (fun _ => True) p.globals ∧ VList (VList (fun _ => True)) p.structs ∧ VList VFn p.funcs ∧ Fits p.main

theorem back_pg : Back rpg wpg VPg := by
  rintro ⟨t, g, u, f, m⟩ ⟨h1, h2, h3, h4, h5⟩
  simp only at h1 h2 h3 h4 h5
  refine ⟨by simp only [wpg, List.length_append]; have := wnum_pos m; omega, ?_⟩
  intro rest
  have e3 := back_some (back_some back_flag) u h3
  simp only [rpg, wpg, wflags, List.append_assoc, (back_some back_text t h1).2, (back_some back_flag g h2).2]
  have := e3.2
  unfold wflags at *
  simp only [show (weach fun l => weach wflag l) = weach (weach wflag) from rfl, this, (back_some back_fn f h4).2, rnum_wnum h5]

theorem decode_encode {p : Pg} (h : VPg p) : decode (wpg p) = some p := by
  have := (back_pg p h).2 []
  rw [List.append_nil] at this
  unfold decode
  rw [this]
  simp

/-! ### What is read is so, and no longer than the bytes -/

/-- What a reader gives where it hasn't failed: it hadn't failed before; it took bytes; what it gives is so; and its own bytes are no more than ten times as many. -/
def Took {α : Type} (r : St → α × St) (w : α → Bytes) (V : α → Prop) : Prop :=
  ∀ s : St, (r s).2.2 = false → s.1.length ≤ 20000 → s.2 = false ∧ (r s).2.1.length < s.1.length ∧ V (r s).1 ∧ (w (r s).1).length + 10 * (r s).2.1.length ≤ 10 * s.1.length

theorem unum_took : ∀ (l : Bytes) (k acc u : Nat) (rest : Bytes), unum k acc l = some (u, rest) → rest.length < l.length ∧ u < 2 ^ 64
  | [], _, _, _, _, h => by simp [unum] at h
  | b :: l, k, acc, u, rest, h => by
    rw [unum] at h
    split at h
    · cases h
    · split at h
      · simp only [Option.some.injEq, Prod.mk.injEq] at h
        obtain ⟨h1, h2⟩ := h
        subst h2
        refine ⟨by simp, ?_⟩
        rw [← h1]
        exact Nat.mod_lt _ (by decide)
      · have := unum_took l _ _ _ _ h
        refine ⟨by simp; omega, this.2⟩

theorem took_num : Took rnum wnum Fits := by
  intro s h hs
  unfold rnum at h ⊢
  by_cases he : s.2 = true
  · rw [if_pos he] at h
    rw [he] at h; cases h
  · rw [if_neg he] at h ⊢
    cases hu : unum 0 0 s.1 with
    | none => rw [hu] at h; cases h
    | some x =>
      obtain ⟨u, l⟩ := x
      have := unum_took _ _ _ _ _ hu
      have hf := zig_fits this.2
      have hw := wnum_len hf
      simp only
      exact ⟨by simpa using he, this.1, hf, by omega⟩

theorem took_size (s : St) (h : (rsize s).2.2 = false) (hs : s.1.length ≤ 20000) : s.2 = false ∧ (rsize s).2.1.length < s.1.length ∧ (rsize s).1 ≤ (rsize s).2.1.length ∧ (rsize s).1 < 9223372036854775808 ∧ (wnum (rsize s).1).length + 10 * (rsize s).2.1.length ≤ 10 * s.1.length := by
  have ht := took_num s
  unfold rsize at h ⊢
  split
  · rename_i hc; rw [if_pos hc] at h; cases h
  · rename_i hc
    rw [if_neg hc] at h
    obtain ⟨h1, h2, h3, h4⟩ := ht h hs
    refine ⟨h1, h2, by simp only; omega, by simp only; omega, ?_⟩
    have : ((rnum s).1.toNat : Int) = (rnum s).1 := Int.toNat_of_nonneg (by omega)
    simp only [this]
    exact h4

theorem took_text : Took rtext wtext (fun s => s.length < 9223372036854775808) := by
  intro s h hs
  obtain ⟨h1, h2, h3, h4, h5⟩ := took_size s (by unfold rtext at h; exact h) hs
  unfold rtext wtext
  simp only [List.length_take, List.length_drop, List.length_append]
  rw [Nat.min_eq_left h3]
  exact ⟨h1, by omega, h4, by omega⟩

theorem took_flag : Took rflag wflag (fun _ => True) := by
  intro s h hs
  obtain ⟨h1, h2, h3, h4⟩ := took_num s h hs
  refine ⟨h1, h2, trivial, ?_⟩
  have : (wflag (rflag s).1).length = 1 := by unfold wflag; cases (rflag s).1 <;> (simp [wnum, zag]; rw [uenc_small (by decide)]; rfl)
  rw [this]
  show 1 + 10 * (rnum s).2.1.length ≤ _
  omega

theorem rloop_took {α : Type} {r : St → α × St} {w : α → Bytes} {V : α → Prop} (ht : Took r w V) : ∀ (n : Nat) (s : St) (acc : List α), (rloop r n s acc).2.2 = false → s.1.length ≤ 20000 →
    (n = 0 ∨ s.2 = false) ∧ ∃ l, (rloop r n s acc).1 = acc ++ l ∧ l.length = n ∧ (∀ x ∈ l, V x) ∧ (rloop r n s acc).2.1.length + n ≤ s.1.length ∧ (l.map w).flatten.length + 10 * (rloop r n s acc).2.1.length ≤ 10 * s.1.length
  | 0, s, acc, h, hs => by
    refine ⟨.inl rfl, [], by simp [rloop], rfl, by simp, by simp [rloop], by simp [rloop]⟩
  | n + 1, s, acc, h, hs => by
    rw [rloop] at h ⊢
    by_cases he : s.2 = true
    · rw [if_pos he] at h; rw [he] at h; cases h
    · rw [if_neg he] at h ⊢
      have hs' : (r s).2.1.length ≤ 20000 ∨ True := .inr trivial
      by_cases hok : (r s).2.2 = false
      · obtain ⟨k1, k2, k3, k4⟩ := ht s hok hs
        obtain ⟨_, l, e1, e2, e3, e4, e5⟩ := rloop_took ht n (r s).2 (acc ++ [(r s).1]) h (by omega)
        refine ⟨.inr (by simpa using he), (r s).1 :: l, by rw [e1]; simp, by simp [e2], ?_, by omega, ?_⟩
        · intro x hx
          rcases List.mem_cons.1 hx with rfl | hx
          · exact k3
          · exact e3 x hx
        · simp only [List.map_cons, List.flatten_cons, List.length_append]
          omega
      · exfalso
        simp only [Bool.not_eq_false] at hok
        cases n with
        | zero => simp [rloop, hok] at h
        | succ n => rw [rloop, if_pos hok, hok] at h; cases h

theorem took_some {α : Type} {r : St → α × St} {w : α → Bytes} {V : α → Prop} (ht : Took r w V) : Took (rsome r) (weach w) (VList V) := by
  intro s h hs
  unfold rsome at h ⊢
  have hsz : (rsize s).2.2 = false ∧ True := by
    refine ⟨?_, trivial⟩
    cases hb : (rsize s).2.2 with
    | false => rfl
    | true =>
      cases hn : (rsize s).1 with
      | zero => rw [hn, rloop, hb] at h; cases h
      | succ n => rw [hn, rloop, if_pos hb, hb] at h; cases h
  obtain ⟨h1, h2, h3, h4, h5⟩ := took_size s hsz.1 hs
  obtain ⟨_, l, e1, e2, e3, e4, e5⟩ := rloop_took ht _ _ [] h (by omega)
  rw [List.nil_append] at e1
  refine ⟨h1, by omega, by rw [e1]; exact ⟨by omega, e3⟩, ?_⟩
  rw [e1]
  unfold weach
  rw [List.length_append, e2]
  omega

/-! ### No reader gives bytes back -/
def Mono {α : Type} (r : St → α × St) : Prop := ∀ s : St, (r s).2.1.length ≤ s.1.length

theorem mono_num : Mono rnum := by
  intro s
  unfold rnum
  split
  · exact Nat.le_refl _
  · cases hu : unum 0 0 s.1 with
    | none => exact Nat.le_refl _
    | some x =>
      obtain ⟨u, l⟩ := x
      exact Nat.le_of_lt (unum_took _ _ _ _ _ hu).1

theorem mono_size (s : St) : (rsize s).2.1.length ≤ s.1.length := by
  unfold rsize
  split <;> exact mono_num s

theorem mono_text : Mono rtext := by
  intro s
  unfold rtext
  have := mono_size s
  simp only [List.length_drop]
  omega

theorem mono_flag : Mono rflag := fun s => mono_num s

theorem mono_loop {α : Type} {r : St → α × St} (h : Mono r) : ∀ (n : Nat) (s : St) (acc : List α), (rloop r n s acc).2.1.length ≤ s.1.length
  | 0, s, acc => Nat.le_refl _
  | n + 1, s, acc => by
    rw [rloop]
    split
    · exact Nat.le_refl _
    · exact Nat.le_trans (mono_loop h n _ _) (h s)

theorem mono_some {α : Type} {r : St → α × St} (h : Mono r) : Mono (rsome r) := fun s => Nat.le_trans (mono_loop h _ _ _) (mono_size s)

theorem mono_ins : Mono rins := by
  intro s
  simp only [rins]
  have h1 := mono_num s
  have h2 := mono_num (rnum s).2
  have h3 := mono_num (rnum (rnum s).2).2
  have h4 := mono_num (rnum (rnum (rnum s).2).2).2
  have h5 := mono_num (rnum (rnum (rnum (rnum s).2).2).2).2
  have h6 := mono_some mono_num (rnum (rnum (rnum (rnum (rnum s).2).2).2).2).2
  omega

theorem took_ins : Took rins wins VIns := by
  intro s h hs
  simp only [rins] at h ⊢
  have h1 := mono_num s
  obtain ⟨s1, e1⟩ : ∃ x, rnum s = x := ⟨_, rfl⟩
  obtain ⟨s2, e2⟩ : ∃ x, rnum s1.2 = x := ⟨_, rfl⟩
  obtain ⟨s3, e3⟩ : ∃ x, rnum s2.2 = x := ⟨_, rfl⟩
  obtain ⟨s4, e4⟩ : ∃ x, rnum s3.2 = x := ⟨_, rfl⟩
  obtain ⟨s5, e5⟩ : ∃ x, rnum s4.2 = x := ⟨_, rfl⟩
  have h2 := mono_num s1.2
  have h3 := mono_num s2.2
  have h4 := mono_num s3.2
  have h5 := mono_num s4.2
  rw [e1] at h1 h ⊢
  rw [e2] at h2 h ⊢
  rw [e3] at h3 h ⊢
  rw [e4] at h4 h ⊢
  rw [e5] at h5 h ⊢
  obtain ⟨a6, b6, c6, d6⟩ := took_some took_num _ h (by omega)
  obtain ⟨a5, b5, c5, d5⟩ := took_num s4.2 (by rw [e5]; exact a6) (by omega)
  obtain ⟨a4, b4, c4, d4⟩ := took_num s3.2 (by rw [e4]; exact a5) (by omega)
  obtain ⟨a3, b3, c3, d3⟩ := took_num s2.2 (by rw [e3]; exact a4) (by omega)
  obtain ⟨a2, b2, c2, d2⟩ := took_num s1.2 (by rw [e2]; exact a3) (by omega)
  obtain ⟨a1, b1, c1, d1⟩ := took_num s (by rw [e1]; exact a2) (by omega)
  rw [e1] at b1 c1 d1
  rw [e2] at b2 c2 d2
  rw [e3] at b3 c3 d3
  rw [e4] at b4 c4 d4
  rw [e5] at b5 c5 d5
  refine ⟨a1, by omega, ⟨c1, c2, c3, c4, c5, c6⟩, ?_⟩
  simp only [wins, List.length_append]
  omega

theorem mono_fn : Mono rfn := by
  intro s
  simp only [rfn]
  have h1 := mono_text s
  have h2 := mono_some mono_flag (rtext s).2
  have h3 := mono_num (rsome rflag (rtext s).2).2
  have h4 := mono_num (rnum (rsome rflag (rtext s).2).2).2
  have h5 := mono_some mono_flag (rnum (rnum (rsome rflag (rtext s).2).2).2).2
  have h6 := mono_some mono_ins (rsome rflag (rnum (rnum (rsome rflag (rtext s).2).2).2).2).2
  omega

theorem wflags_one (b : Bool) : (wflags [b]).length = 2 := by
  cases b <;> (simp [wflags, weach, wflag, wnum, zag]; rw [uenc_small (by decide)]; try (rw [uenc_small (by decide)])) <;> rfl

theorem took_fn : Took rfn wfn VFn := by
  intro s h hs
  simp only [rfn] at h ⊢
  have h1 := mono_text s
  obtain ⟨s1, e1⟩ : ∃ x, rtext s = x := ⟨_, rfl⟩
  obtain ⟨s2, e2⟩ : ∃ x, rsome rflag s1.2 = x := ⟨_, rfl⟩
  obtain ⟨s3, e3⟩ : ∃ x, rnum s2.2 = x := ⟨_, rfl⟩
  obtain ⟨s4, e4⟩ : ∃ x, rnum s3.2 = x := ⟨_, rfl⟩
  obtain ⟨s5, e5⟩ : ∃ x, rsome rflag s4.2 = x := ⟨_, rfl⟩
  have h2 := mono_some mono_flag s1.2
  have h3 := mono_num s2.2
  have h4 := mono_num s3.2
  have h5 := mono_some mono_flag s4.2
  rw [e1] at h1 h ⊢
  rw [e2] at h2 h ⊢
  rw [e3] at h3 h ⊢
  rw [e4] at h4 h ⊢
  rw [e5] at h5 h ⊢
  obtain ⟨a6, b6, c6, d6⟩ := took_some took_ins _ h (by omega)
  obtain ⟨a5, b5, c5, d5⟩ := took_some took_flag s4.2 (by rw [e5]; exact a6) (by omega)
  obtain ⟨a4, b4, c4, d4⟩ := took_num s3.2 (by rw [e4]; exact a5) (by omega)
  obtain ⟨a3, b3, c3, d3⟩ := took_num s2.2 (by rw [e3]; exact a4) (by omega)
  obtain ⟨a2, b2, c2, d2⟩ := took_some took_flag s1.2 (by rw [e2]; exact a3) (by omega)
  obtain ⟨a1, b1, c1, d1⟩ := took_text s (by rw [e1]; exact a2) (by omega)
  rw [e1] at b1 c1 d1
  rw [e2] at b2 c2 d2
  rw [e3] at b3 c3 d3
  rw [e4] at b4 c4 d4
  rw [e5] at b5 c5 d5
  refine ⟨a1, by omega, ⟨c1, c2, c3, c4, c6⟩, ?_⟩
  simp only [wfn, List.length_append, wflags_one]
  unfold wflags
  omega

theorem took_pg : ∀ s : St, (rpg s).2.2 = false → s.1.length ≤ 20000 → VPg (rpg s).1 ∧ (wpg (rpg s).1).length ≤ 200000 := by
  intro s h hs
  simp only [rpg] at h ⊢
  have h1 := mono_some mono_text s
  obtain ⟨s1, e1⟩ : ∃ x, rsome rtext s = x := ⟨_, rfl⟩
  obtain ⟨s2, e2⟩ : ∃ x, rsome rflag s1.2 = x := ⟨_, rfl⟩
  obtain ⟨s3, e3⟩ : ∃ x, rsome (rsome rflag) s2.2 = x := ⟨_, rfl⟩
  obtain ⟨s4, e4⟩ : ∃ x, rsome rfn s3.2 = x := ⟨_, rfl⟩
  have h2 := mono_some mono_flag s1.2
  have h3 := mono_some (mono_some mono_flag) s2.2
  have h4 := mono_some mono_fn s3.2
  rw [e1] at h1 h ⊢
  rw [e2] at h2 h ⊢
  rw [e3] at h3 h ⊢
  rw [e4] at h4 h ⊢
  obtain ⟨a5, b5, c5, d5⟩ := took_num s4.2 h (by omega)
  obtain ⟨a4, b4, c4, d4⟩ := took_some took_fn s3.2 (by rw [e4]; exact a5) (by omega)
  obtain ⟨a3, b3, c3, d3⟩ := took_some (took_some took_flag) s2.2 (by rw [e3]; exact a4) (by omega)
  obtain ⟨a2, b2, c2, d2⟩ := took_some took_flag s1.2 (by rw [e2]; exact a3) (by omega)
  obtain ⟨a1, b1, c1, d1⟩ := took_some took_text s (by rw [e1]; exact a2) (by omega)
  rw [e1] at b1 c1 d1
  rw [e2] at b2 c2 d2
  rw [e3] at b3 c3 d3
  rw [e4] at b4 c4 d4
  refine ⟨⟨c1, c2, c3, c4, c5⟩, ?_⟩
  simp only [wpg, List.length_append]
  rw [show (weach wflags s3.1) = weach (weach wflag) s3.1 from rfl, show wflags s2.1 = weach wflag s2.1 from rfl]
  omega

/-- What was read of bytes is written, and read again as the same. -/
theorem there_and_back {b : Bytes} {p : Pg} (hb : b.length ≤ 20000) (h : decode b = some p) : decode (wpg p) = some p ∧ (wpg p).length ≤ 200000 := by
  unfold decode at h
  split at h
  · cases h
  · rename_i hc
    simp only [not_or, Bool.not_eq_true] at hc
    have := took_pg (b, false) hc.1 hb
    simp only [Option.some.injEq] at h
    rw [h] at this
    exact ⟨decode_encode this.1, this.2⟩

end CodeText
