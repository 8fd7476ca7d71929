import Derived.Test.YtdbbalcicgllhaaGreatDoorA28
namespace Go.Proofs.YtdbbalcicgllhaaGreatDoor
open Go.RowKit

def cntF (f : Fnc) : Nat := f.name.length + (f.refs.length + f.code.length)
def lsum (l : List Ins) : Nat := (l.map fun x => x.list.length).sum
def cntP (p : Pg) : Nat := p.texts.length + p.funcs.length + (p.texts.map List.length).sum + (p.funcs.map fun f => cntF f + lsum f.code).sum

theorem idx_len {α : Type} (f : Nat → α → Bytes) (g : α → Nat) (N : Nat) : ∀ (l : List α) (i : Nat), i + l.length ≤ N → (∀ k x, k < N → x ∈ l → (f k x).length ≤ g x) → (idxTxt f i l).length ≤ (l.map g).sum
  | [], _, _, _ => by simp [idxTxt]
  | x :: l, i, hi, h => by
    rw [List.length_cons] at hi
    have h1 := h i x (by omega) (by simp)
    have h2 := idx_len f g N l (i + 1) (by omega) (fun k y hk hy => h k y hk (by simp [hy]))
    simp only [idxTxt, List.length_append, List.map_cons, List.sum_cons]
    omega
theorem sum_lin {α : Type} (h : α → Nat) (a b : Nat) : ∀ (l : List α), (l.map fun x => a + b * h x).sum = a * l.length + b * (l.map h).sum
  | [] => by simp
  | x :: l => by
    simp only [List.map_cons, List.sum_cons, List.length_cons]
    rw [sum_lin h a b l, Nat.mul_add, Nat.mul_add, Nat.mul_one]
    omega
theorem sum_le_sum {α : Type} (g h : α → Nat) : ∀ (l : List α), (∀ x ∈ l, g x ≤ h x) → (l.map g).sum ≤ (l.map h).sum
  | [], _ => by simp
  | x :: l, H => by
    have h1 := H x (by simp)
    have h2 := sum_le_sum g h l (fun y hy => H y (by simp [hy]))
    simp only [List.map_cons, List.sum_cons]
    omega
theorem sum_take_step {α : Type} (g : α → Nat) (l : List α) (j : Nat) (y : α) (h : l[j]? = some y) : ((l.take (j + 1)).map g).sum = ((l.take j).map g).sum + g y := by
  rw [List.take_add_one, h, List.map_append, List.sum_append]
  simp
theorem sum_take_le {α : Type} (g : α → Nat) (l : List α) (j : Nat) : ((l.take j).map g).sum ≤ (l.map g).sum := by
  have h : (l.map g).sum = ((l.take j).map g).sum + ((l.drop j).map g).sum := by rw [← List.sum_append, ← List.map_append, List.take_append_drop]
  omega

theorem itoa_len_nat (k : Nat) (hk : k ≤ 1000000000) : (Lib.itoa (k : Int)).length ≤ 21 := Lib.itoa_length_le _ (by omega) (by omega)
theorem quote_len (s : Bytes) : (quoteB s).length ≤ 2 + 2 * s.length := by
  unfold quoteB
  have h1 := esc_len s
  have h2 := nk_le s
  simp only [List.length_append, List.length_cons, List.length_nil]
  omega
theorem textF_len (k : Nat) (hk : k ≤ 1000000000) (t : Bytes) : (textF k t).length ≤ 40 + 2 * t.length := by
  have h1 := itoa_len_nat k hk
  have h2 := quote_len t
  simp only [textF, ptxt, Part.t, List.map_cons, List.map_nil, List.flatten_cons, List.flatten_nil, List.length_append, List.length_cons, List.length_nil]
  omega
theorem listTxt_len (l : List Int) (h : ∀ y ∈ l, -9223372036854775808 ≤ y ∧ y ≤ 9223372036854775807) : (listTxt l).length ≤ 22 * l.length := by
  cases l with
  | nil => simp [listTxt]
  | cons x l =>
    have h1 := Lib.itoa_length_le x (h x (by simp)).1 (h x (by simp)).2
    have h2 : (l.map fun y => 32 :: Lib.itoa y).flatten.length ≤ 22 * l.length := by
      have hl : ∀ y ∈ l, -9223372036854775808 ≤ y ∧ y ≤ 9223372036854775807 := fun y hy => h y (by simp [hy])
      clear h h1
      induction l with
      | nil => simp
      | cons y l ih =>
        have h3 := Lib.itoa_length_le y (hl y (by simp)).1 (hl y (by simp)).2
        have h4 := ih (fun z hz => hl z (by simp [hz]))
        simp only [List.map_cons, List.flatten_cons, List.length_append, List.length_cons]
        omega
    simp only [listTxt, List.length_append, List.length_cons]
    omega
theorem useTxt_len (x : Ins) (hx : x.ok) (c : UInt8) : (useTxt x c).length ≤ 30 + 22 * x.list.length := by
  have ha := Lib.itoa_length_le x.a hx.a.1 hx.a.2
  have hb := Lib.itoa_length_le x.b hx.b.1 hx.b.2
  have hc := Lib.itoa_length_le x.c hx.c.1 hx.c.2
  have hd := Lib.itoa_length_le x.d hx.d.1 hx.d.2
  have hl := listTxt_len x.list hx.l
  unfold useTxt
  split
  · rw [List.length_cons]; omega
  · split
    · rw [List.length_cons]; omega
    · split
      · rw [List.length_cons]; omega
      · split
        · rw [List.length_cons]; omega
        · simp only [List.length_append, List.length_cons, List.length_nil]; omega
theorem usesTxt_len (x : Ins) (hx : x.ok) (u : Bytes) : (usesTxt x u).length ≤ u.length * (30 + 22 * x.list.length) := by
  induction u with
  | nil => simp [usesTxt]
  | cons c u ih =>
    have h1 := useTxt_len x hx c
    simp only [usesTxt, List.map_cons, List.flatten_cons, List.length_append, List.length_cons] at ih ⊢
    rw [Nat.succ_mul]
    omega
theorem names_len : ∀ p ∈ tbl, p.1.length ≤ 10 := by
  have h : tbl.all (fun p => Nat.ble p.1.length 10) = true := by kernel_rfl
  intro p hp
  exact Nat.le_of_ble_eq_true (List.all_eq_true.1 h p hp)
theorem nameOf_len (z : Int) : (nameOf z).length ≤ 10 := by
  unfold nameOf entry
  split
  · rename_i hz
    have h2 : tbl[z.toNat]? = some (tbl.getD z.toNat ([], [])) := tbl_at _ (by omega)
    exact names_len _ (List.mem_of_getElem? h2)
  · decide
theorem insTxt_len (k : Nat) (hk : k ≤ 1000000000) (x : Ins) (hx : x.ok) : (insF k x).length ≤ 334 + 220 * x.list.length := by
  have h1 := itoa_len_nat k hk
  have h2 := nameOf_len x.op
  have h3 := usesTxt_len x hx (useOf x.op)
  have h4 := useOf_len x.op
  have h5 : (useOf x.op).length * (30 + 22 * x.list.length) ≤ 10 * (30 + 22 * x.list.length) := Nat.mul_le_mul_right _ h4
  simp only [insF, insTxt, List.length_append, List.length_cons, List.length_nil]
  omega
theorem headF_len (k : Nat) (hk : k ≤ 100000000) (f : Fnc) (hf : f.ok) : (headF k f).length ≤ 120 + f.name.length := by
  have h1 : (Lib.itoa ((k : Int) + 1)).length ≤ 21 := Lib.itoa_length_le _ (by omega) (by omega)
  have h2 := Lib.itoa_length_le f.params hf.params.1 hf.params.2
  have h3 := Lib.itoa_length_le f.captures hf.captures.1 hf.captures.2
  have h4 : (if f.name = [] then ([45] : Bytes) else f.name).length ≤ f.name.length + 1 := by split <;> simp
  simp only [headF, ptxt, Part.t, List.map_cons, List.map_nil, List.flatten_cons, List.flatten_nil, List.length_append, List.length_cons, List.length_nil]
  omega
theorem fnF_len (k : Nat) (hk : k ≤ 100000000) (f : Fnc) (hf : f.ok) : (fnF k f).length ≤ 400 + 400 * (cntF f + lsum f.code) := by
  have h1 := headF_len k hk f hf
  have h2 := idx_len (fun _ => flagTxt) (fun _ => 1) f.refs.length f.refs 0 (by omega) (fun _ r _ _ => by cases r <;> decide)
  have h3 := idx_len insF (fun x => 334 + 220 * x.list.length) f.code.length f.code 0 (by omega) (fun q x hq hx => insTxt_len q (by have := hf.ncode; omega) x (hf.code x hx).1)
  have h4 : (f.refs.map fun _ => 1).sum = f.refs.length := by rw [List.map_const', List.sum_replicate_nat, Nat.mul_one]
  rw [sum_lin (fun x : Ins => x.list.length) 334 220] at h3
  rw [h4] at h2
  have h5 : (if f.result then ([32, 114, 101, 115, 117, 108, 116] : Bytes) else []).length ≤ 7 := by split <;> decide
  simp only [fnF, List.length_append, List.length_cons, List.length_nil, cntF, lsum]
  omega
theorem progTxt_len (p : Pg) (hp : p.ok) : (progTxt p).length ≤ 400 * cntP p + 50 := by
  have h1 := idx_len textF (fun t => 40 + 2 * t.length) p.texts.length p.texts 0 (by omega) (fun q t hq _ => textF_len q (by have := hp.ntexts; omega) t)
  have h2 := idx_len fnF (fun f => 400 + 400 * (cntF f + lsum f.code)) p.funcs.length p.funcs 0 (by omega) (fun q f hq hf => fnF_len q (by have := hp.nfuncs; omega) f (hp.funcs f hf))
  have h3 := Lib.itoa_length_le p.main hp.main.1 hp.main.2
  rw [sum_lin (fun t : Bytes => t.length) 40 2] at h1
  rw [sum_lin (fun f : Fnc => cntF f + lsum f.code) 400 400] at h2
  simp only [progTxt, List.length_append, ptxt, Part.t, List.map_cons, List.map_nil, List.flatten_cons, List.flatten_nil, List.length_cons, List.length_nil]
  unfold cntP
  have e : (p.texts.map List.length).sum = (p.texts.map fun t => t.length).sum := rfl
  rw [e]
  omega
end Go.Proofs.YtdbbalcicgllhaaGreatDoor
