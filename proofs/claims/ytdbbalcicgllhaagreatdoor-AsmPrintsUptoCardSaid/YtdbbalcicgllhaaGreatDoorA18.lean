import Derived.Test.YtdbbalcicgllhaaGreatDoorA17
namespace Go.Proofs.YtdbbalcicgllhaaGreatDoor
open Go.RowKit

/-- Numbers with blanks between. -/
def listTxt : List Int → Bytes
  | [] => []
  | x :: l => Lib.itoa x ++ (l.map fun y => 32 :: Lib.itoa y).flatten
def useTxt (x : Ins) (c : UInt8) : Bytes :=
  if c = 65 then 32 :: Lib.itoa x.a else if c = 66 then 32 :: Lib.itoa x.b else if c = 67 then 32 :: Lib.itoa x.c else if c = 68 then 32 :: Lib.itoa x.d
  else [32, 91] ++ listTxt x.list ++ [93]
def usesTxt (x : Ins) (u : Bytes) : Bytes := (u.map (useTxt x)).flatten
def insTxt (k : Int) (x : Ins) : Bytes := ([9] ++ Lib.itoa k ++ [32] ++ nameOf x.op) ++ usesTxt x (useOf x.op) ++ [10]

theorem flatten_take_step (xs : List Bytes) (j : Nat) (y : Bytes) (h : xs[j]? = some y) : (xs.take (j + 1)).flatten = (xs.take j).flatten ++ y := by
  rw [List.take_add_one, h, List.flatten_append]
  simp
theorem usesTxt_step (x : Ins) (u : Bytes) (p : Nat) (c : UInt8) (h : u[p]? = some c) : usesTxt x (u.take (p + 1)) = usesTxt x (u.take p) ++ useTxt x c := by
  unfold usesTxt
  rw [List.map_take, List.map_take]
  exact flatten_take_step _ _ _ (by rw [List.getElem?_map, h]; rfl)
theorem usesTxt_le (x : Ins) (u : Bytes) (p : Nat) : (usesTxt x (u.take p)).length ≤ (usesTxt x u).length := by
  unfold usesTxt
  rw [List.map_take]
  exact take_flat_le _ _
theorem listTxt_step (l : List Int) (j : Nat) (y : Int) (h : l[j]? = some y) : listTxt (l.take (j + 1)) = listTxt (l.take j) ++ (if j = 0 then [] else [32]) ++ Lib.itoa y := by
  cases l with
  | nil => simp at h
  | cons x l =>
    cases j with
    | zero =>
      have h : x = y := by simpa using h
      subst h
      simp [listTxt]
    | succ j =>
      have h : l[j]? = some y := by simpa using h
      rw [List.take_succ_cons, List.take_succ_cons]
      simp only [listTxt, List.map_take]
      rw [flatten_take_step _ j (32 :: Lib.itoa y) (by rw [List.getElem?_map, h]; rfl)]
      simp
theorem listTxt_le (l : List Int) (j : Nat) : (listTxt (l.take j)).length ≤ (listTxt l).length := by
  cases l with
  | nil => simp
  | cons x l =>
    cases j with
    | zero => simp [listTxt]
    | succ j =>
      rw [List.take_succ_cons]
      simp only [listTxt, List.map_take, List.length_append]
      have := take_flat_le (l.map fun y => 32 :: Lib.itoa y) j
      omega

theorem uses_of : ∀ p ∈ tbl, ∀ c ∈ p.2, c = 65 ∨ c = 66 ∨ c = 67 ∨ c = 68 ∨ c = 76 := by
  have h : tbl.all (fun p => p.2.all (fun c => c == 65 || c == 66 || c == 67 || c == 68 || c == 76)) = true := by kernel_rfl
  intro p hp c hc
  have := List.all_eq_true.1 (List.all_eq_true.1 h p hp) c hc
  simpa [or_assoc] using this
theorem useOf_mem (z : Int) : ∀ c ∈ useOf z, c = 65 ∨ c = 66 ∨ c = 67 ∨ c = 68 ∨ c = 76 := by
  intro c hc
  unfold useOf entry at hc
  split at hc
  · rename_i hz
    have h2 : tbl[z.toNat]? = some (tbl.getD z.toNat ([], [])) := tbl_at _ (by omega)
    exact uses_of _ (List.mem_of_getElem? h2) c hc
  · simp at hc

theorem iterAt_upd (w : World) (k : Nat) (s : ByteArray) (p : Nat) : Upd (fun b => b = k) w (w.iterAt k s p) :=
  ⟨rfl, rfl, rfl, by simp [World.iterAt], fun j _ hn => by
    show (w.heap.setIfInBounds k (.stringIter s p))[j]? = w.heap[j]?
    rw [Array.getElem?_setIfInBounds_ne (fun h => hn h.symm)]⟩

/-- A block that is new and not the builder's may turn. -/
theorem WStep.far {b K : Nat} {w wr wr' : World} (h : WStep b w wr) (hu : Upd (fun j => j = K) wr wr') (hK : w.heap.size ≤ K) (hb : b ≠ K) (hbl : b < wr.heap.size) : WStep b w wr' :=
  ⟨h.up.trans hu (fun k hk e => by omega), fun k hk ⟨v, hv, ho⟩ => h.own k hk ⟨v, (World.cell?_of_block (hu.block b hbl hb)).symm.trans hv, ho⟩⟩
theorem Bd.far {T : TypeId} {ex : List Value} {b K : Nat} {w w' : World} {out : Bytes} (h : Bd T ex b w out) (hu : Upd (fun j => j = K) w w') (hn : ¬ WS b w K) : Bd T ex b w' out := by
  obtain ⟨p, v, h1, h2, h3, h4⟩ := h.at_
  have hb : b ≠ K := fun e => hn (.inl e.symm)
  refine ⟨p, v, hu.at_ h1 hb, h2, ownsRow_upd h3 hu (fun k hk e => hn (.inr ⟨v, by simp [World.cell?, h1], by rw [← e]; exact hk⟩)), h4⟩

/-- Where the writing of an instruction stands: its own block 'I', the iterator at 'K'. -/
structure It (b : Nat) (w0 w : World) (I K : Nat) (bx : Obj) (S : Nat → Prop) (lv : Value) (l : List Int) (U : ByteArray) (wr : World) (out : Bytes) (p : Nat) : Prop where
  st : St b w0 wr out
  ws : WStep b w wr
  ib : wr.heap[I]? = some bx
  ni : ¬ WS b wr I
  row : RowV DInt 1 wr S lv l
  nr : ∀ k, S k → k < wr.heap.size ∧ ¬ WS b wr k ∧ k ≠ K
  it : wr.heap[K]? = some (.stringIter U p)
  nk : ¬ WS b wr K
  ik : I ≠ K
  wk : w.heap.size ≤ K

theorem It.step {b : Nat} {w0 w : World} {I K : Nat} {bx : Obj} {S : Nat → Prop} {lv : Value} {l : List Int} {U : ByteArray} {wr wr' : World} {out out' : Bytes} {p : Nat} (h : It b w0 w I K bx S lv l U wr out p) (hs : WStep b wr wr') (hst : St b w0 wr' out') : It b w0 w I K bx S lv l U wr' out' p :=
  ⟨hst, h.ws.trans hs, (hs.at_ h.ib h.ni).1, (hs.at_ h.ib h.ni).2, h.row.upd stInt hs.up (fun k hk _ => (h.nr k hk).2.1),
    fun k hk => ⟨Nat.lt_of_lt_of_le (h.nr k hk).1 hs.up.size, hs.not (h.nr k hk).1 (h.nr k hk).2.1, (h.nr k hk).2.2⟩, (hs.at_ h.it h.nk).1, (hs.at_ h.it h.nk).2, h.ik, h.wk⟩

theorem ws_far {b K : Nat} {w w' : World} (hu : Upd (fun j => j = K) w w') (hb : b ≠ K) (hbl : b < w.heap.size) {k : Nat} (h : ¬ WS b w k) : ¬ WS b w' k := by
  rintro (e | ⟨v, hv, ho⟩)
  · exact h (.inl e)
  · exact h (.inr ⟨v, (World.cell?_of_block (hu.block b hbl hb)).symm.trans hv, ho⟩)

theorem It.next {b : Nat} {w0 w : World} {I K : Nat} {bx : Obj} {S : Nat → Prop} {lv : Value} {l : List Int} {U : ByteArray} {wr : World} {out : Bytes} {p : Nat} (h : It b w0 w I K bx S lv l U wr out p) (p' : Nat) (hw0 : w0.heap.size ≤ K) : It b w0 w I K bx S lv l U (wr.iterAt K U p') out p' := by
  have hu := iterAt_upd wr K U p'
  have hb : b ≠ K := fun e => h.nk (.inl e.symm)
  have hbl := h.st.bd.lt
  have hK0 : (0 : Nat) ≠ K := by
    have := h.st.tab.lt
    intro e
    subst e
    exact absurd h.it (by
      have ht := h.st.tab
      unfold Tab Lib.TabIs World.var? at ht
      rw [g0] at ht
      simp only [Option.bind_some] at ht
      intro hi
      rw [hi] at ht
      simp at ht)
  refine ⟨⟨h.st.bd.far hu h.nk, h.st.st.far hu hw0 hb hbl, h.st.tab.upd hu hK0, ws_far hu hb hbl h.st.nz⟩, h.ws.far hu h.wk hb hbl, hu.at_ h.ib h.ik, ws_far hu hb hbl h.ni, h.row.upd stInt hu (fun k hk _ => (h.nr k hk).2.2), fun k hk => ⟨Nat.lt_of_lt_of_le (h.nr k hk).1 hu.size, ws_far hu hb hbl (h.nr k hk).2.1, (h.nr k hk).2.2⟩, Lib.iterAt_heap wr K U p p' h.it, ws_far hu hb hbl h.nk, h.ik, h.wk⟩
end Go.Proofs.YtdbbalcicgllhaaGreatDoor
