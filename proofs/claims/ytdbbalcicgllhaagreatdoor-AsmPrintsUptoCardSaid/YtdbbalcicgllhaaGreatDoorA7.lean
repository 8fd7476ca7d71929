import Derived.Test.YtdbbalcicgllhaaGreatDoorA6
import Derived.Test.YtdbbalcicgllhaaGreatDoorA4
import Derived.Laws.IdiomStrings
import Derived.Lib.ConvBytes
import Derived.Laws.Tables
import Derived.Laws.MakeOwn
import Derived.Lib.SliceRun
import Derived.Deep.RegionHeld3
namespace Go.Proofs.YtdbbalcicgllhaaGreatDoor
open Go.RowKit

def olds : List Bytes := [[10], [92, 110], [34], [92, 34], [92], [92, 92]]
def keys : List UInt8 := [92, 34, 10]
def esc1 (c : UInt8) : Bytes := if c = 10 then [92, 110] else if c = 34 then [92, 34] else if c = 92 then [92, 92] else [c]

theorem Upd.setRow {S : Nat → Prop} (w : World) (g : Nat) (cs : Array Value) (h : S g) : Upd S w (w.setRow g cs) :=
  ⟨rfl, rfl, rfl, by simp, fun k _ hn => setRow_other w g k cs (fun e => hn (e ▸ h))⟩
theorem Upd.bytesWorld (S : Nat → Prop) (w : World) (e : TypeId) (s : ByteArray) : Upd S w (Lib.bytesWorld w e s) :=
  ⟨rfl, rfl, rfl, by rw [Lib.bytesWorld_size]; omega, fun k hk _ => Lib.bytesWorld_at_old w e s k hk⟩

/-- What stands for a byte. -/
def RepV (w : World) (v : Value) : Option Bytes → Prop
  | none => v = .slice none 0 0
  | some l => ∃ (g cp : Nat) (bs : Array Value) (fr : Nat × Nat), v = .slice (some ⟨g, 0, none⟩) l.length cp ∧ w.heap[g]? = some (.cells bs 5 fr) ∧ ∀ (j : Nat) (x : UInt8), l[j]? = some x → bs[j]? = some (.int .u8 x.toNat)

/-- The replacer behind 'k' of its three bytes. -/
structure BI (Y Z k : Nat) (w : World) : Prop where
  y : ∃ arr : Array Value, w.heap[Y]? = some (.cells arr 129 (0, 0)) ∧ arr.size = 257 ∧ arr[256]? = some (.slice (some ⟨Z, 0, none⟩) k 3) ∧
    ∀ c : Nat, c < 256 → ∃ v, arr[c]? = some v ∧ RepV w v (if UInt8.ofNat c ∈ keys.take k then some (esc1 (UInt8.ofNat c)) else none)
  z : ∃ zs : Array Value, w.heap[Z]? = some (.cells zs 9 (0, 0)) ∧ zs.size = 3 ∧ ∀ (i : Nat) (x : UInt8), i < k → keys[i]? = some x → zs[i]? = some (.string ⟨#[x]⟩)

theorem q43 (w : World) (a : Option Addr) (n c n' c' : Nat) : (binOp .eql 43 (.slice a n c) (.slice none n' c')).run Tryz.prog w = .ok (.bool a.isNone) w := Lib.run_eql_slice_nil w _ _ a n c n' c' Tryz.underlying43
theorem i22 : (Tryz.prog.info? 9).map (fun i => (i.zero, i.size, i.bytes)) = some (some (.string ⟨#[]⟩), 1, 16) := by kernel_rfl

theorem mk22 (w : World) : (Instr.makeSlice 22 (.int .i64 0) (.int .i64 3)).run Tryz.prog w = .ok (.slice (some ⟨w.heap.size, 0, none⟩) 0 3) (w.alloc (.cells #[.string ⟨#[]⟩, .string ⟨#[]⟩, .string ⟨#[]⟩] 9 (0, 0))) := by
  obtain ⟨i0, hi, hz0, hz1, hz2⟩ := info_parts i22
  have h := run_makeSlice (P := Tryz.prog) w 22 9 i0 _ Tryz.underlying22 hi hz0 .i64 .i64 0 3 (by decide) (by decide) (by rw [hz1]; decide) (by rw [hz2]; decide) (by decide)
  rw [h, hz1]
  have hm : madeCells (Value.string ⟨#[]⟩).cells 3 = #[.string ⟨#[]⟩, .string ⟨#[]⟩, .string ⟨#[]⟩] := by kernel_rfl
  show Result.ok _ (w.alloc (.cells (madeCells (Value.string ⟨#[]⟩).cells 3) 9 (0, 0))) = _
  rw [hm]
  rfl

theorem z129size : Tryz.zeroCells129.size = 257 := by kernel_rfl
theorem z129one : Tryz.zeroCells129.toList.all (fun v => v.oneCell') = true := by kernel_rfl
theorem st_gen (t : TypeId) (zs : List Value) (n : Nat) (hn : zs.length = n) (hz : zs.all (fun v => v.oneCell') = true) (i : Nat) (v : Value) (hv : v.oneCell' = true) (g : Nat) (w : World) (hg : w.heap[g]? = some (.cells zs.toArray t (0, 0))) :
    (storeCells ⟨g, 0, none⟩ (zs.set i v)).run Tryz.prog w = .ok () (w.setRow g (zs.set i v).toArray) := by
  have hl : (zs.set i v).length = n := by rw [List.length_set]; exact hn
  have h := run_storeCells_at Tryz.prog g 0 t (zs.set i v) 0 zs.toArray w hg (by rw [hl]; simp [hn]) (by
    intro x hx
    rcases List.mem_or_eq_of_mem_set hx with hx | rfl
    · exact List.all_eq_true.1 hz x hx
    · exact hv)
  rw [h, hl]
  have hd : List.drop n zs = [] := List.drop_eq_nil_of_le (Nat.le_of_eq hn)
  simp [hd]
theorem st129 (v : Value) (hv : v.oneCell' = true) (g : Nat) (w : World) (hg : w.heap[g]? = some (.cells Tryz.zeroCells129 129 (0, 0))) :
    (storeCells ⟨g, 0, none⟩ (Tryz.zeroCells129.toList.set 256 v)).run Tryz.prog w = .ok () (w.setRow g (Tryz.zeroCells129.toList.set 256 v).toArray) :=
  st_gen 129 Tryz.zeroCells129.toList 257 z129size z129one 256 v hv g w (by rw [hg])

theorem cell_new (W : World) (v : Value) (t : TypeId) : (W.alloc (.cells #[v] t)).cell? ⟨W.heap.size, 0, none⟩ = some v := by
  have h := heap_alloc_new W (.cells #[v] t)
  unfold World.cell?
  rw [h]
  rfl
theorem cv43 (x : UInt8) (W : World) : (convert 43 9 (.slice (some ⟨W.heap.size, 0, none⟩) 1 1)).run Tryz.prog (W.alloc (.cells #[.int .u8 x.toNat] 5)) = .ok (.string ⟨#[x]⟩) (W.alloc (.cells #[.int .u8 x.toNat] 5)) :=
  run_convert_bytes_back (P := Tryz.prog) (W.alloc (.cells #[.int .u8 x.toNat] 5)) 43 9 5 ⟨W.heap.size, 0, none⟩ 1 [x] Tryz.underlying43 Tryz.underlying5 Tryz.underlying9 (by
    intro j hj
    have : j = 0 := by simp at hj; exact hj
    subst this
    exact cell_new W _ 5)

theorem ap22 (W : World) (Z k : Nat) (z : List Value) (x : ByteArray) (hZ : W.heap[Z]? = some (.cells z.toArray 9 (0, 0))) (hk : k < 3) (hz3 : z.length = 3) :
    (Builtin.append_ #[22, 22] 22 #[.slice (some ⟨Z, 0, none⟩) k 3, .slice (some ⟨W.heap.size, 0, none⟩) 1 1]).run Tryz.prog (W.alloc (.cells #[.string x] 9)) = .ok (.slice (some ⟨Z, 0, none⟩) (k + 1) 3) ((W.alloc (.cells #[.string x] 9)).setRow Z (z.set k (.string x)).toArray) := by
  obtain ⟨i0, hi, hz0, hz1, hz2⟩ := info_parts i22
  have hZ' : (W.alloc (.cells #[.string x] 9)).heap[Z]? = some (.cells z.toArray 9 (0, 0)) := by
    rw [Below.heap_alloc W _ Z (Array.getElem?_eq_some_iff.1 hZ).1]
    exact hZ
  have h := run_append_room (P := Tryz.prog) (w := W.alloc (.cells #[.string x] 9)) 22 22 9 i0 Tryz.underlying22 hi Z k 3 z.toArray hZ' ⟨W.heap.size, 0, none⟩ 1 1 [.string x] (by rw [hz1]; rfl)
    (by
      intro j u hj
      have hj0 : j = 0 := by
        have := (List.getElem?_eq_some_iff.1 hj).1
        simpa using this
      subst hj0
      have hu : Value.string x = u := by simpa using hj
      subst hu
      exact cell_new W _ 9)
    (by intro u hu; simp at hu; subst hu; rfl) (by omega) (by rw [hz1]; simp [hz3]; omega)
  have e : (z.toArray.toList.take (k * 1) ++ [Value.string x] ++ z.toArray.toList.drop (k * 1 + [Value.string x].length)).toArray = (z.set k (.string x)).toArray := by
    obtain ⟨a, b, c, rfl⟩ : ∃ a b c, z = [a, b, c] := by
      match z, hz3 with
      | [a, b, c], _ => exact ⟨a, b, c, rfl⟩
    have : k = 0 ∨ k = 1 ∨ k = 2 := by omega
    rcases this with rfl | rfl | rfl <;> rfl
  rw [h, hz1]
  exact congrArg (fun a => Result.ok _ (World.setRow _ Z a)) e

theorem RepV.upd {S : Nat → Prop} {w w' : World} {v : Value} {o : Option Bytes} (h : RepV w v o) (hu : Upd S w w') (hS : ∀ k cs t fr, S k → w.heap[k]? = some (.cells cs t fr) → t ≠ 5) : RepV w' v o := by
  cases o with
  | none => exact h
  | some l =>
    obtain ⟨g, cp, bs, fr, rfl, hg, hb⟩ := h
    exact ⟨g, cp, bs, fr, rfl, hu.at_ hg (fun hs => hS _ _ _ _ hs hg rfl), hb⟩

theorem take_succ_mem (k : Nat) (c e : UInt8) (hc : keys[k]? = some c) (he : e ≠ c) : (e ∈ keys.take (k + 1)) = (e ∈ keys.take k) := by
  rw [List.take_add_one, hc]
  simp [he]

theorem esc1_key {c : UInt8} {k : Nat} (hc : keys[k]? = some c) : ∃ x y, esc1 c = [x, y] := by
  have hm := List.mem_of_getElem? hc
  simp [keys] at hm
  rcases hm with rfl | rfl | rfl
  · exact ⟨_, _, rfl⟩
  · exact ⟨_, _, rfl⟩
  · exact ⟨_, _, rfl⟩

/-- What a round of the building does. -/
theorem round_pack (Y Z k : Nat) (w : World) (h : BI Y Z k w) (hk : k < 3) (c : UInt8) (hc : keys[k]? = some c) (d : Int) (hd : (c.toNat : Int) = d) (l : ByteArray) (hl : l = ⟨(esc1 c).toArray⟩) (hYZ : Z ≠ Y) : ∃ w2 w4 cp,
    (Builtin.append_ #[22, 22] 22 #[.slice (some ⟨Z, 0, none⟩) k 3, .slice (some ⟨w.heap.size + 1, 0, none⟩) 1 1]).run Tryz.prog ((w.alloc (.cells #[.int .u8 d] 5)).alloc (.cells #[.string ⟨#[c]⟩] 9)) = .ok (.slice (some ⟨Z, 0, none⟩) (k + 1) 3) w2 ∧
    w2.cell? ⟨Y, 256, none⟩ = some (.slice (some ⟨Z, 0, none⟩) k 3) ∧ w2.frozen? ⟨Y, 256, none⟩ = false ∧
    (convert 9 43 (.string l)).run Tryz.prog (w2.setCell ⟨Y, 256, none⟩ (.slice (some ⟨Z, 0, none⟩) (k + 1) 3)) = .ok (.slice (some ⟨w2.heap.size, 0, none⟩) 2 cp) w4 ∧
    w4.cell? ⟨Y, c.toNat, none⟩ = some (.slice none 0 0) ∧ w4.frozen? ⟨Y, c.toNat, none⟩ = false ∧
    Upd (fun b => b = Y ∨ b = Z) w (w4.setCell ⟨Y, c.toNat, none⟩ (.slice (some ⟨w2.heap.size, 0, none⟩) 2 cp)) ∧
    BI Y Z (k + 1) (w4.setCell ⟨Y, c.toNat, none⟩ (.slice (some ⟨w2.heap.size, 0, none⟩) 2 cp)) := by
  obtain ⟨⟨arr, hy, hys, h256, hcs⟩, ⟨zs, hz, hzs, hzk⟩⟩ := h
  have hYlt : Y < w.heap.size := (Array.getElem?_eq_some_iff.1 hy).1
  have hZlt : Z < w.heap.size := (Array.getElem?_eq_some_iff.1 hz).1
  obtain ⟨x, y, hxy⟩ := esc1_key hc
  rw [hxy] at hl
  have hsz : l.size = 2 := by rw [hl]; rfl
  obtain ⟨A, hA⟩ : ∃ A, w.alloc (.cells #[.int .u8 d] 5) = A := ⟨_, rfl⟩
  have hAs : A.heap.size = w.heap.size + 1 := by rw [← hA, World.size_alloc]
  have uA : Upd (fun b => b = Y ∨ b = Z) w A := hA ▸ Upd.alloc _ w _
  obtain ⟨B, hB⟩ : ∃ B, A.alloc (.cells #[.string ⟨#[c]⟩] 9) = B := ⟨_, rfl⟩
  have uB : Upd (fun b => b = Y ∨ b = Z) A B := hB ▸ Upd.alloc _ A _
  obtain ⟨zn, hzn⟩ : ∃ zn, (zs.toList.set k (.string ⟨#[c]⟩)).toArray = zn := ⟨_, rfl⟩
  have hap := ap22 A Z k zs.toList ⟨#[c]⟩ (by rw [← hA, Below.heap_alloc w _ Z hZlt]; exact hz) hk (by simpa using hzs)
  rw [hB, hzn, hAs] at hap
  obtain ⟨w2, hw2⟩ : ∃ w2, B.setRow Z zn = w2 := ⟨_, rfl⟩
  rw [hw2] at hap
  have u2 : Upd (fun b => b = Y ∨ b = Z) B w2 := hw2 ▸ Upd.setRow B Z zn (.inr rfl)
  have uAB := uA.trans uB (fun _ _ h => h)
  have uw2 := uAB.trans u2 (fun _ _ h => h)
  have hBZ : B.heap[Z]? = some (.cells zs 9 (0, 0)) := by
    rw [← hB, Below.heap_alloc A _ Z (by omega), ← hA, Below.heap_alloc w _ Z hZlt]
    exact hz
  have hBY : B.heap[Y]? = some (.cells arr 129 (0, 0)) := by
    rw [← hB, Below.heap_alloc A _ Y (by omega), ← hA, Below.heap_alloc w _ Y hYlt]
    exact hy
  have h2Y : w2.heap[Y]? = some (.cells arr 129 (0, 0)) := by rw [← hw2, setRow_other B Z Y zn (fun e => hYZ e.symm)]; exact hBY
  have h2Z : w2.heap[Z]? = some (.cells zn 9 (0, 0)) := by rw [← hw2]; exact setRow_heap B Z zs zn 9 (0, 0) hBZ
  obtain ⟨v3, hv3⟩ : ∃ v3, Value.slice (some ⟨Z, 0, none⟩) (k + 1) 3 = v3 := ⟨_, rfl⟩
  obtain ⟨w3, hw3⟩ : ∃ w3, w2.setCell ⟨Y, 256, none⟩ v3 = w3 := ⟨_, rfl⟩
  have h3eq : w3 = w2.setRow Y (arr.setIfInBounds 256 v3) := by rw [← hw3]; exact setCell_eq_setRow w2 Y 256 arr 129 (0, 0) v3 h2Y
  have h3Y : w3.heap[Y]? = some (.cells (arr.setIfInBounds 256 v3) 129 (0, 0)) := by rw [h3eq]; exact setRow_heap w2 Y arr _ 129 (0, 0) h2Y
  have h3Z : w3.heap[Z]? = some (.cells zn 9 (0, 0)) := by rw [h3eq, setRow_other w2 Y Z _ hYZ]; exact h2Z
  have h3s : w3.heap.size = w2.heap.size := by rw [h3eq]; simp
  have u3 : Upd (fun b => b = Y ∨ b = Z) w2 w3 := h3eq ▸ Upd.setRow w2 Y _ (.inl rfl)
  have hcv := Lib.run_convert_string_bytes (P := Tryz.prog) w3 9 43 5 l Tryz.underlying9 Tryz.underlying43 Tryz.underlying5
  obtain ⟨w4, hw4⟩ : ∃ w4, Lib.bytesWorld w3 5 l = w4 := ⟨_, rfl⟩
  obtain ⟨cp, hcp⟩ : ∃ cp, grownCap w3 l.size 0 5 = cp := ⟨_, rfl⟩
  rw [hw4, hcp, h3s, hsz] at hcv
  have u4 : Upd (fun b => b = Y ∨ b = Z) w3 w4 := hw4 ▸ Upd.bytesWorld _ w3 5 l
  have hY3 : Y < w3.heap.size := (Array.getElem?_eq_some_iff.1 h3Y).1
  have hZ3 : Z < w3.heap.size := (Array.getElem?_eq_some_iff.1 h3Z).1
  have h4Y : w4.heap[Y]? = some (.cells (arr.setIfInBounds 256 v3) 129 (0, 0)) := by rw [← hw4, Lib.bytesWorld_at_old w3 5 l Y hY3]; exact h3Y
  have h4Z : w4.heap[Z]? = some (.cells zn 9 (0, 0)) := by rw [← hw4, Lib.bytesWorld_at_old w3 5 l Z hZ3]; exact h3Z
  have h4N : w4.heap[w2.heap.size]? = some (.cells (Lib.bytesCells w3 5 l) 5 ((Lib.bytesCells w3 5 l).size, (Lib.bytesCells w3 5 l).size + 1)) := by rw [← hw4, ← h3s]; exact Lib.bytesWorld_at_new w3 5 l
  obtain ⟨v5, hv5⟩ : ∃ v5, Value.slice (some ⟨w2.heap.size, 0, none⟩) 2 cp = v5 := ⟨_, rfl⟩
  obtain ⟨w5, hw5⟩ : ∃ w5, w4.setCell ⟨Y, c.toNat, none⟩ v5 = w5 := ⟨_, rfl⟩
  have h5eq : w5 = w4.setRow Y ((arr.setIfInBounds 256 v3).setIfInBounds c.toNat v5) := by rw [← hw5]; exact setCell_eq_setRow w4 Y c.toNat _ 129 (0, 0) v5 h4Y
  have h5Y : w5.heap[Y]? = some (.cells ((arr.setIfInBounds 256 v3).setIfInBounds c.toNat v5) 129 (0, 0)) := by rw [h5eq]; exact setRow_heap w4 Y _ _ 129 (0, 0) h4Y
  have h5Z : w5.heap[Z]? = some (.cells zn 9 (0, 0)) := by rw [h5eq, setRow_other w4 Y Z _ hYZ]; exact h4Z
  have hNY : w2.heap.size ≠ Y := by omega
  have h5N : w5.heap[w2.heap.size]? = some (.cells (Lib.bytesCells w3 5 l) 5 ((Lib.bytesCells w3 5 l).size, (Lib.bytesCells w3 5 l).size + 1)) := by rw [h5eq, setRow_other w4 Y _ _ hNY]; exact h4N
  have u5 : Upd (fun b => b = Y ∨ b = Z) w4 w5 := h5eq ▸ Upd.setRow w4 Y _ (.inl rfl)
  have hup := ((uw2.trans u3 (fun _ _ h => h)).trans u4 (fun _ _ h => h)).trans u5 (fun _ _ h => h)
  have hc256 : c.toNat < 256 := c.toNat_lt
  refine ⟨w2, w4, cp, by rw [hA, hB]; exact hap, ?_, ?_, ?_, ?_, ?_, ?_, ?_⟩
  · simp [World.cell?, h2Y, h256]
  · simp [World.frozen?, h2Y]
  · rw [hv3, hw3, hv5] 
    rw [hv5] at hcv
    exact hcv
  · obtain ⟨v, hv, hr⟩ := hcs c.toNat hc256
    rw [if_neg] at hr
    · have hr : v = .slice none 0 0 := hr
      subst hr
      have : (arr.setIfInBounds 256 v3)[c.toNat]? = some (.slice none 0 0) := by
        rw [Array.getElem?_setIfInBounds_ne (by omega)]
        exact hv
      simp [World.cell?, h4Y, this]
    · rw [UInt8.ofNat_toNat]
      have : k = 0 ∨ k = 1 ∨ k = 2 := by omega
      rcases this with rfl | rfl | rfl <;> simp [keys] at hc ⊢ <;> subst hc <;> decide
  · simp [World.frozen?, h4Y]
  · rw [hv5, hw5]; exact hup
  · rw [hv5, hw5]
    refine ⟨⟨_, h5Y, by simp [hys], ?_, ?_⟩, ⟨zn, h5Z, ?_, ?_⟩⟩
    · rw [Array.getElem?_setIfInBounds_ne (by omega), Array.getElem?_setIfInBounds_self_of_lt (by omega), ← hv3]
    · intro e he
      obtain ⟨v, hv, hr⟩ := hcs e he
      by_cases hec : e = c.toNat
      · subst hec
        refine ⟨v5, Array.getElem?_setIfInBounds_self_of_lt (by simp [hys]; omega), ?_⟩
        rw [UInt8.ofNat_toNat, if_pos (by rw [List.take_add_one, hc]; simp), hxy]
        refine ⟨w2.heap.size, cp, _, _, hv5.symm, h5N, ?_⟩
        intro j b hj
        have hj2 : j < 2 := by
          have := (List.getElem?_eq_some_iff.1 hj).1
          simpa using this
        have hlx : l.data.toList[j]? = some b := by rw [hl]; exact hj
        have hlx2 : l.data[j]? = some b := by simpa using hlx
        have hsz2 : l.data.size = 2 := hsz
        simp only [Lib.bytesCells]
        rw [Array.getElem?_append_left (by simp [hsz2]; omega)]
        simp [hlx2]
      · refine ⟨v, ?_, ?_⟩
        · rw [Array.getElem?_setIfInBounds_ne (fun h => hec h.symm), Array.getElem?_setIfInBounds_ne (by omega)]
          exact hv
        · have hne : UInt8.ofNat e ≠ c := by
            intro h
            apply hec
            rw [← h]
            simp
            omega
          simp only [take_succ_mem k c _ hc hne]
          refine hr.upd hup ?_
          rintro b cs t fr (rfl | rfl) hb
          · rw [hy] at hb; injection hb with hb; injection hb with _ hb; subst hb; decide
          · rw [hz] at hb; injection hb with hb; injection hb with _ hb; subst hb; decide
    · rw [← hzn]; simp [hzs]
    · intro i x' hi hx'
      rw [← hzn]
      by_cases hik : i = k
      · subst hik
        rw [hc] at hx'
        have hx' := Option.some.inj hx'
        subst hx'
        rw [List.getElem?_toArray, List.getElem?_set_self (by rw [Array.length_toList, hzs]; exact hk)]
      · have := hzk i x' (by omega) hx'
        rw [List.getElem?_toArray, List.getElem?_set_ne (fun h => hik h.symm), Array.getElem?_toList]
        exact this
end Go.Proofs.YtdbbalcicgllhaaGreatDoor
