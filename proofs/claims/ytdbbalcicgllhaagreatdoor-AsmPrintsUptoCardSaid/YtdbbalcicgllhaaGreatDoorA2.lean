import Derived.Test.YtdbbalcicgllhaaGreatDoorA1
namespace Go.Proofs.YtdbbalcicgllhaaGreatDoor
open Go.RowKit

theorem Own.lt {T : TypeId} {ex : List Value} {b : Nat} {w : World} {out : Bytes} (h : Bd T ex b w out) {k : Nat} (ho : Own b w k) : k < w.heap.size := by
  obtain ⟨p, v, h1, h2, h3, h4⟩ := h.at_
  obtain ⟨v', hv', ho⟩ := ho
  have : v' = v := by simpa [World.cell?, h1] using hv'.symm
  subst this
  exact (h3.lt k ho).2

theorem copy_any {T : TypeId} {ex : List Value} (hT : Head T ex.length) {b : Nat} {w : World} {out : Bytes} (h : Bd T ex b w out) :
    Calls Tryz.prog 21 #[.pointer (some ⟨b, 0, none⟩)] w fun e w' => e = .returned (.tuple #[]) ∧ (∃ v, w'.heap[b]? = some (.cells (.pointer (some ⟨b, 0, none⟩) :: v :: ex).toArray T (0, 0)) ∧ w'.ownsRow 0 5 1 v out.length (Lib.byteCells out) ∧ v.ownBlock ≠ some b) ∧ WStep b w w' := by
  obtain ⟨p, v, h1, h2, h3, h4⟩ := h.at_
  rcases h2 with rfl | rfl
  · refine (copy_fresh T ex.length hT b w (by simp [World.cell?, h1]) (by simp [World.shape?, h1]) (by simp [World.frozen?, h1])).mono ?_
    rintro e w' ⟨rfl, rfl⟩
    have hu : Upd (fun k => k = b) w (w.setCell ⟨b, 0, none⟩ (.pointer (some ⟨b, 0, none⟩))) := Upd.setCell _ _ _ rfl
    have h1' : (w.setCell ⟨b, 0, none⟩ (.pointer (some ⟨b, 0, none⟩))).heap[b]? = some (.cells (.pointer (some ⟨b, 0, none⟩) :: v :: ex).toArray T (0, 0)) := by simp [World.setCell, Array.getElem?_modify, h1]
    refine ⟨rfl, ⟨v, h1', ownsRow_upd h3 hu (fun k hk e => h4 (by rw [hk, e])), h4⟩, hu.wide fun _ _ e => .inl e, ?_⟩
    rintro k hk ⟨v', hv', ho⟩
    have : v' = v := by simpa [World.cell?, h1'] using hv'.symm
    subst this
    exact ⟨v', by simp [World.cell?, h1], ho⟩
  · refine (copy_used b w (by simp [World.cell?, h1])).mono ?_
    rintro e w' ⟨rfl, rfl⟩
    exact ⟨rfl, ⟨v, h1, h3, h4⟩, WStep.refl _ _⟩

/-- Where the row lies behind an append of a string. -/
theorem run_append_str_lies {w : World} {base : Nat} {t u ty e : TypeId} {i : TypeInfo} (ht : Tryz.prog.underlying t = some (.slice e)) (hu : Tryz.prog.underlying u = some .string) (hi : Tryz.prog.info? e = some i) (hz : i.zero = some (.int .u8 0))
    (hsize : i.size = 1) (hby : i.bytes = 1) {v : Value} {n : Nat} {xs : List Value} (hown : w.ownsRow base e 1 v n xs) {s : ByteArray}
    (hbytes : n + s.size ≤ 140737488355328) {v' : Value} {w' : World} (hr : (Builtin.append_ #[t, u] ty #[v, .string s]).run Tryz.prog w = .ok v' w') :
    v'.ownBlock = v.ownBlock ∨ v'.ownBlock = some w.heap.size := by
  have hxl : xs.length = n := by simpa using hown.1
  rcases hown.2 with ⟨rfl, rfl⟩ | ⟨g, cap, cur, rfl, hbg, hg, hnc, hcm, hcs, htake⟩
  · by_cases hm : s.size = 0
    · have hf := Lib.run_firstCells_string (P := Tryz.prog) w 1 s
      rw [hm] at hf
      have h2 : (Builtin.append_ #[t, u] ty #[.slice none 0 0, .string s]).run Tryz.prog w = .ok (.slice none 0 0) w := by
        have hn : Lib.strCells s = [] := List.eq_nil_of_length_eq_zero (by rw [Lib.strCells_length]; exact hm)
        simp [Builtin.append_, run_underlying ht, run_underlying hu, sizeOf, typeInfo, hi, hsize, Builtin.lenOf, hm, hf]
      rw [hr] at h2
      injection h2 with h2 _
      exact .inl (by rw [h2])
    · have h2 := run_append_nil_string (P := Tryz.prog) w t u ty e i (.int .u8 0) ht hu hi hz s (by omega) (by omega) (by rw [hby]; omega)
      rw [hr] at h2
      injection h2 with h2 _
      exact .inr (by rw [h2]; rfl)
  · by_cases hroom : n + s.size ≤ cap
    · have hcs' : cur.size = cap := by simpa using hcs
      have h2 := Lib.run_append_room_string (P := Tryz.prog) w t u ty e i ht hu hi hsize g n cap cur hg s hroom (by omega)
      rw [hr] at h2
      injection h2 with h2 _
      exact .inl (by rw [h2]; rfl)
    · have holds : ∀ j u, xs[j]? = some u → w.cell? ((⟨g, 0, none⟩ : Addr).add j) = some u := hown.cells (g := g) rfl
      have h2 := Lib.run_append_grow_string (P := Tryz.prog) w t u ty e i (.int .u8 0) ht hu hi hz ⟨g, 0, none⟩ n cap xs (by rw [hsize]; simpa using hxl) holds s (by omega) (by omega) (by rw [hby]; exact growslice_fits (by omega) (by omega))
      rw [hr] at h2
      injection h2 with h2 _
      exact .inr (by rw [h2]; rfl)

theorem wpList_append_str {w : World} {ops : Array Oper} {rest : List Oper} {o : Oper} {a : Act} {Q : Exit → Act → World → Prop} (hgd : o.guard = none) (sl x : Operand) (t u : TypeId)
    (ho : o.op = .call { callee := .builtin .append, args := #[sl, x], argTypes := #[t, u] })
    (e : TypeId) (i : TypeInfo) (ht : Tryz.prog.underlying t = some (.slice e)) (hu : Tryz.prog.underlying u = some .string) (hi : Tryz.prog.info? e = some i) (hz : i.zero = some (.int .u8 0))
    (hsize : i.size = 1) (hby : i.bytes = 1)
    (v : Value) (n : Nat) (xs : List Value) (hs : a.eval sl = v) (hown : w.ownsRow 0 e 1 v n xs) (s : ByteArray) (hx : a.eval x = .string s)
    (hbytes : n + s.size ≤ 140737488355328)
    (h : ∀ v' w', w'.ownsRow 0 e 1 v' (n + s.size) (xs ++ Lib.strCells s) → w.grownBy w' v.ownBlock → (v'.ownBlock = v.ownBlock ∨ v'.ownBlock = some w.heap.size) → wpList Tryz.prog ops Q rest (a.put o.dst v') w') : wpList Tryz.prog ops Q (o :: rest) a w := by
  refine wpList_plain hgd fun K hK => ?_
  obtain ⟨v', w', hr, h2, h3, h4⟩ := Lib.run_append_own_string (P := Tryz.prog) w 0 t u o.type e i ht hu hi hz hsize hby v n xs hown s (by unfold maxLen; omega) hbytes (Nat.zero_le _)
  unfold Oper.wp execOp
  have hl := run_append_str_lies ht hu hi hz hsize hby hown hbytes hr
  simp only [ho, resolve, invoke, builtin, Sem.run_bind, Sem.run_pure, Result.andThen_ok, List.map_toArray, List.map_cons, List.map_nil, hs, hx, hr]
  exact hK _ _ (h v' w' h2 h3 hl)

set_option maxRecDepth 100000 in
theorem ws_any {T : TypeId} {ex : List Value} (hT : Head T ex.length) (h5 : T ≠ 5) {b : Nat} (s : ByteArray) {w : World} {out : Bytes} (h : Bd T ex b w out) (hlen : out.length + s.size ≤ 1000000000) :
    Calls Tryz.prog 18 #[.pointer (some ⟨b, 0, none⟩), .string s] w fun e w' => e = .returned (.tuple #[.int .i64 s.size, .nilIface]) ∧ Bd T ex b w' (out ++ s.data.toList) ∧ WStep b w w' := by
  obtain ⟨i0, hi, hz0, hz1, hz2⟩ := info_parts i5
  have c := copy_any hT h
  clear h
  go_enter Tryz.func18, Tryz.ntmps18
  go_wp2_with (with_reducible refine c.mono ?_)
  rintro e w1 ⟨rfl, ⟨v, hbk, hown, hne⟩, hs1⟩
  have c0 : w1.cell? ⟨b, 0, none⟩ = some (.pointer (some ⟨b, 0, none⟩)) := by simp [World.cell?, hbk]
  have c1 : w1.cell? ⟨b, 1, none⟩ = some v := by simp [World.cell?, hbk]
  have HS := Lib.hid hs1
  have HB := Lib.hid hbk
  have HN := Lib.hid hne
  clear hs1 hbk hne
  go_wp2_with (at_builtin; refine wpList_append_str rfl _ _ 43 9 rfl 5 i0 Tryz.underlying43 Tryz.underlying9 hi hz0 hz1 hz2 _ _ _ rfl hown s rfl ?c4 ?_)
  case c4 => omega
  intro v' w2 hown' hgrow hlie
  have hug : Upd (fun k => v.ownBlock = some k) w1 w2 := Upd.grown hgrow fun _ h => h
  have hb2 := hug.at_ HB.out HN.out
  have d1 : w2.cell? ⟨b, 1, none⟩ = some v := by simp [World.cell?, hb2]
  have f1 : w2.frozen? ⟨b, 1, none⟩ = false := by simp [World.frozen?, hb2]
  obtain ⟨ao, n', cap, rfl⟩ : ∃ ao n' cap, v' = .slice ao n' cap := by
    rcases hown'.2 with ⟨hv, _⟩ | ⟨g, cap, cur, hv, _⟩
    · exact ⟨_, _, _, hv⟩
    · exact ⟨_, _, _, hv⟩
  have hne2 : (Value.slice ao n' cap).ownBlock ≠ some b := Lib.ownBlock_ne hown' hb2 h5
  have HUG := Lib.hid hug
  have HB2 := Lib.hid hb2
  have HO2 := Lib.hid hown'
  have HN2 := Lib.hid hne2
  have HG := Lib.hid hgrow
  have HL := Lib.hid hlie
  have HO := Lib.hid hown
  clear hug hb2 hown' hne2 hgrow hown hlie
  go_wp2
  go_ret2
  have hu2 : Upd (fun k => k = b) w2 (w2.setCell ⟨b, 1, none⟩ (.slice ao n' cap)) := Upd.setCell _ _ _ rfl
  have h1' : (w2.setCell ⟨b, 1, none⟩ (.slice ao n' cap)).heap[b]? = some (.cells (.pointer (some ⟨b, 0, none⟩) :: .slice ao n' cap :: ex).toArray T (0, 0)) := by simp [World.setCell, Array.getElem?_modify, HB2.out]
  refine ⟨rfl, ⟨_, _, h1', .inr rfl, ?_, HN2.out⟩, HS.out.trans ⟨?_, ?_⟩⟩
  · have := ownsRow_upd HO2.out hu2 (fun k hk e => HN2.out (by rw [hk, e]))
    rw [List.length_append, Lib.byteCells_append, ← Lib.strCells_eq, show s.data.toList.length = s.size from Array.length_toList]
    exact this
  · have hc1 : w1.cell? ⟨b, 1, none⟩ = some v := c1
    exact (HUG.out.wide fun k _ hk => .inr ⟨v, hc1, hk⟩).trans hu2 fun k _ e => .inl e
  · rintro k hk ⟨x, hx, ho⟩
    have : x = .slice ao n' cap := by simpa [World.cell?, h1'] using hx.symm
    subst this
    refine ⟨v, c1, ?_⟩
    rcases HL.out with hl | hl
    · rw [← hl]; exact ho
    · rw [ho] at hl
      injection hl with hl
      omega
end Go.Proofs.YtdbbalcicgllhaaGreatDoor
