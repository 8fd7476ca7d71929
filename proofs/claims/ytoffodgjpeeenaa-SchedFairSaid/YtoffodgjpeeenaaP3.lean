import Derived.Test.YtoffodgjpeeenaaP2
namespace Go.Proofs.Ytoffodgjpeeenaa
open Go.RowKit

/-- Two queues, apart from each other, and what has been written since 'w0'. -/
def Two (B : Nat) (w0 w : World) (b pb : Nat) (scr l scr2 l2 : List Int) : Prop :=
  B ≤ b ∧ B ≤ pb ∧ UpB B w0 w ∧ B ≤ w.heap.size ∧ b ≠ pb ∧ ∃ sv lv Sv Lv, Que B w b sv lv scr l ∧ Que B w pb Sv Lv scr2 l2 ∧
    lv.ownBlock ≠ some pb ∧ Lv.ownBlock ≠ some b ∧ (∀ k, lv.ownBlock = some k → Lv.ownBlock ≠ some k) ∧ sv.ownBlock ≠ some pb ∧ (∀ k, sv.ownBlock = some k → Lv.ownBlock ≠ some k) ∧ Sv.ownBlock ≠ some b ∧ (∀ k, Sv.ownBlock = some k → lv.ownBlock ≠ some k)

theorem Two.swap {B : Nat} {w0 w : World} {b pb : Nat} {scr l scr2 l2 : List Int} (h : Two B w0 w b pb scr l scr2 l2) : Two B w0 w pb b scr2 l2 scr l := by
  obtain ⟨hb, hp, hu, hB, hne, sv, lv, Sv, Lv, hq, hr, d1, d2, d3, d4, d5, d6, d7⟩ := h
  exact ⟨hp, hb, hu, hB, hne.symm, Sv, Lv, sv, lv, hr, hq, d2, d1, fun k h1 h2 => d3 k h2 h1, d6, d7, d4, d5⟩

theorem Two.q {B : Nat} {w0 w : World} {b pb : Nat} {scr l scr2 l2 : List Int} (h : Two B w0 w b pb scr l scr2 l2) :
    ∃ sv lv, Que B w b sv lv scr l ∧ B ≤ w.heap.size ∧ ∀ w' scr' l', After B b sv lv w w' scr' l' → Two B w0 w' b pb scr' l' scr2 l2 := by
  obtain ⟨hb, hp, hu, hB, hne, sv, lv, Sv, Lv, hq, hr, d1, d2, d3, d4, d5, d6, d7⟩ := h
  refine ⟨sv, lv, hq, hB, fun w' scr' l' ha => ?_⟩
  obtain ⟨sv', lv', hq2, hu2, hf2, hs2⟩ := ha
  have hLlt : ∀ k, Lv.ownBlock = some k → k < w.heap.size := fun k hk => (own_lt hr.ol k hk).2
  have hr2 := hr.upd hu2 (fun h => h.elim (fun h => hne h.symm) (fun h => d1 h)) (fun k hk h => h.elim (fun h => d6 (h ▸ hk)) (fun h => d7 k hk h)) (fun k hk h => h.elim (fun h => d2 (h ▸ hk)) (fun h => d3 k h hk))
  refine ⟨hb, hp, hu.next (UpB.row hu2 hb hq.ol), Nat.le_trans hB hu2.size, hne, sv', lv', Sv, Lv, hq2, hr2, ?_, d2, ?_, ?_, ?_, d6, ?_⟩
  · rcases hf2 with e | e
    · rw [e]; exact d1
    · intro e2; have := e pb e2; have := hr.lt; omega
  · intro k hk hk2
    rcases hf2 with e | e
    · exact d3 k (e ▸ hk) hk2
    · have := e k hk; have := hLlt k hk2; omega
  · rw [hs2]; exact d4
  · intro k hk; exact d5 k (hs2 ▸ hk)
  · intro k hk hk2
    rcases hf2 with e | e
    · exact d7 k hk (e ▸ hk2)
    · have := e k hk2; have := hr.sx k hk; omega

theorem Two.up {B : Nat} {w0 w w' : World} {b pb : Nat} {scr l scr2 l2 : List Int} (h : Two B w0 w b pb scr l scr2 l2) (hu2 : UpB w.heap.size w w') : Two B w0 w' b pb scr l scr2 l2 := by
  obtain ⟨hb, hp, hu, hB, hne, sv, lv, Sv, Lv, hq, hr, d⟩ := h
  refine ⟨hb, hp, hu.next (hu2.mono (fun k _ h => Nat.le_trans hB h)), Nat.le_trans hB hu2.size, hne, sv, lv, Sv, Lv, ?_, ?_, d⟩
  · exact hq.upd hu2 (by have := hq.lt; omega) (fun k hk => by have := hq.sx k hk; omega) (fun k hk => by have := (own_lt hq.ol k hk).2; omega)
  · exact hr.upd hu2 (by have := hr.lt; omega) (fun k hk => by have := hr.sx k hk; omega) (fun k hk => by have := (own_lt hr.ol k hk).2; omega)

theorem two_new {B b : Nat} {w0 w : World} {scr : List Int} (h : Own B b w0 w scr []) :
    Calls Try.prog 8 #[.slice none 0 0] w fun e w' => ∃ pb, e = .returned (.pointer (some ⟨pb, 0, none⟩)) ∧ Hid (Two B w0 w' b pb scr [] [] []) := by
  obtain ⟨hb, hu, hB, sv, lv, hq⟩ := h
  refine (new_q B (.slice none 0 0) [] w ⟨none, 0, rfl, Nat.le_refl _, fun h => absurd rfl h⟩ (by simp) (by simp)).mono ?_
  rintro e w' ⟨pb, Sv, rfl, hr, hu2, hpb, hS⟩
  have hq2 := hq.upd hu2 (fun h => h) (fun _ _ h => h) (fun _ _ h => h)
  have hlt := hq.lt
  refine ⟨pb, rfl, hb, Nat.le_trans hB hpb, hu.next (UpB.none hu2), Nat.le_trans hB hu2.size, by omega, sv, lv, Sv, _, hq2, hr, ?_, by simp [Value.ownBlock], by simp [Value.ownBlock], ?_, by simp [Value.ownBlock], ?_, ?_⟩
  · intro e; have := (own_lt hq.ol _ e).2; omega
  · intro e; have := hq.sx _ e; omega
  · intro e; have := hS _ e; omega
  · intro k hk e; have := hS k hk; have := (own_lt hq.ol _ e).2; omega

section
variable {B : Nat} {w0 w : World} {b pb : Nat} {scr l scr2 l2 : List Int}
theorem two_push (id : Int) (h : Two B w0 w b pb scr l scr2 l2) (hl : l.length ≤ 1000000) :
    Calls Try.prog 9 #[.pointer (some ⟨b, 0, none⟩), .int .i64 id] w fun e w' => e = .returned (.tuple #[]) ∧ Hid (Two B w0 w' b pb scr (l ++ [id]) scr2 l2) := by
  obtain ⟨sv, lv, hq, hB, hK⟩ := h.q
  refine (push_q B b sv lv scr l id w hq hl hB).mono ?_
  rintro e w' ⟨rfl, lv', hq2, hu2, hf⟩
  exact ⟨rfl, hK _ _ _ ⟨sv, lv', hq2, hu2, hf, rfl⟩⟩

theorem two_next (h : Two B w0 w b pb scr l scr2 l2) (hs : scr.length ≤ 1000000) (hl : l.length ≤ 1000000) :
    Calls Try.prog 11 #[.pointer (some ⟨b, 0, none⟩)] w fun e w' => e = .returned (.tuple #[.int .i64 (nextVal scr l), .bool (okB l)]) ∧ Hid (Two B w0 w' b pb scr.tail (nextList scr l) scr2 l2) := by
  obtain ⟨sv, lv, hq, hB, hK⟩ := h.q
  refine (next_q B b sv lv scr l w hq hs hl hB).mono ?_
  rintro e w' ⟨rfl, ha⟩
  exact ⟨rfl, hK _ _ _ ha⟩

theorem two_yield (now : Int) (h : Two B w0 w b pb scr l scr2 l2) (hs : scr.length ≤ 1000000) (hl : l.length < 1000000) :
    Calls Try.prog 15 #[.pointer (some ⟨b, 0, none⟩), .int .i64 now] w fun e w' => e = .returned (.int .i64 (yieldVal scr l now)) ∧ Hid (Two B w0 w' b pb scr.tail (yieldList scr l now) scr2 l2) := by
  obtain ⟨sv, lv, hq, hB, hK⟩ := h.q
  refine (yield_q B b sv lv scr l now w hq hs hl hB).mono ?_
  rintro e w' ⟨rfl, ha⟩
  exact ⟨rfl, hK _ _ _ ha⟩

theorem two_len {n : Nat} (h : Two B w0 w b pb scr l scr2 l2) (hn : l.length = n) :
    Calls Try.prog 16 #[.pointer (some ⟨b, 0, none⟩)] w fun e w' => e = .returned (.int .i64 n) ∧ w' = w := by
  obtain ⟨sv, lv, hq, _⟩ := h.q
  subst hn
  exact len_q B b sv lv scr l w hq

theorem two_list (h : Two B w0 w b pb scr l scr2 l2) (hl : l.length ≤ 1000000) :
    Calls Try.prog 10 #[.pointer (some ⟨b, 0, none⟩)] w fun e w' => ∃ v, e = .returned v ∧ Hid (View w' v l ∧ UpB w.heap.size w w') := by
  obtain ⟨sv, lv, hq, hB, hK⟩ := h.q
  refine (list_q B b sv lv scr l w hq hl).mono ?_
  rintro e w' ⟨v, rfl, ho, hbel⟩
  exact ⟨v, rfl, ownsRow_view ho, Upd.below hbel⟩
end

section
variable {P : Program} (w : World)
/-- append of nothing. -/
theorem run_append_nothing (base : Nat) (t ty e : TypeId) (i : TypeInfo) (ht : P.underlying t = some (.slice e)) (hi : P.info? e = some i) (v : Value) (n : Nat) (xs : List Value) (hown : w.ownsRow base e i.size v n xs) (c : Nat) :
    (Builtin.append_ #[t, t] ty #[v, .slice none 0 c]).run P w = .ok v w := by
  rcases hown.2 with ⟨rfl, rfl⟩ | ⟨g, cap, cur, rfl, hb, hg, hc, _⟩
  · simp [Builtin.append_, run_underlying ht, sizeOf, typeInfo, hi, Builtin.lenOf, Builtin.firstCells]
  · simp [Builtin.append_, run_underlying ht, sizeOf, typeInfo, hi, Builtin.lenOf, hc, Builtin.firstCells, storeCells]

/-- append of what reads as numbers, to a row of the call's own. -/
theorem run_append_view (base : Nat) (t ty e : TypeId) (i : TypeInfo) (z : Value) (ht : P.underlying t = some (.slice e)) (hi : P.info? e = some i) (hz : i.zero = some z)
    (hsize : i.size = 1) (hby : i.bytes = 8) (hzs : z.cells.size = 1) (v : Value) (n : Nat) (xs : List Int) (hown : w.ownsRow base e 1 v n (xs.map (.int .i64)))
    (v2 : Value) (ys : List Int) (hv : View w v2 ys) (hlen : n + ys.length ≤ 1000000) (hbase : base ≤ w.heap.size) :
    ∃ v' w', (Builtin.append_ #[t, t] ty #[v, v2]).run P w = .ok v' w' ∧ w'.ownsRow base e 1 v' (n + ys.length) ((xs ++ ys).map (.int .i64)) ∧ w.grownBy w' v.ownBlock := by
  obtain ⟨a, c, rfl, hl, hc⟩ := hv
  cases a with
  | none =>
    have hys : ys = [] := by
      rcases Decidable.em (ys = []) with h | h
      · exact h
      · obtain ⟨b, o, h, _⟩ := hc h; cases h
    subst hys
    have := run_append_nothing (P := P) w base t ty e i ht hi v n (xs.map (.int .i64)) (by rw [hsize]; exact hown) c
    exact ⟨v, w, this, by simpa using hown, ⟨rfl, rfl, rfl, Nat.le_refl _, fun _ _ _ => rfl⟩⟩
  | some ad =>
    obtain ⟨v', w', hr, h2, h3, _⟩ := run_append_own (P := P) w base t ty e i z 1 8 ht hi hz hsize hby hzs (by omega) v n _ hown ad ys.length c (ys.map (.int .i64)) (by simp) (fun j u hj => by
      have hjl : j < ys.length := by have := (List.getElem?_eq_some_iff.1 hj).1; simpa using this
      obtain ⟨b, o, e2, hcell⟩ := hc (by intro e; simp [e] at hjl)
      injection e2 with e2
      subst e2
      rw [Addr.add_lit, hcell j hjl]
      simpa [List.getElem?_eq_getElem hjl] using hj) (fun u hu => by obtain ⟨x, _, rfl⟩ := List.mem_map.1 hu; rfl) (by unfold maxLen; omega) (by omega) hbase
    exact ⟨v', w', hr, by simpa using h2, h3⟩

theorem wpList_append_view {ops : Array Oper} {rest : List Oper} {o : Oper} {a : Act} {Q : Exit → Act → World → Prop} (hgd : o.guard = none) (s x : Operand) (t : TypeId)
    (ho : o.op = .call { callee := .builtin .append, args := #[s, x], argTypes := #[t, t] })
    (base : Nat) (e : TypeId) (i : TypeInfo) (z : Value) (ht : P.underlying t = some (.slice e)) (hi : P.info? e = some i) (hz : i.zero = some z)
    (hsize : i.size = 1) (hby : i.bytes = 8) (hzs : z.cells.size = 1) (v : Value) (n : Nat) (xs : List Int) (hs : a.eval s = v) (hown : w.ownsRow base e 1 v n (xs.map (.int .i64)))
    (v2 : Value) (ys : List Int) (hx : a.eval x = v2) (hv : View w v2 ys) (hlen : n + ys.length ≤ 1000000) (hbase : base ≤ w.heap.size)
    (h : ∀ v' w', Hid (w'.ownsRow base e 1 v' (n + ys.length) ((xs ++ ys).map (.int .i64)) ∧ w.grownBy w' v.ownBlock) → wpList P ops Q rest (a.put o.dst v') w') : wpList P ops Q (o :: rest) a w := by
  refine wpList_plain hgd fun K hK => ?_
  obtain ⟨v', w', hr, h2, h3⟩ := run_append_view (P := P) w base t o.type e i z ht hi hz hsize hby hzs v n xs hown v2 ys hv hlen hbase
  unfold Oper.wp execOp
  simp only [ho, resolve, invoke, builtin, Sem.run_bind, Sem.run_pure, Result.andThen_ok, List.map_toArray, List.map_cons, List.map_nil, hs, hx, hr]
  exact hK _ _ (h v' w' ⟨h2, h3⟩)

theorem step_append_view {ops : Array Oper} {o : Oper} {a : Act} {K : Act → World → Prop} {Q : Exit → Act → World → Prop} {E : Prop} (hgd : o.guard = none) (s x : Operand) (t : TypeId)
    (ho : o.op = .call { callee := .builtin .append, args := #[s, x], argTypes := #[t, t] })
    (base : Nat) (e : TypeId) (i : TypeInfo) (z : Value) (ht : P.underlying t = some (.slice e)) (hi : P.info? e = some i) (hz : i.zero = some z)
    (hsize : i.size = 1) (hby : i.bytes = 8) (hzs : z.cells.size = 1) (v : Value) (n : Nat) (xs : List Int) (hs : a.eval s = v) (hown : w.ownsRow base e 1 v n (xs.map (.int .i64)))
    (v2 : Value) (ys : List Int) (hx : a.eval x = v2) (hv : View w v2 ys) (hlen : n + ys.length ≤ 1000000) (hbase : base ≤ w.heap.size)
    (h : ∀ v' w', Hid (w'.ownsRow base e 1 v' (n + ys.length) ((xs ++ ys).map (.int .i64)) ∧ w.grownBy w' v.ownBlock) → K (a.put o.dst v') w') :
    if Region.wanted o (yielded ops a.tmps) = true then Oper.wp P o a w K Q else E := by
  have hw : Region.wanted o (yielded ops a.tmps) = true := by simp [Region.wanted, hgd]
  rw [if_pos hw]
  obtain ⟨v', w', hr, h2, h3⟩ := run_append_view (P := P) w base t o.type e i z ht hi hz hsize hby hzs v n xs hown v2 ys hv hlen hbase
  unfold Oper.wp execOp
  simp only [ho, resolve, invoke, builtin, Sem.run_bind, Sem.run_pure, Result.andThen_ok, List.map_toArray, List.map_cons, List.map_nil, hs, hx, hr]
  exact h v' w' ⟨h2, h3⟩
end
end Go.Proofs.Ytoffodgjpeeenaa
