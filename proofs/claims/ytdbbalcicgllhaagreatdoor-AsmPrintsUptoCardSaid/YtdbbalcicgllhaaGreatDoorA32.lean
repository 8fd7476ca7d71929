import Derived.Test.YtdbbalcicgllhaaGreatDoorA31
namespace Go.Proofs.YtdbbalcicgllhaaGreatDoor
open Go.RowKit Go.ChangeShapes Go.WideShapes Go.Deep

theorem cells3 : Tryz.prog.cellsOf 3 = 1 := by kernel_rfl
theorem cells4 : Tryz.prog.cellsOf 4 = 1 := by kernel_rfl
theorem cells9 : Tryz.prog.cellsOf 9 = 1 := by kernel_rfl
theorem cells22 : Tryz.prog.cellsOf 22 = 1 := by kernel_rfl
theorem cells23 : Tryz.prog.cellsOf 23 = 1 := by kernel_rfl
theorem cells24 : Tryz.prog.cellsOf 24 = 1 := by kernel_rfl
theorem cells25 : Tryz.prog.cellsOf 25 = 1 := by kernel_rfl
theorem cells27 : Tryz.prog.cellsOf 27 = 5 := by kernel_rfl
theorem cells29 : Tryz.prog.cellsOf 29 = 1 := by kernel_rfl
theorem cells31 : Tryz.prog.cellsOf 31 = 6 := by kernel_rfl
theorem cells32 : Tryz.prog.cellsOf 32 = 1 := by kernel_rfl
theorem cells34 : Tryz.prog.cellsOf 34 = 6 := by kernel_rfl

theorem six {α : Type} {l : List α} (h : l.length = 6) : ∃ a b c d e f, l = [a, b, c, d, e, f] := by
  match l, h with
  | [a, b, c, d, e, f], _ => exact ⟨a, b, c, d, e, f, rfl⟩
theorem five {α : Type} {l : List α} (h : l.length = 5) : ∃ a b c d e, l = [a, b, c, d, e] := by
  match l, h with
  | [a, b, c, d, e], _ => exact ⟨a, b, c, d, e, rfl⟩
theorem one_eq {a b : Value} (h : [a] = [b]) : a = b := (List.cons.inj h).1
theorem sum_one {α : Type} (l : List α) : (l.map fun _ => 1).sum = l.length := by rw [List.map_const', List.sum_replicate_nat, Nat.mul_one]
theorem mem_le_sum {α : Type} (g : α → Nat) : ∀ (l : List α) (x : α), x ∈ l → g x ≤ (l.map g).sum
  | [], x, h => by simp at h
  | y :: l, x, h => by
    simp only [List.map_cons, List.sum_cons]
    rcases List.mem_cons.1 h with rfl | h
    · omega
    · have := mem_le_sum g l x h
      omega

section
variable {H : Type} {enc : TypeId × Value → H} {W : World} {held : Bool}

theorem fld {fs : Array Field} {cs cs' : List Value} {xs : List (DataW H × List MemPlace)} {n : Nat}
    (hall : ∀ (i : Nat) (f : Field), fs[i]? = some f → DataW.trod enc Tryz.prog W 0 (fun _ => true) held n f.type ((cs.drop f.offset).take (Tryz.prog.cellsOf f.type)) = xs[i]?)
    (i : Nat) {f : Field} {t : TypeId} {k : Nat} {x : DataW H × List MemPlace} (hi : fs[i]? = some f) (ht : f.type = t) (hk : Tryz.prog.cellsOf t = k) (hc : (cs.drop f.offset).take k = cs') (hx : xs[i]? = some x) :
    DataW.trod enc Tryz.prog W 0 (fun _ => true) held n t cs' = some x := by
  have h := hall i f hi
  rw [ht, hk, hc, hx] at h
  exact h

theorem rd_ins {n : Nat} {cs : List Value} {y : DataW H × List MemPlace} (h : DataW.trod enc Tryz.prog W 0 (fun _ => true) held n 34 cs = some y) : ∃ z : Ins, DIns W (Old W) cs z ∧ 1 + z.list.length ≤ Rows.uptoBulk y.1 ∧ z.ok := by
  obtain ⟨xs, n', rfl, rfl, hl, hxl, hall⟩ := DataW.trod_struct Tryz.underlying34 h
  rw [cells34] at hl
  obtain ⟨c0, c1, c2, c3, c4, c5, rfl⟩ := six hl
  obtain ⟨x0, x1, x2, x3, x4, x5, rfl⟩ := six (show xs.length = 6 from hxl)
  have h0 : DataW.trod enc Tryz.prog W 0 (fun _ => true) held n' 3 [c0] = some x0 := fld hall 0 rfl rfl cells3 rfl rfl
  have h1 : DataW.trod enc Tryz.prog W 0 (fun _ => true) held n' 3 [c1] = some x1 := fld hall 1 rfl rfl cells3 rfl rfl
  have h2 : DataW.trod enc Tryz.prog W 0 (fun _ => true) held n' 3 [c2] = some x2 := fld hall 2 rfl rfl cells3 rfl rfl
  have h3 : DataW.trod enc Tryz.prog W 0 (fun _ => true) held n' 3 [c3] = some x3 := fld hall 3 rfl rfl cells3 rfl rfl
  have h4 : DataW.trod enc Tryz.prog W 0 (fun _ => true) held n' 3 [c4] = some x4 := fld hall 4 rfl rfl cells3 rfl rfl
  have h5 : DataW.trod enc Tryz.prog W 0 (fun _ => true) held n' 32 [c5] = some x5 := fld hall 5 rfl rfl cells32 rfl rfl
  obtain ⟨z0, e0, b0, w0⟩ := rd_int h0
  obtain ⟨z1, e1, b1, w1⟩ := rd_int h1
  obtain ⟨z2, e2, b2, w2⟩ := rd_int h2
  obtain ⟨z3, e3, b3, w3⟩ := rd_int h3
  obtain ⟨z4, e4, b4, w4⟩ := rd_int h4
  obtain ⟨a, c, zs, e5, r5, b5, w5⟩ := row_of DInt (fun _ => 1) I64 1 (by decide) Tryz.underlying32 cells3 h5 (fun _ _ _ h => rd_int h)
  rw [sum_one] at b5
  have f0 : c0 = .int .i64 z0 := one_eq e0
  have f1 : c1 = .int .i64 z1 := one_eq e1
  have f2 : c2 = .int .i64 z2 := one_eq e2
  have f3 : c3 = .int .i64 z3 := one_eq e3
  have f4 : c4 = .int .i64 z4 := one_eq e4
  have f5 : c5 = .slice a zs.length c := one_eq e5
  subst f0 f1 f2 f3 f4 f5
  refine ⟨⟨z0, z1, z2, z3, z4, zs⟩, ⟨_, rfl, r5⟩, ?_, ⟨w0, w1, w2, w3, w4, w5⟩⟩
  simp only [Rows.uptoBulk, Rows.uptoBulkAll, List.map_cons, List.map_nil]
  omega

theorem rd_fn {n : Nat} {cs : List Value} {y : DataW H × List MemPlace} (h : DataW.trod enc Tryz.prog W 0 (fun _ => true) held n 31 cs = some y) : ∃ z : Fnc, DFn W (Old W) cs z ∧ 1 + (cntF z + lsum z.code) ≤ Rows.uptoBulk y.1 ∧ (I64 z.params ∧ I64 z.captures ∧ ∀ x ∈ z.code, x.ok) := by
  obtain ⟨xs, n', rfl, rfl, hl, hxl, hall⟩ := DataW.trod_struct Tryz.underlying31 h
  rw [cells31] at hl
  obtain ⟨c0, c1, c2, c3, c4, c5, rfl⟩ := six hl
  obtain ⟨x0, x1, x2, x3, x4, x5, rfl⟩ := six (show xs.length = 6 from hxl)
  have h0 : DataW.trod enc Tryz.prog W 0 (fun _ => true) held n' 9 [c0] = some x0 := fld hall 0 rfl rfl cells9 rfl rfl
  have h1 : DataW.trod enc Tryz.prog W 0 (fun _ => true) held n' 23 [c1] = some x1 := fld hall 1 rfl rfl cells23 rfl rfl
  have h2 : DataW.trod enc Tryz.prog W 0 (fun _ => true) held n' 3 [c2] = some x2 := fld hall 2 rfl rfl cells3 rfl rfl
  have h3 : DataW.trod enc Tryz.prog W 0 (fun _ => true) held n' 3 [c3] = some x3 := fld hall 3 rfl rfl cells3 rfl rfl
  have h4 : DataW.trod enc Tryz.prog W 0 (fun _ => true) held n' 4 [c4] = some x4 := fld hall 4 rfl rfl cells4 rfl rfl
  have h5 : DataW.trod enc Tryz.prog W 0 (fun _ => true) held n' 29 [c5] = some x5 := fld hall 5 rfl rfl cells29 rfl rfl
  obtain ⟨z0, e0, b0, _⟩ := rd_str h0
  obtain ⟨a1, d1, z1, e1, r1, b1, _⟩ := row_of DBool (fun _ => 1) (fun _ => True) 1 (by decide) Tryz.underlying23 cells4 h1 (fun _ _ _ h => rd_bool h)
  obtain ⟨z2, e2, b2, w2⟩ := rd_int h2
  obtain ⟨z3, e3, b3, w3⟩ := rd_int h3
  obtain ⟨z4, e4, b4, _⟩ := rd_bool h4
  obtain ⟨a5, d5, z5, e5, r5, b5, w5⟩ := row_of DIns (fun x => 1 + x.list.length) Ins.ok 6 (by decide) Tryz.underlying29 cells34 h5 (fun _ _ _ h => rd_ins h)
  rw [sum_one] at b1
  have hs : (z5.map fun x : Ins => 1 + x.list.length).sum = z5.length + lsum z5 := by
    have := sum_lin (fun x : Ins => x.list.length) 1 1 z5
    simp only [Nat.one_mul] at this
    rw [this]
    rfl
  rw [hs] at b5
  have f0 : c0 = .string ⟨z0.toArray⟩ := one_eq e0
  have f1 : c1 = .slice a1 z1.length d1 := one_eq e1
  have f2 : c2 = .int .i64 z2 := one_eq e2
  have f3 : c3 = .int .i64 z3 := one_eq e3
  have f4 : c4 = .bool z4 := one_eq e4
  have f5 : c5 = .slice a5 z5.length d5 := one_eq e5
  subst f0 f1 f2 f3 f4 f5
  refine ⟨⟨z0, z1, z2, z3, z4, z5⟩, ⟨_, _, rfl, r1, r5⟩, ?_, ⟨w2, w3, w5⟩⟩
  simp only [Rows.uptoBulk, Rows.uptoBulkAll, List.map_cons, List.map_nil, cntF]
  omega

theorem rd_pg {n : Nat} {cs : List Value} {y : DataW H × List MemPlace} (h : DataW.trod enc Tryz.prog W 0 (fun _ => true) held n 27 cs = some y) :
    ∃ (p : Pg) (ta ga sa fa : Option Addr) (tc gl gc sl sc fc : Nat), cs = [.slice ta p.texts.length tc, .slice ga gl gc, .slice sa sl sc, .slice fa p.funcs.length fc, .int .i64 p.main] ∧
      RowV DStr 1 W (Old W) (.slice ta p.texts.length tc) p.texts ∧ RowV DFn 6 W (Old W) (.slice fa p.funcs.length fc) p.funcs ∧ cntP p ≤ Rows.uptoBulk y.1 ∧
      I64 p.main ∧ ∀ f ∈ p.funcs, I64 f.params ∧ I64 f.captures ∧ ∀ x ∈ f.code, x.ok := by
  obtain ⟨xs, n', rfl, rfl, hl, hxl, hall⟩ := DataW.trod_struct Tryz.underlying27 h
  rw [cells27] at hl
  obtain ⟨c0, c1, c2, c3, c4, rfl⟩ := five hl
  obtain ⟨x0, x1, x2, x3, x4, rfl⟩ := five (show xs.length = 5 from hxl)
  have h0 : DataW.trod enc Tryz.prog W 0 (fun _ => true) held n' 22 [c0] = some x0 := fld hall 0 rfl rfl cells22 rfl rfl
  have h1 : DataW.trod enc Tryz.prog W 0 (fun _ => true) held n' 23 [c1] = some x1 := fld hall 1 rfl rfl cells23 rfl rfl
  have h2 : DataW.trod enc Tryz.prog W 0 (fun _ => true) held n' 24 [c2] = some x2 := fld hall 2 rfl rfl cells24 rfl rfl
  have h3 : DataW.trod enc Tryz.prog W 0 (fun _ => true) held n' 25 [c3] = some x3 := fld hall 3 rfl rfl cells25 rfl rfl
  have h4 : DataW.trod enc Tryz.prog W 0 (fun _ => true) held n' 3 [c4] = some x4 := fld hall 4 rfl rfl cells3 rfl rfl
  obtain ⟨a0, d0, z0, e0, r0, b0, _⟩ := row_of DStr (fun t => t.length + 1) (fun _ => True) 1 (by decide) Tryz.underlying22 cells9 h0 (fun _ _ _ h => rd_str h)
  obtain ⟨a1, l1, d1, e1⟩ : ∃ a l d, c1 = .slice a l d := by
    rcases open_slice Tryz.underlying23 h1 with ⟨hc, _⟩ | ⟨a, l, d, _, _, _, _, hc, _⟩
    · exact ⟨none, 0, 0, one_eq hc⟩
    · exact ⟨some a, l, d, one_eq hc⟩
  obtain ⟨a2, l2, d2, e2⟩ : ∃ a l d, c2 = .slice a l d := by
    rcases open_slice Tryz.underlying24 h2 with ⟨hc, _⟩ | ⟨a, l, d, _, _, _, _, hc, _⟩
    · exact ⟨none, 0, 0, one_eq hc⟩
    · exact ⟨some a, l, d, one_eq hc⟩
  obtain ⟨a3, d3, z3, e3, r3, b3, w3⟩ := row_of DFn (fun f => 1 + (cntF f + lsum f.code)) (fun f => I64 f.params ∧ I64 f.captures ∧ ∀ x ∈ f.code, x.ok) 6 (by decide) Tryz.underlying25 cells31 h3 (fun _ _ _ h => rd_fn h)
  obtain ⟨z4, e4, b4, w4⟩ := rd_int h4
  have hs0 : (z0.map fun t : Bytes => t.length + 1).sum = z0.length + (z0.map List.length).sum := by
    have := sum_lin (fun t : Bytes => t.length) 1 1 z0
    simp only [Nat.one_mul] at this
    have e : (fun t : Bytes => t.length + 1) = fun t => 1 + t.length := by funext t; omega
    rw [e, this]
  have hs3 : (z3.map fun f : Fnc => 1 + (cntF f + lsum f.code)).sum = z3.length + (z3.map fun f => cntF f + lsum f.code).sum := by
    have := sum_lin (fun f : Fnc => cntF f + lsum f.code) 1 1 z3
    simp only [Nat.one_mul] at this
    exact this
  rw [hs0] at b0
  rw [hs3] at b3
  have f0 : c0 = .slice a0 z0.length d0 := one_eq e0
  have f3 : c3 = .slice a3 z3.length d3 := one_eq e3
  have f4 : c4 = .int .i64 z4 := one_eq e4
  subst f0 e1 e2 f3 f4
  refine ⟨⟨z0, [], [], z3, z4⟩, a0, a1, a2, a3, d0, l1, d1, l2, d2, d3, rfl, r0, r3, ?_, w4, w3⟩
  simp only [Rows.uptoBulk, Rows.uptoBulkAll, List.map_cons, List.map_nil, cntP]
  omega

theorem pg_ok {p : Pg} (hc : cntP p ≤ 100000000) (hm : I64 p.main) (hf : ∀ f ∈ p.funcs, I64 f.params ∧ I64 f.captures ∧ ∀ x ∈ f.code, x.ok) : p.ok := by
  unfold cntP at hc
  refine ⟨hm, fun f hff => ?_, fun t ht => ?_, by omega, by omega⟩
  · obtain ⟨h1, h2, h3⟩ := hf f hff
    have h4 : cntF f + lsum f.code ≤ (p.funcs.map fun f => cntF f + lsum f.code).sum := mem_le_sum (fun f : Fnc => cntF f + lsum f.code) p.funcs f hff
    have h6 : cntF f = f.name.length + (f.refs.length + f.code.length) := rfl
    refine ⟨h1, h2, fun x hx => ⟨h3 x hx, ?_⟩, by omega, by omega⟩
    have h5 : x.list.length ≤ lsum f.code := mem_le_sum (fun x : Ins => x.list.length) f.code x hx
    omega
  · have h4 : t.length ≤ (p.texts.map List.length).sum := mem_le_sum List.length p.texts t ht
    omega
end
end Go.Proofs.YtdbbalcicgllhaaGreatDoor
