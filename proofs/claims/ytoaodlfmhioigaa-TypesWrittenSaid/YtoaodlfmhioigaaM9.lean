/- A part of the proof of TypesWrittenSaid. No condition. -/
import Derived.Test.YtoaodlfmhioigaaM8
set_option linter.unusedSimpArgs false
set_option linter.unusedVariables false
section
namespace Go.Proofs.Ytoaodlfmhioigaa

abbrev ZO : AO := ⟨true, 0, none, 25, [.val (.int .i64 0), .val (.string ⟨#[]⟩), .val (.int .i64 0), .val (.int .i64 0), .val (.string ⟨#[]⟩), .val (.int .i64 0), .val (.slice none 0 0)]⟩
/-- Where a loop stands that gathers nodes: the state, the first of them, how many (but one), all. -/
abbrev Gat := PS × Tr × Option (Nat × List Tr)
def ftF (toks : List Tok) (a : Int) (v : Nat → AV) : Gat → AS
  | (s, _, none) => ⟨[.ref 0 0 0, I a, v 2, v 3, .ref 1 0 0, .val (.slice none 0 0), v 6, v 7, v 8, v 9, v 10, v 11, v 12, v 13, v 14, v 15, v 16, v 17, v 18, v 19, v 20, v 21, v 22, v 23, v 24, v 25, v 26, v 27, v 28, v 29, v 30, v 31, v 32, v 33, v 34, v 35, v 36, v 37, v 38, v 39, v 40, v 41, v 42, v 43, v 44], [PO toks s, ZO]⟩
  | (s, j, some (n, l)) => ⟨[.ref 0 0 0, I a, v 2, v 3, .ref 1 0 0, .row 4 7 0 (n + 1) n, v 6, v 7, v 8, v 9, v 10, v 11, v 12, v 13, v 14, v 15, v 16, v 17, v 18, v 19, v 20, v 21, v 22, v 23, v 24, v 25, v 26, v 27, v 28, v 29, v 30, v 31, v 32, v 33, v 34, v 35, v 36, v 37, v 38, v 39, v 40, v 41, v 42, v 43, v 44], [PO toks s, ZO, ⟨true, 0, none, 25, j.cells⟩, ⟨true, 0, some 7, 25, j.cells⟩, ⟨true, n, some 7, 25, flatN l⟩]⟩
/-- What holds of what is gathered: there are no more than places. -/
def GatC (T : Tr → Prop) (toks : List Tok) (s1 : PS) : Gat → Prop
  | (s, _, none) => Fwd toks s1 s
  | (s, _, some (n, l)) => Fwd toks s1 s ∧ l.length = n + 1 ∧ n ≤ s.at_ ∧ (s.bad < 0 → n < s.at_ ∧ ∀ p ∈ l, T p)
theorem GatC.fwd {T : Tr → Prop} {toks : List Tok} {s1 : PS} : ∀ {i : Gat}, GatC T toks s1 i → Fwd toks s1 i.1
  | (_, _, none), h => h
  | (_, _, some (_, _)), h => h.1

/-- And they weigh no more than what was read. -/
def WtC (s1 : PS) : Gat → Prop
  | (_, _, none) => True
  | (s, _, some (_, l)) => s.bad < 0 → wts l + s1.at_ ≤ s.at_
def GatW (toks : List Tok) (s1 : PS) (i : Gat) : Prop := GatC TyOk toks s1 i ∧ WtC s1 i

theorem flatN_take7 (l : List Tr) (n : Nat) (h : l.length = n + 1) (a b c d e f g : AV) : (flatN l ++ [a, b, c, d, e, f, g]).take ((n + 1 + 1) * 7) = flatN l ++ [a, b, c, d, e, f, g] := List.take_of_length_le (by simp [flatN_length, h]; omega)

set_option maxRecDepth 20000 in
theorem t_ftype_step {toks : List Tok} (hk : TK toks) {n : Nat} (ih : ∀ s' : PS, s'.at_ < toks.length → meas toks s' < n → Tri Try.prog 30 [.ref 0 0 0] [PO toks s'] (TypR toks s'))
    (s : PS) (a : Int) (h : s.at_ < toks.length) (hm : meas toks s ≤ n) : Tri Try.prog 48 [.ref 0 0 0, I a] [PO toks s] (TypR toks s) := by
  have hlen := hk.len
  obtain ⟨s1, hwt, hf1, hg1⟩ := want_b hk h [40]
  have hm1 : ∀ s2, Fwd toks s1 s2 → s2.bad < 0 → meas toks s2 < n := fun s2 hf2 hb => by
    have := meas_lt hf1 (hf1.bad (hf2.bad hb)) hg1
    have := meas_fwd hf2
    omega
  refine tri_by Try.func48 (by rfl) _ Try.ntmps48 _ (by rfl) ?_
  simp [PO]
  refine acallC_by 1 (hwt) ?_ (by kernel_rfl) ?_ ?_ ?_ ?_ ?_ ?_ ?_ ?_ ?_ <;> simp [PO]
  refine loopC_to 0 (ftF toks a) (GatW toks s1) (GatW toks s1) (fun i => meas toks i.1) (s1, noneT, none) (by rfl) ⟨Fwd.refl hf1.lt, trivial⟩ ?_ ?_
  · rintro v ⟨s2, j, g⟩ ⟨hc, hwc⟩
    have hf2 := hc.fwd
    simp only at hf2
    by_cases hb : s2.bad < 0
    · have hlt := hm1 s2 hf2 hb
      obtain ⟨b, his, hib⟩ := is_b hk hf2.lt [41]
      cases b
      · match g, hc, hwc with
        | none, hc, _ =>
          simp [ftF, PO, hb]
          refine acallC_by 1 (his) ?_ (by kernel_rfl) ?_ ?_ ?_ ?_ ?_ ?_ ?_ ?_ ?_ <;> simp [PO]
          refine acallC_of 1 (ih s2 hf2.lt hlt) ?_ (by kernel_rfl) ?_ ?_ ?_ ?_ ?_ ?_ <;> simp [PO]
          rintro r o ⟨⟨k, x, m, a, y, rf, kids⟩, s3, rfl, rfl, hf3, hg3⟩
          simp [PO, Tr.av, Tr.cells]
          refine Again.mk 5 ((s3, .mk k x m a y rf kids, some (0, [.mk k x m a y rf kids]))) (by simp) (by simp) (by simp) rfl ?_ ?_ ?_
          · simp [ftF, PO, flatN, Tr.cells]
          · exact ⟨⟨hf2.trans hf3, rfl, Nat.zero_le _, fun e => ⟨by have := (hg3 e).1; omega, by simp; exact (hg3 e).2.1⟩⟩, fun e => by have := (hg3 e).2.2; have := hf2.le; simp only [wts]; show _ ≤ s3.at_; omega⟩
          · exact meas_lt hf3 hb (fun e => (hg3 e).1)
        | some (n, l), hc, hwc =>
          obtain ⟨_, hl1, hl2, hl3⟩ := hc
          obtain ⟨s3, hw2, hf3, hg3⟩ := want_b hk hf2.lt [44]
          have hm3 := meas_fwd hf3
          have hlt2 := hf2.lt
          have hle3 := hf3.le
          obtain ⟨hq1, hq2⟩ := len_ok (n := n + 1 + 1) (by omega)
          have ht := flatN_take l (n + 1) hl1.symm
          simp [ftF, PO, hb]
          refine acallC_by 1 (his) ?_ (by kernel_rfl) ?_ ?_ ?_ ?_ ?_ ?_ ?_ ?_ ?_ <;> simp [PO]
          refine acallC_by 1 (hw2) ?_ (by kernel_rfl) ?_ ?_ ?_ ?_ ?_ ?_ ?_ ?_ ?_ <;> simp [PO]
          refine acallC_of 1 (ih s3 hf3.lt (by omega)) ?_ (by kernel_rfl) ?_ ?_ ?_ ?_ ?_ ?_ <;> simp [PO]
          rintro r o ⟨⟨k, y, m, a, z, rf, kids⟩, s4, rfl, rfl, hf4, hg4⟩
          have hle4 := hf4.le
          simp [PO, Tr.av, Tr.cells, flatN_length, hl1, hq1, hq2, ht]
          refine Again.mk 5 ((s4, j, some (n + 1, l ++ [.mk k y m a z rf kids]))) (by simp) (by simp) (by simp) rfl ?_ ?_ ?_
          · simp [ftF, PO, flatN, Tr.cells, flatN_append]
          · refine ⟨⟨(hf2.trans hf3).trans hf4, by simp [hl1], by show n + 1 ≤ s4.at_; have := (hl3 hb).1; omega, fun e => ⟨by show n + 1 < s4.at_; have := (hg4 e).1; have := (hl3 hb).1; omega, fun p hp => ?_⟩⟩, fun e => by have := (hg4 e).2.2; have := hwc hb; rw [wts_snoc]; show _ ≤ s4.at_; omega⟩
            rcases List.mem_append.1 hp with hp | hp
            · exact (hl3 hb).2 p hp
            · rw [List.mem_singleton.1 hp]; exact (hg4 e).2.1
          · exact meas_lt (hf3.trans hf4) hb (fun e => by show s2.at_ < s4.at_; have := (hg4 e).1; omega)
      · match g, hc, hwc with
        | none, hc, _ =>
          simp [ftF, PO, hb]
          refine acallC_by 1 (his) ?_ (by kernel_rfl) ?_ ?_ ?_ ?_ ?_ ?_ ?_ ?_ ?_ <;> simp [PO]
          refine Left.mk ((s2, j, none)) rfl ?_ ?_
          · simp [ftF, PO]
          · exact ⟨hc, trivial⟩
        | some (n, l), hc, hwc =>
          simp [ftF, PO, hb]
          refine acallC_by 1 (his) ?_ (by kernel_rfl) ?_ ?_ ?_ ?_ ?_ ?_ ?_ ?_ ?_ <;> simp [PO]
          refine Left.mk ((s2, j, some (n, l))) rfl ?_ ?_
          · simp [ftF, PO]
          · exact ⟨hc, hwc⟩
    · match g, hc, hwc with
      | none, hc, _ =>
        simp [ftF, PO, hb]
        refine Left.mk ((s2, j, none)) rfl ?_ ?_
        · simp [ftF, PO]
        · exact ⟨hc, trivial⟩
      | some (n, l), hc, hwc =>
        simp [ftF, PO, hb]
        refine Left.mk ((s2, j, some (n, l))) rfl ?_ ?_
        · simp [ftF, PO]
        · exact ⟨hc, hwc⟩
  · rintro v ⟨s2, j, g⟩ ⟨hc, hwc⟩
    have hf2 := hc.fwd
    simp only at hf2
    obtain ⟨s3, hw2, hf3, hg3⟩ := want_b hk hf2.lt [41]
    obtain ⟨b, ham, hab⟩ := among_b hk hf3.lt typeB (by decide)
    have hfw : Fwd toks s s3 := (hf1.trans hf2).trans hf3
    have hpr : s3.bad < 0 → s.at_ < s3.at_ := fun e => by
      have := hg1 (hf2.bad (hf3.bad e))
      have := hf2.le
      have := hf3.le
      omega
    match g, hc, hwc with
    | none, hc, _ =>
      cases b
      · simp [ftF, PO]
        refine acallC_by 1 (hw2) ?_ (by kernel_rfl) ?_ ?_ ?_ ?_ ?_ ?_ ?_ ?_ ?_ <;> simp [PO]
        refine acallC_by 0 (t_none) ?_ (by kernel_rfl) ?_ ?_ ?_ ?_ ?_ ?_ ?_ ?_ ?_ <;> simp
        refine acallC_by 1 (ham) ?_ (by kernel_rfl) ?_ ?_ ?_ ?_ ?_ ?_ ?_ ?_ ?_ <;> simp [PO, typeB]
        refine acallC_by 0 (t_one 15 a ⟨#[]⟩ 7 1 noneT.cells) ?_ (by kernel_rfl) ?_ ?_ ?_ ?_ ?_ ?_ ?_ ?_ ?_ <;> simp [PO, noneT, Tr.cells, vecN]
        exact ⟨.mk 15 [] 0 a [] 0 [noneT], s3, rfl, rfl, hfw, fun e => ⟨hpr e, .proc a [] (by simp), by have := hpr e; rw [wt_kid _ _ _ (by decide), wt_none]; omega⟩⟩
      · obtain ⟨hb3, _⟩ := hab rfl
        simp [ftF, PO]
        refine acallC_by 1 (hw2) ?_ (by kernel_rfl) ?_ ?_ ?_ ?_ ?_ ?_ ?_ ?_ ?_ <;> simp [PO]
        refine acallC_by 0 (t_none) ?_ (by kernel_rfl) ?_ ?_ ?_ ?_ ?_ ?_ ?_ ?_ ?_ <;> simp
        refine acallC_by 1 (ham) ?_ (by kernel_rfl) ?_ ?_ ?_ ?_ ?_ ?_ ?_ ?_ ?_ <;> simp [PO, typeB]
        refine acallC_of 1 (ih s3 hf3.lt (hm1 s3 (hf2.trans hf3) hb3)) ?_ (by kernel_rfl) ?_ ?_ ?_ ?_ ?_ ?_ <;> simp [PO]
        rintro r o ⟨⟨k, x, m, c, y, rf, kids⟩, s4, rfl, rfl, hf4, hg4⟩
        simp [PO, Tr.av, Tr.cells]
        refine acallC_by 0 (t_one 15 a ⟨#[]⟩ 7 1 (Tr.mk k x m c y rf kids).cells) ?_ (by kernel_rfl) ?_ ?_ ?_ ?_ ?_ ?_ ?_ ?_ ?_ <;> simp [PO, Tr.cells]
        exact ⟨.mk 15 [] 0 a [] 0 [.mk k x m c y rf kids], s4, rfl, rfl, hfw.trans hf4, fun e => ⟨by have := hpr (hf4.bad e); have := hf4.le; omega, .func a [] _ (by simp) (hg4 e).2.1, by have := hpr (hf4.bad e); have := (hg4 e).2.2; rw [wt_kid _ _ _ (by decide)]; omega⟩⟩
    | some (n, l), hc, hwc =>
      obtain ⟨_, hl1, hl2, hl3⟩ := hc
      have hl2 : n ≤ s2.at_ := hl2
      have hlt2 := hf2.lt
      obtain ⟨hq1, hq2⟩ := len_ok (n := n + 1 + 1) (by omega)
      have ht := flatN_take l (n + 1) hl1.symm
      have hle : (n + 1 + 1) * 7 ≤ (n + 1) * 7 + 7 := by omega
      have htk := flatN_take7 l n hl1
      have hl4 : ∀ p : Tr, s3.bad < 0 → ∀ q ∈ l, TyOk q := fun _ e => (hl3 (hf3.bad e)).2
      cases b
      · simp [ftF, PO]
        refine acallC_by 1 (hw2) ?_ (by kernel_rfl) ?_ ?_ ?_ ?_ ?_ ?_ ?_ ?_ ?_ <;> simp [PO]
        refine acallC_by 0 (t_none) ?_ (by kernel_rfl) ?_ ?_ ?_ ?_ ?_ ?_ ?_ ?_ ?_ <;> simp
        refine acallC_by 1 (ham) ?_ (by kernel_rfl) ?_ ?_ ?_ ?_ ?_ ?_ ?_ ?_ ?_ <;> simp [PO, typeB, flatN_length, hl1, hq1, hq2, ht]
        refine acallC_by 0 (t_one 15 a ⟨#[]⟩ 7 (n + 1 + 1) (flatN (l ++ [noneT]))) ?_ (by kernel_rfl) ?_ ?_ ?_ ?_ ?_ ?_ ?_ ?_ ?_ <;> simp [PO, noneT, Tr.cells, vecN, flatN_append, flatN, flatN_length, hl1, hle, htk]
        exact ⟨.mk 15 [] 0 a [] 0 (l ++ [noneT]), s3, by simp [Tr.av, Tr.cells, vecN, flatN_append, flatN, hl1, noneT], rfl, hfw, fun e => ⟨hpr e, .proc a l (hl4 noneT e), by have := hg1 (hf2.bad (hf3.bad e)); have := hwc (hf3.bad e); have := hf3.le; rw [wt_kids _ _ _ (by decide), wts_snoc, wt_none]; omega⟩⟩
      · obtain ⟨hb3, _⟩ := hab rfl
        simp [ftF, PO]
        refine acallC_by 1 (hw2) ?_ (by kernel_rfl) ?_ ?_ ?_ ?_ ?_ ?_ ?_ ?_ ?_ <;> simp [PO]
        refine acallC_by 0 (t_none) ?_ (by kernel_rfl) ?_ ?_ ?_ ?_ ?_ ?_ ?_ ?_ ?_ <;> simp
        refine acallC_by 1 (ham) ?_ (by kernel_rfl) ?_ ?_ ?_ ?_ ?_ ?_ ?_ ?_ ?_ <;> simp [PO, typeB]
        refine acallC_of 1 (ih s3 hf3.lt (hm1 s3 (hf2.trans hf3) hb3)) ?_ (by kernel_rfl) ?_ ?_ ?_ ?_ ?_ ?_ <;> simp [PO]
        rintro r o ⟨⟨k, x, m, c, y, rf, kids⟩, s4, rfl, rfl, hf4, hg4⟩
        simp [PO, Tr.av, Tr.cells, flatN_length, hl1, hq1, hq2, ht]
        refine acallC_by 0 (t_one 15 a ⟨#[]⟩ 7 (n + 1 + 1) (flatN (l ++ [.mk k x m c y rf kids]))) ?_ (by kernel_rfl) ?_ ?_ ?_ ?_ ?_ ?_ ?_ ?_ ?_ <;> simp [PO, Tr.cells, flatN_append, flatN, flatN_length, hl1, hle, htk]
        exact ⟨.mk 15 [] 0 a [] 0 (l ++ [.mk k x m c y rf kids]), s4, by simp [Tr.av, Tr.cells, vecN, flatN_append, flatN, hl1], rfl, hfw.trans hf4, fun e => ⟨by have := hpr (hf4.bad e); have := hf4.le; omega, .func a l _ (hl4 noneT (hf4.bad e)) (hg4 e).2.1, by have := hg1 (hf2.bad (hf3.bad (hf4.bad e))); have := hwc (hf3.bad (hf4.bad e)); have := hf3.le; have := (hg4 e).2.2; rw [wt_kids _ _ _ (by decide), wts_snoc]; omega⟩⟩
end Go.Proofs.Ytoaodlfmhioigaa
end

section
namespace Go.Proofs.Ytoaodlfmhioigaa

theorem t_typ_all {toks : List Tok} (hk : TK toks) : ∀ (n : Nat) (s : PS), s.at_ < toks.length → meas toks s < n → Tri Try.prog 30 [.ref 0 0 0] [PO toks s] (TypR toks s)
  | 0, _, _, h => absurd h (by omega)
  | n + 1, s, hs, h => t_typ_step hk (t_typ_all hk n) (fun s' a h' hm => t_ftype_step hk (t_typ_all hk n) s' a h' (by omega)) s hs (by omega)
/-- A type is read. -/
theorem t_typ {toks : List Tok} (hk : TK toks) (s : PS) (h : s.at_ < toks.length) : Tri Try.prog 30 [.ref 0 0 0] [PO toks s] (TypR toks s) := t_typ_all hk _ s h (Nat.lt_succ_self _)
theorem t_ftype {toks : List Tok} (hk : TK toks) (s : PS) (a : Int) (h : s.at_ < toks.length) : Tri Try.prog 48 [.ref 0 0 0, I a] [PO toks s] (TypR toks s) := t_ftype_step hk (t_typ_all hk _) s a h (Nat.le_refl _)
end Go.Proofs.Ytoaodlfmhioigaa
end
