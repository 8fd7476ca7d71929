/- A part of the proof of TypesWrittenSaid. No condition. -/
import Derived.Test.YtoaodlfmhioigaaM33
set_option linter.unusedSimpArgs false
set_option linter.unusedVariables false
section
namespace Go.Proofs.Ytoaodlfmhioigaa

abbrev FZ : AO := ⟨true, 0, none, 27, [I 0, I 0]⟩
/-- What 'ended' does where 'Scan' stands. -/
theorem t_ended_same4 (l : List Tok) (t t0 : Tok) (n g : Nat) (a : Int) (hl : l.length = n) (hn : n + 1 < 1048576) (ht : t.text.length < 1048576) (he : endsB t = false) :
    TriE Try.prog 24 [.row 3 4 0 (n + 1) g, I a] [FZ, ⟨true, 0, none, 45, t0.cells⟩, ⟨true, 0, some 4, 45, t0.cells⟩, ⟨true, g, some 4, 45, flatT (l ++ [t])⟩] (.row 3 4 0 (n + 1) g) [FZ, ⟨true, 0, none, 45, t0.cells⟩, ⟨true, 0, some 4, 45, t0.cells⟩, ⟨true, g, some 4, 45, flatT (l ++ [t])⟩] := by
  have hin := t_In t.text endersB ht (by decide)
  have h3 : ¬ t.kind ≤ 3 := by simp [endsB] at he; omega
  have hi : inW t.text endersB = false := by simp [endsB] at he; exact he.2
  rw [hi] at hin
  simp only [endersB] at hin
  have hw : IntKind.i64.wrap (n : Int) = (n : Int) := wrap_i (by omega)
  have hT : flatT (l ++ [t]) = flatT l ++ [I t.kind, S t.text, I t.num, I t.at_] := by rw [flatT_append]; rfl
  have hTl : (flatT l).length = n * 4 := by rw [flatT_length, hl]
  have hd : ∀ r : List AV, (flatT l ++ r).drop (n * 4) = r := fun r => by rw [← hTl, List.drop_left]
  have hne : ¬ (n : Int) + 1 = 0 := by omega
  have hlt : (n : Int) < (n : Int) + 1 := by omega
  refine tri_by_raw 4 (by simp) Try.func24 (by rfl) _ Try.ntmps24 _ (by rfl) ?_
  simp [hw, hT, hTl, hd, h3, hne, hlt]
  refine acallC_by 0 (hin) ?_ (by kernel_rfl) ?_ ?_ ?_ ?_ ?_ ?_ ?_ ?_ ?_ <;> simp [hT, Tok.cells]
theorem t_ended_more4 (l : List Tok) (t t0 : Tok) (n g : Nat) (a : Int) (hl : l.length = n) (hn : n + 1 < 1048575) (ht : t.text.length < 1048576) (he : endsB t = true) :
    TriE Try.prog 24 [.row 3 4 0 (n + 1) g, I a] [FZ, ⟨true, 0, none, 45, t0.cells⟩, ⟨true, 0, some 4, 45, t0.cells⟩, ⟨true, g, some 4, 45, flatT (l ++ [t])⟩] (.row 3 4 0 (n + 1 + 1) (g + 1)) [FZ, ⟨true, 0, none, 45, t0.cells⟩, ⟨true, 0, some 4, 45, t0.cells⟩, ⟨true, g + 1, some 4, 45, flatT (l ++ [t] ++ [semiT a])⟩] :=
  Tri.moved (A := ⟨true, g, some 4, 45, flatT (l ++ [t])⟩) (B := ⟨true, 2, some 4, 45, flatT (l ++ [t] ++ [semiT a])⟩) (p := 2) (g' := 2) (m := 3) (t_ended_more l t n g a hl hn ht he) (by simp) (by simp) rfl (by simp) rfl rfl rfl

structure TokG (t : Tok) : Prop where
  kind : t.kind ≠ 6
  text : t.text.length < 1048576
  pos : 0 ≤ t.at_
  name : t.kind = 1 → nameOk t.text
theorem semiT_ok (i : Nat) : TokG (semiT i) := ⟨by show (5 : Int) ≠ 6; decide, by simp [semiT], by show (0 : Int) ≤ (i : Int); omega, fun e => by cases e⟩
def varB : Bytes := [118, 97, 114]
/-- Does a source begin with the word var and a blank? -/
def VarS (s : Bytes) : Prop := ∃ r, s = 118 :: 97 :: 114 :: 32 :: r
def ScG (s : Bytes) (i : Nat) (n : Nat) (l : List Tok) : Prop := l.length = n + 1 ∧ n + 1 ≤ 2 * i ∧ (∀ t ∈ l, TokG t) ∧ (VarS s → ∃ tv r, l = tv :: r ∧ tv.kind = 4 ∧ tv.text = varB)
abbrev ScI := Nat × Tok × Option (Nat × Nat × List Tok)
def scF (s : Bytes) (v : Nat → AV) : ScI → AS
  | (i, _, none) => ⟨[S s, v 1, .val (.slice none 0 0), .ref 0 0 0, .val (.slice none 0 0), I (i : Int), v 6, v 7, v 8, v 9, v 10, v 11, v 12, v 13, v 14, v 15, v 16, v 17, v 18, v 19, v 20, v 21, v 22, v 23, v 24, v 25, v 26, v 27, v 28, v 29, v 30, v 31, v 32, v 33, v 34, v 35, v 36, v 37, v 38, v 39, v 40, v 41, v 42, v 43, v 44, v 45, v 46, v 47, v 48, v 49, v 50, v 51, v 52, v 53, v 54, v 55, v 56, v 57, v 58, v 59, v 60, v 61, v 62, v 63, v 64, v 65, v 66, v 67, v 68, v 69, v 70, v 71, v 72, v 73, v 74, v 75, v 76, v 77, v 78, v 79, v 80, v 81, v 82, v 83, v 84, v 85, v 86, v 87, v 88, v 89, v 90, v 91, v 92, v 93, v 94, v 95, v 96, v 97, v 98, v 99, v 100, v 101, v 102, v 103, v 104, v 105, v 106, v 107, v 108, v 109, v 110, v 111, v 112, v 113, v 114, v 115, v 116, v 117, v 118, v 119, v 120, v 121, v 122, v 123, v 124, v 125, v 126, v 127, v 128, v 129, v 130, v 131, v 132, v 133, v 134, v 135, v 136], [FZ]⟩
  | (i, t0, some (n, g, l)) => ⟨[S s, v 1, .val (.slice none 0 0), .ref 0 0 0, .row 3 4 0 (n + 1) g, I (i : Int), v 6, v 7, v 8, v 9, v 10, v 11, v 12, v 13, v 14, v 15, v 16, v 17, v 18, v 19, v 20, v 21, v 22, v 23, v 24, v 25, v 26, v 27, v 28, v 29, v 30, v 31, v 32, v 33, v 34, v 35, v 36, v 37, v 38, v 39, v 40, v 41, v 42, v 43, v 44, v 45, v 46, v 47, v 48, v 49, v 50, v 51, v 52, v 53, v 54, v 55, v 56, v 57, v 58, v 59, v 60, v 61, v 62, v 63, v 64, v 65, v 66, v 67, v 68, v 69, v 70, v 71, v 72, v 73, v 74, v 75, v 76, v 77, v 78, v 79, v 80, v 81, v 82, v 83, v 84, v 85, v 86, v 87, v 88, v 89, v 90, v 91, v 92, v 93, v 94, v 95, v 96, v 97, v 98, v 99, v 100, v 101, v 102, v 103, v 104, v 105, v 106, v 107, v 108, v 109, v 110, v 111, v 112, v 113, v 114, v 115, v 116, v 117, v 118, v 119, v 120, v 121, v 122, v 123, v 124, v 125, v 126, v 127, v 128, v 129, v 130, v 131, v 132, v 133, v 134, v 135, v 136], [FZ, ⟨true, 0, none, 45, t0.cells⟩, ⟨true, 0, some 4, 45, t0.cells⟩, ⟨true, g, some 4, 45, flatT l⟩]⟩
def ScC (s : Bytes) : ScI → Prop
  | (i, _, none) => i ≤ s.length ∧ (VarS s → i = 0)
  | (i, _, some (n, _, l)) => i ≤ s.length ∧ ScG s i n l
theorem ScC.le {s : Bytes} : ∀ {i : ScI}, ScC s i → i.1 ≤ s.length
  | (_, _, none), h => h.1
  | (_, _, some (_, _, _)), h => h.1
theorem ScG.more {s : Bytes} {i j n : Nat} {l : List Tok} (h : ScG s i n l) (hij : i ≤ j) : ScG s j n l := ⟨h.1, by have := h.2.1; omega, h.2.2⟩
theorem ScG.snoc {s : Bytes} {i j n : Nat} {l : List Tok} {t : Tok} (h : ScG s i n l) (ht : TokG t) (hij : i < j) : ScG s j (n + 1) (l ++ [t]) := by
  refine ⟨by simp [h.1], by have := h.2.1; omega, fun x hx => ?_, fun hv => ?_⟩
  · rcases List.mem_append.1 hx with hx | hx
    · exact h.2.2.1 x hx
    · rw [List.mem_singleton.1 hx]; exact ht
  · obtain ⟨tv, r, rfl, h1, h2⟩ := h.2.2.2 hv
    exact ⟨tv, r ++ [t], rfl, h1, h2⟩
theorem snoc_of {l : List Tok} {n : Nat} (h : l.length = n + 1) : ∃ l' t, l = l' ++ [t] ∧ l'.length = n := by
  refine ⟨l.dropLast, l.getLast (by intro e; rw [e] at h; simp at h), (List.dropLast_concat_getLast _).symm, by simp [h]⟩
def slF (s : Bytes) (row : AV) (os : List AO) (v : Nat → AV) (x : Nat × Nat) : AS := ⟨[S s, v 1, .val (.slice none 0 0), .ref 0 0 0, row, v 5, v 6, v 7, v 8, I (x.1 : Int), I (x.2 : Int), v 11, v 12, v 13, v 14, v 15, v 16, v 17, v 18, v 19, v 20, v 21, v 22, v 23, v 24, v 25, v 26, v 27, v 28, v 29, v 30, v 31, v 32, v 33, v 34, v 35, v 36, v 37, v 38, v 39, v 40, v 41, v 42, v 43, v 44, v 45, v 46, v 47, v 48, v 49, v 50, v 51, v 52, v 53, v 54, v 55, v 56, v 57, v 58, v 59, v 60, v 61, v 62, v 63, v 64, v 65, v 66, v 67, v 68, v 69, v 70, v 71, v 72, v 73, v 74, v 75, v 76, v 77, v 78, v 79, v 80, v 81, v 82, v 83, v 84, v 85, v 86, v 87, v 88, v 89, v 90, v 91, v 92, v 93, v 94, v 95, v 96, v 97, v 98, v 99, v 100, v 101, v 102, v 103, v 104, v 105, v 106, v 107, v 108, v 109, v 110, v 111, v 112, v 113, v 114, v 115, v 116, v 117, v 118, v 119, v 120, v 121, v 122, v 123, v 124, v 125, v 126, v 127, v 128, v 129, v 130, v 131, v 132, v 133, v 134, v 135, v 136], os⟩
def eofT (a : Int) : Tok := ⟨6, [], 0, a⟩
@[simp] theorem Tok.frz (os : List AO) (K : Nat → Bool) (d : Nat) (t : Tok) : t.cells.map (frz os K d) = t.cells := by cases d <;> simp [Tok.cells]
@[simp] theorem flatT_frz (os : List AO) (K : Nat → Bool) (d : Nat) : ∀ l : List Tok, (flatT l).map (Ytoaodlfmhioigaa.frz os K d) = flatT l
  | [] => rfl
  | t :: l => by rw [flatT, List.map_append, t.frz, flatT_frz os K d l]
theorem tk_of (l : List Tok) (h : ∀ t ∈ l, TokG t) (e : Tok) (h6 : e.kind = 6) (hx : e.text.length < 1048576) (ha : 0 ≤ e.at_) (hl : (l ++ [e]).length < 1048576) : TK (l ++ [e]) := by
  refine ⟨hl, fun i t ht => ?_⟩
  rcases Nat.lt_or_ge i l.length with hi | hi
  · rw [List.getElem?_append_left hi] at ht
    have hg := h t (List.mem_of_getElem? ht)
    exact ⟨fun _ => by simp; omega, hg.text, hg.pos, hg.name⟩
  · rw [List.getElem?_append_right hi] at ht
    have h0 : i - l.length = 0 := by
      have := (List.getElem?_eq_some_iff.1 ht).1
      simp at this
      omega
    rw [h0] at ht
    simp at ht
    subst ht
    exact ⟨fun hne => absurd h6 hne, hx, ha, fun e1 => by rw [h6] at e1; cases e1⟩
/-- What 'Scan' answers. -/
def ScanR (s : Bytes) (r : AV) (o : List AO) : Prop := o = [] ∧ ((∃ st at_ : Int, r = .tup [.vec 0 0 [], .agg [I st, I at_]] ∧ st ≠ 0) ∨
  ∃ toks, r = .tup [.vec 4 toks.length (flatT toks), .agg [I 0, I 0]] ∧ TK toks ∧ 0 < toks.length ∧ toks.length ≤ 2 * s.length + 2 ∧ (VarS s → ∃ tv, toks[0]? = some tv ∧ tv.kind = 4 ∧ tv.text = varB))

set_option maxRecDepth 20000 in
set_option maxHeartbeats 8000000 in
theorem t_scan (s : Bytes) (hs : s.length < 524288) : Tri Try.prog 13 [S s] [] (ScanR s) := by
  refine tri_by Try.func13 (by rfl) _ Try.ntmps13 _ (by rfl) ?_
  by_cases hlong : (8192 : Int) < s.length
  · simp [hlong]
    exact ⟨rfl, .inl ⟨1, 8192, rfl, by decide⟩⟩
  · simp [hlong]
    refine loopC_to 0 (scF s) (ScC s) (fun x => ScC s x ∧ s.length ≤ x.1) (fun x => s.length - x.1) (0, ⟨0, [], 0, 0⟩, none) (by rfl) ⟨Nat.zero_le _, fun _ => rfl⟩ ?_ ?_
    · rintro v ⟨i, t0, g⟩ hc
      have hi := hc.le
      simp only at hi
      by_cases hlt : i < s.length
      · obtain ⟨c, hcc⟩ : ∃ c, s[i]? = some c := ⟨_, List.getElem?_eq_getElem hlt⟩
        have hc2 : s[i] = c := (List.getElem?_eq_some_iff.1 hcc).2
        have hw := wrap_one (n := i) (by omega)
        have hv0 : (c.toNat : Int) ≠ 118 → VarS s → i ≠ 0 := by
          rintro hne ⟨r, hr⟩ rfl
          rw [hr] at hcc
          simp at hcc
          rw [← hcc] at hne
          exact hne (by decide)
        by_cases h10 : (c.toNat : Int) = 10
        · match g, hc with
          | none, hc =>
            simp [scF, hlt, hc2, h10]
            refine acallC_raw 0 (t_ended_nil i) ?_ (by kernel_rfl) ?_ ?_ ?_ ?_ ?_ ?_ ?_ ?_ <;> simp [hlt, hc2, h10, hw]
            refine Again.mk 1 ((i + 1, t0, none)) (by simp) (by simp) (by simp) rfl ?_ ?_ ?_
            · simp [scF]
            · exact ⟨hlt, fun hv => absurd (hc.2 hv) (hv0 (by omega) hv)⟩
            · show s.length - (i + 1) < s.length - i; omega
          | some (n, g, l), hc =>
            obtain ⟨_, hg⟩ := hc
            obtain ⟨l', t, rfl, hl'⟩ := snoc_of hg.1
            have htg := hg.2.2.1 t (by simp)
            have hn := hg.2.1
            cases he : endsB t
            · have hen := t_ended_same4 l' t t0 n g i hl' (by omega) htg.text he
              simp only [Tok.cells] at hen
              simp [scF, hlt, hc2, h10]
              refine acallC_by 4 (hen) ?_ (by kernel_rfl) ?_ ?_ ?_ ?_ ?_ ?_ ?_ ?_ ?_ <;> simp [hlt, hc2, h10, hw, Tok.cells]
              refine Again.mk 4 ((i + 1, t0, some (n, g, l' ++ [t]))) (by simp) (by simp) (by simp) rfl ?_ ?_ ?_
              · simp [scF, Tok.cells]
              · exact ⟨hlt, hg.more (Nat.le_succ _)⟩
              · show s.length - (i + 1) < s.length - i; omega
            · have hen := t_ended_more4 l' t t0 n g i hl' (by omega) htg.text he
              simp only [Tok.cells] at hen
              simp [scF, hlt, hc2, h10]
              refine acallC_by 4 (hen) ?_ (by kernel_rfl) ?_ ?_ ?_ ?_ ?_ ?_ ?_ ?_ ?_ <;> simp [hlt, hc2, h10, hw, Tok.cells]
              refine Again.mk 4 ((i + 1, t0, some (n + 1, g + 1, l' ++ [t] ++ [semiT i]))) (by simp) (by simp) (by simp) rfl ?_ ?_ ?_
              · simp [scF, Tok.cells]
              · exact ⟨hlt, hg.snoc (semiT_ok i) (Nat.lt_succ_self _)⟩
              · show s.length - (i + 1) < s.length - i; omega
        · by_cases hbl : (c.toNat : Int) = 32 ∨ (c.toNat : Int) = 9
          · rcases hbl with hb1 | hb1
            · skip
              match g, hc with
              | none, hc =>
                simp [scF, hlt, hc2, h10, hw, hb1]
                refine Again.mk 1 ((i + 1, t0, none)) (by simp) (by simp) (by simp) rfl ?_ ?_ ?_
                · simp [scF]
                · exact ⟨hlt, fun hv => absurd (hc.2 hv) (hv0 (by omega) hv)⟩
                · show s.length - (i + 1) < s.length - i; omega
              | some (n, g, l), hc =>
                simp [scF, hlt, hc2, h10, hw, hb1]
                refine Again.mk 4 ((i + 1, t0, some (n, g, l))) (by simp) (by simp) (by simp) rfl ?_ ?_ ?_
                · simp [scF]
                · exact ⟨hlt, hc.2.more (Nat.le_succ _)⟩
                · show s.length - (i + 1) < s.length - i; omega
            · have hb0 : ¬ (c.toNat : Int) = 32 := by omega
              match g, hc with
              | none, hc =>
                simp [scF, hlt, hc2, h10, hw, hb0, hb1]
                refine Again.mk 1 ((i + 1, t0, none)) (by simp) (by simp) (by simp) rfl ?_ ?_ ?_
                · simp [scF]
                · exact ⟨hlt, fun hv => absurd (hc.2 hv) (hv0 (by omega) hv)⟩
                · show s.length - (i + 1) < s.length - i; omega
              | some (n, g, l), hc =>
                simp [scF, hlt, hc2, h10, hw, hb0, hb1]
                refine Again.mk 4 ((i + 1, t0, some (n, g, l))) (by simp) (by simp) (by simp) rfl ?_ ?_ ?_
                · simp [scF]
                · exact ⟨hlt, hc.2.more (Nat.le_succ _)⟩
                · show s.length - (i + 1) < s.length - i; omega
          · have hb0 : ¬ (c.toNat : Int) = 32 := fun e => hbl (.inl e)
            have hb1 : ¬ (c.toNat : Int) = 9 := fun e => hbl (.inr e)
            have hw2 : IntKind.i64.wrap ((i : Int) + 2) = (i : Int) + 2 := wrap_i (by omega)
            have hnn : (0 : Int) ≤ (i : Int) + 2 := by omega
            have htn : ((i : Int) + 2).toNat = i + 2 := by omega
            have htok := t_token s i hs hlt
            by_cases h2 : i + 2 ≤ s.length
            · have h2' : (i : Int) + 2 ≤ s.length := by omega
              by_cases hss : (s.drop i).take 2 = [47, 47]
              · have hdr : s.drop i = s[i] :: s.drop (i + 1) := List.drop_eq_getElem_cons hlt
                have hc47 : c = 47 := by
                  rw [hdr, hc2] at hss
                  simp at hss
                  exact hss.1
                have hnv : ¬ VarS s ∨ i ≠ 0 := by
                  by_cases hv : VarS s
                  · exact .inr (hv0 (by rw [hc47]; decide) hv)
                  · exact .inl hv
                match g, hc with
                | none, hc =>
                  have hnv : ¬ VarS s := fun hv => by
                    rcases hnv with h | h
                    · exact h hv
                    · exact h (hc.2 hv)
                  simp [scF, hlt, hc2, h10, hb0, hb1, hw2, hnn, htn, h2, h2', hss]
                  refine loopC_to 2 (fun v (q : Nat) => scF s v (q, t0, none)) (fun q => i ≤ q ∧ q ≤ s.length) (fun q => i < q ∧ q ≤ s.length) (fun q => s.length - q) i (by rfl) ⟨Nat.le_refl _, hi⟩ ?_ ?_
                  · rintro v q ⟨hq1, hq2⟩
                    by_cases hlq : q < s.length
                    · obtain ⟨d, hd⟩ : ∃ d, s[q]? = some d := ⟨_, List.getElem?_eq_getElem hlq⟩
                      have hd2 : s[q] = d := (List.getElem?_eq_some_iff.1 hd).2
                      have hwq := wrap_one (n := q) (by omega)
                      by_cases hd10 : (d.toNat : Int) = 10
                      · simp [scF, hlq, hd2, hd10]
                        refine Left.mk (q) rfl ?_ ?_
                        · simp [scF]
                        · refine ⟨?_, hq2⟩
                          rcases Nat.lt_or_ge i q with h | h
                          · exact h
                          · obtain rfl : i = q := by omega
                            rw [hcc] at hd
                            injection hd with hd
                            rw [hd] at h10
                            exact absurd hd10 h10
                      · simp [scF, hlq, hd2, hd10, hwq]
                        refine Again.mk 1 ((q + 1)) (by simp) (by simp) (by simp) rfl ?_ ?_ ?_
                        · simp [scF]
                        · exact ⟨Nat.le_succ_of_le hq1, hlq⟩
                        · omega
                    · simp [scF, hlq]
                      refine Left.mk (q) rfl ?_ ?_
                      · simp [scF]
                      · exact ⟨by omega, hq2⟩
                  · rintro v q ⟨hq1, hq2⟩
                    simp [scF]
                    refine Again.mk 1 ((q, t0, none)) (by simp) (by simp) (by simp) rfl ?_ ?_ ?_
                    · simp [scF]
                    · exact ⟨hq2, fun hv => absurd hv hnv⟩
                    · show s.length - q < s.length - i; omega
                | some (n, g, l), hc =>
                  simp [scF, hlt, hc2, h10, hb0, hb1, hw2, hnn, htn, h2, h2', hss]
                  refine loopC_to 2 (fun v (q : Nat) => scF s v (q, t0, some (n, g, l))) (fun q => i ≤ q ∧ q ≤ s.length) (fun q => i < q ∧ q ≤ s.length) (fun q => s.length - q) i (by rfl) ⟨Nat.le_refl _, hi⟩ ?_ ?_
                  · rintro v q ⟨hq1, hq2⟩
                    by_cases hlq : q < s.length
                    · obtain ⟨d, hd⟩ : ∃ d, s[q]? = some d := ⟨_, List.getElem?_eq_getElem hlq⟩
                      have hd2 : s[q] = d := (List.getElem?_eq_some_iff.1 hd).2
                      have hwq := wrap_one (n := q) (by omega)
                      by_cases hd10 : (d.toNat : Int) = 10
                      · simp [scF, hlq, hd2, hd10]
                        refine Left.mk (q) rfl ?_ ?_
                        · simp [scF]
                        · refine ⟨?_, hq2⟩
                          rcases Nat.lt_or_ge i q with h | h
                          · exact h
                          · obtain rfl : i = q := by omega
                            rw [hcc] at hd
                            injection hd with hd
                            rw [hd] at h10
                            exact absurd hd10 h10
                      · simp [scF, hlq, hd2, hd10, hwq]
                        refine Again.mk 4 ((q + 1)) (by simp) (by simp) (by simp) rfl ?_ ?_ ?_
                        · simp [scF]
                        · exact ⟨Nat.le_succ_of_le hq1, hlq⟩
                        · omega
                    · simp [scF, hlq]
                      refine Left.mk (q) rfl ?_ ?_
                      · simp [scF]
                      · exact ⟨by omega, hq2⟩
                  · rintro v q ⟨hq1, hq2⟩
                    simp [scF]
                    refine Again.mk 4 ((q, t0, some (n, g, l))) (by simp) (by simp) (by simp) rfl ?_ ?_ ?_
                    · simp [scF]
                    · exact ⟨hq2, hc.2.more (by omega)⟩
                    · show s.length - q < s.length - i; omega
              · skip
                match g, hc with
                | none, hc =>
                  simp [scF, hlt, hc2, h10, hb0, hb1, hw2, hnn, htn, h2, h2', hss]
                  refine acallC_of 0 (htok) ?_ (by kernel_rfl) ?_ ?_ ?_ ?_ ?_ ?_ <;> first | rintro r o ⟨t, next, wrong, rfl, rfl, ht⟩ | simp
                  by_cases hwr : 0 ≤ wrong
                  · simp [Tok.cells, hwr]
                    exact ⟨rfl, .inl ⟨2, wrong, rfl, by decide⟩⟩
                  · obtain ⟨nx, rfl, hta, hvt⟩ := ht (by omega)
                    simp [Tok.cells, hwr]
                    refine Again.mk 4 ((nx, t, some (0, 0, [t]))) (by simp) (by simp) (by simp) rfl ?_ ?_ ?_
                    · simp [scF, flatT, Tok.cells]
                    · have h1 := hta.lt
                      have h2 := hta.text
                      have h3 := hta.pos
                      refine ⟨hta.le, rfl, by omega, fun x hx => ?_, fun hv => ?_⟩
                      · rw [List.mem_singleton.1 hx]
                        exact ⟨hta.kind, by omega, by omega, hta.name⟩
                      · obtain rfl := hc.2 hv
                        obtain ⟨r, rfl⟩ := hv
                        have hcv : c = 118 := by simp at hcc; exact hcc.symm
                        obtain ⟨_, e2, e3⟩ := hvt c hcc (by rw [hcv]; decide)
                        have e4 : nameAt (118 :: 97 :: 114 :: 32 :: r) 0 = varB := by rw [nameAt_eq]; simp [List.takeWhile, wordC, letterB, digitB, varB]
                        rw [e4] at e2
                        exact ⟨t, [], rfl, e3 (by rw [e2]; decide), e2⟩
                    · show s.length - nx < s.length - i
                      have := hta.lt
                      have := hta.le
                      omega
                | some (n, g, l), hc =>
                  obtain ⟨_, hg⟩ := hc
                  have hgl := hg.1
                  have hg2 := hg.2.1
                  obtain ⟨hq1, hq2⟩ := len_ok (n := n + 1 + 1) (by omega)
                  have hq3 : (n + 1 + 1) * 40 ≤ 140737488355328 := Nat.le_trans (Nat.mul_le_mul_left _ (by decide)) hq2
                  have htk := flatT_take l (n + 1) hgl.symm
                  simp [scF, hlt, hc2, h10, hb0, hb1, hw2, hnn, htn, h2, h2', hss]
                  refine acallC_of 0 (htok) ?_ (by kernel_rfl) ?_ ?_ ?_ ?_ ?_ ?_ <;> first | rintro r o ⟨t, next, wrong, rfl, rfl, ht⟩ | simp
                  by_cases hwr : 0 ≤ wrong
                  · simp [Tok.cells, hwr]
                    exact ⟨rfl, .inl ⟨2, wrong, rfl, by decide⟩⟩
                  · obtain ⟨nx, rfl, hta, hvt⟩ := ht (by omega)
                    simp [Tok.cells, hwr, flatT_length, hgl, hq1, hq3, htk]
                    refine Again.mk 4 ((nx, t0, some (n + 1, g + 1, l ++ [t]))) (by simp) (by simp) (by simp) rfl ?_ ?_ ?_
                    · simp [scF, flatT, Tok.cells, flatT_append]
                    · have h1 := hta.lt
                      have h2 := hta.text
                      have h3 := hta.pos
                      exact ⟨hta.le, hg.snoc ⟨hta.kind, by omega, by omega, hta.name⟩ h1⟩
                    · show s.length - nx < s.length - i
                      have := hta.lt
                      have := hta.le
                      omega
            · have h2' : ¬ (i : Int) + 2 ≤ s.length := by omega
              match g, hc with
              | none, hc =>
                simp [scF, hlt, hc2, h10, hb0, hb1, hw2, hnn, htn, h2, h2']
                refine acallC_of 0 (htok) ?_ (by kernel_rfl) ?_ ?_ ?_ ?_ ?_ ?_ <;> first | rintro r o ⟨t, next, wrong, rfl, rfl, ht⟩ | simp
                by_cases hwr : 0 ≤ wrong
                · simp [Tok.cells, hwr]
                  exact ⟨rfl, .inl ⟨2, wrong, rfl, by decide⟩⟩
                · obtain ⟨nx, rfl, hta, hvt⟩ := ht (by omega)
                  simp [Tok.cells, hwr]
                  refine Again.mk 4 ((nx, t, some (0, 0, [t]))) (by simp) (by simp) (by simp) rfl ?_ ?_ ?_
                  · simp [scF, flatT, Tok.cells]
                  · have h1 := hta.lt
                    have h2 := hta.text
                    have h3 := hta.pos
                    refine ⟨hta.le, rfl, by omega, fun x hx => ?_, fun hv => ?_⟩
                    · rw [List.mem_singleton.1 hx]
                      exact ⟨hta.kind, by omega, by omega, hta.name⟩
                    · obtain rfl := hc.2 hv
                      obtain ⟨r, rfl⟩ := hv
                      have hcv : c = 118 := by simp at hcc; exact hcc.symm
                      obtain ⟨_, e2, e3⟩ := hvt c hcc (by rw [hcv]; decide)
                      have e4 : nameAt (118 :: 97 :: 114 :: 32 :: r) 0 = varB := by rw [nameAt_eq]; simp [List.takeWhile, wordC, letterB, digitB, varB]
                      rw [e4] at e2
                      exact ⟨t, [], rfl, e3 (by rw [e2]; decide), e2⟩
                  · show s.length - nx < s.length - i
                    have := hta.lt
                    have := hta.le
                    omega
              | some (n, g, l), hc =>
                obtain ⟨_, hg⟩ := hc
                have hgl := hg.1
                have hg2 := hg.2.1
                obtain ⟨hq1, hq2⟩ := len_ok (n := n + 1 + 1) (by omega)
                have hq3 : (n + 1 + 1) * 40 ≤ 140737488355328 := Nat.le_trans (Nat.mul_le_mul_left _ (by decide)) hq2
                have htk := flatT_take l (n + 1) hgl.symm
                simp [scF, hlt, hc2, h10, hb0, hb1, hw2, hnn, htn, h2, h2']
                refine acallC_of 0 (htok) ?_ (by kernel_rfl) ?_ ?_ ?_ ?_ ?_ ?_ <;> first | rintro r o ⟨t, next, wrong, rfl, rfl, ht⟩ | simp
                by_cases hwr : 0 ≤ wrong
                · simp [Tok.cells, hwr]
                  exact ⟨rfl, .inl ⟨2, wrong, rfl, by decide⟩⟩
                · obtain ⟨nx, rfl, hta, hvt⟩ := ht (by omega)
                  simp [Tok.cells, hwr, flatT_length, hgl, hq1, hq3, htk]
                  refine Again.mk 4 ((nx, t0, some (n + 1, g + 1, l ++ [t]))) (by simp) (by simp) (by simp) rfl ?_ ?_ ?_
                  · simp [scF, flatT, Tok.cells, flatT_append]
                  · have h1 := hta.lt
                    have h2 := hta.text
                    have h3 := hta.pos
                    exact ⟨hta.le, hg.snoc ⟨hta.kind, by omega, by omega, hta.name⟩ h1⟩
                  · show s.length - nx < s.length - i
                    have := hta.lt
                    have := hta.le
                    omega
      · match g, hc with
        | none, hc =>
          simp [scF, hlt]
          refine Left.mk ((i, t0, none)) rfl ?_ ?_
          · simp [scF]
          · exact ⟨hc, by show s.length ≤ i; omega⟩
        | some (n, g, l), hc =>
          simp [scF, hlt]
          refine Left.mk ((i, t0, some (n, g, l))) rfl ?_ ?_
          · simp [scF]
          · exact ⟨hc, by show s.length ≤ i; omega⟩
    · rintro v ⟨i, t0, g⟩ ⟨hc, hnlt⟩
      have hi := hc.le
      simp only at hnlt
      simp only at hi
      match g, hc with
      | none, hc =>
        simp [scF]
        refine acallC_raw 0 (t_ended_nil s.length) ?_ (by kernel_rfl) ?_ ?_ ?_ ?_ ?_ ?_ ?_ ?_ <;> simp
        have hall : ∀ x ∈ ([] : List Tok), TokG x := by simp
        have hLl : (([] : List Tok) ++ [eofT s.length]).length = 0 + 1 := by simp [List.length_append]
        have hLa : ∀ x ∈ ([] : List Tok) ++ [eofT s.length], x.text.length < 1048576 := fun x hx => by
          rcases List.mem_append.1 hx with hx | hx
          · exact (hall x hx).text
          · rw [List.mem_singleton.1 hx]; simp [eofT]
        have hmb : 0 + 1 < 1048576 := by omega
        refine loopC_to 4 (slF s (.row 2 4 0 (0 + 1) 0) [FZ, ⟨true, 0, some 4, 45, (eofT s.length).cells⟩, ⟨true, 0, some 4, 45, flatT (([] : List Tok) ++ [eofT s.length])⟩]) (fun x => x.1 ≤ 40 ∧ x.2 ≤ 0 + 1) (fun x => x.1 ≤ 40 ∧ x.2 ≤ 0 + 1) (fun x => 0 + 1 - x.2) (0, 0) (by simp [slF, flatT_append, flatT, Tok.cells, eofT, semiT]) ⟨Nat.zero_le _, Nat.zero_le _⟩ ?_ ?_
        · rintro v ⟨o, j⟩ ⟨ho, hj⟩
          simp only at ho hj
          by_cases hlt : j < 0 + 1
          · obtain ⟨tl, tk, tr, hLs, htl⟩ := flatT_split (([] : List Tok) ++ [eofT s.length]) j (by omega)
            have hT : flatT (([] : List Tok) ++ [eofT s.length]) = flatT tl ++ ([I tk.kind, S tk.text, I tk.num, I tk.at_] ++ flatT tr) := by rw [hLs, flatT_append]; rfl
            have hTl : (flatT tl).length = j * 4 := by rw [flatT_length, htl]
            have htx := hLa tk (by rw [hLs]; simp)
            have hd1 : ∀ r : List AV, (flatT tl ++ r).drop (j * 4) = r := fun r => by rw [← hTl, List.drop_left]
            have hd4 : ∀ (q : Nat) (r : List AV), (flatT tl ++ r).drop (j * 4 + q) = r.drop q := fun q r => by rw [← hTl, List.drop_append]; simp
            have hle0 : ∀ q : Nat, j * 4 + 1 ≤ j * 4 + (q + 1 + 1 + 1 + 1) := fun q => by omega
            have hle1 : ∀ q : Nat, j * 4 + 1 + 1 ≤ j * 4 + (q + 1 + 1 + 1 + 1) := fun q => by omega
            have hle3 : ∀ q : Nat, j * 4 + 3 + 1 ≤ j * 4 + (q + 1 + 1 + 1 + 1) := fun q => by omega
            have hltz : (j : Int) < 1 := by omega
            have hwj := wrap_one (n := j) (by omega)
            have hwo := wrap_one (n := o) (by omega)
            generalize hLL : ([] : List Tok) ++ [eofT s.length] = LL at *
            by_cases h5 : tk.kind = 5
            · have hi1 := t_In tk.text [32, 40, 32, 91, 32, 123, 32] htx (by decide)
              have hi2 := t_In tk.text [32, 41, 32, 93, 32, 125, 32] htx (by decide)
              generalize inW tk.text [32, 40, 32, 91, 32, 123, 32] = b1 at hi1
              generalize inW tk.text [32, 41, 32, 93, 32, 125, 32] = b2 at hi2
              cases b1
              · by_cases hop : 0 < o
                · have hop2 : (0 : Int) < (o : Int) := by omega
                  have hng : ¬ (40 : Int) < (o : Int) := by omega
                  have hwm : IntKind.i64.wrap ((o : Int) - 1) = ((o - 1 : Nat) : Int) := by rw [wrap_i (by omega)]; omega
                  cases b2
                  · simp [slF, hT, hTl, hd1, hd4, hle0, hle1, hlt, hltz, h5]
                    refine acallC_by 0 (hi1) ?_ (by kernel_rfl) ?_ ?_ ?_ ?_ ?_ ?_ ?_ ?_ ?_ <;> simp [hT, hTl, hd1, hd4, hle0, hle1, hlt, hltz, h5, hng, hop, hop2]
                    refine acallC_by 0 (hi2) ?_ (by kernel_rfl) ?_ ?_ ?_ ?_ ?_ ?_ ?_ ?_ ?_ <;> simp [hwj]
                    refine Again.mk 3 ((o, j + 1)) (by simp) (by simp) (by simp) rfl ?_ ?_ ?_
                    · simp [slF, hT, h5]
                    · exact ⟨ho, hlt⟩
                    · show 0 + 1 - (j + 1) < 0 + 1 - j; omega
                  · simp [slF, hT, hTl, hd1, hd4, hle0, hle1, hlt, hltz, h5]
                    refine acallC_by 0 (hi1) ?_ (by kernel_rfl) ?_ ?_ ?_ ?_ ?_ ?_ ?_ ?_ ?_ <;> simp [hT, hTl, hd1, hd4, hle0, hle1, hlt, hltz, h5, hng, hop, hop2]
                    refine acallC_by 0 (hi2) ?_ (by kernel_rfl) ?_ ?_ ?_ ?_ ?_ ?_ ?_ ?_ ?_ <;> simp [hwj, hwm]
                    refine Again.mk 3 ((o - 1, j + 1)) (by simp) (by simp) (by simp) rfl ?_ ?_ ?_
                    · simp [slF, hT, h5]
                    · exact ⟨by show o - 1 ≤ 40; omega, hlt⟩
                    · show 0 + 1 - (j + 1) < 0 + 1 - j; omega
                · have hop2 : ¬ (0 : Int) < (o : Int) := by omega
                  have hng : ¬ (40 : Int) < (o : Int) := by omega
                  simp [slF, hT, hTl, hd1, hd4, hle0, hle1, hlt, hltz, h5]
                  refine acallC_by 0 (hi1) ?_ (by kernel_rfl) ?_ ?_ ?_ ?_ ?_ ?_ ?_ ?_ ?_ <;> simp [hT, hTl, hd1, hd4, hle0, hle1, hlt, hltz, h5, hng, hop, hop2, hwj]
                  refine Again.mk 3 ((o, j + 1)) (by simp) (by simp) (by simp) rfl ?_ ?_ ?_
                  · simp [slF, hT, h5]
                  · exact ⟨ho, hlt⟩
                  · show 0 + 1 - (j + 1) < 0 + 1 - j; omega
              · by_cases h40 : (40 : Int) < (o : Int) + 1
                · simp [slF, hT, hTl, hd1, hd4, hle0, hle1, hlt, hltz, h5]
                  refine acallC_by 0 (hi1) ?_ (by kernel_rfl) ?_ ?_ ?_ ?_ ?_ ?_ ?_ ?_ ?_ <;> simp [hT, hTl, hd1, hd4, hle0, hle1, hlt, hltz, h5, hwo, h40]
                  refine adrawC_by [0] [0, 1, 2, 3, 4, 5, 6] (.late 7 .fin) (by kernel_rfl) (by kernel_rfl) (by kernel_rfl) ?_
                  simp [hT, hTl, hd1, hd4, hle0, hle1, hle3, hlt, hltz]
                  exact ⟨rfl, .inl ⟨3, tk.at_, rfl, by decide⟩⟩
                · have hop2 : (0 : Int) < (o : Int) + 1 := by omega
                  cases b2
                  · simp [slF, hT, hTl, hd1, hd4, hle0, hle1, hlt, hltz, h5]
                    refine acallC_by 0 (hi1) ?_ (by kernel_rfl) ?_ ?_ ?_ ?_ ?_ ?_ ?_ ?_ ?_ <;> simp [hT, hTl, hd1, hd4, hle0, hle1, hlt, hltz, h5, hwo, h40, hop2]
                    refine acallC_by 0 (hi2) ?_ (by kernel_rfl) ?_ ?_ ?_ ?_ ?_ ?_ ?_ ?_ ?_ <;> simp [hwj]
                    refine Again.mk 3 ((o + 1, j + 1)) (by simp) (by simp) (by simp) rfl ?_ ?_ ?_
                    · simp [slF, hT, h5]
                    · exact ⟨by show o + 1 ≤ 40; omega, hlt⟩
                    · show 0 + 1 - (j + 1) < 0 + 1 - j; omega
                  · have hwm : IntKind.i64.wrap (o : Int) = (o : Int) := wrap_i (by omega)
                    simp [slF, hT, hTl, hd1, hd4, hle0, hle1, hlt, hltz, h5]
                    refine acallC_by 0 (hi1) ?_ (by kernel_rfl) ?_ ?_ ?_ ?_ ?_ ?_ ?_ ?_ ?_ <;> simp [hT, hTl, hd1, hd4, hle0, hle1, hlt, hltz, h5, hwo, h40, hop2]
                    refine acallC_by 0 (hi2) ?_ (by kernel_rfl) ?_ ?_ ?_ ?_ ?_ ?_ ?_ ?_ ?_ <;> simp [hwj, hwm]
                    refine Again.mk 3 ((o, j + 1)) (by simp) (by simp) (by simp) rfl ?_ ?_ ?_
                    · simp [slF, hT, h5]
                    · exact ⟨ho, hlt⟩
                    · show 0 + 1 - (j + 1) < 0 + 1 - j; omega
            · simp [slF, hT, hTl, hd1, hd4, hle0, hlt, hltz, h5, hwj]
              refine Again.mk 3 ((o, j + 1)) (by simp) (by simp) (by simp) rfl ?_ ?_ ?_
              · simp [slF, hT, h5]
              · exact ⟨ho, hlt⟩
              · show 0 + 1 - (j + 1) < 0 + 1 - j; omega
          · have hltz : ¬ (j : Int) < 1 := by omega
            generalize hLL : ([] : List Tok) ++ [eofT s.length] = LL at *
            simp [slF, hltz]
            refine Left.mk ((o, j)) rfl ?_ ?_
            · simp [slF]
            · exact ⟨ho, hj⟩
        · rintro v ⟨o, j⟩ ⟨ho, hj⟩
          have htk := flatT_take (([] : List Tok) ++ [eofT s.length]) (0 + 1) hLl.symm
          have hTlen : (flatT (([] : List Tok) ++ [eofT s.length])).length = (0 + 1) * 4 := by rw [flatT_length, hLl]
          have hTK := tk_of (([] : List Tok)) hall (eofT s.length) rfl (by simp [eofT]) (by show (0 : Int) ≤ (s.length : Int); omega) (by rw [hLl]; omega)
          have hfin : ScanR s (.tup [.vec 4 (0 + 1) (flatT (([] : List Tok) ++ [eofT s.length])), .agg [I 0, I 0]]) [] := ⟨rfl, .inr ⟨([] : List Tok) ++ [eofT s.length], by rw [hLl], hTK, by omega, by rw [hLl]; omega, fun hv => (by have h0 := hc.2 hv; obtain ⟨r, rfl⟩ := hv; have := hnlt; simp at this; omega)⟩⟩
          generalize ([] : List Tok) ++ [eofT s.length] = LL at *
          simp [slF, htk, hTlen]
          exact hfin
      | some (n, g, l), hc =>
        obtain ⟨_, hg⟩ := hc
        obtain ⟨l', t, rfl, hl'⟩ := snoc_of hg.1
        have htg := hg.2.2.1 t (by simp)
        have hn := hg.2.1
        have htkA : ∀ x y z w : AV, (flatT l' ++ [x, y, z, w]).take ((n + 1) * 4) = flatT l' ++ [x, y, z, w] := fun x y z w => List.take_of_length_le (by simp [flatT_length, hl']; omega)
        have htkB : ∀ x y z w x2 y2 z2 w2 : AV, (flatT l' ++ [x, y, z, w, x2, y2, z2, w2]).take ((n + 1 + 1) * 4) = flatT l' ++ [x, y, z, w, x2, y2, z2, w2] := fun x y z w x2 y2 z2 w2 => List.take_of_length_le (by simp [flatT_length, hl']; omega)
        obtain ⟨hq1, hq2⟩ := len_ok (n := n + 1 + 1) (by omega)
        have hq3 : (n + 1 + 1) * 40 ≤ 140737488355328 := Nat.le_trans (Nat.mul_le_mul_left _ (by decide)) hq2
        obtain ⟨hq4, hq5⟩ := len_ok (n := n + 1 + 1 + 1) (by omega)
        have hq6 : (n + 1 + 1 + 1) * 40 ≤ 140737488355328 := Nat.le_trans (Nat.mul_le_mul_left _ (by decide)) hq5
        have hleA : (n + 1) * 4 ≤ n * 4 + 4 := by omega
        have hleB : (n + 1 + 1) * 4 ≤ n * 4 + 8 := by omega
        cases he : endsB t
        · have hen := t_ended_same4 l' t t0 n g s.length hl' (by omega) htg.text he
          simp only [Tok.cells] at hen
          simp [scF]
          refine acallC_by 4 (hen) ?_ (by kernel_rfl) ?_ ?_ ?_ ?_ ?_ ?_ ?_ ?_ ?_ <;> simp [Tok.cells, flatT_append, flatT, flatT_length, hl', hq1, hq3, htkA, hleA]
          have hall := hg.2.2.1
          have hLl : (l' ++ [t] ++ [eofT s.length]).length = (n + 1) + 1 := by simp [hl']
          have hLa : ∀ x ∈ l' ++ [t] ++ [eofT s.length], x.text.length < 1048576 := fun x hx => by
            rcases List.mem_append.1 hx with hx | hx
            · exact (hall x hx).text
            · rw [List.mem_singleton.1 hx]; simp [eofT]
          have hmb : (n + 1) + 1 < 1048576 := by omega
          refine loopC_to 4 (slF s (.row 3 4 0 (n + 1 + 1) (g + 1)) [FZ, ⟨true, 0, none, 45, t0.cells⟩, ⟨true, 0, some 4, 45, t0.cells⟩, ⟨true, g + 1, some 4, 45, flatT ((l' ++ [t]) ++ [eofT s.length])⟩, ⟨true, 0, some 4, 45, (eofT s.length).cells⟩]) (fun x => x.1 ≤ 40 ∧ x.2 ≤ (n + 1) + 1) (fun x => x.1 ≤ 40 ∧ x.2 ≤ (n + 1) + 1) (fun x => (n + 1) + 1 - x.2) (0, 0) (by simp [slF, flatT_append, flatT, Tok.cells, eofT, semiT]) ⟨Nat.zero_le _, Nat.zero_le _⟩ ?_ ?_
          · rintro v ⟨o, j⟩ ⟨ho, hj⟩
            simp only at ho hj
            by_cases hlt : j < (n + 1) + 1
            · obtain ⟨tl, tk, tr, hLs, htl⟩ := flatT_split (l' ++ [t] ++ [eofT s.length]) j (by omega)
              have hT : flatT (l' ++ [t] ++ [eofT s.length]) = flatT tl ++ ([I tk.kind, S tk.text, I tk.num, I tk.at_] ++ flatT tr) := by rw [hLs, flatT_append]; rfl
              have hTl : (flatT tl).length = j * 4 := by rw [flatT_length, htl]
              have htx := hLa tk (by rw [hLs]; simp)
              have hd1 : ∀ r : List AV, (flatT tl ++ r).drop (j * 4) = r := fun r => by rw [← hTl, List.drop_left]
              have hd4 : ∀ (q : Nat) (r : List AV), (flatT tl ++ r).drop (j * 4 + q) = r.drop q := fun q r => by rw [← hTl, List.drop_append]; simp
              have hle0 : ∀ q : Nat, j * 4 + 1 ≤ j * 4 + (q + 1 + 1 + 1 + 1) := fun q => by omega
              have hle1 : ∀ q : Nat, j * 4 + 1 + 1 ≤ j * 4 + (q + 1 + 1 + 1 + 1) := fun q => by omega
              have hle3 : ∀ q : Nat, j * 4 + 3 + 1 ≤ j * 4 + (q + 1 + 1 + 1 + 1) := fun q => by omega
              have hltz : (j : Int) < (n : Int) + 1 + 1 := by omega
              have hwj := wrap_one (n := j) (by omega)
              have hwo := wrap_one (n := o) (by omega)
              generalize hLL : l' ++ [t] ++ [eofT s.length] = LL at *
              by_cases h5 : tk.kind = 5
              · have hi1 := t_In tk.text [32, 40, 32, 91, 32, 123, 32] htx (by decide)
                have hi2 := t_In tk.text [32, 41, 32, 93, 32, 125, 32] htx (by decide)
                generalize inW tk.text [32, 40, 32, 91, 32, 123, 32] = b1 at hi1
                generalize inW tk.text [32, 41, 32, 93, 32, 125, 32] = b2 at hi2
                cases b1
                · by_cases hop : 0 < o
                  · have hop2 : (0 : Int) < (o : Int) := by omega
                    have hng : ¬ (40 : Int) < (o : Int) := by omega
                    have hwm : IntKind.i64.wrap ((o : Int) - 1) = ((o - 1 : Nat) : Int) := by rw [wrap_i (by omega)]; omega
                    cases b2
                    · simp [slF, hT, hTl, hd1, hd4, hle0, hle1, hlt, hltz, h5]
                      refine acallC_by 0 (hi1) ?_ (by kernel_rfl) ?_ ?_ ?_ ?_ ?_ ?_ ?_ ?_ ?_ <;> simp [hT, hTl, hd1, hd4, hle0, hle1, hlt, hltz, h5, hng, hop, hop2]
                      refine acallC_by 0 (hi2) ?_ (by kernel_rfl) ?_ ?_ ?_ ?_ ?_ ?_ ?_ ?_ ?_ <;> simp [hwj]
                      refine Again.mk 5 ((o, j + 1)) (by simp) (by simp) (by simp) rfl ?_ ?_ ?_
                      · simp [slF, hT, h5]
                      · exact ⟨ho, hlt⟩
                      · show (n + 1) + 1 - (j + 1) < (n + 1) + 1 - j; omega
                    · simp [slF, hT, hTl, hd1, hd4, hle0, hle1, hlt, hltz, h5]
                      refine acallC_by 0 (hi1) ?_ (by kernel_rfl) ?_ ?_ ?_ ?_ ?_ ?_ ?_ ?_ ?_ <;> simp [hT, hTl, hd1, hd4, hle0, hle1, hlt, hltz, h5, hng, hop, hop2]
                      refine acallC_by 0 (hi2) ?_ (by kernel_rfl) ?_ ?_ ?_ ?_ ?_ ?_ ?_ ?_ ?_ <;> simp [hwj, hwm]
                      refine Again.mk 5 ((o - 1, j + 1)) (by simp) (by simp) (by simp) rfl ?_ ?_ ?_
                      · simp [slF, hT, h5]
                      · exact ⟨by show o - 1 ≤ 40; omega, hlt⟩
                      · show (n + 1) + 1 - (j + 1) < (n + 1) + 1 - j; omega
                  · have hop2 : ¬ (0 : Int) < (o : Int) := by omega
                    have hng : ¬ (40 : Int) < (o : Int) := by omega
                    simp [slF, hT, hTl, hd1, hd4, hle0, hle1, hlt, hltz, h5]
                    refine acallC_by 0 (hi1) ?_ (by kernel_rfl) ?_ ?_ ?_ ?_ ?_ ?_ ?_ ?_ ?_ <;> simp [hT, hTl, hd1, hd4, hle0, hle1, hlt, hltz, h5, hng, hop, hop2, hwj]
                    refine Again.mk 5 ((o, j + 1)) (by simp) (by simp) (by simp) rfl ?_ ?_ ?_
                    · simp [slF, hT, h5]
                    · exact ⟨ho, hlt⟩
                    · show (n + 1) + 1 - (j + 1) < (n + 1) + 1 - j; omega
                · by_cases h40 : (40 : Int) < (o : Int) + 1
                  · simp [slF, hT, hTl, hd1, hd4, hle0, hle1, hlt, hltz, h5]
                    refine acallC_by 0 (hi1) ?_ (by kernel_rfl) ?_ ?_ ?_ ?_ ?_ ?_ ?_ ?_ ?_ <;> simp [hT, hTl, hd1, hd4, hle0, hle1, hlt, hltz, h5, hwo, h40]
                    refine adrawC_by [0] [0, 1, 2, 3, 4, 5, 6] (.late 7 .fin) (by kernel_rfl) (by kernel_rfl) (by kernel_rfl) ?_
                    simp [hT, hTl, hd1, hd4, hle0, hle1, hle3, hlt, hltz]
                    exact ⟨rfl, .inl ⟨3, tk.at_, rfl, by decide⟩⟩
                  · have hop2 : (0 : Int) < (o : Int) + 1 := by omega
                    cases b2
                    · simp [slF, hT, hTl, hd1, hd4, hle0, hle1, hlt, hltz, h5]
                      refine acallC_by 0 (hi1) ?_ (by kernel_rfl) ?_ ?_ ?_ ?_ ?_ ?_ ?_ ?_ ?_ <;> simp [hT, hTl, hd1, hd4, hle0, hle1, hlt, hltz, h5, hwo, h40, hop2]
                      refine acallC_by 0 (hi2) ?_ (by kernel_rfl) ?_ ?_ ?_ ?_ ?_ ?_ ?_ ?_ ?_ <;> simp [hwj]
                      refine Again.mk 5 ((o + 1, j + 1)) (by simp) (by simp) (by simp) rfl ?_ ?_ ?_
                      · simp [slF, hT, h5]
                      · exact ⟨by show o + 1 ≤ 40; omega, hlt⟩
                      · show (n + 1) + 1 - (j + 1) < (n + 1) + 1 - j; omega
                    · have hwm : IntKind.i64.wrap (o : Int) = (o : Int) := wrap_i (by omega)
                      simp [slF, hT, hTl, hd1, hd4, hle0, hle1, hlt, hltz, h5]
                      refine acallC_by 0 (hi1) ?_ (by kernel_rfl) ?_ ?_ ?_ ?_ ?_ ?_ ?_ ?_ ?_ <;> simp [hT, hTl, hd1, hd4, hle0, hle1, hlt, hltz, h5, hwo, h40, hop2]
                      refine acallC_by 0 (hi2) ?_ (by kernel_rfl) ?_ ?_ ?_ ?_ ?_ ?_ ?_ ?_ ?_ <;> simp [hwj, hwm]
                      refine Again.mk 5 ((o, j + 1)) (by simp) (by simp) (by simp) rfl ?_ ?_ ?_
                      · simp [slF, hT, h5]
                      · exact ⟨ho, hlt⟩
                      · show (n + 1) + 1 - (j + 1) < (n + 1) + 1 - j; omega
              · simp [slF, hT, hTl, hd1, hd4, hle0, hlt, hltz, h5, hwj]
                refine Again.mk 5 ((o, j + 1)) (by simp) (by simp) (by simp) rfl ?_ ?_ ?_
                · simp [slF, hT, h5]
                · exact ⟨ho, hlt⟩
                · show (n + 1) + 1 - (j + 1) < (n + 1) + 1 - j; omega
            · have hltz : ¬ (j : Int) < (n : Int) + 1 + 1 := by omega
              generalize hLL : l' ++ [t] ++ [eofT s.length] = LL at *
              simp [slF, hltz]
              refine Left.mk ((o, j)) rfl ?_ ?_
              · simp [slF]
              · exact ⟨ho, hj⟩
          · rintro v ⟨o, j⟩ ⟨ho, hj⟩
            have htk := flatT_take (l' ++ [t] ++ [eofT s.length]) ((n + 1) + 1) hLl.symm
            have hTlen : (flatT (l' ++ [t] ++ [eofT s.length])).length = ((n + 1) + 1) * 4 := by rw [flatT_length, hLl]
            have hTK := tk_of (l' ++ [t]) hall (eofT s.length) rfl (by simp [eofT]) (by show (0 : Int) ≤ (s.length : Int); omega) (by rw [hLl]; omega)
            have hfin : ScanR s (.tup [.vec 4 ((n + 1) + 1) (flatT (l' ++ [t] ++ [eofT s.length])), .agg [I 0, I 0]]) [] := ⟨rfl, .inr ⟨l' ++ [t] ++ [eofT s.length], by rw [hLl], hTK, by omega, by rw [hLl]; omega, fun hv => (by obtain ⟨tv, r, e1, e2, e3⟩ := (hg).2.2.2 hv; rw [e1]; exact ⟨tv, rfl, e2, e3⟩)⟩⟩
            generalize l' ++ [t] ++ [eofT s.length] = LL at *
            simp [slF, htk, hTlen]
            exact hfin
    
        · have hen := t_ended_more4 l' t t0 n g s.length hl' (by omega) htg.text he
          simp only [Tok.cells] at hen
          simp [scF]
          refine acallC_by 4 (hen) ?_ (by kernel_rfl) ?_ ?_ ?_ ?_ ?_ ?_ ?_ ?_ ?_ <;> simp [Tok.cells, flatT_append, flatT, semiT, flatT_length, hl', hq4, hq6, htkB, hleB]
          have hg2 := hg.snoc (semiT_ok s.length) (Nat.lt_succ_self i)
          have hall := hg2.2.2.1
          have hLl : (l' ++ [t] ++ [semiT s.length] ++ [eofT s.length]).length = (n + 1 + 1) + 1 := by simp [hl']
          have hLa : ∀ x ∈ l' ++ [t] ++ [semiT s.length] ++ [eofT s.length], x.text.length < 1048576 := fun x hx => by
            rcases List.mem_append.1 hx with hx | hx
            · exact (hall x hx).text
            · rw [List.mem_singleton.1 hx]; simp [eofT]
          have hmb : (n + 1 + 1) + 1 < 1048576 := by omega
          refine loopC_to 4 (slF s (.row 3 4 0 (n + 1 + 1 + 1) (g + 1 + 1)) [FZ, ⟨true, 0, none, 45, t0.cells⟩, ⟨true, 0, some 4, 45, t0.cells⟩, ⟨true, g + 1 + 1, some 4, 45, flatT ((l' ++ [t] ++ [semiT s.length]) ++ [eofT s.length])⟩, ⟨true, 0, some 4, 45, (eofT s.length).cells⟩]) (fun x => x.1 ≤ 40 ∧ x.2 ≤ (n + 1 + 1) + 1) (fun x => x.1 ≤ 40 ∧ x.2 ≤ (n + 1 + 1) + 1) (fun x => (n + 1 + 1) + 1 - x.2) (0, 0) (by simp [slF, flatT_append, flatT, Tok.cells, eofT, semiT]) ⟨Nat.zero_le _, Nat.zero_le _⟩ ?_ ?_
          · rintro v ⟨o, j⟩ ⟨ho, hj⟩
            simp only at ho hj
            by_cases hlt : j < (n + 1 + 1) + 1
            · obtain ⟨tl, tk, tr, hLs, htl⟩ := flatT_split (l' ++ [t] ++ [semiT s.length] ++ [eofT s.length]) j (by omega)
              have hT : flatT (l' ++ [t] ++ [semiT s.length] ++ [eofT s.length]) = flatT tl ++ ([I tk.kind, S tk.text, I tk.num, I tk.at_] ++ flatT tr) := by rw [hLs, flatT_append]; rfl
              have hTl : (flatT tl).length = j * 4 := by rw [flatT_length, htl]
              have htx := hLa tk (by rw [hLs]; simp)
              have hd1 : ∀ r : List AV, (flatT tl ++ r).drop (j * 4) = r := fun r => by rw [← hTl, List.drop_left]
              have hd4 : ∀ (q : Nat) (r : List AV), (flatT tl ++ r).drop (j * 4 + q) = r.drop q := fun q r => by rw [← hTl, List.drop_append]; simp
              have hle0 : ∀ q : Nat, j * 4 + 1 ≤ j * 4 + (q + 1 + 1 + 1 + 1) := fun q => by omega
              have hle1 : ∀ q : Nat, j * 4 + 1 + 1 ≤ j * 4 + (q + 1 + 1 + 1 + 1) := fun q => by omega
              have hle3 : ∀ q : Nat, j * 4 + 3 + 1 ≤ j * 4 + (q + 1 + 1 + 1 + 1) := fun q => by omega
              have hltz : (j : Int) < (n : Int) + 1 + 1 + 1 := by omega
              have hwj := wrap_one (n := j) (by omega)
              have hwo := wrap_one (n := o) (by omega)
              generalize hLL : l' ++ [t] ++ [semiT s.length] ++ [eofT s.length] = LL at *
              by_cases h5 : tk.kind = 5
              · have hi1 := t_In tk.text [32, 40, 32, 91, 32, 123, 32] htx (by decide)
                have hi2 := t_In tk.text [32, 41, 32, 93, 32, 125, 32] htx (by decide)
                generalize inW tk.text [32, 40, 32, 91, 32, 123, 32] = b1 at hi1
                generalize inW tk.text [32, 41, 32, 93, 32, 125, 32] = b2 at hi2
                cases b1
                · by_cases hop : 0 < o
                  · have hop2 : (0 : Int) < (o : Int) := by omega
                    have hng : ¬ (40 : Int) < (o : Int) := by omega
                    have hwm : IntKind.i64.wrap ((o : Int) - 1) = ((o - 1 : Nat) : Int) := by rw [wrap_i (by omega)]; omega
                    cases b2
                    · simp [slF, hT, hTl, hd1, hd4, hle0, hle1, hlt, hltz, h5]
                      refine acallC_by 0 (hi1) ?_ (by kernel_rfl) ?_ ?_ ?_ ?_ ?_ ?_ ?_ ?_ ?_ <;> simp [hT, hTl, hd1, hd4, hle0, hle1, hlt, hltz, h5, hng, hop, hop2]
                      refine acallC_by 0 (hi2) ?_ (by kernel_rfl) ?_ ?_ ?_ ?_ ?_ ?_ ?_ ?_ ?_ <;> simp [hwj]
                      refine Again.mk 5 ((o, j + 1)) (by simp) (by simp) (by simp) rfl ?_ ?_ ?_
                      · simp [slF, hT, h5]
                      · exact ⟨ho, hlt⟩
                      · show (n + 1 + 1) + 1 - (j + 1) < (n + 1 + 1) + 1 - j; omega
                    · simp [slF, hT, hTl, hd1, hd4, hle0, hle1, hlt, hltz, h5]
                      refine acallC_by 0 (hi1) ?_ (by kernel_rfl) ?_ ?_ ?_ ?_ ?_ ?_ ?_ ?_ ?_ <;> simp [hT, hTl, hd1, hd4, hle0, hle1, hlt, hltz, h5, hng, hop, hop2]
                      refine acallC_by 0 (hi2) ?_ (by kernel_rfl) ?_ ?_ ?_ ?_ ?_ ?_ ?_ ?_ ?_ <;> simp [hwj, hwm]
                      refine Again.mk 5 ((o - 1, j + 1)) (by simp) (by simp) (by simp) rfl ?_ ?_ ?_
                      · simp [slF, hT, h5]
                      · exact ⟨by show o - 1 ≤ 40; omega, hlt⟩
                      · show (n + 1 + 1) + 1 - (j + 1) < (n + 1 + 1) + 1 - j; omega
                  · have hop2 : ¬ (0 : Int) < (o : Int) := by omega
                    have hng : ¬ (40 : Int) < (o : Int) := by omega
                    simp [slF, hT, hTl, hd1, hd4, hle0, hle1, hlt, hltz, h5]
                    refine acallC_by 0 (hi1) ?_ (by kernel_rfl) ?_ ?_ ?_ ?_ ?_ ?_ ?_ ?_ ?_ <;> simp [hT, hTl, hd1, hd4, hle0, hle1, hlt, hltz, h5, hng, hop, hop2, hwj]
                    refine Again.mk 5 ((o, j + 1)) (by simp) (by simp) (by simp) rfl ?_ ?_ ?_
                    · simp [slF, hT, h5]
                    · exact ⟨ho, hlt⟩
                    · show (n + 1 + 1) + 1 - (j + 1) < (n + 1 + 1) + 1 - j; omega
                · by_cases h40 : (40 : Int) < (o : Int) + 1
                  · simp [slF, hT, hTl, hd1, hd4, hle0, hle1, hlt, hltz, h5]
                    refine acallC_by 0 (hi1) ?_ (by kernel_rfl) ?_ ?_ ?_ ?_ ?_ ?_ ?_ ?_ ?_ <;> simp [hT, hTl, hd1, hd4, hle0, hle1, hlt, hltz, h5, hwo, h40]
                    refine adrawC_by [0] [0, 1, 2, 3, 4, 5, 6] (.late 7 .fin) (by kernel_rfl) (by kernel_rfl) (by kernel_rfl) ?_
                    simp [hT, hTl, hd1, hd4, hle0, hle1, hle3, hlt, hltz]
                    exact ⟨rfl, .inl ⟨3, tk.at_, rfl, by decide⟩⟩
                  · have hop2 : (0 : Int) < (o : Int) + 1 := by omega
                    cases b2
                    · simp [slF, hT, hTl, hd1, hd4, hle0, hle1, hlt, hltz, h5]
                      refine acallC_by 0 (hi1) ?_ (by kernel_rfl) ?_ ?_ ?_ ?_ ?_ ?_ ?_ ?_ ?_ <;> simp [hT, hTl, hd1, hd4, hle0, hle1, hlt, hltz, h5, hwo, h40, hop2]
                      refine acallC_by 0 (hi2) ?_ (by kernel_rfl) ?_ ?_ ?_ ?_ ?_ ?_ ?_ ?_ ?_ <;> simp [hwj]
                      refine Again.mk 5 ((o + 1, j + 1)) (by simp) (by simp) (by simp) rfl ?_ ?_ ?_
                      · simp [slF, hT, h5]
                      · exact ⟨by show o + 1 ≤ 40; omega, hlt⟩
                      · show (n + 1 + 1) + 1 - (j + 1) < (n + 1 + 1) + 1 - j; omega
                    · have hwm : IntKind.i64.wrap (o : Int) = (o : Int) := wrap_i (by omega)
                      simp [slF, hT, hTl, hd1, hd4, hle0, hle1, hlt, hltz, h5]
                      refine acallC_by 0 (hi1) ?_ (by kernel_rfl) ?_ ?_ ?_ ?_ ?_ ?_ ?_ ?_ ?_ <;> simp [hT, hTl, hd1, hd4, hle0, hle1, hlt, hltz, h5, hwo, h40, hop2]
                      refine acallC_by 0 (hi2) ?_ (by kernel_rfl) ?_ ?_ ?_ ?_ ?_ ?_ ?_ ?_ ?_ <;> simp [hwj, hwm]
                      refine Again.mk 5 ((o, j + 1)) (by simp) (by simp) (by simp) rfl ?_ ?_ ?_
                      · simp [slF, hT, h5]
                      · exact ⟨ho, hlt⟩
                      · show (n + 1 + 1) + 1 - (j + 1) < (n + 1 + 1) + 1 - j; omega
              · simp [slF, hT, hTl, hd1, hd4, hle0, hlt, hltz, h5, hwj]
                refine Again.mk 5 ((o, j + 1)) (by simp) (by simp) (by simp) rfl ?_ ?_ ?_
                · simp [slF, hT, h5]
                · exact ⟨ho, hlt⟩
                · show (n + 1 + 1) + 1 - (j + 1) < (n + 1 + 1) + 1 - j; omega
            · have hltz : ¬ (j : Int) < (n : Int) + 1 + 1 + 1 := by omega
              generalize hLL : l' ++ [t] ++ [semiT s.length] ++ [eofT s.length] = LL at *
              simp [slF, hltz]
              refine Left.mk ((o, j)) rfl ?_ ?_
              · simp [slF]
              · exact ⟨ho, hj⟩
          · rintro v ⟨o, j⟩ ⟨ho, hj⟩
            have htk := flatT_take (l' ++ [t] ++ [semiT s.length] ++ [eofT s.length]) ((n + 1 + 1) + 1) hLl.symm
            have hTlen : (flatT (l' ++ [t] ++ [semiT s.length] ++ [eofT s.length])).length = ((n + 1 + 1) + 1) * 4 := by rw [flatT_length, hLl]
            have hTK := tk_of (l' ++ [t] ++ [semiT s.length]) hall (eofT s.length) rfl (by simp [eofT]) (by show (0 : Int) ≤ (s.length : Int); omega) (by rw [hLl]; omega)
            have hfin : ScanR s (.tup [.vec 4 ((n + 1 + 1) + 1) (flatT (l' ++ [t] ++ [semiT s.length] ++ [eofT s.length])), .agg [I 0, I 0]]) [] := ⟨rfl, .inr ⟨l' ++ [t] ++ [semiT s.length] ++ [eofT s.length], by rw [hLl], hTK, by omega, by rw [hLl]; omega, fun hv => (by obtain ⟨tv, r, e1, e2, e3⟩ := (hg2).2.2.2 hv; rw [e1]; exact ⟨tv, rfl, e2, e3⟩)⟩⟩
            generalize l' ++ [t] ++ [semiT s.length] ++ [eofT s.length] = LL at *
            simp [slF, htk, hTlen]
            exact hfin
end Go.Proofs.Ytoaodlfmhioigaa
end
