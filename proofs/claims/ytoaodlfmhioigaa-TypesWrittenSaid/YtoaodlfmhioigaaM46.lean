/- A part of the proof of TypesWrittenSaid. No condition. -/
import Derived.Test.YtoaodlfmhioigaaM45
import Derived.Test.YtoaodlfmhioigaaM35
set_option linter.unusedSimpArgs false
set_option linter.unusedVariables false
section
namespace Go.Proofs.Ytoaodlfmhioigaa
open TypesText

theorem vecNo (cs : List AV) : vecN 1 cs = .vec 7 1 cs := rfl
def lwF (src T : Bytes) (X : List Bytes) (m : Nat) (u : Bytes) (N K : List AV) (v : Nat → AV) (i : Nat × Bytes) : AS := ⟨[S src, v 1, B false, .ref 0 0 0, .ref 1 0 0, .ref 2 0 0, S T, .vec 1 m (X.map fun x => S x), S u, B true, S [], B false, S i.2, v 13, v 14, v 15, v 16, v 17, v 18, v 19, v 20, v 21, v 22, v 23, v 24, v 25, v 26, v 27, v 28, v 29, v 30, v 31, v 32, v 33, v 34, v 35, v 36, v 37, v 38, v 39, v 40, v 41, v 42, v 43, v 44, v 45, v 46, v 47, v 48, v 49, v 50, v 51, v 52, v 53, v 54, v 55, v 56, v 57, v 58, v 59, v 60, v 61, v 62, v 63, v 64, v 65, v 66, v 67, v 68, v 69, v 70, v 71, v 72, v 73, v 74, v 75, v 76, v 77, v 78, v 79, v 80, v 81, v 82, v 83, v 84, v 85, v 86, v 87, v 88, v 89, v 90, v 91, v 92, v 93, v 94, .vec 1 m (X.map fun x => S x), I (m : Int), I (i.1 : Int), v 98, v 99, v 100, v 101, v 102, v 103, v 104, v 105, v 106, v 107, v 108, v 109, v 110, v 111, v 112, v 113, v 114, v 115, v 116, v 117, v 118, v 119, v 120, v 121, v 122, v 123, v 124, v 125, v 126, v 127, v 128, v 129, v 130, v 131, v 132, v 133, v 134, v 135, v 136, v 137, v 138, v 139, v 140, v 141, v 142, v 143, v 144, v 145, v 146, v 147, v 148, v 149, v 150, v 151, v 152, v 153, v 154, v 155, v 156, v 157, v 158, v 159, v 160, v 161, v 162, v 163, v 164, v 165, v 166, v 167, v 168, v 169, v 170, v 171, v 172, v 173, v 174, v 175, v 176, v 177, v 178, v 179, v 180, v 181, v 182, v 183, v 184, v 185, v 186, v 187], [⟨true, 0, none, 25, N⟩, ⟨true, 0, none, 27, [I 0, I 0]⟩, ⟨true, 0, none, 25, K⟩]⟩
theorem sumL_le : ∀ (l : List Bytes) (B : Nat), (∀ x ∈ l, x.length ≤ B) → sumL l ≤ l.length * (B + 1)
  | [], _, _ => by simp [sumL]
  | x :: l, B, h => by
    have h1 := h x (by simp)
    have h2 := sumL_le l B (fun y hy => h y (by simp [hy]))
    simp only [sumL, List.map_cons, List.sum_cons, List.length_cons] at h2 ⊢
    rw [Nat.add_mul]
    omega
theorem join_take (X : List Bytes) (i : Nat) {x : Bytes} (h : X[i]? = some x) : Go.Lib.join (X.take (i + 1)) [44] = if 0 < i then Go.Lib.join (X.take i) [44] ++ 44 :: x else x := by
  cases X with
  | nil => simp at h
  | cons y ys =>
    cases i with
    | zero =>
      simp at h
      subst h
      simp [Go.Lib.join_one]
    | succ i =>
      have h' : ys[i]? = some x := by simpa using h
      rw [if_pos (Nat.succ_pos _), List.take_succ_cons, List.take_succ_cons, Go.Lib.join_cons, Go.Lib.join_cons, Go.Lib.joinTail_take_succ _ _ _ _ h']
      simp
theorem varS_of (src : Bytes) : VarS ([118, 97, 114, 32, 120, 32] ++ src) := ⟨120 :: 32 :: src, rfl⟩
set_option maxRecDepth 20000 in
set_option maxHeartbeats 8000000 in
theorem t_law (src : Bytes) : TriE Try.prog 3 [S src] [] (B true) [] := by
  refine tri_by Try.func3 (by rfl) _ Try.ntmps3 _ (by rfl) ?_
  by_cases hlong : (1000 : Int) < src.length
  · simp
    refine acallC_by 0 (t_anchor) ?_ (by kernel_rfl) ?_ ?_ ?_ ?_ ?_ ?_ ?_ ?_ ?_ <;> simp [hlong]
  · have hlen : src.length ≤ 1000 := by omega
    have hpa := t_parse ([118, 97, 114, 32, 120, 32] ++ src) (by simp; omega)
    have hcat : ¬ (9223372036854775807 : Int) < 6 + (src.length : Int) := by omega
    simp only [List.cons_append, List.nil_append] at hpa
    simp
    refine acallC_by 0 (t_anchor) ?_ (by kernel_rfl) ?_ ?_ ?_ ?_ ?_ ?_ ?_ ?_ ?_ <;> simp [hlong, hcat]
    refine acallC_of 0 (hpa) ?_ (by kernel_rfl) ?_ ?_ ?_ ?_ ?_ ?_ <;> first | rintro r o ⟨rfl, ⟨st, a, rfl, hst⟩ | ⟨l, rfl, hv⟩⟩ | simp
    · simp [Tr.av, Tr.cells, hst]
    · have hv := hv (varS_of src)
      rcases l with _ | ⟨d, l⟩
      · simp [Tr.av, Tr.cells, vecN, flatN]
      · rcases l with _ | ⟨d2, l⟩
        · obtain ⟨x, a, k, rfl, hk, hwk⟩ := hv d rfl
          have hwk : wt k ≤ 100000 := by simp at hwk; omega
          have hof := t_of hk hwk
          have hty := txt_type hk
          have hbig := txt_le hk
          have hva := tri_valid (txt k) (by omega)
          have hfu := tri_func (txt k) (by omega)
          have hel := tri_elem (txt k) (by omega)
          have hni := tri_nilable (txt k) (by omega)
          rw [hty] at hva
          cases hk with
          | base q b h =>
            have key : ∀ w : Bytes, (w = [105, 110, 116] ∨ w = [98, 111, 111, 108] ∨ w = [115, 116, 114, 105, 110, 103]) → isFunc w = false ∧ fparts w = ([], []) ∧ elem w = ([], false) ∧ nilable w = false := fun w hw => base_facts w (by rcases hw with rfl | rfl | rfl <;> simp)
            rcases h with rfl | rfl | rfl
            · have ht : txt (.mk 9 [] 0 b [] 0 []) = [105, 110, 116] := by simp [txt]
              rw [ht] at hof hva hfu hel hni
              obtain ⟨f1, f2, f3, f4⟩ := key _ (.inl rfl)
              rw [f1, f2] at hfu
              rw [f3] at hel
              rw [f4] at hni
              simp [Tr.av, Tr.cells, flatN, vecN] at hof
              simp [Tr.av, Tr.cells, vecN, flatN]
              refine acallC_by 0 (hof) ?_ (by kernel_rfl) ?_ ?_ ?_ ?_ ?_ ?_ ?_ ?_ ?_ <;> simp
              refine acallC_by 0 (hva) ?_ (by kernel_rfl) ?_ ?_ ?_ ?_ ?_ ?_ ?_ ?_ ?_ <;> simp
              refine acallC_by 0 (hfu) ?_ (by kernel_rfl) ?_ ?_ ?_ ?_ ?_ ?_ ?_ ?_ ?_ <;> simp
              refine acallC_by 0 (hel) ?_ (by kernel_rfl) ?_ ?_ ?_ ?_ ?_ ?_ ?_ ?_ ?_ <;> simp
              refine acallC_by 0 (hni) ?_ (by kernel_rfl) ?_ ?_ ?_ ?_ ?_ ?_ ?_ ?_ ?_ <;> simp
            · have ht : txt (.mk 10 [] 0 b [] 0 []) = [98, 111, 111, 108] := by simp [txt]
              rw [ht] at hof hva hfu hel hni
              obtain ⟨f1, f2, f3, f4⟩ := key _ (.inr (.inl rfl))
              rw [f1, f2] at hfu
              rw [f3] at hel
              rw [f4] at hni
              simp [Tr.av, Tr.cells, flatN, vecN] at hof
              simp [Tr.av, Tr.cells, vecN, flatN]
              refine acallC_by 0 (hof) ?_ (by kernel_rfl) ?_ ?_ ?_ ?_ ?_ ?_ ?_ ?_ ?_ <;> simp
              refine acallC_by 0 (hva) ?_ (by kernel_rfl) ?_ ?_ ?_ ?_ ?_ ?_ ?_ ?_ ?_ <;> simp
              refine acallC_by 0 (hfu) ?_ (by kernel_rfl) ?_ ?_ ?_ ?_ ?_ ?_ ?_ ?_ ?_ <;> simp
              refine acallC_by 0 (hel) ?_ (by kernel_rfl) ?_ ?_ ?_ ?_ ?_ ?_ ?_ ?_ ?_ <;> simp
              refine acallC_by 0 (hni) ?_ (by kernel_rfl) ?_ ?_ ?_ ?_ ?_ ?_ ?_ ?_ ?_ <;> simp
            · have ht : txt (.mk 11 [] 0 b [] 0 []) = [115, 116, 114, 105, 110, 103] := by simp [txt]
              rw [ht] at hof hva hfu hel hni
              obtain ⟨f1, f2, f3, f4⟩ := key _ (.inr (.inr rfl))
              rw [f1, f2] at hfu
              rw [f3] at hel
              rw [f4] at hni
              simp [Tr.av, Tr.cells, flatN, vecN] at hof
              simp [Tr.av, Tr.cells, vecN, flatN]
              refine acallC_by 0 (hof) ?_ (by kernel_rfl) ?_ ?_ ?_ ?_ ?_ ?_ ?_ ?_ ?_ <;> simp
              refine acallC_by 0 (hva) ?_ (by kernel_rfl) ?_ ?_ ?_ ?_ ?_ ?_ ?_ ?_ ?_ <;> simp
              refine acallC_by 0 (hfu) ?_ (by kernel_rfl) ?_ ?_ ?_ ?_ ?_ ?_ ?_ ?_ ?_ <;> simp
              refine acallC_by 0 (hel) ?_ (by kernel_rfl) ?_ ?_ ?_ ?_ ?_ ?_ ?_ ?_ ?_ <;> simp
              refine acallC_by 0 (hni) ?_ (by kernel_rfl) ?_ ?_ ?_ ?_ ?_ ?_ ?_ ?_ ?_ <;> simp
          | ptr b y h =>
            obtain ⟨f1, f2, f3, f4⟩ := ptr_facts h
            have ht : txt (.mk 12 y 0 b [] 0 []) = 42 :: y := by simp [txt]
            have h24 := h.2.2.1
            have hl1 : ¬ (9223372036854775807 : Int) < 1 + (y.length : Int) := by omega
            rw [ht] at hof hva hfu hel hni
            rw [f1, f2] at hfu
            rw [f3] at hel
            rw [f4] at hni
            simp [Tr.av, Tr.cells, flatN, vecN] at hof
            simp [Tr.av, Tr.cells, vecN, flatN]
            refine acallC_by 0 (hof) ?_ (by kernel_rfl) ?_ ?_ ?_ ?_ ?_ ?_ ?_ ?_ ?_ <;> simp
            refine acallC_by 0 (hva) ?_ (by kernel_rfl) ?_ ?_ ?_ ?_ ?_ ?_ ?_ ?_ ?_ <;> simp
            refine acallC_by 0 (hfu) ?_ (by kernel_rfl) ?_ ?_ ?_ ?_ ?_ ?_ ?_ ?_ ?_ <;> simp
            refine acallC_by 0 (hel) ?_ (by kernel_rfl) ?_ ?_ ?_ ?_ ?_ ?_ ?_ ?_ ?_ <;> simp [hl1]
            refine acallC_by 0 (hni) ?_ (by kernel_rfl) ?_ ?_ ?_ ?_ ?_ ?_ ?_ ?_ ?_ <;> simp
          | of q b t hq h =>
            have hty2 := txt_type h
            have hwt : wt t ≤ 100000 := by rcases hq with rfl | rfl <;> simp [wt, wts] at hwk <;> omega
            have hof2 := t_of h hwt
            obtain ⟨k2, x2, m2, c2, y2, r2, kids2⟩ := t
            rcases hq with rfl | rfl
            · obtain ⟨f1, f2, f3, f4⟩ := slice_facts hty2
              have ht : txt (.mk 13 [] 0 b [] 0 [.mk k2 x2 m2 c2 y2 r2 kids2]) = 91 :: 93 :: txt (.mk k2 x2 m2 c2 y2 r2 kids2) := by rw [txt]; simp [txts]
              rw [ht] at hof hva hfu hel hni
              rw [f1, f2] at hfu
              rw [f3] at hel
              rw [f4] at hni
              generalize txt (.mk k2 x2 m2 c2 y2 r2 kids2) = T at *
              simp [Tr.av, Tr.cells, flatN, vecNo] at hof hof2
              simp [Tr.av, Tr.cells, vecNo, flatN]
              refine acallC_by 0 (hof) ?_ (by kernel_rfl) ?_ ?_ ?_ ?_ ?_ ?_ ?_ ?_ ?_ <;> simp
              refine acallC_by 0 (hva) ?_ (by kernel_rfl) ?_ ?_ ?_ ?_ ?_ ?_ ?_ ?_ ?_ <;> simp
              refine acallC_by 0 (hfu) ?_ (by kernel_rfl) ?_ ?_ ?_ ?_ ?_ ?_ ?_ ?_ ?_ <;> simp
              refine acallC_by 0 (hel) ?_ (by kernel_rfl) ?_ ?_ ?_ ?_ ?_ ?_ ?_ ?_ ?_ <;> simp
              refine acallC_by 0 (hof2) ?_ (by kernel_rfl) ?_ ?_ ?_ ?_ ?_ ?_ ?_ ?_ ?_ <;> simp
              refine acallC_by 0 (hni) ?_ (by kernel_rfl) ?_ ?_ ?_ ?_ ?_ ?_ ?_ ?_ ?_ <;> simp
            · obtain ⟨f1, f2, f3, f4⟩ := chan_facts hty2
              have ht : txt (.mk 14 [] 0 b [] 0 [.mk k2 x2 m2 c2 y2 r2 kids2]) = 99 :: 104 :: 97 :: 110 :: 32 :: txt (.mk k2 x2 m2 c2 y2 r2 kids2) := by rw [txt]; simp [txts]
              rw [ht] at hof hva hfu hel hni
              rw [f1, f2] at hfu
              rw [f3] at hel
              rw [f4] at hni
              generalize txt (.mk k2 x2 m2 c2 y2 r2 kids2) = T at *
              simp [Tr.av, Tr.cells, flatN, vecNo] at hof hof2
              simp [Tr.av, Tr.cells, vecNo, flatN]
              refine acallC_by 0 (hof) ?_ (by kernel_rfl) ?_ ?_ ?_ ?_ ?_ ?_ ?_ ?_ ?_ <;> simp
              refine acallC_by 0 (hva) ?_ (by kernel_rfl) ?_ ?_ ?_ ?_ ?_ ?_ ?_ ?_ ?_ <;> simp
              refine acallC_by 0 (hfu) ?_ (by kernel_rfl) ?_ ?_ ?_ ?_ ?_ ?_ ?_ ?_ ?_ <;> simp
              refine acallC_by 0 (hel) ?_ (by kernel_rfl) ?_ ?_ ?_ ?_ ?_ ?_ ?_ ?_ ?_ <;> simp
              refine acallC_by 0 (hof2) ?_ (by kernel_rfl) ?_ ?_ ?_ ?_ ?_ ?_ ?_ ?_ ?_ <;> simp
              refine acallC_by 0 (hni) ?_ (by kernel_rfl) ?_ ?_ ?_ ?_ ?_ ?_ ?_ ?_ ?_ <;> simp

          | func b ps r h hr =>
            have hpt : ∀ x ∈ txts ps, isType x = true := fun x hx => by obtain ⟨t, ht, rfl⟩ := txts_mem hx; exact txt_type (h t ht)
            obtain ⟨f1, f2⟩ := func_facts b ps r hpt (.inl (txt_type hr))
            have hww : wts ps + wt r ≤ 99999 := by rw [wt_kids _ _ _ (by decide), wts_snoc] at hwk; omega
            have hofr := t_of hr (by omega)
            obtain ⟨f3, f4⟩ := func_more f1
            have hT0 := txt_func b ps r
            obtain ⟨m, hm⟩ : ∃ m, ps.length = m := ⟨_, rfl⟩
            obtain ⟨X, hX⟩ : ∃ X, txts ps = X := ⟨_, rfl⟩
            have hXl : X.length = m := by rw [← hX, txts_length, hm]
            rw [f1, f2] at hfu
            rw [f3] at hel
            rw [f4] at hni
            rw [hX] at hfu hT0 hpt
            simp only [hXl] at hfu
            have hbig2 : (txt (.mk 15 [] 0 b [] 0 (ps ++ [r]))).length ≤ 4000000 := by have := hbig; omega
            generalize txt (.mk 15 [] 0 b [] 0 (ps ++ [r])) = T at *
            have hXs : ∀ x ∈ X, x.length ≤ 4000000 := fun x hx => by rw [← hX] at hx; obtain ⟨t, ht, rfl⟩ := txts_mem hx; have := txt_le (h t ht); have := wts_mem ht; omega
            have hjoin : ∀ i, (Go.Lib.join (X.take i) [44]).length ≤ 1000000000000 := fun i => by
              have h1 := join_le (X.take i)
              have h2 := sumL_le (X.take i) 4000000 (fun x hx => hXs x (List.mem_of_mem_take hx))
              have h3 : (X.take i).length ≤ 99999 := by have := wts_len h; simp; omega
              have h4 : (X.take i).length * 4000001 ≤ 99999 * 4000001 := Nat.mul_le_mul_right _ h3
              omega
            have hmb : m ≤ 99999 := by have := wts_len h; omega
            have hwm : IntKind.i64.wrap (m : Int) = (m : Int) := wrap_i (by omega)
            have hFl : (flatN (ps ++ [r])).length = (m + 1) * 7 := by rw [flatN_length, ← hm]; simp
            have hFne : ¬ flatN (ps ++ [r]) = [] := fun e => by rw [e] at hFl; simp at hFl
            have hFm : (flatN (ps ++ [r])).drop (m * 7) = r.cells := by rw [flatN_append, ← hm, ← flatN_length, List.drop_left]; simp [flatN]
            have hkids : ∀ i (hi : i < m), ∃ p ∈ ps, ∃ rest, (flatN (ps ++ [r])).drop (i * 7) = p.cells ++ rest ∧ X[i]? = some (txt p) := fun i hi => by
              have hi' : i < ps.length := by omega
              refine ⟨ps[i], List.getElem_mem _, flatN (ps.drop (i + 1) ++ [r]), ?_, ?_⟩
              · have e : ps ++ [r] = ps.take i ++ (ps[i] :: (ps.drop (i + 1) ++ [r])) := by rw [← List.cons_append, List.getElem_cons_drop, ← List.append_assoc, List.take_append_drop]
                have hl : (flatN (ps.take i)).length = i * 7 := by rw [flatN_length]; simp; omega
                conv => lhs; rw [e, flatN_append, ← hl, List.drop_left]
                rfl
              · rw [← hX]
                have : ∀ (l : List Tr) (i : Nat) (h : i < l.length), (txts l)[i]? = some (txt l[i]) := by
                  intro l
                  induction l with
                  | nil => intro i h; simp at h
                  | cons t l ih =>
                    intro i h
                    cases i with
                    | zero => simp [txts]
                    | succ i => simpa [txts] using ih i (by simpa using h)
                exact this ps i hi'
            generalize hFK : flatN (ps ++ [r]) = FK at *
            obtain ⟨kr, xr, mr, cr, yr, rr, kidsr⟩ := r
            simp only [Tr.cells] at hFm
            simp [Tr.av, Tr.cells, vecNx, hFK, hm] at hof
            simp only [Tr.av, Tr.cells] at hofr
            simp [Tr.av, Tr.cells, vecNo, vecNx, flatN, hFK, hm]
            refine acallC_by 0 (hof) ?_ (by kernel_rfl) ?_ ?_ ?_ ?_ ?_ ?_ ?_ ?_ ?_ <;> simp
            refine acallC_by 0 (hva) ?_ (by kernel_rfl) ?_ ?_ ?_ ?_ ?_ ?_ ?_ ?_ ?_ <;> simp
            refine acallC_by 0 (hfu) ?_ (by kernel_rfl) ?_ ?_ ?_ ?_ ?_ ?_ ?_ ?_ ?_ <;> simp
            have hzm : (m : Int) < (m : Int) + 1 := by omega
            refine acallC_by 0 (hel) ?_ (by kernel_rfl) ?_ ?_ ?_ ?_ ?_ ?_ ?_ ?_ ?_ <;> simp [hwm, hFne, hFm, hzm]
            refine acallC_by 0 (hofr) ?_ (by kernel_rfl) ?_ ?_ ?_ ?_ ?_ ?_ ?_ ?_ ?_ <;> simp
            refine loopC_to 1 (lwF src T X m (txt (.mk kr xr mr cr yr rr kidsr)) [I 1, S [], I 0, I 0, S [], I 0, .vec 7 1 [I 3, S x, I 0, I a, S [], I 0, .vec 7 1 [I 15, S [], I 0, I b, S [], I 0, .vec 7 (m + 1) FK]]] [I 15, S [], I 0, I b, S [], I 0, .vec 7 (m + 1) FK]) (fun i => i.1 ≤ m ∧ i.2 = [102, 117, 110, 99, 40] ++ Go.Lib.join (X.take i.1) [44]) (fun i => i.1 = m ∧ i.2 = [102, 117, 110, 99, 40] ++ Go.Lib.join (X.take i.1) [44]) (fun i => m - i.1) (0, [102, 117, 110, 99, 40]) (by rfl) ⟨Nat.zero_le _, by simp [Go.Lib.join_nil]⟩ ?_ ?_
            · rintro v ⟨i, bk⟩ ⟨hi, hbk⟩
              simp only at hi hbk
              by_cases hlt : i < m
              · obtain ⟨p, hp, rest, hd, hXi⟩ := hkids i hlt
                have hofp := t_of (h p hp) (by have := wts_mem hp; omega)
                have hvp := tri_valid (txt p) (by have := txt_le (h p hp); have := wts_mem hp; omega)
                rw [hpt (txt p) (List.mem_of_getElem? hXi)] at hvp
                have hXd : (X.map fun x => S x).drop i = S (txt p) :: (X.drop (i + 1)).map fun x => S x := by
                  obtain ⟨hl, e⟩ := List.getElem?_eq_some_iff.1 hXi
                  rw [← List.map_drop, List.drop_eq_getElem_cons hl, e]; rfl
                have hXne : ¬ X = [] := fun e => by rw [e] at hXi; simp at hXi
                have hiz : (i : Int) < (m : Int) + 1 := by omega
                have him : i < m + 1 := by omega
                have hwi := wrap_one (n := i) (by omega)
                obtain ⟨k1, x1, m1, c1, y1, r1, kids1⟩ := p
                simp only [Tr.av, Tr.cells] at hofp hd
                have hjl : (Go.Lib.join (X.take i) [44]).length ≤ 1000000000000 := hjoin i
                have hbl : bk.length ≤ 1000000000005 := by rw [hbk]; simp; omega
                have hpl : (txt (.mk k1 x1 m1 c1 y1 r1 kids1)).length ≤ 4000000 := hXs _ (List.mem_of_getElem? hXi)
                have hl1 : ¬ (9223372036854775807 : Int) < (bk.length : Int) + 1 := by omega
                have hl2 : ¬ (9223372036854775807 : Int) < (bk.length : Int) + ((txt (.mk k1 x1 m1 c1 y1 r1 kids1)).length : Int) := by omega
                have hl3 : ¬ (9223372036854775807 : Int) < (bk.length : Int) + 1 + ((txt (.mk k1 x1 m1 c1 y1 r1 kids1)).length : Int) := by omega
                by_cases h0 : 0 < i
                · have h0' : (0 : Int) < (i : Int) := by omega
                  simp [lwF, hlt, hXl, hXd, hXne, hiz, hFne, hd]
                  refine acallC_by 0 (hofp) ?_ (by kernel_rfl) ?_ ?_ ?_ ?_ ?_ ?_ ?_ ?_ ?_ <;> simp
                  refine acallC_by 0 (hvp) ?_ (by kernel_rfl) ?_ ?_ ?_ ?_ ?_ ?_ ?_ ?_ ?_ <;> simp [h0, h0', hl1, hl2, hl3, hwi]
                  refine Again.mk 3 ((i + 1, bk ++ 44 :: txt (.mk k1 x1 m1 c1 y1 r1 kids1))) (by simp) (by simp) (by simp) rfl ?_ ?_ ?_
                  · simp [lwF]
                  · refine ⟨hlt, ?_⟩
                    show bk ++ 44 :: txt (.mk k1 x1 m1 c1 y1 r1 kids1) = 102 :: 117 :: 110 :: 99 :: 40 :: Go.Lib.join (X.take (i + 1)) [44]
                    rw [join_take X i hXi, if_pos h0, hbk]
                    simp
                  · show m - (i + 1) < m - i; omega
                · obtain rfl : i = 0 := by omega
                  have hF0 : FK.take 7 = [I k1, S x1, I m1, I c1, S y1, I r1, vecN kids1.length (flatN kids1)] := by have hd0 : FK = _ := hd; rw [hd0]; rfl
                  have h7 : 7 ≤ (m + 1) * 7 := by omega
                  have h1m : 1 ≤ m := hlt
                  have hXd0 : (X.map fun x => S x) = S (txt (.mk k1 x1 m1 c1 y1 r1 kids1)) :: (X.drop 1).map fun x => S x := hXd
                  have hiz : (0 : Int) < (m : Int) + 1 := by omega
                  have hX1 : (X.map fun x => S x).take 1 = [S (txt (.mk k1 x1 m1 c1 y1 r1 kids1))] := by rw [hXd0]; rfl
                  simp [lwF, hlt, hXl, hX1, hXne, hiz, hFne, hFl, h7, hF0, h1m]
                  refine acallC_by 0 (hofp) ?_ (by kernel_rfl) ?_ ?_ ?_ ?_ ?_ ?_ ?_ ?_ ?_ <;> simp
                  refine acallC_by 0 (hvp) ?_ (by kernel_rfl) ?_ ?_ ?_ ?_ ?_ ?_ ?_ ?_ ?_ <;> simp [hl1, hl2, hl3]
                  refine Again.mk 3 ((1, bk ++ txt (.mk k1 x1 m1 c1 y1 r1 kids1))) (by simp) (by simp) (by simp) rfl ?_ ?_ ?_
                  · simp [lwF]
                  · refine ⟨hlt, ?_⟩
                    show bk ++ txt (.mk k1 x1 m1 c1 y1 r1 kids1) = 102 :: 117 :: 110 :: 99 :: 40 :: Go.Lib.join (X.take (0 + 1)) [44]
                    rw [join_take X 0 hXi, if_neg h0, hbk]
                    simp [Go.Lib.join_nil]
                  · show m - 1 < m - 0; omega
              · simp [lwF, hlt]
                refine Left.mk ((i, bk)) rfl ?_ ?_
                · simp [lwF]
                · exact ⟨by show i = m; omega, hbk⟩
            · rintro v ⟨i, bk⟩ ⟨him, hbk⟩
              simp only at him hbk
              have hjl : (Go.Lib.join (X.take i) [44]).length ≤ 1000000000000 := hjoin i
              have hbl : bk.length ≤ 1000000000005 := by rw [hbk]; simp; omega
              have hXt : X.take i = X := List.take_of_length_le (by omega)
              rw [hXt] at hbk
              have hul : (txt (.mk kr xr mr cr yr rr kidsr)).length ≤ 4000000 := by rw [hT0] at hbig2; simp at hbig2; omega
              have hl1 : ¬ (9223372036854775807 : Int) < (bk.length : Int) + 1 := by omega
              have hl3 : ¬ (9223372036854775807 : Int) < (bk.length : Int) + 1 + ((txt (.mk kr xr mr cr yr rr kidsr)).length : Int) := by omega
              have hTe : T = bk ++ 41 :: txt (.mk kr xr mr cr yr rr kidsr) := by rw [hT0, hbk]; simp [sFunc]
              simp [lwF, hl1, hl3, hTe]
              rw [hTe] at hni
              refine acallC_by 0 (hni) ?_ (by kernel_rfl) ?_ ?_ ?_ ?_ ?_ ?_ ?_ ?_ ?_ <;> simp
          | proc b ps h =>
            have hpt : ∀ x ∈ txts ps, isType x = true := fun x hx => by obtain ⟨t, ht, rfl⟩ := txts_mem hx; exact txt_type (h t ht)
            obtain ⟨f1, f2⟩ := func_facts b ps noneT hpt (.inr txt_none)
            have hww : wts ps ≤ 99999 := by rw [wt_kids _ _ _ (by decide), wts_snoc] at hwk; omega
            obtain ⟨r, hr⟩ : ∃ r, r = noneT := ⟨_, rfl⟩
            rw [← hr] at f1 f2 hof hva hfu hel hni ⊢
            have hofr : TriE Try.prog 6 [r.av] [] (S (txt r)) [] := by rw [hr, txt_none]; exact t_of_none
            obtain ⟨f3, f4⟩ := func_more f1
            have hT0 := txt_func b ps r
            obtain ⟨m, hm⟩ : ∃ m, ps.length = m := ⟨_, rfl⟩
            obtain ⟨X, hX⟩ : ∃ X, txts ps = X := ⟨_, rfl⟩
            have hXl : X.length = m := by rw [← hX, txts_length, hm]
            rw [f1, f2] at hfu
            rw [f3] at hel
            rw [f4] at hni
            rw [hX] at hfu hT0 hpt
            simp only [hXl] at hfu
            have hbig2 : (txt (.mk 15 [] 0 b [] 0 (ps ++ [r]))).length ≤ 4000000 := by rw [hr]; have := hbig; omega
            generalize txt (.mk 15 [] 0 b [] 0 (ps ++ [r])) = T at *
            have hXs : ∀ x ∈ X, x.length ≤ 4000000 := fun x hx => by rw [← hX] at hx; obtain ⟨t, ht, rfl⟩ := txts_mem hx; have := txt_le (h t ht); have := wts_mem ht; omega
            have hjoin : ∀ i, (Go.Lib.join (X.take i) [44]).length ≤ 1000000000000 := fun i => by
              have h1 := join_le (X.take i)
              have h2 := sumL_le (X.take i) 4000000 (fun x hx => hXs x (List.mem_of_mem_take hx))
              have h3 : (X.take i).length ≤ 99999 := by have := wts_len h; simp; omega
              have h4 : (X.take i).length * 4000001 ≤ 99999 * 4000001 := Nat.mul_le_mul_right _ h3
              omega
            have hmb : m ≤ 99999 := by have := wts_len h; omega
            have hwm : IntKind.i64.wrap (m : Int) = (m : Int) := wrap_i (by omega)
            have hFl : (flatN (ps ++ [r])).length = (m + 1) * 7 := by rw [flatN_length, ← hm]; simp
            have hFne : ¬ flatN (ps ++ [r]) = [] := fun e => by rw [e] at hFl; simp at hFl
            have hFm : (flatN (ps ++ [r])).drop (m * 7) = r.cells := by rw [flatN_append, ← hm, ← flatN_length, List.drop_left]; simp [flatN]
            have hkids : ∀ i (hi : i < m), ∃ p ∈ ps, ∃ rest, (flatN (ps ++ [r])).drop (i * 7) = p.cells ++ rest ∧ X[i]? = some (txt p) := fun i hi => by
              have hi' : i < ps.length := by omega
              refine ⟨ps[i], List.getElem_mem _, flatN (ps.drop (i + 1) ++ [r]), ?_, ?_⟩
              · have e : ps ++ [r] = ps.take i ++ (ps[i] :: (ps.drop (i + 1) ++ [r])) := by rw [← List.cons_append, List.getElem_cons_drop, ← List.append_assoc, List.take_append_drop]
                have hl : (flatN (ps.take i)).length = i * 7 := by rw [flatN_length]; simp; omega
                conv => lhs; rw [e, flatN_append, ← hl, List.drop_left]
                rfl
              · rw [← hX]
                have : ∀ (l : List Tr) (i : Nat) (h : i < l.length), (txts l)[i]? = some (txt l[i]) := by
                  intro l
                  induction l with
                  | nil => intro i h; simp at h
                  | cons t l ih =>
                    intro i h
                    cases i with
                    | zero => simp [txts]
                    | succ i => simpa [txts] using ih i (by simpa using h)
                exact this ps i hi'
            generalize hFK : flatN (ps ++ [r]) = FK at *
            obtain ⟨kr, xr, mr, cr, yr, rr, kidsr⟩ := r
            simp only [Tr.cells] at hFm
            simp [Tr.av, Tr.cells, vecNx, hFK, hm] at hof
            simp only [Tr.av, Tr.cells] at hofr
            simp [Tr.av, Tr.cells, vecNo, vecNx, flatN, hFK, hm]
            refine acallC_by 0 (hof) ?_ (by kernel_rfl) ?_ ?_ ?_ ?_ ?_ ?_ ?_ ?_ ?_ <;> simp
            refine acallC_by 0 (hva) ?_ (by kernel_rfl) ?_ ?_ ?_ ?_ ?_ ?_ ?_ ?_ ?_ <;> simp
            refine acallC_by 0 (hfu) ?_ (by kernel_rfl) ?_ ?_ ?_ ?_ ?_ ?_ ?_ ?_ ?_ <;> simp
            have hzm : (m : Int) < (m : Int) + 1 := by omega
            refine acallC_by 0 (hel) ?_ (by kernel_rfl) ?_ ?_ ?_ ?_ ?_ ?_ ?_ ?_ ?_ <;> simp [hwm, hFne, hFm, hzm]
            refine acallC_by 0 (hofr) ?_ (by kernel_rfl) ?_ ?_ ?_ ?_ ?_ ?_ ?_ ?_ ?_ <;> simp
            refine loopC_to 1 (lwF src T X m (txt (.mk kr xr mr cr yr rr kidsr)) [I 1, S [], I 0, I 0, S [], I 0, .vec 7 1 [I 3, S x, I 0, I a, S [], I 0, .vec 7 1 [I 15, S [], I 0, I b, S [], I 0, .vec 7 (m + 1) FK]]] [I 15, S [], I 0, I b, S [], I 0, .vec 7 (m + 1) FK]) (fun i => i.1 ≤ m ∧ i.2 = [102, 117, 110, 99, 40] ++ Go.Lib.join (X.take i.1) [44]) (fun i => i.1 = m ∧ i.2 = [102, 117, 110, 99, 40] ++ Go.Lib.join (X.take i.1) [44]) (fun i => m - i.1) (0, [102, 117, 110, 99, 40]) (by rfl) ⟨Nat.zero_le _, by simp [Go.Lib.join_nil]⟩ ?_ ?_
            · rintro v ⟨i, bk⟩ ⟨hi, hbk⟩
              simp only at hi hbk
              by_cases hlt : i < m
              · obtain ⟨p, hp, rest, hd, hXi⟩ := hkids i hlt
                have hofp := t_of (h p hp) (by have := wts_mem hp; omega)
                have hvp := tri_valid (txt p) (by have := txt_le (h p hp); have := wts_mem hp; omega)
                rw [hpt (txt p) (List.mem_of_getElem? hXi)] at hvp
                have hXd : (X.map fun x => S x).drop i = S (txt p) :: (X.drop (i + 1)).map fun x => S x := by
                  obtain ⟨hl, e⟩ := List.getElem?_eq_some_iff.1 hXi
                  rw [← List.map_drop, List.drop_eq_getElem_cons hl, e]; rfl
                have hXne : ¬ X = [] := fun e => by rw [e] at hXi; simp at hXi
                have hiz : (i : Int) < (m : Int) + 1 := by omega
                have him : i < m + 1 := by omega
                have hwi := wrap_one (n := i) (by omega)
                obtain ⟨k1, x1, m1, c1, y1, r1, kids1⟩ := p
                simp only [Tr.av, Tr.cells] at hofp hd
                have hjl : (Go.Lib.join (X.take i) [44]).length ≤ 1000000000000 := hjoin i
                have hbl : bk.length ≤ 1000000000005 := by rw [hbk]; simp; omega
                have hpl : (txt (.mk k1 x1 m1 c1 y1 r1 kids1)).length ≤ 4000000 := hXs _ (List.mem_of_getElem? hXi)
                have hl1 : ¬ (9223372036854775807 : Int) < (bk.length : Int) + 1 := by omega
                have hl2 : ¬ (9223372036854775807 : Int) < (bk.length : Int) + ((txt (.mk k1 x1 m1 c1 y1 r1 kids1)).length : Int) := by omega
                have hl3 : ¬ (9223372036854775807 : Int) < (bk.length : Int) + 1 + ((txt (.mk k1 x1 m1 c1 y1 r1 kids1)).length : Int) := by omega
                by_cases h0 : 0 < i
                · have h0' : (0 : Int) < (i : Int) := by omega
                  simp [lwF, hlt, hXl, hXd, hXne, hiz, hFne, hd]
                  refine acallC_by 0 (hofp) ?_ (by kernel_rfl) ?_ ?_ ?_ ?_ ?_ ?_ ?_ ?_ ?_ <;> simp
                  refine acallC_by 0 (hvp) ?_ (by kernel_rfl) ?_ ?_ ?_ ?_ ?_ ?_ ?_ ?_ ?_ <;> simp [h0, h0', hl1, hl2, hl3, hwi]
                  refine Again.mk 3 ((i + 1, bk ++ 44 :: txt (.mk k1 x1 m1 c1 y1 r1 kids1))) (by simp) (by simp) (by simp) rfl ?_ ?_ ?_
                  · simp [lwF]
                  · refine ⟨hlt, ?_⟩
                    show bk ++ 44 :: txt (.mk k1 x1 m1 c1 y1 r1 kids1) = 102 :: 117 :: 110 :: 99 :: 40 :: Go.Lib.join (X.take (i + 1)) [44]
                    rw [join_take X i hXi, if_pos h0, hbk]
                    simp
                  · show m - (i + 1) < m - i; omega
                · obtain rfl : i = 0 := by omega
                  have hF0 : FK.take 7 = [I k1, S x1, I m1, I c1, S y1, I r1, vecN kids1.length (flatN kids1)] := by have hd0 : FK = _ := hd; rw [hd0]; rfl
                  have h7 : 7 ≤ (m + 1) * 7 := by omega
                  have h1m : 1 ≤ m := hlt
                  have hXd0 : (X.map fun x => S x) = S (txt (.mk k1 x1 m1 c1 y1 r1 kids1)) :: (X.drop 1).map fun x => S x := hXd
                  have hiz : (0 : Int) < (m : Int) + 1 := by omega
                  have hX1 : (X.map fun x => S x).take 1 = [S (txt (.mk k1 x1 m1 c1 y1 r1 kids1))] := by rw [hXd0]; rfl
                  simp [lwF, hlt, hXl, hX1, hXne, hiz, hFne, hFl, h7, hF0, h1m]
                  refine acallC_by 0 (hofp) ?_ (by kernel_rfl) ?_ ?_ ?_ ?_ ?_ ?_ ?_ ?_ ?_ <;> simp
                  refine acallC_by 0 (hvp) ?_ (by kernel_rfl) ?_ ?_ ?_ ?_ ?_ ?_ ?_ ?_ ?_ <;> simp [hl1, hl2, hl3]
                  refine Again.mk 3 ((1, bk ++ txt (.mk k1 x1 m1 c1 y1 r1 kids1))) (by simp) (by simp) (by simp) rfl ?_ ?_ ?_
                  · simp [lwF]
                  · refine ⟨hlt, ?_⟩
                    show bk ++ txt (.mk k1 x1 m1 c1 y1 r1 kids1) = 102 :: 117 :: 110 :: 99 :: 40 :: Go.Lib.join (X.take (0 + 1)) [44]
                    rw [join_take X 0 hXi, if_neg h0, hbk]
                    simp [Go.Lib.join_nil]
                  · show m - 1 < m - 0; omega
              · simp [lwF, hlt]
                refine Left.mk ((i, bk)) rfl ?_ ?_
                · simp [lwF]
                · exact ⟨by show i = m; omega, hbk⟩
            · rintro v ⟨i, bk⟩ ⟨him, hbk⟩
              simp only at him hbk
              have hjl : (Go.Lib.join (X.take i) [44]).length ≤ 1000000000000 := hjoin i
              have hbl : bk.length ≤ 1000000000005 := by rw [hbk]; simp; omega
              have hXt : X.take i = X := List.take_of_length_le (by omega)
              rw [hXt] at hbk
              have hul : (txt (.mk kr xr mr cr yr rr kidsr)).length ≤ 4000000 := by rw [hT0] at hbig2; simp at hbig2; omega
              have hl1 : ¬ (9223372036854775807 : Int) < (bk.length : Int) + 1 := by omega
              have hl3 : ¬ (9223372036854775807 : Int) < (bk.length : Int) + 1 + ((txt (.mk kr xr mr cr yr rr kidsr)).length : Int) := by omega
              have hTe : T = bk ++ 41 :: txt (.mk kr xr mr cr yr rr kidsr) := by rw [hT0, hbk]; simp [sFunc]
              simp [lwF, hl1, hl3, hTe]
              rw [hTe] at hni
              refine acallC_by 0 (hni) ?_ (by kernel_rfl) ?_ ?_ ?_ ?_ ?_ ?_ ?_ ?_ ?_ <;> simp
        · have hne : ¬ ((l.length : Int) + 1 + 1 = 1) := by omega
          simp [Tr.av, Tr.cells, vecN, hne]
end Go.Proofs.Ytoaodlfmhioigaa
end
