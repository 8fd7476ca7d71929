import Derived.Test.YtdflfcgdfbihfaaDoorC3
import Derived.Laws.IdiomStrings
namespace Go.Proofs.YtdflfcgdfbihfaaDoor
open Go.RowKit CodeText

theorem rsize_le (s : St) : (rsize s).1 ≤ (rsize s).2.1.length := by
  unfold rsize
  split
  · exact Nat.zero_le _
  · simp only; omega

def strV (b : Bytes) : Value := .string ⟨b.toArray⟩

theorem conv_bytes (w : World) (a : Option Addr) (c I : Nat) (l : Bytes) (h : (a = none ∧ l = []) ∨ ∃ o, a = some ⟨I, o, none⟩ ∧ ∀ i (h : i < l.length), w.cell? ⟨I, o + i, none⟩ = some (.int .u8 l[i].toNat)) :
    (convert 22 9 (.slice a l.length c)).run Tryd.prog w = .ok (strV l) w := by
  rcases h with ⟨rfl, rfl⟩ | ⟨o, rfl, h⟩
  · rw [run_convert_bytes_string w 22 9 5 none _ c Tryd.underlying22 Tryd.underlying5 Tryd.underlying9]
    simp [Conv.bytesToString, Sem.run_pure, strV]
    rfl
  · refine run_convert_bytes_back w 22 9 5 _ c l Tryd.underlying22 Tryd.underlying5 Tryd.underlying9 ?_
    intro j hj
    rw [Addr.add_lit]
    exact h j hj

theorem rtext_eq {s : St} {m : Nat} {l : Bytes} {b : Bool} (h : rsize s = (m, (l, b))) : rtext s = (l.take m, (l.drop m, b)) := by
  unfold rtext; rw [h]

theorem conv_pre {w : World} {a : Option Addr} {c I m : Nat} {l : Bytes} (hm : m ≤ l.length)
    (h : (a = none ∧ c = 0) ∨ ∃ o, a = some ⟨I, o, none⟩ ∧ ∀ i (h : i < l.length), w.cell? ⟨I, o + i, none⟩ = some (.int .u8 l[i].toNat)) (hc : l.length ≤ c) :
    (convert 22 9 (.slice a m c)).run Tryd.prog w = .ok (strV (l.take m)) w := by
  have := conv_bytes w a c I (l.take m) ?_
  · rwa [List.length_take, Nat.min_eq_left hm] at this
  · rcases h with ⟨rfl, rfl⟩ | ⟨o, rfl, h⟩
    · refine .inl ⟨rfl, ?_⟩
      have : l.length = 0 := by omega
      rw [List.length_eq_zero_iff.1 this]
      simp
    · refine .inr ⟨o, rfl, ?_⟩
      intro i hi
      rw [List.length_take] at hi
      rw [List.getElem_take]
      exact h i (by omega)

/-- The reader behind bytes that were taken. -/
theorem take_end {E : Addr} {R I : Nat} {l : Bytes} {b : Bool} {w : World} (h : Rd E R I w (l, b)) {j : Nat} {a a' : Option Addr} {c n' c' : Nat} (hc : w.cell? ⟨R, 0, none⟩ = some (.slice a l.length c))
    (hj : j ≤ l.length) (hn : n' = l.length - j) (hc' : c' = c - j) (ha : a' = a ∧ c = j ∨ (∃ o, a = some ⟨I, o, none⟩ ∧ a' = some ⟨I, o + j, none⟩) ∨ (a = none ∧ a' = none)) :
    Upd (RS R) w (w.setCell ⟨R, 0, none⟩ (.slice a' n' c')) ∧ Rd E R I (w.setCell ⟨R, 0, none⟩ (.slice a' n' c')) (l.drop j, b) := by
  subst hn; subst hc'
  have hu : Upd (RS R) w (w.setCell ⟨R, 0, none⟩ (.slice a' (l.length - j) (c - j))) := Upd.setCell w _ _ rfl
  refine ⟨hu, ?_⟩
  obtain ⟨⟨v0, e0, k1, k2, k3⟩, hg, hf, hn1, hn2, hn3⟩ := h
  have hv0 : v0 = .slice a l.length c := by
    have : w.cell? ⟨R, 0, none⟩ = some v0 := by simp [World.cell?, k1]
    rw [this] at hc
    exact Option.some.inj hc
  refine ⟨⟨.slice a' (l.length - j) (c - j), e0, ?_, ?_, k3⟩, hu.cell hg (fun h0 => hn2 h0.symm), by have : l.length ≤ 1000000 := hf; rw [List.length_drop]; omega, hn1, hn2, Nat.lt_of_lt_of_le hn3 hu.size⟩
  · simp [World.setCell, Array.getElem?_modify, k1]
  · exact ((k2.drop hv0 j hj).2 a' ha).upd hu (fun h0 => hn1 h0.symm)

set_option maxRecDepth 100000 in
set_option maxHeartbeats 800000 in
theorem text_any (E : Addr) (R I : Nat) (s : St) (w : World) (h : Rd E R I w s) :
    Calls Tryd.prog 10 #[.pointer (some ⟨R, 0, none⟩)] w fun e w' => e = .returned (strV (rtext s).1) ∧ Upd (RS R) w w' ∧ Rd E R I w' (rtext s).2 := by
  have cN := size_any E R I s w h
  have hm := rsize_le s
  obtain ⟨⟨m, l, b⟩, hn⟩ : ∃ x, rsize s = x := ⟨_, rfl⟩
  rw [rtext_eq hn]
  rw [hn] at cN hm
  simp only at cN hm ⊢
  clear hn h
  go_enter Tryd.func10, Tryd.ntmps10
  go_wp2_with (with_reducible refine cN.mono ?_; rintro e w1 ⟨rfl, hu, hr⟩; have HR := Lib.hid hr; have HU := Lib.hid hu; obtain ⟨⟨a, c, h0, h1, h2, h3⟩, h4, h5, h6, h7, h8⟩ := hr.cells; have hcv := conv_pre (m := m) hm h3 h1; have HX := Lib.hid h3; have HC := Lib.hid h0; clear h3 h4 hr hu)
  · go_ret
    have he := take_end (j := m) (a' := a) (n' := l.length - m) (c' := 0) HR.out HC.out hm rfl (by omega) (.inl ⟨rfl, by assumption⟩)
    exact ⟨rfl, HU.out.trans he.1 (fun k _ hk => hk), he.2⟩
  · go_ret
    have ha : Option.map (fun x => x.add m) a = a ∧ c = m ∨ (∃ o, a = some ⟨I, o, none⟩ ∧ Option.map (fun x => x.add m) a = some ⟨I, o + m, none⟩) ∨ (a = none ∧ Option.map (fun x => x.add m) a = none) := by
      rcases HX.out with ⟨rfl, _⟩ | ⟨o, rfl, _⟩
      · exact .inr (.inr ⟨rfl, rfl⟩)
      · refine .inr (.inl ⟨o, rfl, ?_⟩)
        simp [Addr.add_lit]
    have he := take_end (j := m) (n' := l.length - m) (c' := c - m) HR.out HC.out hm rfl rfl ha
    exact ⟨rfl, HU.out.trans he.1 (fun k _ hk => hk), he.2⟩

end Go.Proofs.YtdflfcgdfbihfaaDoor
