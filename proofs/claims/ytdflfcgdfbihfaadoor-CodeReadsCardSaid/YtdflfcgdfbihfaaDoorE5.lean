import Derived.Test.YtdflfcgdfbihfaaDoorE3
import Derived.Test.YtdflfcgdfbihfaaDoorE4
namespace Go.Proofs.YtdflfcgdfbihfaaDoor
open Go.RowKit CodeText

theorem weach_len {α : Type} {r : St → α × St} {w : α → Bytes} {V : α → Prop} (hb : Back r w V) {l : List α} (h : VList V l) : l.length ≤ (weach w l).length := by
  have := flatten_len l (fun x hx => (hb x (h.2 x hx)).1)
  unfold weach
  rw [List.length_append]
  omega

theorem mem_len {α : Type} (w : α → Bytes) : ∀ (l : List α) (x : α), x ∈ l → (w x).length ≤ (l.map w).flatten.length
  | [], _, h => by cases h
  | y :: l, x, h => by
    rw [List.map_cons, List.flatten_cons, List.length_append]
    rcases List.mem_cons.1 h with rfl | h
    · omega
    · have := mem_len w l x h
      omega

theorem mem_weach {α : Type} (w : α → Bytes) (l : List α) (x : α) (h : x ∈ l) : (w x).length ≤ (weach w l).length := by
  have := mem_len w l x h
  unfold weach
  rw [List.length_append]
  omega

theorem lfn_of {x : Fnc} (h : VFn x) (hl : (wfn x).length ≤ 200000) : LFn x := by
  obtain ⟨v1, v2, v3, v4, v5⟩ := h
  have hw : (wfn x).length = (wtext x.name).length + (wflags x.refs).length + (wnum x.params).length + (wnum x.captures).length + (wflags [x.result]).length + (weach wins x.code).length := by
    simp only [wfn, List.length_append]
  have h1 := weach_len back_flag v2
  have h2 := weach_len back_ins v5
  unfold wflags at hw
  refine ⟨⟨v1, v2, v3, v4, v5⟩, by omega, by omega, fun i hi => ?_⟩
  have h3 := mem_weach wins x.code i hi
  have hv := v5.2 i hi
  obtain ⟨u1, u2, u3, u4, u5, u6⟩ := hv
  have h4 := weach_len back_num u6
  have h5 : (wins i).length = (wnum i.op).length + (wnum i.a).length + (wnum i.b).length + (wnum i.c).length + (wnum i.d).length + (weach wnum i.list).length := by
    simp only [wins, List.length_append]
  omega

theorem lpg_of {p : Pg} (h : VPg p) (hl : (wpg p).length ≤ 200000) : LPg p := by
  have hh := h
  obtain ⟨v1, v2, v3, v4, v5⟩ := h
  have hw : (wpg p).length = (weach wtext p.texts).length + (weach wflag p.globals).length + (weach (weach wflag) p.structs).length + (weach wfn p.funcs).length + (wnum p.main).length := by
    rw [wpg]
    simp only [List.length_append]
    rfl
  have h1 := weach_len back_text v1
  have h2 := weach_len back_flag v2
  have h3 := weach_len (back_some back_flag) v3
  have h4 := weach_len back_fn v4
  refine ⟨hh, by omega, by omega, by omega, by omega, fun x hx => ?_, fun x hx => ?_⟩
  · have h5 := mem_weach (weach wflag) p.structs x hx
    have h6 := weach_len back_flag (v3.2 x hx)
    omega
  · have h5 := mem_weach wfn p.funcs x hx
    exact lfn_of (v4.2 x hx) (by omega)

theorem decode_v {b : Bytes} {p : Pg} (hb : b.length ≤ 20000) (h : CodeText.decode b = some p) : VPg p ∧ LPg p ∧ CodeText.decode (wpg p) = some p ∧ (wpg p).length ≤ 200000 := by
  have hk := there_and_back hb h
  unfold CodeText.decode at h
  by_cases hc : (rpg (b, false)).2.2 = true ∨ (rpg (b, false)).2.1 ≠ []
  · rw [if_pos hc] at h; cases h
  · rw [if_neg hc] at h
    injection h with h
    have := took_pg (b, false) (by cases hx : (rpg (b, false)).2.2 with | true => exact absurd (.inl hx) hc | false => rfl) hb
    rw [h] at this
    exact ⟨this.1, lpg_of this.1 this.2, hk⟩

end Go.Proofs.YtdflfcgdfbihfaaDoor
