/- CALL, part 12: arguments. -/
import Derived.Test.YtdljmmdbpngchaaCallLaw1
import Derived.Test.YtdljmmdbpngchaaShadeLaw
namespace Go.Shade
set_option linter.unusedVariables false
set_option linter.unusedSimpArgs false
theorem fit_u8 {H : Heap} {e : List IV} (h : Fits H [.int .u8] e) : ∃ x : UInt8, e = [.int .u8 (x.toNat : Int)] := by
  simp only [Fits, Fit] at h
  obtain ⟨v, r, rfl, ⟨n, rfl, hw⟩, rfl⟩ := h
  refine ⟨UInt8.ofNat n.toNat, ?_⟩
  have hmin : IntKind.u8.min = 0 := by decide
  have hmax : IntKind.u8.max = 255 := by decide
  have : 0 ≤ n ∧ n < 256 := by simp only [Lit.wf] at hw; simp [hmin, hmax] at hw; omega
  simp only [UInt8.toNat_ofNat', List.cons.injEq, IV.int.injEq, true_and, and_true]
  omega
theorem fit_rows {H : Heap} : ∀ {elems : List (List IV)}, (∀ e ∈ elems, Fits H [.int .u8] e) → ∃ bs : List UInt8, elems.flatten = bytes bs ∧ bs.length = elems.length
  | [], _ => ⟨[], rfl, rfl⟩
  | e :: es, h => by
    obtain ⟨x, rfl⟩ := fit_u8 (h e (by simp))
    obtain ⟨bs, h1, h2⟩ := fit_rows (elems := es) (fun e' he' => h e' (List.mem_cons_of_mem _ he'))
    exact ⟨x :: bs, by simp [h1, bytes], by simp [h2]⟩
theorem fit_bytes {H : Heap} {v : IV} (h : Fit H (.sl [.int .u8]) v) : ∃ bs, BS H v bs ∧ v.one = true ∧ low H.length v := by
  simp only [Fit] at h
  rcases h with rfl | ⟨b, n, elems, rfl, h2, h3, h4, h5⟩
  · exact ⟨[], .inl ⟨rfl, rfl⟩, rfl, fun _ _ _ _ _ _ e => by cases e⟩
  · obtain ⟨bs, k1, k2⟩ := fit_rows h5
    refine ⟨bs.take n, .inr ⟨b, 0, n, elems.length, true, 0, rfl, h3, .inl rfl, by simp; omega, fun _ => ⟨_, true, h2, fun i hi => ?_⟩⟩, rfl, lowAt (List.getElem?_eq_some_iff.1 h2).1⟩
    rw [k1]
    have : i < bs.length := by omega
    simp [bytes, this, hi, List.getD_eq_getElem?_getD]
end Go.Shade
