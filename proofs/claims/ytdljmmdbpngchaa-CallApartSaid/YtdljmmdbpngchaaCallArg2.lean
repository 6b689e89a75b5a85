/- CALL, part 17: arguments: calls, slices of calls. -/
import Derived.Test.YtdljmmdbpngchaaCallArg
namespace Go.Shade
set_option linter.unusedVariables false
set_option linter.unusedSimpArgs false
def callT : List CT := [.int .i64, .int .i64, .int .i64, .int .i64, .int .i64, .str, .str]
theorem fit_call {H : Heap} {e : List IV} (h : Fits H callT e) : ∃ c : Cl, e = c.cells ∧ c.a.length ≤ maxLen ∧ c.b.length ≤ maxLen := by
  simp only [callT, Fits, Fit] at h
  obtain ⟨_, _, rfl, ⟨n1, rfl, _⟩, _, _, rfl, ⟨n2, rfl, _⟩, _, _, rfl, ⟨n3, rfl, _⟩, _, _, rfl, ⟨n4, rfl, _⟩, _, _, rfl, ⟨n5, rfl, _⟩, _, _, rfl, ⟨s6, rfl, h6⟩, _, _, rfl, ⟨s7, rfl, h7⟩, rfl⟩ := h
  exact ⟨⟨n1, n2, n3, n4, n5, s6, s7⟩, rfl, h6, h7⟩
theorem fit_crows {H : Heap} : ∀ {elems : List (List IV)}, (∀ e ∈ elems, Fits H callT e) → ∃ l : List Cl, elems.flatten = flat7 l ∧ l.length = elems.length ∧ ∀ c ∈ l, c.a.length ≤ maxLen ∧ c.b.length ≤ maxLen
  | [], _ => ⟨[], rfl, rfl, fun _ h => by cases h⟩
  | e :: es, h => by
    obtain ⟨c, rfl, k1, k2⟩ := fit_call (h e (by simp))
    obtain ⟨l, h1, h2, h3⟩ := fit_crows (elems := es) (fun e' he' => h e' (List.mem_cons_of_mem _ he'))
    refine ⟨c :: l, by simp [h1, flat7], by simp [h2], fun d hd => ?_⟩
    rcases List.mem_cons.1 hd with rfl | hd
    · exact ⟨k1, k2⟩
    · exact h3 d hd
theorem fit_calls {H : Heap} {v : IV} (h : Fit H (.sl callT) v) : ∃ l, CS H v l ∧ v.one = true ∧ low H.length v ∧ ∀ c ∈ l, c.a.length ≤ maxLen ∧ c.b.length ≤ maxLen := by
  simp only [Fit] at h
  rcases h with rfl | ⟨b, n, elems, rfl, h2, h3, h4, h5⟩
  · exact ⟨[], .inl ⟨rfl, rfl⟩, rfl, (fun _ _ _ _ _ _ e => by cases e), (fun _ h => by cases h)⟩
  · obtain ⟨l, k1, k2, k3⟩ := fit_crows h5
    refine ⟨l.take n, .inr ⟨b, 0, n, elems.length, true, 0, rfl, h3, .inl rfl, by simp; omega, fun i c hi => ?_⟩, rfl, lowAt (List.getElem?_eq_some_iff.1 h2).1, fun c hc => k3 c (List.mem_of_mem_take hc)⟩
    rw [List.getElem?_take] at hi
    split at hi
    · have hlt := (List.getElem?_eq_some_iff.1 hi).1
      rw [lloadn_ptr, h2, ogn_row, k1, flat7_get l i c hi |> fun h => (by rw [Nat.zero_add]; exact h : ((flat7 l).drop (0 + i * 7)).take 7 = c.cells), if_pos (by rw [flat7_length]; omega)]
    · cases hi
end Go.Shade
