/- CALL, part 9: the law's fixed answers. -/
import Derived.Test.YtdljmmdbpngchaaCallTab
import Derived.Test.YtdljmmdbpngchaaCallLaws
namespace Go.Shade
set_option linter.unusedVariables false
set_option linter.unusedSimpArgs false

def cA : Cl := { op := 2, fd := 0, fl := 0, n := 0, off := 0, a := [97], b := [] }
def cZ : Cl := { op := 0, fd := 0, fl := 0, n := 0, off := 0, a := [], b := [] }
def cB : Cl := { op := 1, fd := -4, fl := 0, n := -256, off := -256, a := [], b := [] }
theorem encA : cA.enc = [1, 4, 0, 1, 0, 1, 0, 1, 97, 0] := by decide
theorem mayA : cA.may = true := by decide
theorem mayZ : cZ.may = false := by decide
theorem decA : dec 200 [1, 4, 0, 1, 0, 1, 0, 1, 97, 0] = [cA] := by decide
theorem decB : dec 200 [20] = [cB] := by decide
/-- One's own row of bytes. -/
theorem ownBS {H : Heap} {r : Nat} {l : List UInt8} {ex : Bool} (h : H[r]? = some (.row (bytes l) false)) : BS H (.slice r 0 l.length l.length ex 1) l := by
  refine .inr ⟨r, 0, l.length, l.length, ex, 1, rfl, Nat.le_refl _, .inr rfl, rfl, fun _ => ⟨bytes l, false, h, fun i hi => ?_⟩⟩
  simp [bytes, hi, List.getD_eq_getElem?_getD]
theorem lowAt {B r o n lb sz : Nat} {ex : Bool} (h : r < B) : low B (.slice r o n lb ex sz) := by
  intro b o n lb ex sz e; cases e; exact h
theorem b2sBS {H : Heap} {v : IV} {l : List UInt8} (h : BS H v l) : lb2s H v = some (.str l) := by
  rcases h with ⟨rfl, rfl⟩ | ⟨b, o, n, lb, ex, sz, rfl, h1, h2, h3, h4⟩
  · rfl
  · subst h3
    have hc : lsl H 1 (.slice b o l.length lb ex sz) l.length = some (bytes l) := by
      simp only [lsl, Nat.le_refl, if_true]
      by_cases h0 : l.length = 0
      · rw [if_pos h0, List.length_eq_zero_iff.1 h0]; rfl
      · rw [if_neg h0]
        obtain ⟨cells, ro, g1, g2⟩ := h4 (by omega)
        have hlast := g2 (l.length - 1) (by omega)
        have hlen := (List.getElem?_eq_some_iff.1 hlast).1
        simp only [irow, g1, Nat.mul_one]
        rw [if_pos (by omega)]
        congr 1
        apply List.ext_getElem?
        intro i
        by_cases hi : i < l.length
        · rw [List.getElem?_take, if_pos hi, List.getElem?_drop, g2 i hi]
          simp [bytes, hi, List.getD_eq_getElem?_getD]
        · rw [List.getElem?_eq_none (by simp; omega), List.getElem?_eq_none (by simp [bytes]; omega)]
    simp only [lb2s, hc, Option.bind_some, ibytes_bytes]
theorem awake_s {cal : FuncId → Bool} {φ : Oracle} {N : Nat} {e d s m : FuncId} (he : EncOk φ e) (hd : DecOk φ d) (hs : ScriptOk φ s) (hm : MayOk φ m) (H : Heap) : ∃ X, veneerlaw08AwakeS cal φ N e d s m H = some (.bool true, H ++ X) := by
  unfold veneerlaw08AwakeS
  have b1 : lbld [(.int .i64 0), (.int .i64 0), (.int .i64 0), (.int .i64 0), (.int .i64 0), (.str []), (.str [])] [(0, 1, (.int .i64 2)), (5, 1, (.str [97]))] = some (.agg cA.cells) := rfl
  have b2 : lbld [(.int .i64 0), (.int .i64 0), (.int .i64 0), (.int .i64 0), (.int .i64 0), (.str []), (.str [])] [] = some (.agg cZ.cells) := rfl
  have b3 : lbld [(.int .i64 0), (.int .i64 0), (.int .i64 0), (.int .i64 0), (.int .i64 0), (.str []), (.str [])] [(0, 1, (.int .i64 1)), (1, 1, (.int .i64 (-4))), (3, 1, (.int .i64 (-256))), (4, 1, (.int .i64 (-256)))] = some (.agg cB.cells) := rfl
  rw [b1, ob_some, he, if_pos mayA, ob_some, iextract_tuple, iextract_tuple, encA]
  simp only [List.getElem?_cons_zero, List.getElem?_cons_succ, ob_some]
  generalize hH1 : H ++ [IObj.row (bytes [1, 4, 0, 1, 0, 1, 0, 1, 97, 0]) false] = H1
  have l1 : H1.length = H.length + 1 := by rw [← hH1]; simp
  have r1 : H1[H.length]? = some (.row (bytes [1, 4, 0, 1, 0, 1, 0, 1, 97, 0]) false) := by rw [← hH1]; simp
  have s1 : BS H1 (.slice H.length 0 10 10 false 1) [1, 4, 0, 1, 0, 1, 0, 1, 97, 0] := ownBS r1
  rw [show ([1, 4, 0, 1, 0, 1, 0, 1, 97, 0] : List UInt8).length = 10 from rfl]
  rw [hd H1 _ _ rfl (lowAt (by omega)) s1, decA, if_neg (by decide), ob_some]
  simp only
  rw [b2, ob_some, he, if_neg (by rw [mayZ]; decide), ob_some, iextract_tuple, iextract_tuple]
  simp only [List.getElem?_cons_zero, List.getElem?_cons_succ, ob_some]
  generalize hH2 : H1 ++ [IObj.row (flat7 [cA]) false] = H2
  have l2 : H2.length = H.length + 2 := by rw [← hH2]; simp [l1]
  have r2 : H2[H1.length]? = some (.row (flat7 [cA]) false) := by rw [← hH2]; simp
  have s2 : CS H2 (.slice H1.length 0 1 1 false 7) [cA] := Buf.calls (B := 0) (.inr ⟨_, 1, false, rfl, by omega, r2, rfl⟩)
  rw [show [cA].length = 1 from rfl]
  rw [hs H2 _ _ (lowAt (by omega)) s2, ob_some]
  have sx : scrX H2 [cA] = (.tuple [.slice H2.length 0 10 10 false 1, .int .i64 0], H2 ++ [.row (bytes [1, 4, 0, 1, 0, 1, 0, 1, 97, 0]) false]) := by
    unfold scrX
    rw [if_pos (by decide), if_neg (by decide)]
    have : encs [cA] = [1, 4, 0, 1, 0, 1, 0, 1, 97, 0] := by decide
    rw [this]; rfl
  rw [sx, iextract_tuple, iextract_tuple]
  simp only [List.getElem?_cons_zero, List.getElem?_cons_succ, ob_some]
  generalize hH3 : H2 ++ [IObj.row (bytes [1, 4, 0, 1, 0, 1, 0, 1, 97, 0]) false] = H3
  have l3 : H3.length = H.length + 3 := by rw [← hH3]; simp [l2]
  have r3 : H3[H2.length]? = some (.row (bytes [1, 4, 0, 1, 0, 1, 0, 1, 97, 0]) false) := by rw [← hH3]; simp
  have bl : lbldS H3 1 1 [(.int .u8 0)] [(0, (.int .u8 20))] = some (.slice H3.length 0 1 1 true 1, H3 ++ [.row (bytes [20]) false]) := rfl
  rw [bl, ob_some]
  simp only
  generalize hH4 : H3 ++ [IObj.row (bytes [20]) false] = H4
  have l4 : H4.length = H.length + 4 := by rw [← hH4]; simp [l3]
  have r4 : H4[H3.length]? = some (.row (bytes [20]) false) := by rw [← hH4]; simp
  have s4 : BS H4 (.slice H3.length 0 1 1 true 1) [20] := ownBS r4
  rw [hd H4 _ _ rfl (lowAt (by omega)) s4, decB, if_neg (by decide), ob_some]
  simp only
  rw [show [cB].length = 1 from rfl]
  generalize hH5 : H4 ++ [IObj.row (flat7 [cB]) false] = H5
  have r5 : H5[H4.length]? = some (.row (flat7 [cB]) false) := by rw [← hH5]; simp
  have up : ∀ {i : Nat}, i < H.length + 4 → H5[i]? = H4[i]? := fun {i} hi => by rw [← hH5, List.getElem?_append_left (show i < H4.length by omega)]
  have up4 : ∀ {i : Nat}, i < H.length + 3 → H4[i]? = H3[i]? := fun {i} hi => by rw [← hH4, List.getElem?_append_left (show i < H3.length by omega)]
  have up3 : ∀ {i : Nat}, i < H.length + 2 → H3[i]? = H2[i]? := fun {i} hi => by rw [← hH3, List.getElem?_append_left (show i < H2.length by omega)]
  have up2 : ∀ {i : Nat}, i < H.length + 1 → H2[i]? = H1[i]? := fun {i} hi => by rw [← hH2, List.getElem?_append_left (show i < H1.length by omega)]
  have t1 : lb2s H5 (.slice H.length 0 10 10 false 1) = some (.str [1, 4, 0, 1, 0, 1, 0, 1, 97, 0]) := b2sBS (ownBS (by rw [up (i := H.length) (by omega), up4 (i := H.length) (by omega), up3 (i := H.length) (by omega), up2 (i := H.length) (by omega)]; exact r1))
  have t3 : lb2s H5 (.slice H2.length 0 10 10 false 1) = some (.str [1, 4, 0, 1, 0, 1, 0, 1, 97, 0]) := b2sBS (ownBS (by rw [up (i := H2.length) (by omega), up4 (i := H2.length) (by omega)]; exact r3))
  have g2 : lloadn H5 7 (.ptr H1.length 0) = some (.agg cA.cells) := by rw [lloadn_ptr, up (i := H1.length) (by omega), up4 (i := H1.length) (by omega), up3 (i := H1.length) (by omega), r2]; rfl
  have g5 : lloadn H5 7 (.ptr H4.length 0) = some (.agg cB.cells) := by rw [lloadn_ptr, r5]; rfl
  have x2 : lix 7 (.slice H1.length 0 1 1 false 7) (.int .i64 0) = some (.ptr H1.length 0) := rfl
  have x5 : lix 7 (.slice H4.length 0 1 1 false 7) (.int .i64 0) = some (.ptr H4.length 0) := rfl
  have n0 : ∀ (a : Int), decide (a = a) = true := fun a => decide_eq_true rfl
  have n1 : ∀ (a : List UInt8), decide (a = a) = true := fun a => decide_eq_true rfl
  have n2 : ∀ (a : Cl), decide (a = a) = true := fun a => decide_eq_true rfl
  simp only [t1, ob_some, lbin_seq, n1, decide_true, isB_tt, gq_true, lbin_eql, n0, lpick_true, llen_slice, Int.natCast_one, x2, g2, b1, call_eq, n2, leqv_f, t3, x5, g5, b3, ge_true]
  rw [hm, ob_some, mayA]
  exact ⟨_, by rw [← hH5, ← hH4, ← hH3, ← hH2, ← hH1]; simp only [List.append_assoc]; rfl⟩
end Go.Shade
