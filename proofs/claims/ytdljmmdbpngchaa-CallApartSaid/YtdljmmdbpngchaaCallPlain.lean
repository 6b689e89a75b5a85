/- CALL, part 14: there and back, without a program in sight. -/
import Derived.Test.YtdljmmdbpngchaaCallLaw1
namespace Go.Shade
set_option linter.unusedVariables false
set_option linter.unusedSimpArgs false
theorem ub_val {x : Int} (h1 : 0 ≤ x) (h2 : x < 256) : ((ub x).toNat : Int) = x := by
  simp only [ub, UInt8.toNat_ofNat']; omega
theorem ub_mod (x : Int) : ((ub x).toNat : Int) = x % 256 := by
  simp only [ub, UInt8.toNat_ofNat']; omega
theorem rdText_app (l rest : List UInt8) (h : l.length < 64) : rdText (ub l.length :: l ++ rest) = l ∧ TextN (ub l.length :: l ++ rest) = l.length + 1 := by
  have hn : (ub (l.length : Nat)).toNat = l.length := by have := ub_val (x := (l.length : Nat)) (by omega) (by omega); omega
  have h0 : (ub (l.length : Nat) :: l ++ rest).getD 0 0 = ub (l.length : Nat) := by simp
  constructor
  · unfold rdText
    rw [h0, hn, Nat.mod_eq_of_lt h]
    apply List.ext_getElem (by simp)
    intro i h1 h2
    simp [List.getD_eq_getElem?_getD, List.getElem?_append, h2]
  · unfold TextN
    rw [h0, hn, Nat.mod_eq_of_lt h]
theorem rd_enc {c : Cl} (h : c.may = true) (rest : List UInt8) : rdCl (c.enc ++ rest) = c ∧ (c.enc ++ rest).drop (rdN (c.enc ++ rest)) = rest := by
  obtain ⟨⟨m1, m2⟩, ⟨m3, m4⟩, ⟨m5, m6⟩, ⟨m7, m8⟩, ⟨m9, m10⟩, m11, m12⟩ := c.may_iff.1 h
  have he : c.enc ++ rest = [ub (c.op - 1), ub (c.fd + 4), ub c.fl, ub ((c.n + 256) / 256), ub (c.n + 256), ub ((c.off + 256) / 256), ub (c.off + 256)] ++ (ub c.a.length :: c.a ++ (ub c.b.length :: c.b ++ rest)) := by
    simp [Cl.enc, List.append_assoc]
  have e1 : rd1 (c.enc ++ rest) = ub c.a.length :: c.a ++ (ub c.b.length :: c.b ++ rest) := by rw [he]; rfl
  obtain ⟨t1, n1⟩ := rdText_app c.a (ub c.b.length :: c.b ++ rest) (by omega)
  have e2 : rd2 (c.enc ++ rest) = ub c.b.length :: c.b ++ rest := by
    unfold rd2
    rw [e1, n1]
    simp
  obtain ⟨t2, n2⟩ := rdText_app c.b rest (by omega)
  constructor
  · have b0 := ub_val (x := c.op - 1) (by omega) (by omega)
    have b1 := ub_val (x := c.fd + 4) (by omega) (by omega)
    have b2 := ub_val (x := c.fl) (by omega) (by omega)
    have b3 := ub_val (x := (c.n + 256) / 256) (by omega) (by omega)
    have b4 := ub_mod (c.n + 256)
    have b5 := ub_val (x := (c.off + 256) / 256) (by omega) (by omega)
    have b6 := ub_mod (c.off + 256)
    have g : ∀ i, (c.enc ++ rest).getD i 0 = ([ub (c.op - 1), ub (c.fd + 4), ub c.fl, ub ((c.n + 256) / 256), ub (c.n + 256), ub ((c.off + 256) / 256), ub (c.off + 256)] ++ (ub c.a.length :: c.a ++ (ub c.b.length :: c.b ++ rest))).getD i 0 := fun i => by rw [he]
    have g0 : (c.enc ++ rest).getD 0 0 = ub (c.op - 1) := by rw [g]; rfl
    have g1 : (c.enc ++ rest).getD 1 0 = ub (c.fd + 4) := by rw [g]; rfl
    have g2 : (c.enc ++ rest).getD 2 0 = ub c.fl := by rw [g]; rfl
    have g3 : (c.enc ++ rest).getD 3 0 = ub ((c.n + 256) / 256) := by rw [g]; rfl
    have g4 : (c.enc ++ rest).getD 4 0 = ub (c.n + 256) := by rw [g]; rfl
    have g5 : (c.enc ++ rest).getD 5 0 = ub ((c.off + 256) / 256) := by rw [g]; rfl
    have g6 : (c.enc ++ rest).getD 6 0 = ub (c.off + 256) := by rw [g]; rfl
    unfold rdCl
    rw [g0, g1, g2, g3, g4, g5, g6, e1, e2, t1, t2, b0, b1, b2, b3, b4, b5, b6]
    obtain ⟨op, fd, fl, n, off, a, b⟩ := c
    simp only [Cl.mk.injEq, and_true]
    simp only at *
    omega
  · unfold rdN
    rw [e1, e2, n1, n2]
    have hl : c.enc.length = 7 + (c.a.length + 1) + (c.b.length + 1) := by simp [Cl.enc]; omega
    rw [← hl, List.drop_left]
theorem enc_ne (c : Cl) : c.enc ≠ [] := by simp [Cl.enc]
/-- A script's bytes ahead of others are its calls. -/
theorem dec_encs : ∀ (l : List Cl) (k : Nat) (rest : List UInt8), l.all Cl.may = true → l.length ≤ k → dec k (encs l ++ rest) = l ++ dec (k - l.length) rest
  | [], k, rest, _, _ => by simp [encs]
  | c :: l, 0, rest, _, hk => by simp at hk
  | c :: l, k + 1, rest, h, hk => by
    simp only [List.all_cons, Bool.and_eq_true] at h
    obtain ⟨r1, r2⟩ := rd_enc h.1 (encs l ++ rest)
    have he : encs (c :: l) ++ rest = c.enc ++ (encs l ++ rest) := by simp [encs, List.append_assoc]
    have hne : c.enc ++ (encs l ++ rest) ≠ [] := by simp [enc_ne]
    rw [he, dec, if_neg hne, r1, r2, dec_encs l k rest h.2 (by simpa using hk)]
    simp
end Go.Shade
