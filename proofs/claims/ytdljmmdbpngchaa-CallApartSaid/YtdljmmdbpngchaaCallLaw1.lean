/- CALL, part 10: the law 'CallTotal'. -/
import Derived.Test.YtdljmmdbpngchaaCallAwake
namespace Go.Shade
set_option linter.unusedVariables false
set_option linter.unusedSimpArgs false

theorem rdText_len (bs : List UInt8) : (rdText bs).length < 64 := by
  simp only [rdText, List.length_map, List.length_range]; omega
theorem rdCl_may (bs : List UInt8) : (rdCl bs).may = true := by
  rw [Cl.may_iff]
  have h3 := (bs.getD 3 0).toNat_lt
  have h4 := (bs.getD 4 0).toNat_lt
  have h5 := (bs.getD 5 0).toNat_lt
  have h6 := (bs.getD 6 0).toNat_lt
  have a := rdText_len (rd1 bs)
  have b := rdText_len (rd2 bs)
  simp only [rdCl]
  omega
theorem dec_may : ∀ (k : Nat) (bs : List UInt8), (dec k bs).all Cl.may = true
  | 0, _ => rfl
  | k + 1, bs => by
    simp only [dec]
    split
    · rfl
    · simp only [List.all_cons, rdCl_may, dec_may k, Bool.and_self]
theorem dec_len : ∀ (k : Nat) (bs : List UInt8), (dec k bs).length ≤ k
  | 0, _ => Nat.le_refl _
  | k + 1, bs => by
    simp only [dec]
    split
    · simp
    · have := dec_len k (bs.drop (rdN bs)); simp; omega
theorem dec_nil {k : Nat} {bs : List UInt8} : dec (k + 1) bs = [] ↔ bs = [] := by
  simp only [dec]
  split <;> simp_all
def AwakeOk (φ : Oracle) (f : FuncId) : Prop := ∀ H : Heap, φ f [] H = some (.bool true, H)
theorem total_loop {cal : FuncId → Bool} {φ : Oracle} {N : Nat} {aw d m : FuncId} (hm : MayOk φ m) {gE0 : IV → IV → Heap → Option (IV × Heap)} {H : Heap} {v0 v : IV} {l : List Cl} (hl : l.all Cl.may = true) (hc : CS H v l) (h200 : l.length ≤ 200) : ∀ (k i n : Nat), i + k = l.length → k < n →
    veneerlaw08CallTotalC0S cal φ N aw d m gE0 n v0 v (.int .i64 (l.length : Nat)) (.int .i64 (i : Nat)) H = gE0 v0 v H := by
  intro k
  induction k with
  | zero =>
    intro i n hi hn
    obtain ⟨n, rfl⟩ : ∃ m, n = m + 1 := ⟨n - 1, by omega⟩
    have hd : decide (((i : Nat) : Int) < (l.length : Nat)) = false := decide_eq_false (by omega)
    rw [veneerlaw08CallTotalC0S, lbin_lss, ob_some, hd, cnd_false]
  | succ k ih =>
    intro i n hi hn
    obtain ⟨n, rfl⟩ : ∃ m, n = m + 1 := ⟨n - 1, by omega⟩
    have hd : decide (((i : Nat) : Int) < (l.length : Nat)) = true := decide_eq_true (by omega)
    have e1 := List.getElem?_eq_getElem (l := l) (i := i) (by omega)
    obtain ⟨b1, o1, x1, y1⟩ := hc.at e1
    have hmay : (l[i]).may = true := List.all_eq_true.1 hl _ (List.getElem_mem _)
    rw [veneerlaw08CallTotalC0S, lbin_lss, ob_some, hd, cnd_true, x1, ob_some, y1, ob_some, hm, ob_some]
    simp only
    rw [hmay, iun_not, ob_some, Bool.not_true, cnd_false, lbin_add, ob_some, wrap_i64 (by omega) (by omega)]
    rw [show (((i : Nat) : Int) + 1) = ((i + 1 : Nat) : Int) by omega]
    exact ih (i + 1) n (by omega) (by omega)
theorem total_loop0 {cal : FuncId → Bool} {φ : Oracle} {N : Nat} {aw d m : FuncId} (hm : MayOk φ m) {gE0 : IV → IV → Heap → Option (IV × Heap)} {H : Heap} {v0 v : IV} {l : List Cl} (hl : l.all Cl.may = true) (hc : CS H v l) (h200 : l.length ≤ 200) (n : Nat) (hn : l.length < n) :
    veneerlaw08CallTotalC0S cal φ N aw d m gE0 n v0 v (.int .i64 (l.length : Nat)) (.int .i64 0) H = gE0 v0 v H := total_loop hm hl hc h200 l.length 0 n (by omega) hn
theorem total_l {cal : FuncId → Bool} {φ : Oracle} {N : Nat} {aw d m : FuncId} (hN : 200 < N) (ha : AwakeOk φ aw) (hd : DecOk φ d) (hm : MayOk φ m) {H : Heap} {v : IV} {bs : List UInt8} (hv : v.one = true) (hl : low H.length v) (hb : BS H v bs) :
    ∃ H', veneerlaw08CallTotalS cal φ N aw d m v H = some (.bool true, H') := by
  unfold veneerlaw08CallTotalS veneerlaw08CallTotalC7S veneerlaw08CallTotalC6S veneerlaw08CallTotalC5S veneerlaw08CallTotalC4S veneerlaw08CallTotalC3S veneerlaw08CallTotalC2S veneerlaw08CallTotalC1S
  rw [ha, ob_some]
  simp only
  rw [iun_not, ob_some, Bool.not_true, cnd_false, hb.len, ob_some, lbin_gtr, ob_some]
  cases hbig : decide ((65536 : Int) < (bs.length : Nat))
  · rw [cnd_false, hd H v bs hv hl hb]
    have hlen := dec_len 200 bs
    have hle : decide ((((dec 200 bs).length : Nat) : Int) ≤ 200) = true := decide_eq_true (by omega)
    by_cases h0 : dec 200 bs = []
    · have hbs : bs = [] := dec_nil.1 h0
      subst hbs
      rw [if_pos h0, ob_some]
      simp only
      have hc : CS H .nilSlice [] := .inl ⟨rfl, rfl⟩
      rw [hc.len, ob_some]
      rw [total_loop0 (cal := cal) (N := N) (aw := aw) (d := d) hm (l := []) rfl hc (by simp) N (by simp; omega)]
      have hlb := hb.len
      refine ⟨H, ?_⟩
      have z1 : decide ((((([] : List Cl).length : Nat)) : Int) ≤ 200) = true := rfl
      have z2 : decide ((((([] : List Cl).length : Nat)) : Int) = 0) = true := rfl
      have z3 : decide ((((([] : List UInt8).length : Nat)) : Int) = 0) = true := rfl
      simp only [hc.len, ob_some, lbin_leq, z1, isB_tt, gq_true, lbin_eql, z2, hlb, z3, leq_bool, leqv_f, lpick_true]
      rfl
    · rw [if_neg h0, ob_some]
      simp only
      generalize hH1 : H ++ [IObj.row (flat7 (dec 200 bs)) false] = H1
      have r1 : H1[H.length]? = some (.row (flat7 (dec 200 bs)) false) := by rw [← hH1]; simp
      have hc : CS H1 (.slice H.length 0 (dec 200 bs).length (dec 200 bs).length false 7) (dec 200 bs) := Buf.calls (B := 0) (.inr ⟨_, _, false, rfl, by omega, r1, by rw [flat7_length]⟩)
      have hb1 : BS H1 v bs := hb.keep (fun i o hi => by rw [← hH1, List.getElem?_append_left (List.getElem?_eq_some_iff.1 hi).1]; exact hi)
      rw [hc.len, ob_some, total_loop0 (cal := cal) (N := N) (aw := aw) (d := d) hm (dec_may _ _) hc hlen N (by omega)]
      have hpos : 0 < (dec 200 bs).length := List.length_pos_iff.2 h0
      have hbpos : 0 < bs.length := List.length_pos_iff.2 (fun e => h0 (dec_nil.2 e))
      have z2 : decide ((((dec 200 bs).length : Nat) : Int) = 0) = false := decide_eq_false (by omega)
      have z3 : decide (((bs.length : Nat) : Int) = 0) = false := decide_eq_false (by omega)
      refine ⟨H1, ?_⟩
      simp only [hc.len, ob_some, lbin_leq, hle, isB_tt, gq_true, lbin_eql, z2, hb1.len, z3, leq_bool, leqv_f, lpick_true]
      rfl
  · exact ⟨H, by rw [cnd_true]⟩
end Go.Shade
