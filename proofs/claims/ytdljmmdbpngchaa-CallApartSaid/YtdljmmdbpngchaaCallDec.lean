/- CALL, part 4: decoding: the closures that read. -/
import Derived.Test.YtdljmmdbpngchaaCallSpec
namespace Go.Shade
set_option linter.unusedVariables false
set_option linter.unusedSimpArgs false

/-- A slice of bytes, wherever it lies: its bytes. -/
def BS (H : Heap) (v : IV) (bs : List UInt8) : Prop :=
  (v = .nilSlice ∧ bs = []) ∨ ∃ b o n lb ex sz, v = .slice b o n lb ex sz ∧ n ≤ lb ∧ (sz = 0 ∨ sz = 1) ∧ bs.length = n ∧ (0 < n → ∃ cells ro, H[b]? = some (.row cells ro) ∧ ∀ i, i < n → cells[o + i]? = some (.int .u8 ((bs.getD i 0).toNat : Int)))
def tailN (k : Nat) : IV → IV
  | .slice b o n lb ex sz => .slice b (o + min k n) (n - min k n) (lb - min k n) ex sz
  | v => v
def off (H : Heap) (p : Nat) (v : IV) : Prop := ∀ b o n lb ex sz, v = .slice b o n lb ex sz → b ≠ p
theorem BS.tail {H : Heap} {v : IV} {bs : List UInt8} (h : BS H v bs) (k : Nat) : BS H (tailN k v) (bs.drop k) := by
  rcases h with ⟨rfl, rfl⟩ | ⟨b, o, n, lb, ex, sz, rfl, h1, h2, h3, h4⟩
  · exact .inl ⟨rfl, by simp⟩
  · refine .inr ⟨b, o + min k n, n - min k n, lb - min k n, ex, sz, rfl, by omega, h2, by simp; omega, fun hn => ?_⟩
    obtain ⟨cells, ro, g1, g2⟩ := h4 (by omega)
    refine ⟨cells, ro, g1, fun i hi => ?_⟩
    have := g2 (min k n + i) (by omega)
    rw [Nat.add_assoc, this]
    have e : min k n = k := by omega
    simp only [e, List.getD_eq_getElem?_getD, List.getElem?_drop]
theorem BS.set {H : Heap} {v : IV} {bs : List UInt8} (h : BS H v bs) {p : Nat} (o : IObj) (hp : off H p v) : BS (H.set p o) v bs := by
  rcases h with ⟨rfl, rfl⟩ | ⟨b, o', n, lb, ex, sz, rfl, h1, h2, h3, h4⟩
  · exact .inl ⟨rfl, rfl⟩
  · refine .inr ⟨b, o', n, lb, ex, sz, rfl, h1, h2, h3, fun hn => ?_⟩
    obtain ⟨cells, ro, g1, g2⟩ := h4 hn
    exact ⟨cells, ro, by rw [List.getElem?_set_ne (Ne.symm (hp _ _ _ _ _ _ rfl))]; exact g1, g2⟩
theorem BS.keep {H H' : Heap} {v : IV} {bs : List UInt8} (h : BS H v bs) (hk : ∀ (i : Nat) o, H[i]? = some o → H'[i]? = some o) : BS H' v bs := by
  rcases h with ⟨rfl, rfl⟩ | ⟨b, o', n, lb, ex, sz, rfl, h1, h2, h3, h4⟩
  · exact .inl ⟨rfl, rfl⟩
  · refine .inr ⟨b, o', n, lb, ex, sz, rfl, h1, h2, h3, fun hn => ?_⟩
    obtain ⟨cells, ro, g1, g2⟩ := h4 hn
    exact ⟨cells, ro, hk _ _ g1, g2⟩
theorem off_tail {H : Heap} {p k : Nat} {v : IV} (h : off H p v) : off H p (tailN k v) := by
  intro b o n lb ex sz e
  cases v <;> simp only [tailN] at e <;> first | (cases e; done) | skip
  cases e; exact h _ _ _ _ _ _ rfl
theorem tailN_tailN (j k : Nat) (v : IV) : tailN k (tailN j v) = tailN (j + k) v := by
  cases v <;> simp only [tailN]
  rename_i b o n lb ex sz
  congr 1 <;> omega
theorem tailN_zero (v : IV) : tailN 0 v = v := by cases v <;> simp [tailN]
/-- Reading one byte; 0 where there is none. -/
theorem one_s {cal : FuncId → Bool} {φ : Oracle} {N : Nat} {H : Heap} {p : Nat} {v : IV} {bs : List UInt8} (hp : H[p]? = some (.row [v] false)) (hb : BS H v bs) :
    callDecode1S cal φ N (.ptr p 0) H = some (.int .i64 ((bs.getD 0 0).toNat : Int), H.set p (.row [tailN 1 v] false)) := by
  unfold callDecode1S
  have hl : lload1 H (.ptr p 0) = some v := by rw [lload1_ptr, hp]; rfl
  have hself : H.set p (.row [v] false) = H := by
    apply List.ext_getElem?
    intro i
    rw [List.getElem?_set]
    split
    · rename_i e; subst e; split
      · exact hp.symm
      · rename_i hlt; rw [List.getElem?_eq_none (by omega)]
    · rfl
  rw [hl, ob_some]
  rcases hb with ⟨rfl, rfl⟩ | ⟨b, o, n, lb, ex, sz, rfl, h1, h2, h3, h4⟩
  · rw [llen_nil, ob_some, lbin_eql, ob_some]
    simp only [decide_true, cnd_true, tailN, hself]
    rfl
  · rw [llen_slice, ob_some, lbin_eql, ob_some]
    by_cases h0 : n = 0
    · subst h0
      have : bs = [] := List.length_eq_zero_iff.1 h3
      subst this
      simp only [Int.natCast_zero, decide_true, cnd_true, tailN, Nat.min_zero, Nat.add_zero, Nat.sub_zero, hself]
      rfl
    · have hd : decide ((n : Int) = 0) = false := decide_eq_false (by omega)
      rw [hd, cnd_false, ob_some, lix_slice, if_pos (by omega), ob_some]
      obtain ⟨cells, ro, g1, g2⟩ := h4 (by omega)
      have hx : lload1 H (.ptr b (o + (0 : Int).toNat * 1)) = some (.int .u8 ((bs.getD 0 0).toNat : Int)) := by
        rw [lload1_ptr, g1, og1_row]; exact g2 0 (by omega)
      rw [hx, ob_some, ob_some]
      have hs : lslice H (.slice 1) (.slice b o n lb ex sz) (some (.int .i64 1)) none none = some (.slice b (o + 1) (n - 1) (lb - 1) ex sz) := by
        have e1 : bnd n none = some n := rfl
        have e2 : bnd 0 (some (.int .i64 1)) = some 1 := rfl
        simp only [lslice, e1, e2, Option.bind_some]
        rw [if_neg (by omega), if_pos (by omega)]
      rw [hs, ob_some, lstV_ptr, hp, putO_one rfl (by simp), ob_some, ob_some, lcvt_int, ob_some]
      have hw : IntKind.wrap .i64 ((bs.getD 0 0).toNat : Int) = ((bs.getD 0 0).toNat : Int) := wrap_i64 (by omega) (by have := (bs.getD 0 0).toNat_lt; omega)
      simp only [hw, List.set_cons_zero, tailN, Nat.min_eq_left (show 1 ≤ n by omega)]

/-- The closures, as they are handed on: 'one' reads, 'two' and 'text' call it. -/
def OneOk (φ : Oracle) (f1 : FuncId) : Prop := ∀ (H : Heap) (p : Nat) (v : IV) (bs : List UInt8), H[p]? = some (.row [v] false) → BS H v bs → φ f1 [.ptr p 0] H = some (.int .i64 ((bs.getD 0 0).toNat : Int), H.set p (.row [tailN 1 v] false))
theorem set_same {H : Heap} {p : Nat} {o : IObj} (hp : H[p]? = some o) : H.set p o = H := by
  apply List.ext_getElem?
  intro i
  rw [List.getElem?_set]
  split
  · rename_i e; subst e; split
    · exact hp.symm
    · rename_i hlt; rw [List.getElem?_eq_none (by omega)]
  · rfl
theorem set_at {H : Heap} {p : Nat} {o o' : IObj} (hp : H[p]? = some o) : (H.set p o')[p]? = some o' := by
  rw [List.getElem?_set]; rw [if_pos rfl, if_pos (List.getElem?_eq_some_iff.1 hp).1]
theorem getD_drop (bs : List UInt8) (k : Nat) : (bs.drop k).getD 0 0 = bs.getD k 0 := by
  simp [List.getD_eq_getElem?_getD]
def OneF (f1 : FuncId) (p : Nat) : IV := .func (.func f1) [] [.ptr p 0]
theorem two_s {cal : FuncId → Bool} {φ : Oracle} {N : Nat} {H : Heap} {f1 p q : Nat} {v : IV} {bs : List UInt8} (hc : cal f1 = true) (h1 : OneOk φ f1) (hq : H[q]? = some (.row [OneF f1 p] false)) (hp : H[p]? = some (.row [v] false)) (hpq : q ≠ p) (ho : off H p v) (hb : BS H v bs) :
    callDecode2S cal φ N (.ptr q 0) H = some (.int .i64 (((bs.getD 0 0).toNat : Int) * 256 + ((bs.getD 1 0).toNat : Int) - 256), H.set p (.row [tailN 2 v] false)) := by
  unfold callDecode2S
  have hl : lload1 H (.ptr q 0) = some (OneF f1 p) := by rw [lload1_ptr, hq]; rfl
  have hcall : ∀ {H' : Heap}, lcallV cal φ H' (OneF f1 p) [] = φ f1 [.ptr p 0] H' := fun {H'} => by unfold OneF; rw [lcallV_func hc]; rfl
  rw [hl, ob_some, hcall, h1 H p v bs hp hb, ob_some]
  have hp1 : (H.set p (.row [tailN 1 v] false))[p]? = some (.row [tailN 1 v] false) := set_at hp
  have hb1 : BS (H.set p (.row [tailN 1 v] false)) (tailN 1 v) (bs.drop 1) := (hb.tail 1).set _ (off_tail (H := H) ho)
  have hl1 : lload1 (H.set p (.row [tailN 1 v] false)) (.ptr q 0) = some (OneF f1 p) := by rw [lload1_ptr, List.getElem?_set_ne (Ne.symm hpq), hq]; rfl
  have ht : (bs.getD 0 0).toNat < 256 := (bs.getD 0 0).toNat_lt
  have ht1 : (bs.getD 1 0).toNat < 256 := (bs.getD 1 0).toNat_lt
  have hshl : lbin .shl (.int .i64 ((bs.getD 0 0).toNat : Int)) (.int .u64 8) = some (.int .i64 (((bs.getD 0 0).toNat : Int) * 256)) := by
    simp only [lbin, ishift]
    rw [if_neg (by decide)]
    have : (2 : Int) ^ (min (8 : Int).toNat IntKind.i64.bits) = 256 := by simp [IntKind.bits]
    rw [this, wrap_i64 (by omega) (by omega)]
  simp only
  rw [hshl, ob_some, hl1, ob_some, hcall, h1 _ p _ _ hp1 hb1, ob_some]
  simp only
  have w1 : IntKind.wrap .i64 (((bs.getD 0 0).toNat : Int) * 256 + ((bs.getD 1 0).toNat : Int)) = ((bs.getD 0 0).toNat : Int) * 256 + ((bs.getD 1 0).toNat : Int) := wrap_i64 (by omega) (by omega)
  have w2 : IntKind.wrap .i64 (((bs.getD 0 0).toNat : Int) * 256 + ((bs.getD 1 0).toNat : Int) + -256) = ((bs.getD 0 0).toNat : Int) * 256 + ((bs.getD 1 0).toNat : Int) - 256 := wrap_i64 (by omega) (by omega)
  rw [lbin_add, ob_some, lbin_add, ob_some, getD_drop, w1, w2, tailN_tailN, List.set_set]

def low (B : Nat) (v : IV) : Prop := ∀ b o n lb ex sz, v = .slice b o n lb ex sz → b < B
theorem low_tail {B k : Nat} {v : IV} (h : low B v) : low B (tailN k v) := by
  intro b o n lb ex sz e
  cases v <;> simp only [tailN] at e <;> first | (cases e; done) | skip
  cases e; exact h _ _ _ _ _ _ rfl
theorem BS.keepB {B : Nat} {H H' : Heap} {v : IV} {bs : List UInt8} (h : BS H v bs) (hl : low B v) (hk : ∀ i, i < B → H'[i]? = H[i]?) : BS H' v bs := by
  rcases h with ⟨rfl, rfl⟩ | ⟨b, o', n, lb, ex, sz, rfl, h1, h2, h3, h4⟩
  · exact .inl ⟨rfl, rfl⟩
  · refine .inr ⟨b, o', n, lb, ex, sz, rfl, h1, h2, h3, fun hn => ?_⟩
    obtain ⟨cells, ro, g1, g2⟩ := h4 hn
    exact ⟨cells, ro, by rw [hk b (hl _ _ _ _ _ _ rfl)]; exact g1, g2⟩
theorem keep_set {B p : Nat} {H H' : Heap} {o : IObj} (h : ∀ i, i < B → i ≠ p → H'[i]? = H[i]?) (hl : H.length ≤ H'.length) (hp : p < H.length) : Keep B (H.set p o) (H'.set p o) := by
  refine ⟨fun i hi => ?_, by simpa using hl⟩
  rw [List.getElem?_set, List.getElem?_set]
  by_cases e : p = i
  · subst e; rw [if_pos rfl, if_pos rfl, if_pos (by omega), if_pos hp]
  · rw [if_neg e, if_neg e]; exact h i hi (Ne.symm e)
theorem ub_toNat (x : UInt8) : ub (x.toNat : Int) = x := by
  unfold ub
  have := x.toNat_lt
  have e : ((x.toNat : Int) % 256).toNat = x.toNat := by omega
  rw [e]; simp
theorem text_loop {cal : FuncId → Bool} {φ : Oracle} {N : Nat} {f1 p q B : Nat} {gE0 : IV → Heap → Option (IV × Heap)} (hc : cal f1 = true) (h1 : OneOk φ f1) (hpq : q ≠ p) (hpB : p < B) (hqB : q < B) :
    ∀ (k n : Nat) (H : Heap) (v v2 : IV) (bs acc : List UInt8), k < n → H[q]? = some (.row [OneF f1 p] false) → H[p]? = some (.row [v] false) → B ≤ H.length → off H p v → low B v → BS H v bs → Buf B 1 H v2 (bytes acc) → acc.length + k ≤ 1000 →
    ∃ v2' H', callDecode3C0S cal φ N gE0 n (.ptr q 0) v2 (.int .i64 (k : Int)) H = gE0 v2' H' ∧ Buf B 1 H' v2' (bytes (acc ++ (List.range k).map fun i => bs.getD i 0)) ∧ Keep B (H.set p (.row [tailN k v] false)) H' := by
  intro k
  induction k with
  | zero =>
    intro n H v v2 bs acc hn hq hp hB ho hlow hb hv2 hk
    obtain ⟨n, rfl⟩ : ∃ m, n = m + 1 := ⟨n - 1, by omega⟩
    refine ⟨v2, H, ?_, by simpa using hv2, ?_⟩
    · rw [callDecode3C0S, lbin_gtr, ob_some]; rfl
    · rw [tailN_zero, set_same hp]; exact Keep.refl _ _
  | succ k ih =>
    intro n H v v2 bs acc hn hq hp hB ho hlow hb hv2 hk
    obtain ⟨n, rfl⟩ : ∃ m, n = m + 1 := ⟨n - 1, by omega⟩
    have hl : lload1 H (.ptr q 0) = some (OneF f1 p) := by rw [lload1_ptr, hq]; rfl
    have hcall : ∀ {H' : Heap}, lcallV cal φ H' (OneF f1 p) [] = φ f1 [.ptr p 0] H' := fun {H'} => by unfold OneF; rw [lcallV_func hc]; rfl
    have hplt : p < H.length := by omega
    have hgt : decide ((0 : Int) < ((k + 1 : Nat) : Int)) = true := decide_eq_true (by omega)
    rw [callDecode3C0S, lbin_gtr, ob_some, hgt, cnd_true, hl, ob_some, hcall, h1 H p v bs hp hb, ob_some]
    simp only
    rw [lcvt_int, ob_some, wrap_u8, ub_toNat]
    generalize hH1 : H.set p (.row [tailN 1 v] false) = H1
    have hH1p : H1[p]? = some (.row [tailN 1 v] false) := by rw [← hH1]; exact set_at hp
    have hH1len : H1.length = H.length := by rw [← hH1]; simp
    have hH1i : ∀ i, i ≠ p → H1[i]? = H[i]? := fun i hi => by rw [← hH1, List.getElem?_set_ne (Ne.symm hi)]
    have hbl : lbldS H1 1 1 [.int .u8 0] [(0, .int .u8 ((bs.getD 0 0).toNat : Int))] = some (.slice H1.length 0 1 1 true 1, H1 ++ [.row (bytes [bs.getD 0 0]) false]) := rfl
    rw [hbl, ob_some]
    have hv2' : Buf B 1 (H1 ++ [.row (bytes [bs.getD 0 0]) false]) v2 (bytes acc) := by
      rcases hv2 with h | ⟨r, m, ex, e, g1, g2, g3⟩
      · exact .inl h
      · refine .inr ⟨r, m, ex, e, g1, ?_, g3⟩
        have hr := (List.getElem?_eq_some_iff.1 g2).1
        rw [List.getElem?_append_left (by omega), hH1i r (by omega)]; exact g2
    have hx : Buf 0 1 (H1 ++ [.row (bytes [bs.getD 0 0]) false]) (.slice H1.length 0 1 1 true 1) (bytes [bs.getD 0 0]) := .inr ⟨_, 1, true, rfl, by omega, by simp, rfl⟩
    obtain ⟨v3, H3, a3, b3, k3⟩ := app_own (b := 1) hv2' (by simp; omega) (by omega) hx (bytes_one _) (by simp [bytes_length]; omega)
    simp only at a3 ⊢
    rw [a3, ob_some, lbin_sub, ob_some]
    have hki : IntKind.wrap .i64 (((k + 1 : Nat) : Int) - 1) = (k : Int) := by rw [wrap_i64 (by omega) (by omega)]; omega
    rw [hki]
    have h3i : ∀ i, i < B → H3[i]? = H1[i]? := fun i hi => by rw [k3.1 i hi, List.getElem?_append_left (by omega)]
    have h3len : H.length ≤ H3.length := by have := k3.2; simp at this; omega
    rw [← bytes_append] at b3
    obtain ⟨v4, H4, a4, b4, k4⟩ := ih n H3 (tailN 1 v) v3 (bs.drop 1) (acc ++ [bs.getD 0 0]) (by omega) (by rw [h3i q hqB, hH1i q hpq]; exact hq) (by rw [h3i p hpB]; exact hH1p) (by omega) (off_tail (H := H) ho) (low_tail hlow)
      (((hb.tail 1).set (.row [tailN 1 v] false) (off_tail (H := H) ho)).keepB (low_tail hlow) (by rw [hH1]; exact h3i)) b3 (by simp; omega)
    refine ⟨v4, H4, a4, ?_, ?_⟩
    · have e : acc ++ [bs.getD 0 0] ++ (List.range k).map (fun i => (bs.drop 1).getD i 0) = acc ++ (List.range (k + 1)).map (fun i => bs.getD i 0) := by
        rw [List.append_assoc, List.range_succ_eq_map]
        congr 1
        simp only [List.map_cons, List.map_map, List.cons_append, List.nil_append]
        congr 1
        apply List.map_congr_left
        intro i _
        simp [List.getD_eq_getElem?_getD, Nat.add_comm]
      rw [← e]; exact b4
    · rw [tailN_tailN, Nat.add_comm 1 k] at k4
      refine Keep.trans ?_ k4
      exact keep_set (fun i hi hne => by rw [h3i i hi, hH1i i hne]) h3len hplt

theorem b2s_buf {B : Nat} {H : Heap} {v : IV} {l : List UInt8} (h : Buf B 1 H v (bytes l)) : lb2s H v = some (.str l) := by
  rcases h with ⟨rfl, e⟩ | ⟨r, n, ex, rfl, g1, g2, g3⟩
  · have : l = [] := by cases l <;> simp [bytes] at e ⊢
    subst this; rfl
  · have := Buf.cells (B := B) (s := 1) (H := H) (v := .slice r 0 n n ex 1) (cs := bytes l) (.inr ⟨r, n, ex, rfl, g1, g2, g3⟩) (n := n) rfl
    simp only [lb2s, this, Option.bind_some, ibytes_bytes]
/-- What a text's bytes tell. -/
def rdText (bs : List UInt8) : List UInt8 := (List.range ((bs.getD 0 0).toNat % 64)).map fun i => bs.getD (i + 1) 0
def TextN (bs : List UInt8) : Nat := (bs.getD 0 0).toNat % 64 + 1
theorem text_s {cal : FuncId → Bool} {φ : Oracle} {N : Nat} {f1 p q : Nat} {H : Heap} {v : IV} {bs : List UInt8} (hN : 64 < N) (hc : cal f1 = true) (h1 : OneOk φ f1) (hpq : q ≠ p) (hq : H[q]? = some (.row [OneF f1 p] false)) (hp : H[p]? = some (.row [v] false)) (ho : off H p v) (hlow : low H.length v) (hb : BS H v bs) :
    ∃ H', callDecode3S cal φ N (.ptr q 0) H = some (.str (rdText bs), H') ∧ Keep H.length (H.set p (.row [tailN (TextN bs) v] false)) H' := by
  have hpl := (List.getElem?_eq_some_iff.1 hp).1
  have hql := (List.getElem?_eq_some_iff.1 hq).1
  have hl : lload1 H (.ptr q 0) = some (OneF f1 p) := by rw [lload1_ptr, hq]; rfl
  have hcall : ∀ {H' : Heap}, lcallV cal φ H' (OneF f1 p) [] = φ f1 [.ptr p 0] H' := fun {H'} => by unfold OneF; rw [lcallV_func hc]; rfl
  unfold callDecode3S callDecode3C5S callDecode3C4S callDecode3C3S callDecode3C2S callDecode3C1S
  rw [hl, ob_some, hcall, h1 H p v bs hp hb, ob_some]
  simp only
  rw [lbin_rem (by decide), ob_some]
  have hmod : ((bs.getD 0 0).toNat : Int).tmod 64 = (((bs.getD 0 0).toNat % 64 : Nat) : Int) := by
    rw [Int.tmod_eq_emod_of_nonneg (by omega)]; omega
  rw [hmod]
  generalize hH1 : H.set p (.row [tailN 1 v] false) = H1
  have hH1p : H1[p]? = some (.row [tailN 1 v] false) := by rw [← hH1]; exact set_at hp
  have hH1len : H1.length = H.length := by rw [← hH1]; simp
  have hH1i : ∀ i, i ≠ p → H1[i]? = H[i]? := fun i hi => by rw [← hH1, List.getElem?_set_ne (Ne.symm hi)]
  obtain ⟨v4, H4, a4, b4, k4⟩ := text_loop (cal := cal) (φ := φ) (N := N) (gE0 := fun v2 H => ob (lb2s H v2) fun t1 => some (t1, H)) (B := H.length) hc h1 hpq hpl hql ((bs.getD 0 0).toNat % 64) N H1 (tailN 1 v) .nilSlice (bs.drop 1) [] (by omega)
    (by rw [hH1i q hpq]; exact hq) hH1p (by omega) (off_tail (H := H) ho) (low_tail hlow) (by rw [← hH1]; exact (hb.tail 1).set _ (off_tail (H := H) ho)) (.inl ⟨rfl, rfl⟩) (by simp; omega)
  refine ⟨H4, ?_, ?_⟩
  · rw [a4]
    simp only [b2s_buf b4, ob_some]
    congr 3
    simp only [List.nil_append, rdText]
    congr 1
    funext i
    simp [List.getD_eq_getElem?_getD, Nat.add_comm]
  · rw [← hH1, List.set_set, tailN_tailN] at k4
    have : TextN bs = 1 + (bs.getD 0 0).toNat % 64 := by unfold TextN; omega
    rw [this]; exact k4
end Go.Shade
