/- CALL, part 3: what the functions of the layer 'call' come to. -/
import Derived.Test.YtdljmmdbpngchaaCallCode
import Derived.Test.YtdljmmdbpngchaaShadeBuf
namespace Go.Shade
set_option linter.unusedVariables false
set_option linter.unusedSimpArgs false
theorem within_s {cal : FuncId → Bool} {φ : Oracle} {N : Nat} (a lo hi : Int) (H : Heap) : callWithinS cal φ N (.int .i64 a) (.int .i64 lo) (.int .i64 hi) H = some (.bool (decide (lo ≤ a) && decide (a ≤ hi)), H) := by
  unfold callWithinS
  cases h1 : decide (lo ≤ a) <;> simp only [go_sem, h1]
/-- A call, as numbers and texts. -/
structure Cl where
  op : Int
  fd : Int
  fl : Int
  n : Int
  off : Int
  a : List UInt8
  b : List UInt8
  deriving DecidableEq
def Cl.cells (c : Cl) : List IV := [.int .i64 c.op, .int .i64 c.fd, .int .i64 c.fl, .int .i64 c.n, .int .i64 c.off, .str c.a, .str c.b]
def Cl.may (c : Cl) : Bool := (decide (1 ≤ c.op) && decide (c.op ≤ 20)) && ((decide (-4 ≤ c.fd) && decide (c.fd ≤ 35)) && ((decide (0 ≤ c.fl) && decide (c.fl ≤ 63)) && ((decide (-256 ≤ c.n) && decide (c.n ≤ 65279)) && ((decide (-256 ≤ c.off) && decide (c.off ≤ 65279)) && (decide ((c.a.length : Int) < 64) && decide ((c.b.length : Int) < 64))))))
def WithinOk (φ : Oracle) (w : FuncId) : Prop := ∀ (a lo hi : Int) (H : Heap), φ w [.int .i64 a, .int .i64 lo, .int .i64 hi] H = some (.bool (decide (lo ≤ a) && decide (a ≤ hi)), H)
theorem may_s {cal : FuncId → Bool} {φ : Oracle} {N : Nat} {w : FuncId} (hw : WithinOk φ w) (c : Cl) (H : Heap) : callMayS cal φ N w (.agg c.cells) H = some (.bool c.may, H ++ [IObj.row c.cells false]) := by
  unfold callMayS Cl.may
  have hb : lbox H (.agg c.cells) = some (.ptr H.length 0, H ++ [IObj.row c.cells false]) := lbox_agg rfl
  unfold WithinOk at hw
  simp only [hb, hw, go_sem]
  cases h1 : (decide (1 ≤ c.op) && decide (c.op ≤ 20))
  · simp only [go_sem, Cl.cells, hw, h1]
  cases h2 : (decide (-4 ≤ c.fd) && decide (c.fd ≤ 35))
  · simp only [go_sem, Cl.cells, hw, h1, h2]
  cases h3 : (decide (0 ≤ c.fl) && decide (c.fl ≤ 63))
  · simp only [go_sem, Cl.cells, hw, h1, h2, h3]
  cases h4 : (decide (-256 ≤ c.n) && decide (c.n ≤ 65279))
  · simp only [go_sem, Cl.cells, hw, h1, h2, h3, h4]
  cases h5 : (decide (-256 ≤ c.off) && decide (c.off ≤ 65279))
  · simp only [go_sem, Cl.cells, hw, h1, h2, h3, h4, h5]
  cases h6 : decide ((c.a.length : Int) < 64)
  · simp only [go_sem, Cl.cells, hw, h1, h2, h3, h4, h5, h6]
  simp only [go_sem, Cl.cells, hw, h1, h2, h3, h4, h5, h6]

/-! ### encoding -/
def ub (x : Int) : UInt8 := UInt8.ofNat (x % 256).toNat
theorem wrap_u8 (x : Int) : IntKind.wrap .u8 x = ((ub x).toNat : Int) := by
  have h : IntKind.wrap .u8 x = x % 256 := by unfold IntKind.wrap; simp [IntKind.bits, IntKind.signed]
  rw [h]
  simp only [ub, UInt8.toNat_ofNat']
  omega
theorem wrap_i64 {x : Int} (h1 : -9223372036854775808 ≤ x) (h2 : x < 9223372036854775808) : IntKind.wrap .i64 x = x := by
  have h : IntKind.wrap .i64 x = if x % 18446744073709551616 ≥ 9223372036854775808 then x % 18446744073709551616 - 18446744073709551616 else x % 18446744073709551616 := by
    unfold IntKind.wrap; simp [IntKind.bits, IntKind.signed]
  rw [h]
  split <;> omega
theorem shr8 {a : Int} : lbin .shr (.int .i64 a) (.int .u64 8) = some (.int .i64 (a / 256)) := by
  simp only [lbin, ishift]
  rw [if_neg (by decide)]
  have : (2 : Int) ^ (min (8 : Int).toNat IntKind.i64.bits) = 256 := by simp [IntKind.bits]
  rw [this, Int.fdiv_eq_ediv_of_nonneg _ (by decide)]
def Cl.enc (c : Cl) : List UInt8 := [ub (c.op - 1), ub (c.fd + 4), ub c.fl, ub ((c.n + 256) / 256), ub (c.n + 256), ub ((c.off + 256) / 256), ub (c.off + 256), ub c.a.length] ++ c.a ++ ([ub c.b.length] ++ c.b)
def MayOk (φ : Oracle) (f : FuncId) : Prop := ∀ (c : Cl) (H : Heap), φ f [.agg c.cells] H = some (.bool c.may, H)
theorem Cl.c0 (c : Cl) : c.cells[0]? = some (.int .i64 c.op) := rfl
theorem Cl.c1 (c : Cl) : c.cells[1]? = some (.int .i64 c.fd) := rfl
theorem Cl.c2 (c : Cl) : c.cells[2]? = some (.int .i64 c.fl) := rfl
theorem Cl.c3 (c : Cl) : c.cells[3]? = some (.int .i64 c.n) := rfl
theorem Cl.c4 (c : Cl) : c.cells[4]? = some (.int .i64 c.off) := rfl
theorem Cl.c5 (c : Cl) : c.cells[5]? = some (.str c.a) := rfl
theorem Cl.c6 (c : Cl) : c.cells[6]? = some (.str c.b) := rfl
theorem Cl.may_iff (c : Cl) : c.may = true ↔ (1 ≤ c.op ∧ c.op ≤ 20) ∧ (-4 ≤ c.fd ∧ c.fd ≤ 35) ∧ (0 ≤ c.fl ∧ c.fl ≤ 63) ∧ (-256 ≤ c.n ∧ c.n ≤ 65279) ∧ (-256 ≤ c.off ∧ c.off ≤ 65279) ∧ (c.a.length : Int) < 64 ∧ (c.b.length : Int) < 64 := by
  simp only [Cl.may, Bool.and_eq_true, decide_eq_true_eq]
theorem enc_no {cal : FuncId → Bool} {φ : Oracle} {N : Nat} {f : FuncId} (hm : MayOk φ f) {c : Cl} (h : c.may = false) (H : Heap) : callEncodeS cal φ N f (.agg c.cells) H = some (.tuple [.nilSlice, .int .i64 22], H ++ [IObj.row c.cells false]) := by
  unfold callEncodeS
  unfold MayOk at hm
  have hb : lbox H (.agg c.cells) = some (.ptr H.length 0, H ++ [IObj.row c.cells false]) := lbox_agg rfl
  have hl : lloadn (H ++ [IObj.row c.cells false]) 7 (.ptr H.length 0) = some (.agg c.cells) := by
    rw [lloadn_ptr, at_new]; rfl
  rw [hb, ob_some]
  simp only
  rw [hl, ob_some, hm, ob_some]
  simp only
  rw [h, iun_not, ob_some]
  rfl
theorem enc_yes {cal : FuncId → Bool} {φ : Oracle} {N : Nat} {f : FuncId} (hm : MayOk φ f) {c : Cl} (h : c.may = true) (H : Heap) :
    ∃ v H', callEncodeS cal φ N f (.agg c.cells) H = some (.tuple [v, .int .i64 0], H') ∧ Buf (H.length + 1) 1 H' v (bytes c.enc) ∧ Keep (H.length + 1) (H ++ [IObj.row c.cells false]) H' := by
  unfold callEncodeS
  unfold MayOk at hm
  obtain ⟨⟨m1, m2⟩, ⟨m3, m4⟩, ⟨m5, m6⟩, ⟨m7, m8⟩, ⟨m9, m10⟩, m11, m12⟩ := c.may_iff.1 h
  have hb : lbox H (.agg c.cells) = some (.ptr H.length 0, H ++ [IObj.row c.cells false]) := lbox_agg rfl
  have hl : lloadn (H ++ [IObj.row c.cells false]) 7 (.ptr H.length 0) = some (.agg c.cells) := by
    rw [lloadn_ptr, at_new]; rfl
  have hcell : ∀ {H' : Heap}, H'[H.length]? = some (.row c.cells false) → ∀ k, lload1 H' (.ptr H.length k) = c.cells[k]? := by
    intro H' e k; rw [lload1_ptr, e]; rfl
  have h0 : (H ++ [IObj.row c.cells false])[H.length]? = some (.row c.cells false) := by rw [at_new]; rfl
  have w1 : IntKind.wrap .i64 (c.n - (-256)) = c.n + 256 := by rw [wrap_i64 (by omega) (by omega)]; omega
  have w2 : IntKind.wrap .i64 (c.off - (-256)) = c.off + 256 := by rw [wrap_i64 (by omega) (by omega)]; omega
  have w3 : IntKind.wrap .i64 (c.op - 1) = c.op - 1 := wrap_i64 (by omega) (by omega)
  have w4 : IntKind.wrap .i64 (c.fd - (-4)) = c.fd + 4 := by rw [wrap_i64 (by omega) (by omega)]; omega
  rw [hb, ob_some]
  simp only
  rw [hl, ob_some, hm, ob_some]
  simp only
  rw [h, iun_not, ob_some]
  simp only [Bool.not_true]
  rw [cnd_false]
  simp only [loff_ptr, Nat.zero_add, ob_some, hcell h0, Cl.c0, Cl.c1, Cl.c2, Cl.c3, Cl.c4, Cl.c5, Cl.c6, lbin_sub, w1, w2, w3, w4]
  simp only [lcvt_int, ob_some, shr8, wrap_u8, llen_str]
  have hbl : lbldS (H ++ [IObj.row c.cells false]) 1 8 [.int .u8 0] [(0, .int .u8 ((ub (c.op - 1)).toNat : Int)), (1, .int .u8 ((ub (c.fd + 4)).toNat : Int)), (2, .int .u8 ((ub c.fl).toNat : Int)), (3, .int .u8 ((ub ((c.n + 256) / 256)).toNat : Int)), (4, .int .u8 ((ub (c.n + 256)).toNat : Int)), (5, .int .u8 ((ub ((c.off + 256) / 256)).toNat : Int)), (6, .int .u8 ((ub (c.off + 256)).toNat : Int)), (7, .int .u8 ((ub c.a.length).toNat : Int))] =
      some (.slice (H ++ [IObj.row c.cells false]).length 0 8 8 true 1, (H ++ [IObj.row c.cells false]) ++ [.row (bytes [ub (c.op - 1), ub (c.fd + 4), ub c.fl, ub ((c.n + 256) / 256), ub (c.n + 256), ub ((c.off + 256) / 256), ub (c.off + 256), ub c.a.length]) false]) := rfl
  rw [hbl, ob_some]
  have k0 : Keep (H.length + 1) (H ++ [IObj.row c.cells false]) ((H ++ [IObj.row c.cells false]) ++ [IObj.row (bytes [ub (c.op - 1), ub (c.fd + 4), ub c.fl, ub ((c.n + 256) / 256), ub (c.n + 256), ub ((c.off + 256) / 256), ub (c.off + 256), ub c.a.length]) false]) := Keep.push _ _ (by simp)
  have b0 : Buf (H.length + 1) 1 ((H ++ [IObj.row c.cells false]) ++ [IObj.row (bytes [ub (c.op - 1), ub (c.fd + 4), ub c.fl, ub ((c.n + 256) / 256), ub (c.n + 256), ub ((c.off + 256) / 256), ub (c.off + 256), ub c.a.length]) false]) (.slice (H ++ [IObj.row c.cells false]).length 0 8 8 true 1) (bytes [ub (c.op - 1), ub (c.fd + 4), ub c.fl, ub ((c.n + 256) / 256), ub (c.n + 256), ub ((c.off + 256) / 256), ub (c.off + 256), ub c.a.length]) :=
    .inr ⟨_, 8, true, rfl, by simp, by simp, rfl⟩
  generalize (H ++ [IObj.row c.cells false]) ++ [IObj.row (bytes [ub (c.op - 1), ub (c.fd + 4), ub c.fl, ub ((c.n + 256) / 256), ub (c.n + 256), ub ((c.off + 256) / 256), ub (c.off + 256), ub c.a.length]) false] = H1 at k0 b0 ⊢
  generalize (IV.slice (H ++ [IObj.row c.cells false]).length 0 8 8 true 1) = v1 at b0 ⊢
  have hB : ∀ {H' : Heap}, Keep (H.length + 1) (H ++ [IObj.row c.cells false]) H' → H.length + 1 ≤ H'.length := fun k => by have := k.2; simp at this; exact this
  have hC : ∀ {H' : Heap}, Keep (H.length + 1) (H ++ [IObj.row c.cells false]) H' → H'[H.length]? = some (.row c.cells false) := fun k => k.get (by omega) h0
  simp only [hcell (hC k0), Cl.c5, ob_some]
  obtain ⟨v2, H2, a1, b1, k1⟩ := app_str (b := 1) (l := c.a) b0 (hB k0) (by simp [bytes_length]; omega)
  have k1 := k0.trans k1
  rw [a1, ob_some]
  simp only [hcell (hC k1), Cl.c6, ob_some, llen_str, lcvt_int, wrap_u8]
  have hbl2 : lbldS H2 1 1 [.int .u8 0] [(0, .int .u8 ((ub c.b.length).toNat : Int))] = some (.slice H2.length 0 1 1 true 1, H2 ++ [.row (bytes [ub c.b.length]) false]) := rfl
  rw [hbl2, ob_some]
  have k2 : Keep (H.length + 1) H2 (H2 ++ [.row (bytes [ub c.b.length]) false]) := Keep.push _ _ (hB k1)
  have b2 : Buf 0 1 (H2 ++ [.row (bytes [ub c.b.length]) false]) (.slice H2.length 0 1 1 true 1) (bytes [ub c.b.length]) := .inr ⟨_, 1, true, rfl, by omega, by simp, rfl⟩
  have b1' : Buf (H.length + 1) 1 (H2 ++ [.row (bytes [ub c.b.length]) false]) v2 _ := b1.keep (Keep.push (B := H2.length) H2 [.row (bytes [ub c.b.length]) false] (Nat.le_refl _)) (fun r n m ex e => by
    rcases b1 with ⟨e', _⟩ | ⟨r', n', ex', e', _, hr, _⟩
    · rw [e] at e'; cases e'
    · rw [e] at e'; cases e'; exact (List.getElem?_eq_some_iff.1 hr).1)
  have k2' := k1.trans k2
  obtain ⟨v3, H3, a3, b3, k3⟩ := app_own (b := 1) b1' (hB k2') (by omega) b2 (bytes_one _) (by simp [bytes_length]; omega)
  have k3 := k2'.trans k3
  simp only at a3 ⊢
  rw [a3, ob_some]
  simp only [hcell (hC k3), Cl.c6, ob_some]
  obtain ⟨v4, H4, a4, b4, k4⟩ := app_str (b := 1) (l := c.b) b3 (hB k3) (by simp [bytes_length]; omega)
  rw [a4, ob_some]
  refine ⟨v4, H4, rfl, ?_, k3.trans k4⟩
  have : bytes c.enc = bytes [ub (c.op - 1), ub (c.fd + 4), ub c.fl, ub ((c.n + 256) / 256), ub (c.n + 256), ub ((c.off + 256) / 256), ub (c.off + 256), ub c.a.length] ++ bytes c.a ++ bytes [ub c.b.length] ++ bytes c.b := by
    simp only [Cl.enc, ← bytes_append, List.append_assoc]
  rw [this]; exact b4
end Go.Shade
