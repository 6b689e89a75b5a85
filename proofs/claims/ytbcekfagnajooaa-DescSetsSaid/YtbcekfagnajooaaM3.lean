/- SHADE, part 38: what stays, slices of any kind, rows. -/
import Derived.Test.YtbcekfagnajooaaM2
import Derived.Test.YtbcekfagnajooaaM0
import Derived.ProofKit
import Derived.Deep.Slices
import Derived.WalkKit
import Derived.OpenShut
import Derived.ShutString
import Derived.ChangeOld
import Derived.Test.YtbcekfagnajooaaRows
namespace Go.Shade
set_option linter.unusedSimpArgs false
set_option linter.unusedVariables false
abbrev Out := IV × Heap
/-- Of what was there, only rows in F are changed. -/
def Frame (F : Nat → Prop) (H H' : Heap) : Prop := H.length ≤ H'.length ∧ ∀ i, i < H.length → ¬ F i → H'[i]? = H[i]?
abbrev NoF : Nat → Prop := fun _ => False
theorem Frame.refl (F : Nat → Prop) (H : Heap) : Frame F H H := ⟨Nat.le_refl _, fun _ _ _ => rfl⟩
theorem Frame.mono {F G : Nat → Prop} {H H' : Heap} (h : Frame F H H') (k : ∀ i, F i → G i) : Frame G H H' := ⟨h.1, fun i hi hg => h.2 i hi (fun hf => hg (k i hf))⟩
theorem Frame.no {G : Nat → Prop} {H H' : Heap} (h : Frame NoF H H') : Frame G H H' := h.mono fun _ h => h.elim
theorem Frame.trans {F G : Nat → Prop} {H H' H'' : Heap} (h : Frame F H H') (k : Frame G H' H'') (hg : ∀ i, i < H.length → G i → F i) : Frame F H H'' :=
  ⟨Nat.le_trans h.1 k.1, fun i hi hf => (k.2 i (Nat.lt_of_lt_of_le hi h.1) (fun g => hf (hg i hi g))).trans (h.2 i hi hf)⟩
theorem Frame.tr {F : Nat → Prop} {H H' H'' : Heap} (h : Frame F H H') (k : Frame F H' H'') : Frame F H H'' := h.trans k fun _ _ h => h
theorem Frame.push (F : Nat → Prop) (H X : Heap) : Frame F H (H ++ X) := ⟨by simp, fun i hi _ => List.getElem?_append_left hi⟩
theorem Frame.set {F : Nat → Prop} (H : Heap) {r : Nat} (o : IObj) (h : F r) : Frame F H (H.set r o) := ⟨by simp, fun i hi hf => List.getElem?_set_ne (fun e => hf (by rw [← e]; exact h))⟩
/-- A new row is set anew. -/
theorem Frame.setNew {F : Nat → Prop} {H H' : Heap} (h : Frame F H H') {r : Nat} (o : IObj) (hr : H.length ≤ r) : Frame F H (H'.set r o) :=
  h.trans (Frame.set (F := fun i => i = r) H' o rfl) fun i hi e => by omega
theorem Frame.get {F : Nat → Prop} {H H' : Heap} (h : Frame F H H') {i : Nat} {o : IObj} (hf : ¬ F i) (e : H[i]? = some o) : H'[i]? = some o := (h.2 i (List.getElem?_eq_some_iff.1 e).1 hf).trans e
theorem Frame.keep {F : Nat → Prop} {H H' : Heap} (h : Frame F H H') {B : Nat} (hB : B ≤ H.length) (hF : ∀ i, F i → B ≤ i) : Keep B H H' := ⟨fun i hi => h.2 i (by omega) (fun hf => by have := hF i hf; omega), h.1⟩
theorem Keep.frame {B : Nat} {H H' : Heap} (h : Keep B H H') : Frame (fun i => B ≤ i) H H' := ⟨h.2, fun i hi hf => h.1 i (by omega)⟩
theorem Keep.frame' {H H' : Heap} (h : Keep H.length H H') {F : Nat → Prop} : Frame F H H' := ⟨h.2, fun i hi _ => h.1 i hi⟩
theorem Frame.kp {H H' : Heap} (h : Frame NoF H H') : Keep H.length H H' := ⟨fun i hi => h.2 i hi (fun h => h), h.1⟩

/-! ### slices -/
/-- A slice of n elements of s cells; these are its cells. -/
def Sl (s : Nat) (H : Heap) (v : IV) (n : Nat) (cs : List IV) : Prop :=
  cs.length = n * s ∧ ((v = .nilSlice ∧ n = 0) ∨ ∃ b o lb ex sz, v = .slice b o n lb ex sz ∧ n ≤ lb ∧ (sz = 0 ∨ sz = s) ∧ (0 < n → ∃ row ro, H[b]? = some (.row row ro) ∧ o + n * s ≤ row.length ∧ (row.drop o).take (n * s) = cs))
/-- Its row lies where F says. -/
def At (F : Nat → Prop) (v : IV) : Prop := ∀ b o n lb ex sz, v = .slice b o n lb ex sz → 0 < n → F b
theorem At.mono {F G : Nat → Prop} {v : IV} (h : At F v) (k : ∀ i, F i → G i) : At G v := fun b o n lb ex sz e hn => k _ (h b o n lb ex sz e hn)
theorem At.nil {F : Nat → Prop} : At F .nilSlice := fun _ _ _ _ _ _ e => by cases e
section
variable {s n : Nat} {H : Heap} {v : IV} {cs : List IV}
theorem Sl.lt (h : Sl s H v n cs) : At (· < H.length) v := by
  intro b o m lb ex sz e hm
  obtain ⟨_, ⟨rfl, _⟩ | ⟨b', o', lb', ex', sz', rfl, _, _, h4⟩⟩ := h
  · cases e
  · cases e
    obtain ⟨row, ro, g, _⟩ := h4 hm
    exact (List.getElem?_eq_some_iff.1 g).1
theorem Sl.nil (s : Nat) (H : Heap) : Sl s H .nilSlice 0 [] := ⟨by simp, .inl ⟨rfl, rfl⟩⟩
theorem Sl.len (h : Sl s H v n cs) : llen H .slice v = some (.int .i64 (n : Nat)) := by
  obtain ⟨_, ⟨rfl, rfl⟩ | ⟨b, o, lb, ex, sz, rfl, _, _, h4⟩⟩ := h <;> rfl
theorem Sl.frame (h : Sl s H v n cs) {F : Nat → Prop} {H' : Heap} (k : Frame F H H') (hf : At (fun b => ¬ F b) v) : Sl s H' v n cs := by
  obtain ⟨h1, ⟨rfl, rfl⟩ | ⟨b, o, lb, ex, sz, rfl, h2, h3, h4⟩⟩ := h
  · exact ⟨h1, .inl ⟨rfl, rfl⟩⟩
  · refine ⟨h1, .inr ⟨b, o, lb, ex, sz, rfl, h2, h3, fun hn => ?_⟩⟩
    obtain ⟨row, ro, g1, g2⟩ := h4 hn
    exact ⟨row, ro, k.get (hf _ _ _ _ _ _ rfl hn) g1, g2⟩
theorem Sl.kp (h : Sl s H v n cs) {H' : Heap} (k : Frame NoF H H') : Sl s H' v n cs := h.frame k fun _ _ _ _ _ _ _ _ h => h
theorem Sl.ix (h : Sl s H v n cs) {i : Nat} (hi : i < n) : ∃ b o, lix s v (.int .i64 (i : Nat)) = some (.ptr b o) ∧ ∃ row ro, H[b]? = some (.row row ro) ∧ o + s ≤ row.length ∧ (row.drop o).take s = (cs.drop (i * s)).take s ∧ ∀ k, k < s → row[o + k]? = cs[i * s + k]? := by
  obtain ⟨h1, ⟨rfl, rfl⟩ | ⟨b, o, lb, ex, sz, rfl, h2, h3, h4⟩⟩ := h
  · omega
  · obtain ⟨row, ro, g1, g2, g3⟩ := h4 (by omega)
    have hle : i * s + s ≤ n * s := by rw [← Nat.succ_mul]; exact Nat.mul_le_mul_right s hi
    refine ⟨b, o + i * s, by rw [lix_slice, if_pos (by omega)]; simp, row, ro, g1, by omega, ?_, fun k hk => ?_⟩
    · rw [← g3, List.drop_take, List.take_take, List.drop_drop, Nat.min_eq_left (by omega)]
    · rw [← g3, List.getElem?_take, if_pos (by omega), List.getElem?_drop, Nat.add_assoc]
theorem Sl.at1 (h : Sl 1 H v n cs) {i : Nat} (hi : i < n) : ∃ p, lix 1 v (.int .i64 (i : Nat)) = some p ∧ lload1 H p = cs[i]? := by
  obtain ⟨b, o, e, row, ro, g1, g2, g3, g4⟩ := h.ix hi
  refine ⟨_, e, ?_⟩
  have := g4 0 (by omega)
  rw [lload1_ptr, g1, og1_row]
  simpa using this
theorem Sl.atn (h : Sl s H v n cs) {i : Nat} (hi : i < n) : ∃ p, lix s v (.int .i64 (i : Nat)) = some p ∧ lloadn H s p = some (.agg ((cs.drop (i * s)).take s)) := by
  obtain ⟨b, o, e, row, ro, g1, g2, g3, g4⟩ := h.ix hi
  exact ⟨_, e, by rw [lloadn_ptr, g1, ogn_row, if_pos g2, g3]⟩
theorem Sl.xlen (h : Sl s H v n cs) : Shade.xlen v = some n := by
  obtain ⟨_, ⟨rfl, rfl⟩ | ⟨b, o, lb, ex, sz, rfl, _, _, h4⟩⟩ := h <;> rfl
theorem Sl.lsl (h : Sl s H v n cs) : Shade.lsl H s v n = some cs := by
  obtain ⟨h1, ⟨rfl, rfl⟩ | ⟨b, o, lb, ex, sz, rfl, h2, h3, h4⟩⟩ := h
  · have : cs = [] := by simpa using h1
    subst this; rfl
  · simp only [Shade.lsl, Nat.le_refl, if_true]
    by_cases h0 : n = 0
    · subst h0
      have : cs = [] := by simpa using h1
      subst this; rfl
    · rw [if_neg h0]
      obtain ⟨row, ro, g1, g2, g3⟩ := h4 (by omega)
      simp only [irow, g1]
      rw [if_pos g2, g3]
theorem Sl.lx (h : Sl s H v n cs) : lxcells H s v n = some cs := by
  have := h.lsl
  obtain ⟨h1, ⟨rfl, rfl⟩ | ⟨b, o, lb, ex, sz, rfl, h2, h3, h4⟩⟩ := h <;> exact this
theorem Sl.take (h : Sl s H v n cs) {k : Nat} (hk : k ≤ n) : ∃ v', lslice H (.slice s) v none (some (.int .i64 (k : Nat))) none = some v' ∧ Sl s H v' k (cs.take (k * s)) := by
  obtain ⟨h1, ⟨rfl, rfl⟩ | ⟨b, o, lb, ex, sz, rfl, h2, h3, h4⟩⟩ := h
  · have : k = 0 := by omega
    subst this
    exact ⟨_, rfl, by simp, .inl ⟨rfl, rfl⟩⟩
  · have hle : k * s ≤ n * s := Nat.mul_le_mul_right s hk
    refine ⟨.slice b (o + 0 * s) (k - 0) (lb - 0) ex sz, ?_, by rw [List.length_take, h1]; omega, .inr ⟨b, o + 0 * s, lb - 0, ex, sz, by simp, by omega, h3, fun hp => ?_⟩⟩
    · simp only [lslice, bnd]
      rw [if_pos (by omega)]
      simp only [Option.bind_some, Int.toNat_natCast]
      rw [if_neg (fun h => by rcases h3 with e | e; exact h.1 e; exact h.2 e), if_pos (by clear h4; omega)]
    · obtain ⟨row, ro, g1, g2, g3⟩ := h4 (by omega)
      refine ⟨row, ro, g1, by omega, ?_⟩
      rw [← g3, List.take_take, Nat.min_eq_left hle]; simp
theorem Sl.drop (h : Sl s H v n cs) {k : Nat} (hk : k ≤ n) : ∃ v', lslice H (.slice s) v (some (.int .i64 (k : Nat))) none none = some v' ∧ Sl s H v' (n - k) (cs.drop (k * s)) := by
  obtain ⟨h1, ⟨rfl, rfl⟩ | ⟨b, o, lb, ex, sz, rfl, h2, h3, h4⟩⟩ := h
  · have : k = 0 := by omega
    subst this
    exact ⟨_, rfl, by simpa using h1, .inl ⟨rfl, rfl⟩⟩
  · have hmul : (n - k) * s = n * s - k * s := Nat.sub_mul n k s
    have hle : k * s ≤ n * s := Nat.mul_le_mul_right s hk
    refine ⟨.slice b (o + k * s) (n - k) (lb - k) ex sz, ?_, by rw [List.length_drop, h1, hmul], .inr ⟨b, o + k * s, lb - k, ex, sz, rfl, by omega, h3, fun hp => ?_⟩⟩
    · simp only [lslice, bnd]
      rw [if_pos (by omega)]
      simp only [Option.bind_some, Int.toNat_natCast]
      rw [if_neg (fun h => by rcases h3 with e | e; exact h.1 e; exact h.2 e), if_pos (by clear h4; omega)]
    · obtain ⟨row, ro, g1, g2, g3⟩ := h4 (by omega)
      refine ⟨row, ro, g1, by omega, ?_⟩
      rw [← g3, List.drop_take, List.drop_drop, hmul]
/-- A slice of one's own, as any other. -/
theorem Buf.sl {B : Nat} (h : Buf B s H v cs) : ∃ n, Sl s H v n cs := by
  rcases h with ⟨rfl, rfl⟩ | ⟨r, n, ex, rfl, g1, g2, g3⟩
  · exact ⟨0, Sl.nil _ _⟩
  · exact ⟨n, g3, .inr ⟨r, 0, n, ex, s, rfl, Nat.le_refl _, .inr rfl, fun _ => ⟨cs, false, g2, by omega, by rw [List.drop_zero, List.take_of_length_le (by omega)]⟩⟩⟩
theorem Buf.sl' {B : Nat} (h : Buf B s H v cs) (hn : cs.length = n * s) (hs : 0 < s) : Sl s H v n cs := by
  obtain ⟨m, hm⟩ := h.sl
  have : m = n := Nat.eq_of_mul_eq_mul_right hs (hm.1.symm.trans hn)
  subst this; exact hm
theorem Buf.ge {B : Nat} (h : Buf B s H v cs) : At (B ≤ ·) v := by
  intro b o n lb ex sz e _
  rcases h with ⟨rfl, rfl⟩ | ⟨r, n, ex, rfl, g1, g2, g3⟩
  · cases e
  · cases e; exact g1
theorem Buf.one {B : Nat} (h : Buf B s H v cs) : v.one = true := by
  rcases h with ⟨rfl, rfl⟩ | ⟨r, n, ex, rfl, g1, g2, g3⟩ <;> rfl
theorem Sl.one (h : Sl s H v n cs) : v.one = true := by
  obtain ⟨h1, ⟨rfl, rfl⟩ | ⟨b, o, lb, ex, sz, rfl, h2, h3, h4⟩⟩ := h <;> rfl
theorem Buf.frame {B : Nat} (h : Buf B s H v cs) {F : Nat → Prop} {H' : Heap} (k : Frame F H H') (hf : ∀ i, F i → i < B ∨ H.length ≤ i) : Buf B s H' v cs := by
  rcases h with h | ⟨r, n, ex, rfl, h1, h2, h3⟩
  · exact .inl h
  · have hlt := (List.getElem?_eq_some_iff.1 h2).1
    exact .inr ⟨r, n, ex, rfl, h1, k.get (fun hF => by rcases hf r hF with h | h <;> omega) h2, h3⟩
theorem Buf.le {B C : Nat} (h : Buf B s H v cs) (hc : C ≤ B) : Buf C s H v cs := by
  rcases h with h | ⟨r, n, ex, rfl, h1, h2, h3⟩
  · exact .inl h
  · exact .inr ⟨r, n, ex, rfl, Nat.le_trans hc h1, h2, h3⟩
/-- The same, where the row is known to lie higher. -/
theorem Buf.frame' {B C : Nat} (h : Buf C s H v cs) (k : Buf B s H v cs) {F : Nat → Prop} {H' : Heap} (q : Frame F H H') (hf : ∀ i, F i → i < B) : Buf C s H' v cs := by
  rcases h with h | ⟨r, n, ex, rfl, h1, h2, h3⟩
  · exact .inl h
  · rcases k with ⟨e, _⟩ | ⟨r', n', ex', e, k1, _, _⟩
    · cases e
    · cases e
      exact .inr ⟨r, n, ex, rfl, h1, q.get (fun hF => by have := hf r hF; omega) h2, h3⟩
/-- Appending. -/
theorem app_sl {B b : Nat} {w : IV} {acc : List IV} (h : Buf B s H w acc) (hB : B ≤ H.length) (hs : 0 < s) (hx : Sl s H v n cs) (h1 : cs.all IV.one = true) (hb : (acc.length + cs.length) * b ≤ 140737488355328) :
    Wp (lapp H s b w v) fun r => Buf B s r.2 r.1 (acc ++ cs) ∧ Frame (fun i => B ≤ i) H r.2 := by
  obtain ⟨v', H', e, b', k⟩ := app_buf h hB hs hx.xlen hx.lx hx.1 h1 hb
  exact ⟨(v', H'), e, b', k.frame⟩
end
theorem newBuf (s : Nat) (H : Heap) : Buf H.length s (H ++ [.row [] false]) (.slice H.length 0 0 0 true s) [] := .inr ⟨_, 0, true, rfl, Nat.le_refl _, by simp, by simp⟩
theorem newRow {H : Heap} {o : IObj} : (H ++ [o])[H.length]? = some o := by simp
theorem setRow {H : Heap} {o p : IObj} : (H ++ [o]).set H.length p = H ++ [p] := by simp
theorem setAt {H : Heap} {p : Nat} {o o' : IObj} (hp : H[p]? = some o) : (H.set p o')[p]? = some o' := by
  have := (List.getElem?_eq_some_iff.1 hp).1
  simp [this]
theorem st1 {H : Heap} {b k : Nat} {cs : List IV} {x : IV} (h : H[b]? = some (.row cs false)) (hx : x.one = true) (hk : k < cs.length) : lstV H 1 (.ptr b k) x = some (.tuple [], H.set b (.row (cs.set k x) false)) := by
  rw [lstV_ptr, h, putO_one hx hk]; rfl
theorem stn {H : Heap} {b n : Nat} {cs xs : List IV} (h : H[b]? = some (.row cs false)) (hx : xs.all IV.one = true) (hn : xs.length = n) (hk : cs.length = n) : lstV H n (.ptr b 0) (.agg xs) = some (.tuple [], H.set b (.row xs false)) := by
  rw [lstV_ptr, h, putO_all hx hn hk]; rfl
theorem ld1 {H : Heap} {b k : Nat} {cs : List IV} {ro : Bool} (h : H[b]? = some (.row cs ro)) : lload1 H (.ptr b k) = cs[k]? := by rw [lload1_ptr, h]; rfl
theorem ldn {H : Heap} {b n : Nat} {cs : List IV} {ro : Bool} (h : H[b]? = some (.row cs ro)) (hn : cs.length = n) : lloadn H n (.ptr b 0) = some (.agg cs) := by
  subst hn
  rw [lloadn_ptr, h, ogn_row, if_pos (by omega)]; simp
def strs (l : List (List UInt8)) : List IV := l.map .str
theorem strs_length (l : List (List UInt8)) : (strs l).length = l.length := by simp [strs]
theorem strs_one (l : List (List UInt8)) : (strs l).all IV.one = true := by simp [strs, IV.one]
theorem strs_append (a b : List (List UInt8)) : strs (a ++ b) = strs a ++ strs b := by simp [strs]
end Go.Shade
/- DESC, part 3: contracts of a table's functions. -/
namespace Go.Shade
set_option linter.unusedVariables false
set_option linter.unusedSimpArgs false
structure Dsc where
  ino : Int
  flag : Int
  off : Int
  isd : Bool
  names : List (List UInt8)
  at' : Int
  deriving DecidableEq
def Dsc.cells (d : Dsc) (nv : IV) : List IV := [.int .i64 d.ino, .int .i64 d.flag, .int .i64 d.off, .bool d.isd, nv, .int .i64 d.at']
def Dsc.zero : Dsc := ⟨0, 0, 0, false, [], 0⟩
/-- Names are read in rows of F. -/
def Nm (F : Nat → Prop) (H : Heap) (nv : IV) (l : List (List UInt8)) : Prop := Sl 1 H nv l.length (strs l) ∧ At F nv
theorem Nm.frame {F G : Nat → Prop} {H H' : Heap} {nv : IV} {l : List (List UInt8)} (h : Nm F H nv l) (k : Frame G H H') (hg : ∀ i, F i → ¬ G i) : Nm F H' nv l := ⟨h.1.frame k (h.2.mono hg), h.2⟩
theorem Nm.mono {F G : Nat → Prop} {H : Heap} {nv : IV} {l : List (List UInt8)} (h : Nm F H nv l) (hg : ∀ i, F i → G i) : Nm G H nv l := ⟨h.1, h.2.mono hg⟩
theorem Nm.one {F : Nat → Prop} {H : Heap} {nv : IV} {l : List (List UInt8)} (h : Nm F H nv l) : nv.one = true := h.1.one
/-- A descriptor as a value. -/
def DV (F : Nat → Prop) (H : Heap) (x : IV) (d : Dsc) : Prop := ∃ nv, x = .agg (d.cells nv) ∧ Nm F H nv d.names
theorem DV.frame {F G : Nat → Prop} {H H' : Heap} {x : IV} {d : Dsc} (h : DV F H x d) (k : Frame G H H') (hg : ∀ i, F i → ¬ G i) : DV F H' x d := by
  obtain ⟨nv, h1, h2⟩ := h; exact ⟨nv, h1, h2.frame k hg⟩
theorem DV.mono {F G : Nat → Prop} {H : Heap} {x : IV} {d : Dsc} (h : DV F H x d) (hg : ∀ i, F i → G i) : DV G H x d := by
  obtain ⟨nv, h1, h2⟩ := h; exact ⟨nv, h1, h2.mono hg⟩
theorem DV.kp {F : Nat → Prop} {H H' : Heap} {x : IV} {d : Dsc} (h : DV F H x d) (k : Frame NoF H H') : DV F H' x d := h.frame k fun _ _ h => h
theorem Nm.kp {F : Nat → Prop} {H H' : Heap} {nv : IV} {l : List (List UInt8)} (h : Nm F H nv l) (k : Frame NoF H H') : Nm F H' nv l := h.frame k fun _ _ h => h
theorem Dsc.cells_one (d : Dsc) {nv : IV} (h : nv.one = true) : (d.cells nv).all IV.one = true := by
  simp only [Dsc.cells, List.all_cons, List.all_nil, h, one_int, one_bool, Bool.and_self]
theorem Dsc.cells_length (d : Dsc) (nv : IV) : (d.cells nv).length = 6 := rfl
theorem Dsc.cells_set (d : Dsc) (nv nv' : IV) : (d.cells nv).set 4 nv' = d.cells nv' := rfl
abbrev New (H : Heap) : Nat → Prop := fun i => H.length ≤ i
section
variable {cal : FuncId → Bool} {φ : Oracle} {N : Nat}
theorem clone_s {F : Nat → Prop} {H : Heap} {nv : IV} {l : List (List UInt8)} (h : Nm F H nv l) (hb : l.length ≤ 1000000) :
    Wp (slicesCloneStringStringS cal φ N nv H) fun r => Nm (New H) r.2 r.1 l ∧ Frame NoF H r.2 ∧ Buf H.length 1 r.2 r.1 (strs l) := by
  unfold slicesCloneStringStringS
  have hsl := h.1
  obtain ⟨h1, ⟨rfl, h0⟩ | ⟨b, o, lb, ex, sz, rfl, h2, h3, h4⟩⟩ := h.1
  · have : l = [] := List.length_eq_zero_iff.1 h0
    subst this
    exact Wp.of (a := .bool true) rfl (by rw [cnd_true]; exact Wp.ret ⟨⟨Sl.nil _ _, At.nil⟩, Frame.refl _ _, .inl ⟨rfl, rfl⟩⟩)
  · refine Wp.of (a := .bool false) rfl ?_
    rw [cnd_false]
    have z : lbldS H 1 0 [(.str [])] [] = some (.slice H.length 0 0 0 true 1, H ++ [.row [] false]) := rfl
    rw [z, ob_some]
    have k1 : Frame NoF H (H ++ [.row [] false]) := Frame.push _ _ _
    refine Wp.call (app_sl (newBuf 1 H) (by simp) (by omega) (hsl.kp k1) (strs_one _) (by simp [strs_length]; omega)) ?_
    rintro ⟨w, H2⟩ ⟨g1, g2⟩
    rw [List.nil_append] at g1
    refine Wp.ret ⟨⟨g1.sl' (by rw [strs_length]; simp) (by omega), g1.ge⟩, k1.trans g2 (fun i hi hf => by omega), g1⟩
def CloneOk (φ : Oracle) (f : FuncId) : Prop := ∀ (F : Nat → Prop) (H : Heap) (nv : IV) (l : List (List UInt8)), Nm F H nv l → l.length ≤ 1000000 → Wp (φ f [nv] H) fun r => Nm (New H) r.2 r.1 l ∧ Frame NoF H r.2 ∧ Buf H.length 1 r.2 r.1 (strs l)
theorem own_s {fc : FuncId} (hc : CloneOk φ fc) {F : Nat → Prop} {H : Heap} {x : IV} {d : Dsc} (h : DV F H x d) (hb : d.names.length ≤ 1000000) :
    Wp (descOwnS cal φ N fc x H) fun r => ∃ p nv, r.1 = .ptr p 0 ∧ H.length ≤ p ∧ r.2[p]? = some (.row (d.cells nv) false) ∧ Nm (fun i => H.length ≤ i ∧ i ≠ p) r.2 nv d.names ∧ Frame NoF H r.2 ∧ Buf (p + 1) 1 r.2 nv (strs d.names) := by
  obtain ⟨nv, rfl, hn⟩ := h
  unfold descOwnS
  have hbx : lbox H (.agg (d.cells nv)) = some (.ptr H.length 0, H ++ [IObj.row (d.cells nv) false]) := lbox_agg (d.cells_one hn.one)
  rw [hbx, ob_some]
  simp only
  have k1 : Frame NoF H (H ++ [IObj.row (d.cells nv) false]) := Frame.push _ _ _
  have r1 : (H ++ [IObj.row (d.cells nv) false])[H.length]? = some (.row (d.cells nv) false) := newRow
  have l1 : (H ++ [IObj.row (d.cells nv) false]).length = H.length + 1 := by simp
  generalize H ++ [IObj.row (d.cells nv) false] = K at *
  rw [loff_ptr, ob_some, ld1 r1]
  refine Wp.of (a := nv) rfl ?_
  refine Wp.call (hc F K nv d.names (hn.kp k1) hb) ?_
  rintro ⟨nv', K2⟩ ⟨g1, g2, gb⟩
  simp only at g1 g2 gb ⊢
  have r2 := g2.get (fun h => h) r1
  rw [ob_some, Nat.zero_add, st1 r2 g1.one (by rw [d.cells_length]; omega), ob_some]
  have r3 := setAt (o' := IObj.row ((d.cells nv).set 4 nv') false) r2
  have k3 : Frame NoF H (K2.set H.length (IObj.row ((d.cells nv).set 4 nv') false)) := (k1.tr g2).setNew _ (Nat.le_refl _)
  refine Wp.ret ⟨H.length, nv', rfl, Nat.le_refl _, r3, ?_, k3, by rw [← l1]; exact gb.frame (Frame.set (F := fun i => i = H.length) K2 _ rfl) (fun i e => .inl (by omega))⟩
  refine (g1.mono (G := fun i => H.length ≤ i ∧ i ≠ H.length) fun i (hi : K.length ≤ i) => by omega).frame (Frame.set (F := fun i => i = H.length) K2 _ rfl) fun i hi e => hi.2 e
def OwnOk (φ : Oracle) (f : FuncId) : Prop := ∀ (F : Nat → Prop) (H : Heap) (x : IV) (d : Dsc), DV F H x d → d.names.length ≤ 1000000 → Wp (φ f [x] H) fun r => ∃ p nv, r.1 = .ptr p 0 ∧ H.length ≤ p ∧ r.2[p]? = some (.row (d.cells nv) false) ∧ Nm (fun i => H.length ≤ i ∧ i ≠ p) r.2 nv d.names ∧ Frame NoF H r.2 ∧ Buf (p + 1) 1 r.2 nv (strs d.names)

/-! ### tables -/
abbrev Tab := List (Option Dsc)
def Ent' (G : Nat → Prop) (H : Heap) (c : IV) (e : Option Dsc) : Prop :=
  (e = none ∧ c = .nilPtr) ∨ ∃ d b nv, e = some d ∧ c = .ptr b 0 ∧ G b ∧ H[b]? = some (.row (d.cells nv) false) ∧ Nm G H nv d.names ∧ d.names.length ≤ 1000000
/-- A table at t; what it leads to lies in rows of G. -/
structure TabOk (G : Nat → Prop) (H : Heap) (t : Nat) (tab : Tab) : Prop where
  len : tab.length = 32
  notG : ¬ G t
  lt : ∀ i, G i → i < H.length
  row : ∃ cs : List IV, H[t]? = some (.row cs false) ∧ cs.length = 32 ∧ ∀ (i : Nat) (c : IV) (e : Option Dsc), cs[i]? = some c → tab[i]? = some e → Ent' G H c e
theorem Ent'.frame {F G : Nat → Prop} {H H' : Heap} {c : IV} {e : Option Dsc} (h : Ent' G H c e) (k : Frame F H H') (hg : ∀ i, G i → ¬ F i) : Ent' G H' c e := by
  rcases h with h | ⟨d, b, nv, h1, h2, h3, h4, h5, h6⟩
  · exact .inl h
  · exact .inr ⟨d, b, nv, h1, h2, h3, k.get (hg b h3) h4, h5.frame k hg, h6⟩
theorem Ent'.mono {G G' : Nat → Prop} {H : Heap} {c : IV} {e : Option Dsc} (h : Ent' G H c e) (k : ∀ i, G i → G' i) : Ent' G' H c e := by
  rcases h with h | ⟨d, b, nv, h1, h2, h3, h4, h5, h6⟩
  · exact .inl h
  · exact .inr ⟨d, b, nv, h1, h2, k b h3, h4, h5.mono k, h6⟩
theorem TabOk.frame {F G : Nat → Prop} {H H' : Heap} {t : Nat} {tab : Tab} (h : TabOk G H t tab) (k : Frame F H H') (ht : ¬ F t) (hg : ∀ i, G i → ¬ F i) : TabOk G H' t tab := by
  obtain ⟨cs, h1, h2, h3⟩ := h.row
  exact ⟨h.len, h.notG, fun i hi => Nat.lt_of_lt_of_le (h.lt i hi) k.1, cs, k.get ht h1, h2, fun i c e hc he => (h3 i c e hc he).frame k hg⟩
theorem TabOk.kp {G : Nat → Prop} {H H' : Heap} {t : Nat} {tab : Tab} (h : TabOk G H t tab) (k : Frame NoF H H') : TabOk G H' t tab := h.frame k (fun h => h) fun _ _ h => h
theorem TabOk.ltT {G : Nat → Prop} {H : Heap} {t : Nat} {tab : Tab} (h : TabOk G H t tab) : t < H.length := by
  obtain ⟨cs, h1, _⟩ := h.row; exact (List.getElem?_eq_some_iff.1 h1).1
/-- One place is set. -/
theorem TabOk.set {G G' : Nat → Prop} {H : Heap} {t i : Nat} {tab : Tab} {e : Option Dsc} {cs : List IV} {c : IV} (h : TabOk G H t tab) (hr : H[t]? = some (.row cs false)) (hg : ∀ j, G j → G' j) (hn : ¬ G' t) (hlt : ∀ j, G' j → j < H.length) (he : Ent' G' H c e) : TabOk G' (H.set t (.row (cs.set i c) false)) t (tab.set i e) := by
  obtain ⟨cs', h1, h2, h3⟩ := h.row
  rw [hr] at h1; cases h1
  have k : Frame (fun j => j = t) H (H.set t (.row (cs.set i c) false)) := Frame.set _ _ rfl
  have hk : ∀ j, G' j → ¬ j = t := fun j hj e => hn (e ▸ hj)
  refine ⟨by simp [h.len], hn, fun j hj => by simpa using hlt j hj, cs.set i c, setAt hr, by simp [h2], fun j c' e' hc he' => ?_⟩
  rw [List.getElem?_set] at hc he'
  by_cases e1 : i = j
  · subst e1
    simp only [if_true] at hc he'
    split at hc
    · split at he'
      · cases hc; cases he'; exact he.frame k hk
      · cases he'
    · cases hc
  · rw [if_neg e1] at hc he'
    exact ((h3 j c' e' hc he').mono hg).frame k hk
theorem TabOk.get {G : Nat → Prop} {H : Heap} {t i : Nat} {tab : Tab} (h : TabOk G H t tab) (hi : i < 32) : ∃ cs c e, H[t]? = some (.row cs false) ∧ cs.length = 32 ∧ cs[i]? = some c ∧ tab[i]? = some e ∧ Ent' G H c e := by
  obtain ⟨cs, h1, h2, h3⟩ := h.row
  have hc := List.getElem?_eq_getElem (l := cs) (i := i) (by omega)
  have he := List.getElem?_eq_getElem (l := tab) (i := i) (by have := h.len; omega)
  exact ⟨cs, _, _, h1, h2, hc, he, h3 i _ _ hc he⟩
def NewOk (φ : Oracle) (f : FuncId) : Prop := ∀ (H : Heap), Wp (φ f [] H) fun r => ∃ t, r.1 = .ptr t 0 ∧ H.length ≤ t ∧ TabOk NoF r.2 t (List.replicate 32 none) ∧ Frame NoF H r.2
theorem new_s (H : Heap) : Wp (descNewS cal φ N H) fun r => ∃ t, r.1 = .ptr t 0 ∧ H.length ≤ t ∧ TabOk NoF r.2 t (List.replicate 32 none) ∧ Frame NoF H r.2 := by
  unfold descNewS
  refine Wp.of (a := .agg (List.replicate 32 .nilPtr)) rfl ?_
  have hbx : lbox H (.agg (List.replicate 32 .nilPtr)) = some (.ptr H.length 0, H ++ [IObj.row (List.replicate 32 .nilPtr) false]) := lbox_agg rfl
  rw [hbx, ob_some]
  refine Wp.ret ⟨H.length, rfl, Nat.le_refl _, ⟨rfl, fun h => h, fun _ h => h.elim, _, newRow, by simp, fun i c e hc he => ?_⟩, Frame.push _ _ _⟩
  rw [List.getElem?_replicate] at hc he
  by_cases hi : i < 32
  · rw [if_pos hi] at hc he
    cases hc; cases he
    exact .inl ⟨rfl, rfl⟩
  · rw [if_neg hi] at hc; cases hc
/-- What a new place becomes. -/
theorem ent_new {G : Nat → Prop} {H H2 : Heap} {d : Dsc} {p : Nat} {nv : IV} (hp : H.length ≤ p) (hr : H2[p]? = some (.row (d.cells nv) false)) (hn : Nm (fun i => H.length ≤ i ∧ i ≠ p) H2 nv d.names) (hb : d.names.length ≤ 1000000) : Ent' (fun i => G i ∨ (H.length ≤ i ∧ i < H2.length)) H2 (.ptr p 0) (some d) := by
  refine .inr ⟨d, p, nv, rfl, rfl, .inr ⟨hp, (List.getElem?_eq_some_iff.1 hr).1⟩, hr, ⟨hn.1, ?_⟩, hb⟩
  intro b o n lb ex sz e h0
  exact .inr ⟨(hn.2 b o n lb ex sz e h0).1, hn.1.lt b o n lb ex sz e h0⟩
def OpenP (G : Nat → Prop) (H : Heap) (t : Nat) (tab : Tab) (d : Dsc) (r : Out) : Prop :=
  Frame (fun i => i = t) H r.2 ∧
  ((∃ i G', i < 32 ∧ tab[i]? = some none ∧ (∀ j, j < i → tab[j]? ≠ some none) ∧ r.1 = .tuple [.int .i64 (i : Nat), .int .i64 0] ∧ TabOk G' r.2 t (tab.set i (some d)) ∧ ∀ j, G' j → G j ∨ H.length ≤ j) ∨
   ((∀ j, j < 32 → tab[j]? ≠ some none) ∧ r.1 = .tuple [.int .i64 0, .int .i64 24] ∧ TabOk G r.2 t tab))
def OpenOk (φ : Oracle) (f : FuncId) : Prop := ∀ (F G : Nat → Prop) (H : Heap) (t : Nat) (tab : Tab) (x : IV) (d : Dsc), TabOk G H t tab → DV F H x d → d.names.length ≤ 1000000 → Wp (φ f [.ptr t 0, x] H) (OpenP G H t tab d)
theorem open_go {fo : FuncId} (ho : OwnOk φ fo) {F G : Nat → Prop} {H H0 : Heap} {t q : Nat} {tab : Tab} {d : Dsc} {nv : IV} {cs : List IV} (hT : TabOk G H t tab) (hk : Frame NoF H0 H) (htl : t < H0.length) (hG0 : ∀ i, G i → i < H0.length) (hq : H[q]? = some (.row (d.cells nv) false)) (hnv : Nm F H nv d.names) (hb : d.names.length ≤ 1000000) (hcs : H[t]? = some (.row cs false)) (hlen : cs.length = 32) :
    ∀ (k i n : Nat), i + k = 32 → k < n → (∀ j, j < i → tab[j]? ≠ some none) →
      Wp (VeneerDescTableOpenC0S cal φ N fo (fun H => some ((.tuple [(.int .i64 0), (.int .i64 24)]), H)) n (.ptr t 0) (.ptr q 0) (.agg cs) (.int .i64 (i : Nat)) H) (OpenP G H0 t tab d) := by
  intro k
  induction k with
  | zero =>
    intro i n hi hn hj
    obtain ⟨n, rfl⟩ : ∃ j, n = j + 1 := ⟨n - 1, by omega⟩
    rw [VeneerDescTableOpenC0S, lbin_lss, ob_some, decide_eq_false (by omega), cnd_false]
    exact Wp.ret ⟨hk.no, .inr ⟨fun j h => hj j (by omega), rfl, hT⟩⟩
  | succ k ih =>
    intro i n hi hn hj
    obtain ⟨n, rfl⟩ : ∃ j, n = j + 1 := ⟨n - 1, by omega⟩
    rw [VeneerDescTableOpenC0S, lbin_lss, ob_some, decide_eq_true (by omega), cnd_true]
    obtain ⟨cs', c, e, g1, g2, g3, g4, g5⟩ := hT.get (i := i) (by omega)
    rw [hcs] at g1; cases g1
    have hix : lixg 32 (.agg cs) (.int .i64 (i : Nat)) = some c := by
      unfold lixg
      simp only
      rw [if_pos (by omega), Int.toNat_natCast, g3]
    rw [hix, ob_some]
    rcases g5 with ⟨rfl, rfl⟩ | ⟨d', b, nv', rfl, rfl, h1, h2, h3, h4⟩
    · refine Wp.of (a := .bool true) rfl ?_
      rw [cnd_true, ldn hq (d.cells_length nv), ob_some]
      refine Wp.call (ho F H _ d ⟨nv, rfl, hnv⟩ hb) ?_
      rintro ⟨r, H2⟩ ⟨p, nv2, e1, e2, e3, e4, e5, e6⟩
      simp only at e1 e2 e3 e4 e5 ⊢
      subst e1
      have hcs2 := e5.get (fun h => h) hcs
      rw [lchk_ptr, ob_some, loff_ptr, ob_some, Nat.zero_add, lixa_ptr, if_pos (by omega), ob_some, Int.toNat_natCast, Nat.zero_add, Nat.mul_one, st1 hcs2 rfl (by omega), ob_some]
      have ht2 := hT.ltT
      have k2 : Frame NoF H0 H2 := hk.tr e5
      refine Wp.ret ⟨k2.no.tr (Frame.set _ _ rfl), .inl ⟨i, fun j => G j ∨ (H.length ≤ j ∧ j < H2.length), by omega, g4, hj, rfl, ?_, fun j hj => ?_⟩⟩
      · exact (hT.kp e5).set hcs2 (fun j h => .inl h) (fun h => by rcases h with h | h; exact hT.notG h; omega) (fun j h => by rcases h with h | h; exact Nat.lt_of_lt_of_le (hT.lt j h) e5.1; exact h.2) (ent_new e2 e3 e4 hb)
      · rcases hj with h | h
        · exact .inl h
        · exact .inr (Nat.le_trans hk.1 h.1)
    · refine Wp.of (a := .bool false) rfl ?_
      rw [cnd_false, lbin_add, ob_some, wrap_i64 (by omega) (by omega), show ((i : Nat) : Int) + 1 = ((i + 1 : Nat) : Int) by omega]
      refine ih (i + 1) n (by omega) (by omega) fun j hlt => ?_
      by_cases e : j = i
      · subst e; rw [g4]; simp
      · exact hj j (by omega)
theorem open_s {fo : FuncId} (hN : 32 < N) (ho : OwnOk φ fo) {F G : Nat → Prop} {H : Heap} {t : Nat} {tab : Tab} {x : IV} {d : Dsc} (hT : TabOk G H t tab) (hx : DV F H x d) (hb : d.names.length ≤ 1000000) : Wp (VeneerDescTableOpenS cal φ N fo (.ptr t 0) x H) (OpenP G H t tab d) := by
  obtain ⟨nv, rfl, hnv⟩ := hx
  unfold VeneerDescTableOpenS VeneerDescTableOpenC4S VeneerDescTableOpenC3S VeneerDescTableOpenC2S VeneerDescTableOpenC1S
  have hbx : lbox H (.agg (d.cells nv)) = some (.ptr H.length 0, H ++ [IObj.row (d.cells nv) false]) := lbox_agg (d.cells_one hnv.one)
  rw [hbx, ob_some]
  simp only
  have k1 : Frame NoF H (H ++ [IObj.row (d.cells nv) false]) := Frame.push _ _ _
  have r1 : (H ++ [IObj.row (d.cells nv) false])[H.length]? = some (.row (d.cells nv) false) := newRow
  generalize H ++ [IObj.row (d.cells nv) false] = K at *
  obtain ⟨cs, g1, g2, g3⟩ := (hT.kp k1).row
  rw [lchk_ptr, ob_some, loff_ptr, ob_some, Nat.zero_add, ldn g1 g2, ob_some]
  exact open_go ho (hT.kp k1) k1 hT.ltT hT.lt r1 (hnv.kp k1) hb g1 g2 32 0 N (by omega) hN (fun j h => by omega)
/-- What a number leads to. -/
def look (tab : Tab) (fd : Int) : Option Dsc := if 0 ≤ fd ∧ fd < 32 then (tab[fd.toNat]?).join else none
def GetP (H : Heap) (tab : Tab) (fd : Int) (r : Out) : Prop :=
  Frame NoF H r.2 ∧ ((∃ d x, look tab fd = some d ∧ r.1 = .tuple [x, .int .i64 0] ∧ DV (New H) r.2 x d ∧ ∃ nv, x = .agg (d.cells nv) ∧ Buf H.length 1 r.2 nv (strs d.names)) ∨ (look tab fd = none ∧ r.1 = .tuple [.agg (Dsc.zero.cells .nilSlice), .int .i64 9]))
def GetOk (φ : Oracle) (f : FuncId) : Prop := ∀ (G : Nat → Prop) (H : Heap) (t : Nat) (tab : Tab) (fd : Int), TabOk G H t tab → Wp (φ f [.ptr t 0, .int .i64 fd] H) (GetP H tab fd)
theorem get_s {fo : FuncId} (ho : OwnOk φ fo) {G : Nat → Prop} {H : Heap} {t : Nat} {tab : Tab} {fd : Int} (hT : TabOk G H t tab) : Wp (VeneerDescTableGetS cal φ N fo (.ptr t 0) (.int .i64 fd) H) (GetP H tab fd) := by
  unfold VeneerDescTableGetS
  rw [lzbox_eq, ob_some]
  simp only [cells_agg]
  have k1 : Frame NoF H (H ++ [IObj.row (Dsc.zero.cells .nilSlice) false]) := Frame.push _ _ _
  have r1 : (H ++ [IObj.row (Dsc.zero.cells .nilSlice) false])[H.length]? = some (.row (Dsc.zero.cells .nilSlice) false) := newRow
  have hz : ([.int .i64 0, .int .i64 0, .int .i64 0, .bool false, .nilSlice, .int .i64 0] : List IV) = Dsc.zero.cells .nilSlice := rfl
  rw [hz]
  generalize H ++ [IObj.row (Dsc.zero.cells .nilSlice) false] = K at *
  have hTK := hT.kp k1
  have hld : lbld (Dsc.zero.cells .nilSlice) [] = some (.agg (Dsc.zero.cells .nilSlice)) := rfl
  have bad : look tab fd = none → Wp (ob (lbld (Dsc.zero.cells .nilSlice) []) fun t14 => ob (lstV K 6 (.ptr H.length 0) t14) fun r15 => ob (lloadn r15.2 6 (.ptr H.length 0)) fun t16 => some ((IV.tuple [t16, (.int .i64 9)]), r15.2)) (GetP H tab fd) := by
    intro hlk
    rw [hld, ob_some, stn (n := 6) r1 rfl rfl rfl, ob_some]
    simp only
    rw [ldn (n := 6) (setAt r1) rfl, ob_some]
    exact Wp.ret ⟨k1.setNew _ (Nat.le_refl _), .inr ⟨hlk, rfl⟩⟩
  rw [lbin_lss, ob_some]
  by_cases h0 : fd < 0
  · rw [decide_eq_true h0]
    simp only [isB_tf, gq_false, ob_some, lpick_true]
    rw [cnd_true]
    exact bad (by unfold look; rw [if_neg (by omega)])
  · rw [decide_eq_false h0]
    simp only [isB_ff, gq_true, ob_some, lbin_geq]
    by_cases h1 : 32 ≤ fd
    · rw [decide_eq_true h1]
      simp only [lpick_false, ob_some, isB_tf, gq_false, lpick_true]
      rw [cnd_true]
      exact bad (by unfold look; rw [if_neg (by omega)])
    · rw [decide_eq_false h1]
      obtain ⟨i, rfl⟩ : ∃ i : Nat, fd = (i : Nat) := ⟨fd.toNat, by omega⟩
      obtain ⟨cs, c, e, g1, g2, g3, g4, g5⟩ := hTK.get (i := i) (by omega)
      have hlk : look tab (i : Nat) = e := by unfold look; rw [if_pos (by omega), Int.toNat_natCast, g4]; rfl
      simp only [lpick_false, ob_some, isB_ff, gq_true, lchk_ptr, loff_ptr, Nat.zero_add]
      rw [lixa_ptr, if_pos (by omega), Int.toNat_natCast, Nat.mul_one, Nat.zero_add]
      simp only [ob_some, ld1 g1, g3]
      rcases g5 with ⟨rfl, rfl⟩ | ⟨d', b, nv', rfl, rfl, q1, q2, q3, q4⟩
      · refine Wp.of (a := .bool true) rfl ?_
        rw [cnd_true]
        exact bad hlk
      · refine Wp.of (a := .bool false) rfl ?_
        rw [cnd_false]
        rw [lchk_ptr, ob_some, ldn q2 (d'.cells_length nv'), ob_some]
        refine Wp.call (ho G K _ d' ⟨nv', rfl, q3⟩ q4) ?_
        rintro ⟨r, H2⟩ ⟨p, nv2, e1, e2, e3, e4, e5, e6⟩
        simp only at e1 e2 e3 e4 e5 ⊢
        subst e1
        rw [lchk_ptr, ob_some, ldn e3 (d'.cells_length nv2), ob_some, stn (n := 6) (e5.get (fun h => h) r1) (d'.cells_one e4.one) rfl rfl, ob_some]
        simp only
        rw [ldn (n := 6) (setAt (e5.get (fun h => h) r1)) rfl, ob_some]
        have hlK := (List.getElem?_eq_some_iff.1 r1).1
        have hb : Buf H.length 1 (H2.set H.length (.row (d'.cells nv2) false)) nv2 (strs d'.names) := (e6.le (show H.length ≤ p + 1 by have := k1.1; omega)).frame' e6 (Frame.set (F := fun i => i = H.length) H2 _ rfl) (fun i e => by omega)
        refine Wp.ret ⟨(k1.tr e5).setNew _ (Nat.le_refl _), .inl ⟨d', _, hlk, rfl, ⟨nv2, rfl, ?_⟩, nv2, rfl, hb⟩⟩
        refine (e4.frame (Frame.set (F := fun i => i = H.length) H2 _ rfl) fun i hi e => by have := hi.1; omega).mono fun i hi => ?_
        have := hi.1; have := k1.1; exact Nat.le_trans k1.1 hi.1
end
end Go.Shade
/- DESC, part 4: contracts of a table's other functions. -/
namespace Go.Shade
set_option linter.unusedVariables false
set_option linter.unusedSimpArgs false
section
variable {cal : FuncId → Bool} {φ : Oracle} {N : Nat}
theorem look_lt {tab : Tab} {fd : Int} {d : Dsc} (h : look tab fd = some d) : ∃ i : Nat, fd = (i : Nat) ∧ i < 32 ∧ tab[i]? = some (some d) := by
  unfold look at h
  split at h
  · rename_i h1
    refine ⟨fd.toNat, by omega, by omega, ?_⟩
    cases hx : tab[fd.toNat]? with
    | none => rw [hx] at h; cases h
    | some e => rw [hx] at h; simp only [Option.join_some] at h; rw [h]
  · cases h
/-- A place that is set. -/
def put' (tab : Tab) (fd : Int) (e : Option Dsc) : Tab := tab.set fd.toNat e
def SetP (G : Nat → Prop) (H : Heap) (t : Nat) (tab : Tab) (fd : Int) (d : Dsc) (r : Out) : Prop :=
  Frame (fun i => i = t) H r.2 ∧
  (((look tab fd).isSome = true ∧ r.1 = .int .i64 0 ∧ ∃ G', TabOk G' r.2 t (put' tab fd (some d)) ∧ ∀ j, G' j → G j ∨ H.length ≤ j) ∨ (look tab fd = none ∧ r.1 = .int .i64 9 ∧ TabOk G r.2 t tab))
def SetOk (φ : Oracle) (f : FuncId) : Prop := ∀ (F G : Nat → Prop) (H : Heap) (t : Nat) (tab : Tab) (fd : Int) (x : IV) (d : Dsc), TabOk G H t tab → DV F H x d → d.names.length ≤ 1000000 → Wp (φ f [.ptr t 0, .int .i64 fd, x] H) (SetP G H t tab fd d)
theorem DV.one6 {F : Nat → Prop} {H : Heap} {x : IV} {d : Dsc} (h : DV F H x d) : ∃ nv, x = .agg (d.cells nv) ∧ (d.cells nv).all IV.one = true ∧ (d.cells nv).length = 6 := by
  obtain ⟨nv, h1, h2⟩ := h; exact ⟨nv, h1, d.cells_one h2.one, rfl⟩
theorem get_val {H : Heap} {tab : Tab} {fd : Int} {r : Out} (h : GetP H tab fd r) : ∃ cs e, r.1 = .tuple [.agg cs, .int .i64 e] ∧ cs.all IV.one = true ∧ cs.length = 6 ∧ (e = if (look tab fd).isSome then 0 else 9) := by
  obtain ⟨_, ⟨d, x, h1, h2, h3, _⟩ | ⟨h1, h2⟩⟩ := h
  · obtain ⟨nv, rfl, h4, h5⟩ := h3.one6
    exact ⟨_, 0, h2, h4, h5, by rw [h1]; rfl⟩
  · exact ⟨_, 9, h2, rfl, rfl, by rw [h1]; rfl⟩
theorem set_s {fg fo : FuncId} (hg : GetOk φ fg) (ho : OwnOk φ fo) {F G : Nat → Prop} {H : Heap} {t : Nat} {tab : Tab} {fd : Int} {x : IV} {d : Dsc} (hT : TabOk G H t tab) (hx : DV F H x d) (hb : d.names.length ≤ 1000000) : Wp (VeneerDescTableSetS cal φ N fg fo (.ptr t 0) (.int .i64 fd) x H) (SetP G H t tab fd d) := by
  obtain ⟨nv, rfl, hnv⟩ := hx
  unfold VeneerDescTableSetS
  have hbx : lbox H (.agg (d.cells nv)) = some (.ptr H.length 0, H ++ [IObj.row (d.cells nv) false]) := lbox_agg (d.cells_one hnv.one)
  rw [hbx, ob_some]
  simp only
  have k1 : Frame NoF H (H ++ [IObj.row (d.cells nv) false]) := Frame.push _ _ _
  have r1 : (H ++ [IObj.row (d.cells nv) false])[H.length]? = some (.row (d.cells nv) false) := newRow
  generalize H ++ [IObj.row (d.cells nv) false] = K at *
  have hTK := hT.kp k1
  refine Wp.call (hg G K t tab fd hTK) ?_
  rintro ⟨r, K2⟩ hr
  have k2 : Frame NoF K K2 := hr.1
  obtain ⟨cs, e, e1, e2, e3, e4⟩ := get_val hr
  simp only at e1 k2 ⊢
  subst e1
  rw [iextract_tuple, iextract_tuple]
  simp only [List.getElem?_cons_zero, List.getElem?_cons_succ, ob_some]
  rw [lzbox_eq, ob_some]
  simp only [cells_agg]
  rw [stn newRow e2 e3 rfl, ob_some, setRow]
  simp only
  have k3 : Frame NoF K2 (K2 ++ [IObj.row cs false]) := Frame.push _ _ _
  have kk := (k1.tr k2).tr k3
  have r3 := (k2.tr k3).get (fun h => h) r1
  have hT3 := hTK.kp (k2.tr k3)
  have hn3 := (hnv.kp k1).kp (k2.tr k3)
  have lK := (List.getElem?_eq_some_iff.1 r1).1
  have lK2 := (k2.tr k3).1
  generalize K2 ++ [IObj.row cs false] = K3 at *
  rw [jn_eq, lbin_eql, ob_some]
  cases hl : look tab fd with
  | none =>
    have : e = 9 := by rw [e4, hl]; rfl
    subst this
    rw [decide_eq_false (by decide), cnd_false]
    exact Wp.ret ⟨kk.no, .inr ⟨hl, rfl, hT3⟩⟩
  | some d0 =>
    have : e = 0 := by rw [e4, hl]; rfl
    subst this
    rw [decide_eq_true rfl, cnd_true, ldn r3 (d.cells_length nv), ob_some]
    refine Wp.call (ho F K3 _ d ⟨nv, rfl, hn3⟩ hb) ?_
    rintro ⟨r, K4⟩ ⟨p, nv2, f1, f2, f3, f4, f5, f6⟩
    simp only at f1 f2 f3 f4 f5 ⊢
    subst f1
    obtain ⟨i, rfl, hi, hti⟩ := look_lt hl
    obtain ⟨ct, g1, g2, g3⟩ := (hT3.kp f5).row
    rw [lchk_ptr, ob_some, loff_ptr, ob_some, lixa_ptr, if_pos (by omega), Int.toNat_natCast, Nat.mul_one, Nat.zero_add, ob_some, st1 g1 rfl (by omega), ob_some]
    refine Wp.ret ⟨(kk.tr f5).no.tr (Frame.set _ _ rfl), .inl ⟨by rw [hl]; rfl, rfl, fun j => G j ∨ (K3.length ≤ j ∧ j < K4.length), ?_, fun j hj => ?_⟩⟩
    · unfold put'
      rw [Int.toNat_natCast]
      have hlt := hT3.ltT
      exact (hT3.kp f5).set g1 (fun j h => .inl h) (fun h => by rcases h with h | h; exact hT.notG h; omega) (fun j h => by rcases h with h | h; exact Nat.lt_of_lt_of_le (hT3.lt j h) f5.1; exact h.2) (ent_new f2 f3 f4 hb)
    · rcases hj with h | h
      · exact .inl h
      · exact .inr (Nat.le_trans kk.1 h.1)
def CloseP (G : Nat → Prop) (H : Heap) (t : Nat) (tab : Tab) (fd : Int) (r : Out) : Prop :=
  Frame (fun i => i = t) H r.2 ∧
  ((∃ d x, look tab fd = some d ∧ r.1 = .tuple [x, .int .i64 0] ∧ DV (New H) r.2 x d ∧ TabOk G r.2 t (put' tab fd none)) ∨ (look tab fd = none ∧ r.1 = .tuple [.agg (Dsc.zero.cells .nilSlice), .int .i64 9] ∧ TabOk G r.2 t tab))
def CloseOk (φ : Oracle) (f : FuncId) : Prop := ∀ (G : Nat → Prop) (H : Heap) (t : Nat) (tab : Tab) (fd : Int), TabOk G H t tab → Wp (φ f [.ptr t 0, .int .i64 fd] H) (CloseP G H t tab fd)
theorem close_s {fg : FuncId} (hg : GetOk φ fg) {G : Nat → Prop} {H : Heap} {t : Nat} {tab : Tab} {fd : Int} (hT : TabOk G H t tab) : Wp (VeneerDescTableCloseS cal φ N fg (.ptr t 0) (.int .i64 fd) H) (CloseP G H t tab fd) := by
  unfold VeneerDescTableCloseS
  rw [lzbox_eq, ob_some]
  simp only [cells_agg]
  have k1 : Frame NoF H (H ++ [IObj.row (Dsc.zero.cells .nilSlice) false]) := Frame.push _ _ _
  have r1 : (H ++ [IObj.row (Dsc.zero.cells .nilSlice) false])[H.length]? = some (.row (Dsc.zero.cells .nilSlice) false) := newRow
  have hz : ([.int .i64 0, .int .i64 0, .int .i64 0, .bool false, .nilSlice, .int .i64 0] : List IV) = Dsc.zero.cells .nilSlice := rfl
  rw [hz]
  have lK : (H ++ [IObj.row (Dsc.zero.cells .nilSlice) false]).length = H.length + 1 := by simp
  generalize H ++ [IObj.row (Dsc.zero.cells .nilSlice) false] = K at *
  have hTK := hT.kp k1
  refine Wp.call (hg G K t tab fd hTK) ?_
  rintro ⟨r, K2⟩ hr
  have k2 : Frame NoF K K2 := hr.1
  obtain ⟨cs, e, e1, e2, e3, e4⟩ := get_val hr
  obtain ⟨_, hr'⟩ := hr
  simp only at e1 k2 hr' ⊢
  subst e1
  rw [iextract_tuple, iextract_tuple]
  simp only [List.getElem?_cons_zero, List.getElem?_cons_succ, ob_some]
  rw [lzbox_eq, ob_some]
  simp only [cells_agg]
  rw [stn newRow e2 e3 rfl, ob_some, setRow]
  simp only
  have k3 : Frame NoF K2 (K2 ++ [IObj.row cs false]) := Frame.push _ _ _
  have q3 : (K2 ++ [IObj.row cs false])[K2.length]? = some (.row cs false) := newRow
  have kk := (k1.tr k2).tr k3
  have r3 := (k2.tr k3).get (fun h => h) r1
  have hT3 := hTK.kp (k2.tr k3)
  have lK2 := k2.1
  rw [jn_eq, lbin_eql, ob_some]
  have lt3 : t < K.length := hTK.ltT
  have ltH : t < H.length := hT.ltT
  have fin : ∀ (K4 : Heap), Frame (fun i => i = t) (K2 ++ [IObj.row cs false]) K4 → Wp (ob (lloadn K4 6 (.ptr K2.length 0)) fun t14 => ob (lstV K4 6 (.ptr H.length 0) t14) fun r15 => ob (lloadn r15.2 6 (.ptr H.length 0)) fun t16 => some ((IV.tuple [t16, .int .i64 e]), r15.2)) fun r => r.1 = .tuple [.agg cs, .int .i64 e] ∧ ∃ ro, r.2 = K4.set H.length ro := by
    intro K4 k4
    have a1 := k4.get (by omega) q3
    have a2 := k4.get (by omega) r3
    rw [ldn a1 e3, ob_some, stn a2 e2 e3 rfl, ob_some]
    simp only
    rw [ldn (setAt a2) e3, ob_some]
    exact Wp.ret ⟨rfl, _, rfl⟩
  cases hl : look tab fd with
  | none =>
    have : e = 9 := by rw [e4, hl]; rfl
    subst this
    rw [decide_eq_false (by decide), cnd_false]
    refine (fin _ (Frame.refl _ _)).mono ?_
    rintro ⟨r, K5⟩ ⟨f1, ro, f2⟩
    simp only at f1 f2
    subst f1 f2
    rcases hr' with ⟨d, x, h1, _⟩ | ⟨h1, h2⟩
    · rw [hl] at h1; cases h1
    · have : cs = Dsc.zero.cells .nilSlice := by injection h2 with h2; injection h2 with h2; injection h2
      subst this
      refine ⟨(kk.no).setNew _ (Nat.le_refl _), .inr ⟨hl, rfl, hT3.frame (Frame.set (F := fun i => i = H.length) _ _ rfl) (by omega) fun i hi => by have := hT.lt i hi; omega⟩⟩
  | some d0 =>
    have : e = 0 := by rw [e4, hl]; rfl
    subst this
    rw [decide_eq_true rfl, cnd_true]
    obtain ⟨i, rfl, hi, hti⟩ := look_lt hl
    obtain ⟨ct, g1, g2, g3⟩ := hT3.row
    rw [lchk_ptr, ob_some, loff_ptr, ob_some, lixa_ptr, if_pos (by omega), Int.toNat_natCast, Nat.mul_one, Nat.zero_add, ob_some, st1 g1 rfl (by omega), ob_some]
    simp only
    refine (fin _ (Frame.set _ _ rfl)).mono ?_
    rintro ⟨r, K5⟩ ⟨f1, ro, f2⟩
    simp only at f1 f2
    subst f1 f2
    have hTs := hT3.set (i := i) (e := none) (c := .nilPtr) g1 (fun j h => h) hT3.notG hT3.lt (.inl ⟨rfl, rfl⟩)
    rcases hr' with ⟨d, x, h1, h2, h3, _⟩ | ⟨h1, h2⟩
    · have : x = .agg cs := by injection h2 with h2; injection h2 with h2 _; exact h2.symm
      subst this
      have kt := (kk.no (G := fun i => i = t)).tr (Frame.set (K2 ++ [IObj.row cs false]) (IObj.row (ct.set i .nilPtr) false) (rfl : t = t))
      refine ⟨kt.setNew _ (Nat.le_refl _), .inl ⟨d, _, h1, rfl, ?_, ?_⟩⟩
      · refine ((h3.kp k3).mono (G := fun i => H.length < i) fun i (hi : K.length ≤ i) => by omega).frame (Frame.set (F := fun i => i = t) _ _ rfl) (fun i hi e => by omega) |>.frame (Frame.set (F := fun i => i = H.length) _ _ rfl) (fun i hi e => by omega) |>.mono fun i hi => Nat.le_of_lt hi
      · unfold put'
        rw [Int.toNat_natCast]
        exact hTs.frame (Frame.set (F := fun i => i = H.length) _ _ rfl) (by omega) fun i hi => by have := hT.lt i hi; omega
    · rw [hl] at h1; cases h1
/-! ### full, all -/
theorem idx_go {G : Nat → Prop} {H : Heap} {t : Nat} {tab : Tab} (hT : TabOk G H t tab) {v : IV} {cs : List IV} (hs : Sl 1 H v 32 cs) (hcs : H[t]? = some (.row cs false)) : ∀ (k i n : Nat), i + k = 32 → k < n → (∀ j, j < i → tab[j]? ≠ some none) →
    Wp (slicesIndexVeneerApiDescVeneerApiDescC0S cal φ N (fun H => some ((.int .i64 (-1)), H)) n v .nilPtr (.int .i64 (32 : Nat)) (.int .i64 (i : Nat)) H) fun r => r.2 = H ∧ ∃ z, r.1 = .int .i64 z ∧ (0 ≤ z ↔ none ∈ tab) := by
  intro k
  induction k with
  | zero =>
    intro i n hi hn hj
    obtain ⟨n, rfl⟩ : ∃ j, n = j + 1 := ⟨n - 1, by omega⟩
    rw [slicesIndexVeneerApiDescVeneerApiDescC0S, lbin_lss, ob_some, decide_eq_false (by omega), cnd_false]
    refine Wp.ret ⟨rfl, -1, rfl, ⟨fun h => by omega, fun h => ?_⟩⟩
    obtain ⟨j, hj'⟩ := List.mem_iff_getElem?.1 h
    have := (List.getElem?_eq_some_iff.1 hj').1
    exact absurd hj' (hj j (by have := hT.len; omega))
  | succ k ih =>
    intro i n hi hn hj
    obtain ⟨n, rfl⟩ : ∃ j, n = j + 1 := ⟨n - 1, by omega⟩
    rw [slicesIndexVeneerApiDescVeneerApiDescC0S, lbin_lss, ob_some, decide_eq_true (by omega), cnd_true]
    obtain ⟨p, a1, a2⟩ := hs.at1 (i := i) (by omega)
    obtain ⟨cs', c, e, g1, g2, g3, g4, g5⟩ := hT.get (i := i) (by omega)
    rw [hcs] at g1; cases g1
    rw [a1, ob_some, a2, g3, ob_some]
    rcases g5 with ⟨rfl, rfl⟩ | ⟨d', b, nv', rfl, rfl, h1, h2, h3, h4⟩
    · refine Wp.of (a := .bool true) rfl ?_
      rw [cnd_true]
      exact Wp.ret ⟨rfl, (i : Nat), rfl, ⟨fun _ => List.mem_of_getElem? g4, fun _ => by omega⟩⟩
    · refine Wp.of (a := .bool false) rfl ?_
      rw [cnd_false, lbin_add, ob_some, wrap_i64 (by omega) (by omega), show ((i : Nat) : Int) + 1 = ((i + 1 : Nat) : Int) by omega]
      refine ih (i + 1) n (by omega) (by omega) fun j hlt => ?_
      by_cases e : j = i
      · subst e; rw [g4]; simp
      · exact hj j (by omega)
/-- The table's places as a slice. -/
theorem arr_sl {H : Heap} {t : Nat} {cs : List IV} (h : H[t]? = some (.row cs false)) (hl : cs.length = 32) : ∃ v, lslice H (.arr 32 1) (.ptr t 0) none none none = some v ∧ Sl 1 H v 32 cs ∧ v.one = true := by
  refine ⟨.slice t (0 + 0 * 1) (32 - 0) (32 - 0) true 1, ?_, ⟨by omega, .inr ⟨t, 0, 32, true, 1, rfl, Nat.le_refl _, .inr rfl, fun _ => ⟨cs, false, h, by omega, by rw [List.drop_zero, List.take_of_length_le (by omega)]⟩⟩⟩, rfl⟩
  simp only [lslice, bnd, Option.bind_some, h]
  rw [if_pos (by simp [hl])]
def IdxOk (φ : Oracle) (f : FuncId) : Prop := ∀ (G : Nat → Prop) (H : Heap) (t : Nat) (tab : Tab) (v : IV) (cs : List IV), TabOk G H t tab → Sl 1 H v 32 cs → H[t]? = some (.row cs false) → Wp (φ f [v, .nilPtr] H) fun r => r.2 = H ∧ ∃ z, r.1 = .int .i64 z ∧ (0 ≤ z ↔ none ∈ tab)
theorem idx_s (hN : 32 < N) {G : Nat → Prop} {H : Heap} {t : Nat} {tab : Tab} (hT : TabOk G H t tab) {v : IV} {cs : List IV} (hs : Sl 1 H v 32 cs) (hcs : H[t]? = some (.row cs false)) : Wp (slicesIndexVeneerApiDescVeneerApiDescS cal φ N v .nilPtr H) fun r => r.2 = H ∧ ∃ z, r.1 = .int .i64 z ∧ (0 ≤ z ↔ none ∈ tab) := by
  unfold slicesIndexVeneerApiDescVeneerApiDescS slicesIndexVeneerApiDescVeneerApiDescC4S slicesIndexVeneerApiDescVeneerApiDescC3S slicesIndexVeneerApiDescVeneerApiDescC2S slicesIndexVeneerApiDescVeneerApiDescC1S
  rw [hs.len, ob_some]
  exact idx_go hT hs hcs 32 0 N (by omega) hN (fun j h => by omega)
def ContOk (φ : Oracle) (f : FuncId) : Prop := ∀ (G : Nat → Prop) (H : Heap) (t : Nat) (tab : Tab) (v : IV) (cs : List IV), TabOk G H t tab → Sl 1 H v 32 cs → H[t]? = some (.row cs false) → φ f [v, .nilPtr] H = some (.bool (decide (none ∈ tab)), H)
theorem cont_s {fi : FuncId} (h : IdxOk φ fi) {G : Nat → Prop} {H : Heap} {t : Nat} {tab : Tab} (hT : TabOk G H t tab) {v : IV} {cs : List IV} (hs : Sl 1 H v 32 cs) (hcs : H[t]? = some (.row cs false)) : slicesContainsVeneerApiDescVeneerApiDescS cal φ N fi v .nilPtr H = some (.bool (decide (none ∈ tab)), H) := by
  unfold slicesContainsVeneerApiDescVeneerApiDescS
  obtain ⟨⟨r, H2⟩, e, h1, z, h2, h3⟩ := h G H t tab v cs hT hs hcs
  simp only at h1 h2
  subst h1 h2
  rw [e, ob_some]
  simp only
  rw [lbin_geq, ob_some, decide_eq_decide.2 h3]
def FullOk (φ : Oracle) (f : FuncId) : Prop := ∀ (G : Nat → Prop) (H : Heap) (t : Nat) (tab : Tab), TabOk G H t tab → φ f [.ptr t 0] H = some (.bool (!decide (none ∈ tab)), H)
theorem full_s {fc : FuncId} (h : ContOk φ fc) {G : Nat → Prop} {H : Heap} {t : Nat} {tab : Tab} (hT : TabOk G H t tab) : VeneerDescTableFullS cal φ N fc (.ptr t 0) H = some (.bool (!decide (none ∈ tab)), H) := by
  unfold VeneerDescTableFullS
  obtain ⟨cs, g1, g2, g3⟩ := hT.row
  obtain ⟨v, a1, a2, a3⟩ := arr_sl g1 g2
  rw [lchk_ptr, ob_some, loff_ptr, ob_some, Nat.zero_add, a1, ob_some, h G H t tab v cs hT a2 g1, ob_some]
  simp only
  rw [iun_not, ob_some]
/-- The open ones. -/
def opens (tab : Tab) : List Nat := (List.range 32).filter fun i => (tab[i]?).join.isSome
def ints (l : List Nat) : List IV := l.map fun i => .int .i64 (i : Nat)
theorem ints_length (l : List Nat) : (ints l).length = l.length := by simp [ints]
theorem ints_one (l : List Nat) : (ints l).all IV.one = true := by simp [ints, IV.one]
theorem ints_append (a b : List Nat) : ints (a ++ b) = ints a ++ ints b := by simp [ints]
def AllP (H : Heap) (tab : Tab) (r : Out) : Prop := Frame NoF H r.2 ∧ Sl 1 r.2 r.1 (opens tab).length (ints (opens tab)) ∧ At (New H) r.1
def AllOk (φ : Oracle) (f : FuncId) : Prop := ∀ (G : Nat → Prop) (H : Heap) (t : Nat) (tab : Tab), TabOk G H t tab → Wp (φ f [.ptr t 0] H) (AllP H tab)
theorem opensTo_succ (tab : Tab) (i : Nat) : (List.range (i + 1)).filter (fun i => (tab[i]?).join.isSome) = (List.range i).filter (fun i => (tab[i]?).join.isSome) ++ (if (tab[i]?).join.isSome then [i] else []) := by
  rw [List.range_succ, List.filter_append]
  congr 1
  simp only [List.filter_cons, List.filter_nil]
theorem opensTo_len (tab : Tab) (i : Nat) : ((List.range i).filter fun i => (tab[i]?).join.isSome).length ≤ i := by
  have := List.length_filter_le (fun i => (tab[i]?).join.isSome) (List.range i)
  simpa using this
theorem all_go {G : Nat → Prop} {H0 : Heap} {t : Nat} {tab : Tab} (hT0 : TabOk G H0 t tab) : ∀ (k i n : Nat) (w : IV) (H : Heap), i + k = 32 → k < n → Frame NoF H0 H → Buf H0.length 1 H w (ints ((List.range i).filter fun i => (tab[i]?).join.isSome)) →
    Wp (VeneerDescTableAllC0S cal φ N (fun v3 H => some (v3, H)) n (.ptr t 0) w (.int .i64 (i : Nat)) H) (AllP H0 tab) := by
  intro k
  induction k with
  | zero =>
    intro i n w H hi hn hK hw
    obtain ⟨n, rfl⟩ : ∃ j, n = j + 1 := ⟨n - 1, by omega⟩
    rw [VeneerDescTableAllC0S, lbin_lss, ob_some, decide_eq_false (by omega), cnd_false]
    have : i = 32 := by omega
    subst this
    exact Wp.ret ⟨hK, hw.sl' (by rw [ints_length]; simp [opens]) (by omega), hw.ge⟩
  | succ k ih =>
    intro i n w H hi hn hK hw
    obtain ⟨n, rfl⟩ : ∃ j, n = j + 1 := ⟨n - 1, by omega⟩
    rw [VeneerDescTableAllC0S, lbin_lss, ob_some, decide_eq_true (by omega), cnd_true, jn_eq]
    have hT := hT0.kp hK
    obtain ⟨cs, c, e, g1, g2, g3, g4, g5⟩ := hT.get (i := i) (by omega)
    rw [lchk_ptr, ob_some, loff_ptr, ob_some, lixa_ptr, if_pos (by omega), Int.toNat_natCast, Nat.mul_one, Nat.zero_add, ob_some, ld1 g1, g3, ob_some]
    have hsucc := opensTo_succ tab i
    rw [g4] at hsucc
    rcases g5 with ⟨rfl, rfl⟩ | ⟨d', b, nv', rfl, rfl, h1, h2, h3, h4⟩
    · refine Wp.of (a := .bool false) rfl ?_
      rw [cnd_false]
      simp only
      rw [lbin_add, ob_some, wrap_i64 (by omega) (by omega), show ((i : Nat) : Int) + 1 = ((i + 1 : Nat) : Int) by omega]
      exact ih (i + 1) n w H (by omega) (by omega) hK (by rw [hsucc]; simpa using hw)
    · refine Wp.of (a := .bool true) rfl ?_
      rw [cnd_true]
      have z : lbldS H 1 1 [(.int .i64 0)] [(0, .int .i64 (i : Nat))] = some (.slice H.length 0 1 1 true 1, H ++ [.row (ints [i]) false]) := rfl
      rw [z, ob_some]
      simp only
      have k1 : Frame NoF H (H ++ [.row (ints [i]) false]) := Frame.push _ _ _
      have hx : Sl 1 (H ++ [.row (ints [i]) false]) (.slice H.length 0 1 1 true 1) 1 (ints [i]) := ⟨rfl, .inr ⟨_, 0, 1, true, 1, rfl, Nat.le_refl _, .inr rfl, fun _ => ⟨_, false, newRow, Nat.le_refl _, rfl⟩⟩⟩
      have ho := opensTo_len tab i
      refine Wp.call (app_sl (hw.frame k1 fun i h => h.elim) (by have := hK.1; simp; omega) (by omega) hx (ints_one _) (by rw [ints_length, ints_length]; simp; omega)) ?_
      rintro ⟨w2, H2⟩ ⟨q1, q2⟩
      simp only at q1 q2 ⊢
      rw [lbin_add, ob_some, wrap_i64 (by omega) (by omega), show ((i : Nat) : Int) + 1 = ((i + 1 : Nat) : Int) by omega]
      exact ih (i + 1) n w2 H2 (by omega) (by omega) ((hK.tr k1).trans q2 fun j hj hf => by omega) (by rw [hsucc, ints_append]; exact q1)
theorem all_s (hN : 32 < N) {G : Nat → Prop} {H : Heap} {t : Nat} {tab : Tab} (hT : TabOk G H t tab) : Wp (VeneerDescTableAllS cal φ N (.ptr t 0) H) (AllP H tab) := by
  unfold VeneerDescTableAllS VeneerDescTableAllC5S VeneerDescTableAllC4S VeneerDescTableAllC3S VeneerDescTableAllC2S VeneerDescTableAllC1S
  exact all_go hT 32 0 N .nilSlice H (by omega) hN (Frame.refl _ _) (.inl ⟨rfl, rfl⟩)
end
end Go.Shade
/- SHADE, part 28: arguments that came in: numbers, texts, structs and slices of such become rows that are only read. -/
namespace Go.Shade
open Go.RowKit
set_option linter.unusedSimpArgs false
set_option linter.unusedVariables false

inductive CT where
  | int (k : IntKind)
  | bool
  | str
  | sl (es : List CT)
mutual
def Fit (H : Heap) : CT → IV → Prop
  | .int k, v => ∃ n, v = .int k n ∧ (Lit.int k n).wf = true
  | .bool, v => ∃ b, v = .bool b
  | .str, v => ∃ s, v = .str s ∧ s.length ≤ maxLen
  | .sl es, v => v = .nilSlice ∨ ∃ (b n : Nat) (elems : List (List IV)), v = .slice b 0 n elems.length true 0 ∧ H[b]? = some (.row elems.flatten true) ∧ n ≤ elems.length ∧ elems.length ≤ maxLen ∧ ∀ e ∈ elems, Fits H es e
def Fits (H : Heap) : List CT → List IV → Prop
  | [], vs => vs = []
  | c :: cs, vs => ∃ v r, vs = v :: r ∧ Fit H c v ∧ Fits H cs r
end
mutual
theorem Fit.mono {H H' : Heap} (h : ∀ (b : Nat) o, H[b]? = some o → H'[b]? = some o) : ∀ (c : CT) (v : IV), Fit H c v → Fit H' c v
  | .int k, v, hf => by simpa [Fit] using hf
  | .bool, v, hf => by simpa [Fit] using hf
  | .str, v, hf => by simpa [Fit] using hf
  | .sl es, v, hf => by
    simp only [Fit] at hf ⊢
    rcases hf with hf | ⟨b, n, elems, h1, h2, h3, h4, h5⟩
    · exact .inl hf
    · exact .inr ⟨b, n, elems, h1, h _ _ h2, h3, h4, fun e he => Fits.mono h es e (h5 e he)⟩
theorem Fits.mono {H H' : Heap} (h : ∀ (b : Nat) o, H[b]? = some o → H'[b]? = some o) : ∀ (cs : List CT) (vs : List IV), Fits H cs vs → Fits H' cs vs
  | [], vs, hf => by simpa [Fits] using hf
  | c :: cs, vs, hf => by
    simp only [Fits] at hf ⊢
    obtain ⟨v, r, h1, h2, h3⟩ := hf
    exact ⟨v, r, h1, Fit.mono h c v h2, Fits.mono h cs r h3⟩
end
theorem app_mono {H : Heap} (X : Heap) : ∀ (b : Nat) o, H[b]? = some o → (H ++ X)[b]? = some o := by
  intro b o h
  rw [List.getElem?_append_left (List.getElem?_eq_some_iff.1 h).1]; exact h
theorem Fits.append {H : Heap} : ∀ {cs ds : List CT} {vs us : List IV}, Fits H cs vs → Fits H ds us → Fits H (cs ++ ds) (vs ++ us)
  | [], ds, vs, us, h, k => by simp only [Fits] at h; subst h; simpa using k
  | c :: cs, ds, vs, us, h, k => by
    simp only [Fits] at h
    obtain ⟨v, r, rfl, h2, h3⟩ := h
    simp only [List.cons_append, Fits]
    exact ⟨v, r ++ us, rfl, h2, h3.append k⟩
theorem Fits.length {H : Heap} : ∀ {cs : List CT} {vs : List IV}, Fits H cs vs → vs.length = cs.length
  | [], vs, h => by simp only [Fits] at h; subst h; rfl
  | c :: cs, vs, h => by
    simp only [Fits] at h
    obtain ⟨v, r, rfl, h2, h3⟩ := h
    simp [h3.length]
theorem Fit.one {H : Heap} {c : CT} {v : IV} (h : Fit H c v) : v.one = true := by
  cases c <;> simp only [Fit] at h
  · obtain ⟨n, rfl, _⟩ := h; rfl
  · obtain ⟨n, rfl⟩ := h; rfl
  · obtain ⟨n, rfl, _⟩ := h; rfl
  · rcases h with rfl | ⟨b, n, e, rfl, _⟩ <;> rfl
theorem Fits.one {H : Heap} : ∀ {cs : List CT} {vs : List IV}, Fits H cs vs → ∀ v ∈ vs, v.one = true
  | [], vs, h => by simp only [Fits] at h; subst h; simp
  | c :: cs, vs, h => by
    simp only [Fits] at h
    obtain ⟨v, r, rfl, h2, h3⟩ := h
    intro x hx
    rcases List.mem_cons.1 hx with rfl | hx
    · exact h2.one
    · exact h3.one x hx

def flatFs (P : Program) (fl : TypeId → Option (List CT)) : Nat → List Field → Option (List CT)
  | _, [] => some []
  | off, f :: fs => if f.offset = off then (fl f.type).bind fun c => if c.length = P.cellsOf f.type then (flatFs P fl (off + c.length) fs).map (c ++ ·) else none else none
def flat (P : Program) : Nat → TypeId → Option (List CT)
  | 0, _ => none
  | n + 1, t => match P.underlying t with
    | some .bool => some [.bool]
    | some (.int k) => some [.int k]
    | some .string => some [.str]
    | some (.slice e) => (flat P n e).bind fun es => if es.length = P.cellsOf e ∧ es ≠ [] then some [.sl es] else none
    | some (.struct fs) => (flatFs P (flat P n) 0 fs.toList).bind fun cs => if cs.length = P.cellsOf t then some cs else none
    | _ => none

theorem Rel.pushRo {B0 : Nat} {w0 w : World} {m : Mp} {H : Heap} (h : Rel B0 w0 m H w) (l : Loc) (cs : List IV)
    (hg : cs ≠ [] → ∃ C e fr, w.heap[l.cb]? = some (.cells C e fr) ∧ l.cb < B0 ∧ ∀ (j : Nat) v, cs[j]? = some v → v.one = true ∧ ∃ u, C[l.co + j]? = some u ∧ VR m v u) :
    Rel B0 w0 (grow m H.length l) (H ++ [.row cs true]) w := by
  have hext := grow_ext h l
  refine ⟨h.below, h.base, fun i k hi => ?_, fun i o hi => ?_, fun i j o p li lj hi hj ho hp hne hmi hmj => ?_⟩
  · simp only [grow] at hi
    split at hi
    · simp; omega
    · have := h.dom i k hi; simp; omega
  · rw [List.getElem?_append] at hi
    split at hi
    · exact (h.good i o hi).move hext (fun _ _ _ => rfl)
    · rename_i hge
      have hz : i - H.length = 0 := by
        rcases Nat.eq_zero_or_pos (i - H.length) with e | e
        · exact e
        · rw [List.getElem?_eq_none (by simp; omega)] at hi; exact absurd hi (by simp)
      rw [hz] at hi; simp at hi; subst hi
      have : i = H.length := by omega
      subst this
      refine ⟨l, grow_at _ _ _, fun hne => ?_⟩
      obtain ⟨C, e, fr, h1, h2, h3⟩ := hg hne
      exact ⟨C, e, fr, h1, h2, fun j v hj => by obtain ⟨h4, u, h5, h6⟩ := h3 j v hj; exact ⟨h4, u, h5, h6.ext hext⟩⟩
  · have key : ∀ {a : Nat} {q : IObj}, (H ++ [IObj.row cs true])[a]? = some q → q.held = true → H[a]? = some q ∧ a ≠ H.length := by
      intro a q ha hq
      rw [List.getElem?_append] at ha
      split at ha
      · exact ⟨ha, by omega⟩
      · rename_i hge
        have hz : a - H.length = 0 := by
          rcases Nat.eq_zero_or_pos (a - H.length) with e | e
          · exact e
          · rw [List.getElem?_eq_none (by simp; omega)] at ha; exact absurd ha (by simp)
        rw [hz] at ha; simp at ha; subst ha; simp [IObj.held] at hq
    obtain ⟨h1, h2⟩ := key hi ho
    obtain ⟨h3, h4⟩ := key hj hp
    simp only [grow, if_neg h2] at hmi
    simp only [grow, if_neg h4] at hmj
    exact h.inj i j o p li lj h1 h3 ho hp hne hmi hmj

/-- What an argument's cells become. -/
def Opened (B0 : Nat) (w0 w : World) (m : Mp) (H : Heap) (cts : List CT) (cs : List Value) : Prop :=
  ∃ m' X ivs, Ext m m' ∧ Rel B0 w0 m' (H ++ X) w ∧ VRs m' ivs cs ∧ Fits (H ++ X) cts ivs
theorem add_add' (a : Addr) (i j : Nat) : (a.add i).add j = a.add (i + j) := by
  unfold Addr.add
  by_cases hi : i = 0
  · subst hi; simp
  · by_cases hj : j = 0
    · subst hj; simp
    · rw [if_neg hi, if_neg hj, if_neg (by omega)]; simp [Nat.add_assoc]
theorem cell_lt {w : World} {a : Addr} {v : Value} (h : w.cell? a = some v) : a.spot = none ∧ ∃ C e fr, w.heap[a.block]? = some (.cells C e fr) ∧ C[a.off]? = some v := by
  unfold World.cell? at h
  split at h
  · rename_i c e fr hc
    split at h
    · cases h
    · rename_i hs
      exact ⟨by simpa using hs, c, e, fr, hc, h⟩
  · cases h

section
variable {K : Type} {enc : TypeId × Value → K} {P : Program} {w w0 : World} {B0 : Nat} {held : Bool}
theorem open_fields (hB : B0 = w.heap.size) {n : Nat} (ih : ∀ t cts, flat P n t = some cts → ∀ fuel cs x, DataW.trod enc P w 0 (fun _ => true) held fuel t cs = some x → ∀ m H, Rel B0 w0 m H w → Opened B0 w0 w m H cts cs) {fuel : Nat} {cs : List Value} :
    ∀ (fs : List Field) (off : Nat) (cts : List CT), flatFs P (flat P n) off fs = some cts → cs.length = off + cts.length →
      (∀ f ∈ fs, ∃ x, DataW.trod enc P w 0 (fun _ => true) held fuel f.type ((cs.drop f.offset).take (P.cellsOf f.type)) = some x) → ∀ m H, Rel B0 w0 m H w → Opened B0 w0 w m H cts (cs.drop off)
  | [], off, cts, h, hl, _, m, H, hR => by
    simp only [flatFs] at h; cases h
    refine ⟨m, [], [], Ext.refl m, by simpa using hR, ?_, by simp [Fits]⟩
    rw [List.drop_of_length_le (by simpa using Nat.le_of_eq hl)]; exact VRs.nil m
  | f :: fs, off, cts, h, hl, hx, m, H, hR => by
    simp only [flatFs] at h
    split at h
    · rename_i hoff
      obtain ⟨c, hc, h⟩ := Option.bind_eq_some_iff.1 h
      split at h
      · rename_i hcl
        simp only [Option.map_eq_some_iff] at h
        obtain ⟨r, hr, rfl⟩ := h
        obtain ⟨x, hx1⟩ := hx f (by simp)
        obtain ⟨m1, X1, v1, e1, r1, s1, f1⟩ := ih f.type c hc _ _ _ hx1 m H hR
        obtain ⟨m2, X2, v2, e2, r2, s2, f2⟩ := open_fields hB ih fs (off + c.length) r hr (by simp at hl; omega) (fun g hg => hx g (by simp [hg])) m1 (H ++ X1) r1
        refine ⟨m2, X1 ++ X2, v1 ++ v2, e1.trans e2, by simpa using r2, ?_, ?_⟩
        · have : cs.drop off = (cs.drop off).take c.length ++ cs.drop (off + c.length) := by
            rw [← List.drop_drop, List.take_append_drop]
          rw [this]
          rw [hoff, ← hcl] at s1
          exact (s1.ext e2).append s2
        · rw [← List.append_assoc]
          exact (f1.mono (app_mono X2)).append f2
      · cases h
    · cases h
theorem open_flat (hB : B0 = w.heap.size) : ∀ (n : Nat) (t : TypeId) (cts : List CT), flat P n t = some cts → ∀ (fuel : Nat) (cs : List Value) (x : DataW K × List MemPlace), DataW.trod enc P w 0 (fun _ => true) held fuel t cs = some x → ∀ m H, Rel B0 w0 m H w → Opened B0 w0 w m H cts cs
  | 0, _, _, h => by simp [flat] at h
  | n + 1, t, cts, h => by
    intro fuel cs x hx m H hR
    have hxx := hx
    simp only [flat] at h
    split at h
    · rename_i hu
      cases h
      obtain ⟨b, rfl, _⟩ := DataW.trod_bool hu hx
      exact ⟨m, [], [.bool b], Ext.refl m, by simpa using hR, VRs.cons (VR_bool m b) (VRs.nil m), by simp [Fits, Fit]⟩
    · rename_i k hu
      cases h
      obtain ⟨i, rfl, _, hw⟩ := DataW.trod_int hu hx
      exact ⟨m, [], [.int k i], Ext.refl m, by simpa using hR, VRs.cons (VR_int m k i) (VRs.nil m), by simp [Fits, Fit, hw]⟩
    · rename_i hu
      cases h
      obtain ⟨s, rfl, _, hw⟩ := DataW.trod_string hu hx
      refine ⟨m, [], [.str s.data.toList], Ext.refl m, by simpa using hR, VRs.cons (by simp [VR]) (VRs.nil m), ?_⟩
      simp only [Fits, Fit]
      exact ⟨_, _, rfl, ⟨_, rfl, by rw [Array.length_toList]; exact hw⟩, rfl⟩
    · rename_i e hu
      obtain ⟨es, he, h⟩ := Option.bind_eq_some_iff.1 h
      split at h
      · rename_i hne
        cases h
        rcases Go.Deep.open_slice hu hx with ⟨rfl, _⟩ | ⟨a, len, cap, mm, k, D, Pl, rfl, _, hlc, hcm, hmm, _, hi⟩
        · refine ⟨m, [], [.nilSlice], Ext.refl m, by simpa using hR, VRs.cons (by simp [VR]) (VRs.nil m), ?_⟩
          simp only [Fits, Fit]
          exact ⟨_, _, rfl, .inl rfl, rfl⟩
        · simp only [if_true] at hmm
          subst hmm
          have hC : 0 < es.length := List.length_pos_iff.2 hne.2
          have key : ∀ j, j ≤ mm → ∃ (m' : Mp) (X : Heap) (elems : List (List IV)), Ext m m' ∧ Rel B0 w0 m' (H ++ X) w ∧ elems.length = j ∧ (∀ e' ∈ elems, Fits (H ++ X) es e') ∧ elems.flatten.length = j * es.length ∧
              (∀ (q : Nat) v, elems.flatten[q]? = some v → ∃ u, w.cell? (a.add q) = some u ∧ VR m' v u) := by
            intro j
            induction j with
            | zero => intro _; exact ⟨m, [], [], Ext.refl m, by simpa using hR, rfl, by simp, by simp, by simp⟩
            | succ j ihj =>
              intro hj
              obtain ⟨m1, X1, el, e1, r1, l1, f1, c1, v1⟩ := ihj (by omega)
              obtain ⟨cs', hc, ht⟩ := hi j (by omega)
              obtain ⟨_, hcl, hat⟩ := World.cells?_some hc
              obtain ⟨m2, X2, iv, e2, r2, s2, f2⟩ := open_flat hB n e es he _ _ _ ht m1 (H ++ X1) r1
              have hivl := f2.length
              refine ⟨m2, X1 ++ X2, el ++ [iv], e1.trans e2, by simpa using r2, by simp [l1], ?_, ?_, ?_⟩
              · intro e' he'
                rw [← List.append_assoc]
                rcases List.mem_append.1 he' with he' | he'
                · exact (f1 e' he').mono (app_mono X2)
                · simp at he'; subst he'; exact f2
              · simp only [List.flatten_append, List.length_append, c1, List.flatten_cons, List.flatten_nil, List.append_nil, hivl]
                rw [Nat.add_mul]; omega
              · intro q v hq
                simp only [List.flatten_append, List.flatten_cons, List.flatten_nil, List.append_nil] at hq
                rw [List.getElem?_append] at hq
                split at hq
                · obtain ⟨u, hu1, hu2⟩ := v1 q v hq
                  exact ⟨u, hu1, hu2.ext e2⟩
                · rename_i hge
                  rw [c1] at hge hq
                  obtain ⟨u, hu1, hu2⟩ := s2.get hq
                  have hql : q - j * es.length < es.length := by have h9 := (List.getElem?_eq_some_iff.1 hq).1; rw [hivl] at h9; exact h9
                  have := hat (q - j * es.length) (by rw [← hne.1]; exact hql)
                  rw [hu1, add_add', ← hne.1, show j * es.length + (q - j * es.length) = q by omega] at this
                  exact ⟨u, this, hu2⟩
          obtain ⟨m1, X1, el, e1, r1, l1, f1, c1, v1⟩ := key mm (Nat.le_refl _)
          have hspot : 0 < mm → a.spot = none := by
            intro hm
            have hl : 0 < el.flatten.length := by rw [c1]; exact Nat.mul_pos hm hC
            obtain ⟨u, hu1, _⟩ := v1 0 _ (List.getElem?_eq_getElem hl)
            have := (cell_lt hu1).1
            simpa [Addr.add] using this
          have hrow : el.flatten ≠ [] → ∃ C e fr, w.heap[a.block]? = some (.cells C e fr) ∧ a.block < B0 ∧ ∀ (j : Nat) v, el.flatten[j]? = some v → v.one = true ∧ ∃ u, C[a.off + j]? = some u ∧ VR m1 v u := by
            intro hne'
            have hl : 0 < el.flatten.length := List.length_pos_iff.2 hne'
            obtain ⟨u, hu1, _⟩ := v1 0 _ (List.getElem?_eq_getElem hl)
            obtain ⟨_, C, e', fr, hc, _⟩ := cell_lt hu1
            have ha0 : (a.add 0) = a := by simp [Addr.add]
            rw [ha0] at hc
            refine ⟨C, e', fr, hc, by rw [hB]; exact (Array.getElem?_eq_some_iff.1 hc).1, fun j v hj => ?_⟩
            obtain ⟨u', hu', hr'⟩ := v1 j v hj
            obtain ⟨_, C', e'', fr', hc', hcu⟩ := cell_lt hu'
            have hab : (a.add j).block = a.block := by unfold Addr.add; split <;> rfl
            have hao : (a.add j).off = a.off + j := by unfold Addr.add; split <;> simp_all
            rw [hab, hc] at hc'; cases hc'
            rw [hao] at hcu
            have hmem : v ∈ el.flatten := List.mem_of_getElem? hj
            obtain ⟨e0, he0, hve⟩ := List.mem_flatten.1 hmem
            exact ⟨(f1 e0 he0).one v hve, u', hcu, hr'⟩
          have hp := r1.pushRo ⟨a.block, a.off, 0⟩ el.flatten hrow
          have hext := grow_ext r1 ⟨a.block, a.off, 0⟩
          refine ⟨_, X1 ++ [.row el.flatten true], [.slice (H ++ X1).length 0 len el.length true 0], e1.trans hext, by rw [← List.append_assoc]; exact hp, VRs.cons ?_ (VRs.nil _), ?_⟩
          · simp only [VR]
            refine ⟨_, a.off, mm, a.spot, grow_at _ _ _, rfl, by omega, by omega, fun _ => l1.symm, fun h0 => ⟨rfl, hspot (by omega)⟩, fun h0 => absurd h0 (by omega)⟩
          · simp only [Fits, Fit]
            refine ⟨_, _, rfl, .inr ⟨_, len, el, rfl, by rw [← List.append_assoc]; simp, by omega, by omega, fun e' he' => ?_⟩, rfl⟩
            rw [← List.append_assoc]
            exact (f1 e' he').mono (app_mono _)
      · cases h
    · rename_i fs hu
      obtain ⟨cs', hc, h⟩ := Option.bind_eq_some_iff.1 h
      split at h
      · rename_i hl
        cases h
        obtain ⟨xs, k, _, _, hcl, hxl, hf⟩ := DataW.trod_struct hu hx
        have := open_fields (fuel := k) (cs := cs) hB (open_flat hB n) fs.toList 0 cts hc (by omega) (fun f hf' => by
          obtain ⟨i, hi⟩ := List.mem_iff_getElem?.1 hf'
          have hil : i < fs.size := by simpa using (List.getElem?_eq_some_iff.1 hi).1
          rw [hf i f (by simpa using hi)]
          exact ⟨_, List.getElem?_eq_getElem (by omega)⟩) m H hR
        simpa using this
      · cases h
    · cases h

/-- What one argument becomes: its cells' kinds, and whether it is a struct. -/
def FitA (H : Heap) (cts : List CT) (agg : Bool) (v : IV) : Prop :=
  match agg with
  | true => ∃ ivs, v = .agg ivs ∧ Fits H cts ivs
  | false => ∃ c, cts = [c] ∧ Fit H c v
theorem FitA.mono {H H' : Heap} (h : ∀ (b : Nat) o, H[b]? = some o → H'[b]? = some o) {cts : List CT} {agg : Bool} {v : IV} (hf : FitA H cts agg v) : FitA H' cts agg v := by
  cases agg with
  | true => obtain ⟨ivs, h1, h2⟩ := hf; exact ⟨ivs, h1, h2.mono h⟩
  | false => obtain ⟨c, h1, h2⟩ := hf; exact ⟨c, h1, h2.mono h⟩
structure AT where
  cts : List CT
  agg : Bool
def FitAll (H : Heap) : List AT → List IV → Prop
  | [], vs => vs = []
  | a :: ats, vs => ∃ v r, vs = v :: r ∧ FitA H a.cts a.agg v ∧ FitAll H ats r
theorem FitAll.mono {H H' : Heap} (h : ∀ (b : Nat) o, H[b]? = some o → H'[b]? = some o) : ∀ {ats : List AT} {vs : List IV}, FitAll H ats vs → FitAll H' ats vs
  | [], vs, hf => hf
  | a :: ats, vs, hf => by
    obtain ⟨v, r, h1, h2, h3⟩ := hf
    exact ⟨v, r, h1, h2.mono h, FitAll.mono h h3⟩
def aggOf (P : Program) (t : TypeId) : Bool := match P.underlying t with
  | some (.struct _) | some (.array _ _) => true
  | _ => false
def atOf (P : Program) (n : Nat) (t : TypeId) : Option AT := (flat P n t).map fun c => ⟨c, aggOf P t⟩
def atsOf (P : Program) (n : Nat) : List TypeId → Option (List AT)
  | [] => some []
  | t :: ts => (atOf P n t).bind fun a => (atsOf P n ts).bind fun ats => some (a :: ats)
theorem open_one (hB : B0 = w.heap.size) {n : Nat} {t : TypeId} {cts : List CT} (hfl : flat P n t = some cts) {v : Value} {d : DataW K} {p : List MemPlace} {r : Reach} {b0 : Nat} (hv : Value.okWide P w r b0 t v) (ht : DataW.Trod enc P w 0 (fun _ => true) held t v d p) {m : Mp} {H : Heap} (hR : Rel B0 w0 m H w) :
    ∃ m' X iv, Ext m m' ∧ Rel B0 w0 m' (H ++ X) w ∧ VR m' iv v ∧ FitA (H ++ X) cts (aggOf P t) iv := by
  obtain ⟨fuel, hf⟩ := ht
  obtain ⟨m', X, ivs, h1, h2, h3, h4⟩ := open_flat hB n t cts hfl fuel _ _ hf m H hR
  cases ha : aggOf P t with
  | true =>
    have hagg : ∃ cs, v = .agg cs := by
      unfold aggOf at ha
      split at ha
      · rename_i hu; simp only [Value.okWide, hu] at hv; obtain ⟨cs, hv, _⟩ := hv; exact ⟨cs, hv⟩
      · rename_i hu; simp only [Value.okWide, hu] at hv; obtain ⟨cs, hv, _⟩ := hv; exact ⟨cs, hv⟩
      · cases ha
    obtain ⟨cs, rfl⟩ := hagg
    exact ⟨m', X, .agg ivs, h1, h2, by simp only [VR]; exact ⟨cs, rfl, by simpa [Value.cells] using h3⟩, ⟨ivs, rfl, h4⟩⟩
  | false =>
    have hone : ∃ c, cts = [c] := by
      cases n with
      | zero => simp [flat] at hfl
      | succ n =>
        simp only [flat] at hfl
        split at hfl
        · cases hfl; exact ⟨_, rfl⟩
        · cases hfl; exact ⟨_, rfl⟩
        · cases hfl; exact ⟨_, rfl⟩
        · obtain ⟨es, _, hfl⟩ := Option.bind_eq_some_iff.1 hfl
          split at hfl
          · cases hfl; exact ⟨_, rfl⟩
          · cases hfl
        · rename_i fs hu; unfold aggOf at ha; rw [hu] at ha; cases ha
        · cases hfl
    obtain ⟨c, rfl⟩ := hone
    simp only [Fits] at h4
    obtain ⟨iv, rr, rfl, h5, rfl⟩ := h4
    simp only [VRs] at h3
    obtain ⟨u, us, h6, h7, h8⟩ := h3
    subst h8
    have hvc : v = u := by
      have hna : ∀ cs, v ≠ .agg cs := by
        rintro cs rfl
        cases n with
        | zero => simp [flat] at hfl
        | succ n =>
          simp only [flat] at hfl
          simp only [Value.okWide] at hv
          unfold aggOf at ha
          cases hu : P.underlying t with
          | none => rw [hu] at hfl; cases hfl
          | some dd => rw [hu] at hv ha; cases dd <;> simp_all [Cell.okWide, Cell.ok]
      cases v <;> simp_all [Value.cells]
    subst hvc
    exact ⟨m', X, iv, h1, h2, h7, ⟨c, rfl, h5⟩⟩
theorem open_all (hB : B0 = w.heap.size) {n : Nat} {r : Reach} {b0 : Nat} : ∀ {ts : List TypeId} {ats : List AT} {vs : List Value} {ds : List (DataW K)} {p : List MemPlace}, atsOf P n ts = some ats →
    (∀ (j : Nat) t v, ts[j]? = some t → vs[j]? = some v → Value.okWide P w r b0 t v) → DataW.TrodAll enc P w 0 (fun _ => true) held ts vs ds p → ∀ {m : Mp} {H : Heap}, Rel B0 w0 m H w →
    ∃ m' X ivs, Ext m m' ∧ Rel B0 w0 m' (H ++ X) w ∧ VRs m' ivs vs ∧ FitAll (H ++ X) ats ivs
  | [], ats, vs, ds, p, ha, hv, ht, m, H, hR => by
    simp only [atsOf] at ha; cases ha
    cases vs with
    | nil => exact ⟨m, [], [], Ext.refl m, by simpa using hR, VRs.nil m, rfl⟩
    | cons v vs => cases ds <;> simp [DataW.TrodAll] at ht
  | t :: ts, ats, vs, ds, p, ha, hv, ht, m, H, hR => by
    simp only [atsOf] at ha
    obtain ⟨a, ha1, ha⟩ := Option.bind_eq_some_iff.1 ha
    obtain ⟨ats', ha2, ha⟩ := Option.bind_eq_some_iff.1 ha
    cases ha
    cases vs with
    | nil => cases ds <;> simp [DataW.TrodAll] at ht
    | cons v vs =>
      cases ds with
      | nil => simp [DataW.TrodAll] at ht
      | cons d ds =>
        simp only [DataW.TrodAll] at ht
        obtain ⟨p1, q1, t1, t2, _⟩ := ht
        simp only [atOf, Option.map_eq_some_iff] at ha1
        obtain ⟨c, hc, rfl⟩ := ha1
        obtain ⟨m1, X1, iv, e1, r1, v1, f1⟩ := open_one hB hc (hv 0 t v rfl rfl) t1 hR
        obtain ⟨m2, X2, ivs, e2, r2, v2, f2⟩ := open_all hB ha2 (fun j t' v' h1 h2 => hv (j + 1) t' v' (by simpa using h1) (by simpa using h2)) t2 r1
        refine ⟨m2, X1 ++ X2, iv :: ivs, e1.trans e2, by simpa using r2, VRs.cons (v1.ext e2) v2, ⟨iv, ivs, rfl, ?_, ?_⟩⟩
        · rw [← List.append_assoc]; exact f1.mono (app_mono X2)
        · rw [← List.append_assoc]; exact f2
end
end Go.Shade
/- SHADE, part 29: from what a law's low code comes to, to the row's contract. -/
namespace Go.Shade
open Go.RowKit Go.ChangeShapes Go.WideShapes Go.ChangeAt
set_option linter.unusedSimpArgs false
set_option linter.unusedVariables false

def T0 : Table := fun _ => none
theorem soundT0 (P : Program) : SoundT P T0 := fun f g h => by cases h
theorem trodAll_lt {K : Type} {enc : TypeId × Value → K} {P : Program} {w : World} {base : Nat} {spare : Nat → Bool} {held : Bool} : ∀ {ts : List TypeId} {vs : List Value} {ds : List (DataW K)} {p : List MemPlace}, DataW.TrodAll enc P w base spare held ts vs ds p → ∀ x ∈ p, x.block < w.heap.size
  | [], [], [], p, h => by simp only [DataW.TrodAll] at h; subst h; simp
  | t :: ts, v :: vs, d :: ds, p, h => by
    simp only [DataW.TrodAll] at h
    obtain ⟨p1, q1, ⟨n, h1⟩, h2, rfl⟩ := h
    intro x hx
    rcases List.mem_append.1 hx with hx | hx
    · exact DataW.trod_lt _ _ _ _ h1 x hx
    · exact trodAll_lt h2 x hx
  | [], _ :: _, _, _, h => by simp [DataW.TrodAll] at h
  | [], [], _ :: _, _, h => by simp [DataW.TrodAll] at h
  | _ :: _, [], _, _, h => by simp [DataW.TrodAll] at h
  | _ :: _, _ :: _, [], _, h => by simp [DataW.TrodAll] at h
theorem trodAll_len {K : Type} {enc : TypeId × Value → K} {P : Program} {w : World} {base : Nat} {spare : Nat → Bool} {held : Bool} : ∀ {ts : List TypeId} {vs : List Value} {ds : List (DataW K)} {p : List MemPlace}, DataW.TrodAll enc P w base spare held ts vs ds p → ds.length = ts.length
  | [], [], [], p, h => rfl
  | t :: ts, v :: vs, d :: ds, p, h => by
    simp only [DataW.TrodAll] at h
    obtain ⟨p1, q1, ⟨n, h1⟩, h2, rfl⟩ := h
    simp [trodAll_len h2]
  | [], _ :: _, _, _, h => by simp [DataW.TrodAll] at h
  | [], [], _ :: _, _, h => by simp [DataW.TrodAll] at h
  | _ :: _, [], _, _, h => by simp [DataW.TrodAll] at h
  | _ :: _, _ :: _, [], _, h => by simp [DataW.TrodAll] at h
theorem trodAll_stays {K : Type} {enc : TypeId × Value → K} {P : Program} {W W' : World} (hl : laidOutB P = true) (hb : Below W.heap.size W W') : ∀ {ts : List TypeId} {vs : List Value} {ds : List (DataW K)} {p : List MemPlace},
    (ts.all fun t => P.readableRec t && decide (t < P.types.size)) = true → DataW.TrodAll enc P W 0 (fun _ => true) true ts vs ds p → DataW.TrodAll enc P W' 0 (fun b => decide (b < W.heap.size)) true ts vs ds p
  | [], [], [], p, _, h => h
  | t :: ts, v :: vs, d :: ds, p, hr, h => by
    simp only [List.all_cons, Bool.and_eq_true, decide_eq_true_eq] at hr
    simp only [DataW.TrodAll] at h ⊢
    obtain ⟨p1, q1, h1, h2, rfl⟩ := h
    refine ⟨p1, q1, Below.trod hl hr.1.1 hr.1.2 h1 hb (by obtain ⟨n, hn⟩ := h1; exact DataW.trod_lt _ _ _ _ hn), trodAll_stays hl hb ?_ h2, rfl⟩
    exact hr.2
  | [], _ :: _, _, _, _, h => by simp [DataW.TrodAll] at h
  | [], [], _ :: _, _, _, h => by simp [DataW.TrodAll] at h
  | _ :: _, [], _, _, _, h => by simp [DataW.TrodAll] at h
  | _ :: _, _ :: _, [], _, _, h => by simp [DataW.TrodAll] at h

/-- What is to be shown of a law in the ideal: whatever fitting arguments lie in rows that are only read, it returns true. -/
def Good1 (P : Program) (T : Table) (f : FuncId) (ats : List AT) : Prop := ∀ (H : Heap) (ivs : List IV), FitAll H ats ivs → ∃ H', den P T f ivs H = some (.bool true, H')

theorem rel_start (W : World) : Rel W.heap.size W (fun _ => none) [] W :=
  ⟨Below.refl _ _, Nat.le_refl _, (fun _ _ h => by cases h), (fun i o h => by simp at h), (fun i j o p l k h => by simp at h)⟩

theorem calls_good {P : Program} {T : Table} (hT : SoundT P T) {f : FuncId} {ats : List AT} (hg : Good1 P T f ats) (hm : P.follows .mixedOrders = true) {K : Type} {enc : TypeId × Value → K} {ts : List TypeId} {n : Nat} (ha : atsOf P n ts = some ats) {W : World} {args : Array Value} {ds : List (DataW K)} {p : List MemPlace} {r : Reach} {b0 : Nat}
    (hv : ∀ (j : Nat) t v, ts[j]? = some t → args.toList[j]? = some v → Value.okWide P W r b0 t v) (ht : DataW.TrodAll enc P W 0 (fun _ => true) true ts args.toList ds p) :
    Calls P f args W fun e W' => e = .returned (.bool true) ∧ Below W.heap.size W W' := by
  obtain ⟨m, X, ivs, _, hR, hV, hF⟩ := open_all rfl ha hv ht (rel_start W)
  obtain ⟨H', hd⟩ := hg _ ivs hF
  refine (sound_den hT hm f ivs _ _ H' hd W.heap.size W W m args hR hV).mono ?_
  rintro e W' ⟨m', u, rfl, _, hR', hu⟩
  simp only [VR] at hu; subst hu
  exact ⟨rfl, hR'.below⟩

theorem post_same' {K : Type} {enc : TypeId × Value → K} {P : Program} {fn : Func} {s : ChangeSpec} {tb : TypeId} (hvars : s.vars = []) (hrt : fn.resultTypes.toList = [tb]) (hsz : fn.resultTypes.size = 1) (htb : P.underlying tb = some .bool)
    (hs : ∀ ds : List (DataW K), ds.length = fn.params.toList.length → s.fn K ds = { results := [.lit (.bool true)], args := ds }) (hl : laidOutB P = true)
    (hr : (fn.params.toList.all fun t => P.readableRec t && decide (t < P.types.size)) = true) {W W' : World} {args : Array Value} {ds gs : List (DataW K)} {before : List MemPlace} (hW : DataW.Whole enc P fn.params.toList s.vars false W args.toList ds gs before) (bel : Below W.heap.size W W') :
    s.post enc P fn false true false false W args (.bool true) W' := by
  have hW' := hW
  obtain ⟨p, q, hA, hV, rfl, hfz, hnd⟩ := hW
  rw [hvars] at hV
  obtain ⟨rfl, rfl⟩ := trodVars_none hV
  have hfn := hs ds (trodAll_len hA)
  refine ⟨ds, [], _, [], p, [], hW', ?_, ?_, ?_, bel.frame _, fun h => by cases h⟩
  · rw [List.append_nil, hfn, hrt, hsz]
    exact trodAll_mk1 (shut_bool htb _)
  · rw [List.append_nil, hfn]
    exact trodAll_stays hl bel hr hA
  · rw [List.append_nil, hfn, hvars]; rfl
end Go.Shade
/- DESC, part 5: acts; the same descriptors; arguments. -/
namespace Go.Shade
set_option linter.unusedVariables false
set_option linter.unusedSimpArgs false
structure Ac where
  kind : Int
  fd : Int
  d : Dsc
def Ac.cells (a : Ac) (nv : IV) : List IV := .int .i64 a.kind :: .int .i64 a.fd :: a.d.cells nv
theorem Ac.cells_one (a : Ac) {nv : IV} (h : nv.one = true) : (a.cells nv).all IV.one = true := by simp only [Ac.cells, Dsc.cells, List.all_cons, List.all_nil, h, one_int, one_bool, Bool.and_self]
def AcsV (L : Nat) (H : Heap) (v : IV) (l : List Ac) : Prop := At (· < L) v ∧ ∃ cs, Sl 8 H v l.length cs ∧ ∀ i a, l[i]? = some a → ∃ nv, (cs.drop (i * 8)).take 8 = a.cells nv ∧ Nm (· < L) H nv a.d.names
theorem AcsV.frame {L : Nat} {H H' : Heap} {v : IV} {l : List Ac} (h : AcsV L H v l) (k : Frame (L ≤ ·) H H') : AcsV L H' v l := by
  obtain ⟨h0, cs, h1, h2⟩ := h
  refine ⟨h0, cs, h1.frame k (h0.mono fun i hi => by omega), fun i a ha => ?_⟩
  obtain ⟨nv, h3, h4⟩ := h2 i a ha
  exact ⟨nv, h3, h4.frame k fun i hi => by omega⟩
theorem AcsV.at {L : Nat} {H : Heap} {v : IV} {l : List Ac} (h : AcsV L H v l) {i : Nat} {a : Ac} (ha : l[i]? = some a) : ∃ p nv, lix 8 v (.int .i64 (i : Nat)) = some p ∧ lloadn H 8 p = some (.agg (a.cells nv)) ∧ Nm (· < L) H nv a.d.names := by
  obtain ⟨h0, cs, h1, h2⟩ := h
  obtain ⟨nv, h3, h4⟩ := h2 i a ha
  obtain ⟨p, e1, e2⟩ := h1.atn (List.getElem?_eq_some_iff.1 ha).1
  exact ⟨p, nv, e1, by rw [e2, h3], h4⟩
def dscT : List CT := [.int .i64, .int .i64, .int .i64, .bool, .sl [.str], .int .i64]
def actT : List CT := .int .i64 :: .int .i64 :: dscT
theorem fit_strs {H : Heap} : ∀ {elems : List (List IV)}, (∀ e ∈ elems, Fits H [.str] e) → ∃ l : List (List UInt8), elems.flatten = strs l ∧ l.length = elems.length
  | [], _ => ⟨[], rfl, rfl⟩
  | e :: es, h => by
    have h0 := h e (by simp)
    simp only [Fits, Fit] at h0
    obtain ⟨v, r, rfl, ⟨s, rfl, hs⟩, rfl⟩ := h0
    obtain ⟨l, h1, h2⟩ := fit_strs (elems := es) (fun e' he' => h e' (List.mem_cons_of_mem _ he'))
    exact ⟨s :: l, by simp [h1, strs], by simp [h2]⟩
theorem fit_nm {H : Heap} {v : IV} (h : Fit H (.sl [.str]) v) : ∃ l, Nm (· < H.length) H v l := by
  simp only [Fit] at h
  rcases h with rfl | ⟨b, n, elems, rfl, h2, h3, h4, h5⟩
  · exact ⟨[], Sl.nil _ _, At.nil⟩
  · obtain ⟨l, k1, k2⟩ := fit_strs h5
    have hs : Sl 1 H (.slice b 0 n elems.length true 0) (l.take n).length (strs (l.take n)) := by
      have e : (l.take n).length = n := by simp; omega
      refine ⟨by rw [strs_length]; omega, .inr ⟨b, 0, elems.length, true, 0, by rw [e], by omega, .inl rfl, fun hn => ⟨_, true, h2, by rw [k1, strs_length, e]; omega, ?_⟩⟩⟩
      rw [k1, e, List.drop_zero, Nat.mul_one]; simp [strs, List.map_take]
    exact ⟨l.take n, hs, hs.lt⟩
theorem fit_dsc {H : Heap} {e : List IV} (h : Fits H dscT e) : ∃ d nv, e = Dsc.cells d nv ∧ Nm (· < H.length) H nv d.names := by
  simp only [dscT, Fits] at h
  obtain ⟨_, _, rfl, h1, _, _, rfl, h2, _, _, rfl, h3, _, _, rfl, h4, nv, _, rfl, h5, _, _, rfl, h6, rfl⟩ := h
  obtain ⟨n, hn⟩ := fit_nm h5
  simp only [Fit] at h1 h2 h3 h4 h6
  obtain ⟨a1, rfl, _⟩ := h1
  obtain ⟨a2, rfl, _⟩ := h2
  obtain ⟨a3, rfl, _⟩ := h3
  obtain ⟨a4, rfl⟩ := h4
  obtain ⟨a6, rfl, _⟩ := h6
  exact ⟨⟨a1, a2, a3, a4, n, a6⟩, nv, rfl, hn⟩
theorem fit_act {H : Heap} {e : List IV} (h : Fits H actT e) : ∃ a nv, e = Ac.cells a nv ∧ Nm (· < H.length) H nv a.d.names := by
  simp only [actT, Fits] at h
  obtain ⟨_, _, rfl, h1, _, _, rfl, h2, h3⟩ := h
  simp only [Fit] at h1 h2
  obtain ⟨a1, rfl, _⟩ := h1
  obtain ⟨a2, rfl, _⟩ := h2
  obtain ⟨d, nv, rfl, hn⟩ := fit_dsc h3
  exact ⟨⟨a1, a2, d⟩, nv, rfl, hn⟩
theorem fit_arows {H : Heap} : ∀ {elems : List (List IV)}, (∀ e ∈ elems, Fits H actT e) → ∃ l : List Ac, l.length = elems.length ∧ elems.flatten.length = l.length * 8 ∧ ∀ i a, l[i]? = some a → ∃ nv, (elems.flatten.drop (i * 8)).take 8 = a.cells nv ∧ Nm (· < H.length) H nv a.d.names
  | [], _ => ⟨[], rfl, rfl, fun i a h => by simp at h⟩
  | e :: es, h => by
    obtain ⟨a, nv, rfl, hn⟩ := fit_act (h e (by simp))
    obtain ⟨l, h1, h2, h3⟩ := fit_arows (elems := es) (fun e' he' => h e' (List.mem_cons_of_mem _ he'))
    have hl : (a.cells nv).length = 8 := rfl
    refine ⟨a :: l, by simp [h1], by rw [List.flatten_cons, List.length_append, h2, hl, List.length_cons]; omega, fun i b hb => ?_⟩
    cases i with
    | zero =>
      simp at hb; subst hb
      exact ⟨nv, by rw [List.flatten_cons, Nat.zero_mul, List.drop_zero, List.take_left' hl], hn⟩
    | succ i =>
      obtain ⟨nv', g1, g2⟩ := h3 i b (by simpa using hb)
      refine ⟨nv', ?_, g2⟩
      rw [List.flatten_cons, show (i + 1) * 8 = 8 + i * 8 by omega, ← List.drop_drop, List.drop_left' hl]; exact g1
theorem fit_acts {H : Heap} {v : IV} (h : Fit H (.sl actT) v) : ∃ l, AcsV H.length H v l := by
  simp only [Fit] at h
  rcases h with rfl | ⟨b, n, elems, rfl, h2, h3, h4, h5⟩
  · exact ⟨[], At.nil, [], Sl.nil _ _, fun i a h => by simp at h⟩
  · obtain ⟨l, k1, k2, k3⟩ := fit_arows h5
    have e : (l.take n).length = n := by simp; omega
    have hs : Sl 8 H (.slice b 0 n elems.length true 0) (l.take n).length (elems.flatten.take (n * 8)) := by
      refine ⟨by rw [List.length_take, k2, e]; omega, .inr ⟨b, 0, elems.length, true, 0, by rw [e], by omega, .inl rfl, fun hn => ⟨_, true, h2, by rw [k2, e]; omega, by rw [e, List.drop_zero]⟩⟩⟩
    refine ⟨l.take n, hs.lt, _, hs, fun i a ha => ?_⟩
    rw [List.getElem?_take] at ha
    split at ha
    · obtain ⟨nv, g1, g2⟩ := k3 i a ha
      refine ⟨nv, ?_, g2⟩
      rw [List.drop_take, List.take_take, Nat.min_eq_left (by omega)]; exact g1
    · cases ha
section
variable {cal : FuncId → Bool} {φ : Oracle} {N : Nat}
/-! ### play -/
def PlayP (G : Nat → Prop) (H : Heap) (t : Nat) (tab : Tab) (a : Ac) (r : Out) : Prop :=
  Frame (fun i => i = t) H r.2 ∧ ∃ G' tab', TabOk G' r.2 t tab' ∧ (∀ j, G' j → G j ∨ H.length ≤ j) ∧ ∀ (i : Nat) d, tab[i]? = some (some d) → (a.kind = 0 ∨ a.fd ≠ (i : Nat)) → tab'[i]? = some (some d)
def PlayOk (φ : Oracle) (f : FuncId) : Prop := ∀ (F G : Nat → Prop) (H : Heap) (t : Nat) (tab : Tab) (a : Ac) (nv : IV), TabOk G H t tab → Nm F H nv a.d.names → Wp (φ f [.ptr t 0, .agg (a.cells nv)] H) (PlayP G H t tab a)
theorem set_ne {tab : Tab} {i k : Nat} {d : Dsc} {e : Option Dsc} (h : tab[i]? = some (some d)) (hk : k ≠ i) : (tab.set k e)[i]? = some (some d) := by
  rw [List.getElem?_set_ne hk]; exact h
theorem play_s {fo fc fs : FuncId} (ho : OpenOk φ fo) (hc : CloseOk φ fc) (hs : SetOk φ fs) {F G : Nat → Prop} {H : Heap} {t : Nat} {tab : Tab} {a : Ac} {nv : IV} (hT : TabOk G H t tab) (hn : Nm F H nv a.d.names) : Wp (veneerlaw07PlayS cal φ N fo fc fs (.ptr t 0) (.agg (a.cells nv)) H) (PlayP G H t tab a) := by
  unfold veneerlaw07PlayS
  have hbx : lbox H (.agg (a.cells nv)) = some (.ptr H.length 0, H ++ [IObj.row (a.cells nv) false]) := lbox_agg (a.cells_one hn.one)
  rw [hbx, ob_some]
  simp only
  have k1 : Frame NoF H (H ++ [IObj.row (a.cells nv) false]) := Frame.push _ _ _
  have r1 : (H ++ [IObj.row (a.cells nv) false])[H.length]? = some (.row (a.cells nv) false) := newRow
  generalize H ++ [IObj.row (a.cells nv) false] = K at *
  have hTK := hT.kp k1
  have hnK := hn.kp k1
  simp only [loff_ptr, ob_some, Nat.zero_add, ld1 r1]
  have c0 : (a.cells nv)[0]? = some (.int .i64 a.kind) := rfl
  have c1 : (a.cells nv)[1]? = some (.int .i64 a.fd) := rfl
  have c6 : (a.cells nv)[2 + 4]? = some nv := rfl
  rw [c6, ob_some, hnK.1.len, ob_some, lbin_gtr, ob_some]
  have stay : PlayP G H t tab a (.tuple [], K) := ⟨k1.no, G, tab, hTK, fun j h => .inl h, fun i d h _ => h⟩
  refine Wp.dec (fun _ => Wp.ret stay) (fun hb => ?_)
  rw [c0, ob_some, jn_eq, lbin_eql, ob_some]
  have l6 : lloadn K 6 (.ptr H.length 2) = some (.agg (a.d.cells nv)) := by
    rw [lloadn_ptr, r1, ogn_row]; rfl
  have hx : DV F K (.agg (a.d.cells nv)) a.d := ⟨nv, rfl, hnK⟩
  refine Wp.dec (fun h0 => ?_) (fun h0 => ?_)
  · rw [l6, ob_some]
    refine Wp.call (ho F G K t tab _ a.d hTK hx (by omega)) ?_
    rintro ⟨r, K2⟩ ⟨f1, ⟨i, G', hi, g1, g2, g3, g4, g5⟩ | ⟨g1, g2, g3⟩⟩
    · refine Wp.ret ⟨(k1.no).tr f1, G', _, g4, fun j hj => ?_, fun j d' hj _ => set_ne hj (fun e => by subst e; rw [g1] at hj; cases hj)⟩
      rcases g5 j hj with h | h
      · exact .inl h
      · exact .inr (Nat.le_trans k1.1 h)
    · exact Wp.ret ⟨(k1.no).tr f1, G, tab, g3, fun j h => .inl h, fun i d h _ => h⟩
  · rw [lbin_eql, ob_some]
    refine Wp.dec (fun h1 => ?_) (fun h1 => ?_)
    · rw [c1, ob_some]
      refine Wp.call (hc G K t tab a.fd hTK) ?_
      rintro ⟨r, K2⟩ ⟨f1, ⟨d, x, g1, g2, g3, g4⟩ | ⟨g1, g2, g3⟩⟩
      · refine Wp.ret ⟨(k1.no).tr f1, G, _, g4, fun j h => .inl h, fun j d' hj hd => ?_⟩
        obtain ⟨i, hi, _, _⟩ := look_lt g1
        unfold put'
        rcases hd with hd | hd
        · omega
        · exact set_ne hj (by omega)
      · exact Wp.ret ⟨(k1.no).tr f1, G, tab, g3, fun j h => .inl h, fun i d h _ => h⟩
    · rw [lbin_eql, ob_some]
      refine Wp.dec (fun h2 => ?_) (fun h2 => Wp.ret stay)
      rw [c1, ob_some, l6, ob_some]
      refine Wp.call (hs F G K t tab a.fd _ a.d hTK hx (by omega)) ?_
      rintro ⟨r, K2⟩ ⟨f1, ⟨g1, g2, G', g3, g4⟩ | ⟨g1, g2, g3⟩⟩
      · refine Wp.ret ⟨(k1.no).tr f1, G', _, g3, fun j hj => ?_, fun j d' hj hd => ?_⟩
        · rcases g4 j hj with h | h
          · exact .inl h
          · exact .inr (Nat.le_trans k1.1 h)
        · cases hl : look tab a.fd with
          | none => rw [hl] at g1; cases g1
          | some d0 =>
            obtain ⟨i, hi, _, _⟩ := look_lt hl
            unfold put'
            rcases hd with hd | hd
            · omega
            · exact set_ne hj (by omega)
      · exact Wp.ret ⟨(k1.no).tr f1, G, tab, g3, fun j h => .inl h, fun i d h _ => h⟩
/-! ### same -/
theorem same7_go {H : Heap} {p q : Nat} {a b : Dsc} {nv mv : IV} {F F' : Nat → Prop} (hp : H[p]? = some (.row (a.cells nv) false)) (hq : H[q]? = some (.row (b.cells mv) false)) (ha : Nm F H nv a.names) (hb : Nm F' H mv b.names) (hlen : a.names.length = b.names.length) (hle : a.names.length ≤ 1000000) :
    ∀ (k i n : Nat), i + k = a.names.length → k < n → a.names.take i = b.names.take i →
      Wp (veneerref07SameC0S cal φ N (fun H => some (.bool true, H)) n (.ptr p 0) (.ptr q 0) (.int .i64 (i : Nat)) H) fun r => r = (.bool (decide (a.names = b.names)), H) := by
  intro k
  induction k with
  | zero =>
    intro i n hi hn he
    obtain ⟨n, rfl⟩ : ∃ j, n = j + 1 := ⟨n - 1, by omega⟩
    rw [veneerref07SameC0S, loff_ptr, ob_some, Nat.zero_add, ld1 hp]
    have c4 : (a.cells nv)[4]? = some nv := rfl
    rw [c4, ob_some, ha.1.len, ob_some, lbin_lss, ob_some, decide_eq_false (by omega), cnd_false]
    rw [List.take_of_length_le (by omega), List.take_of_length_le (by omega)] at he
    exact Wp.ret (by rw [decide_eq_true he])
  | succ k ih =>
    intro i n hi hn he
    obtain ⟨n, rfl⟩ : ∃ j, n = j + 1 := ⟨n - 1, by omega⟩
    rw [veneerref07SameC0S]
    simp only [loff_ptr, ob_some, Nat.zero_add, ld1 hp, ld1 hq]
    have c4 : (a.cells nv)[4]? = some nv := rfl
    have d4 : (b.cells mv)[4]? = some mv := rfl
    rw [c4, ob_some, ha.1.len, ob_some, lbin_lss, ob_some, decide_eq_true (by omega), cnd_true]
    simp only [d4, ob_some]
    obtain ⟨x, e1, e2⟩ := ha.1.at1 (i := i) (by omega)
    obtain ⟨y, f1, f2⟩ := hb.1.at1 (i := i) (by omega)
    have g1 := List.getElem?_eq_getElem (l := a.names) (i := i) (by omega)
    have g2 := List.getElem?_eq_getElem (l := b.names) (i := i) (by omega)
    rw [e1, ob_some, e2, f1]
    simp only [strs, List.getElem?_map, g1, Option.map_some, ob_some]
    rw [f2]
    simp only [strs, List.getElem?_map, g2, Option.map_some, ob_some, lbin_sneq]
    refine Wp.ndec (fun hne => Wp.ret ?_) (fun heq => ?_)
    · have : a.names ≠ b.names := by
        intro e
        apply hne
        have h : a.names[i]? = b.names[i]? := by rw [e]
        rw [g1, g2] at h
        exact Option.some.inj h
      rw [decide_eq_false this]
    · rw [lbin_add, ob_some, wrap_i64 (by omega) (by omega), show ((i : Nat) : Int) + 1 = ((i + 1 : Nat) : Int) by omega]
      refine ih (i + 1) n (by omega) (by omega) ?_
      rw [List.take_succ_eq_append_getElem (by omega), List.take_succ_eq_append_getElem (by omega), he, heq]
def Same7Ok (φ : Oracle) (f : FuncId) : Prop := ∀ (F F' : Nat → Prop) (H : Heap) (x y : IV) (a b : Dsc), DV F H x a → DV F' H y b → a.names.length ≤ 1000000 → Wp (φ f [x, y] H) fun r => r.1 = .bool (decide (a = b)) ∧ Frame NoF H r.2
theorem same7_s (hN : 1000000 < N) {F F' : Nat → Prop} {H : Heap} {x y : IV} {a b : Dsc} (hx : DV F H x a) (hy : DV F' H y b) (hle : a.names.length ≤ 1000000) : Wp (veneerref07SameS cal φ N x y H) fun r => r.1 = .bool (decide (a = b)) ∧ Frame NoF H r.2 := by
  obtain ⟨nv, rfl, ha⟩ := hx
  obtain ⟨mv, rfl, hb⟩ := hy
  unfold veneerref07SameS veneerref07SameC5S
  have hbx : ∀ H', lbox H' (.agg (a.cells nv)) = some (.ptr H'.length 0, H' ++ [IObj.row (a.cells nv) false]) := fun H' => lbox_agg (a.cells_one ha.one)
  have hby : ∀ H', lbox H' (.agg (b.cells mv)) = some (.ptr H'.length 0, H' ++ [IObj.row (b.cells mv) false]) := fun H' => lbox_agg (b.cells_one hb.one)
  rw [hbx, ob_some]
  simp only
  rw [hby, ob_some]
  simp only
  have k1 : Frame NoF H (H ++ [IObj.row (a.cells nv) false]) := Frame.push _ _ _
  have k2 : Frame NoF (H ++ [IObj.row (a.cells nv) false]) (H ++ [IObj.row (a.cells nv) false] ++ [IObj.row (b.cells mv) false]) := Frame.push _ _ _
  have hp := k2.get (fun h => h) (newRow (H := H) (o := IObj.row (a.cells nv) false))
  have hq := newRow (H := H ++ [IObj.row (a.cells nv) false]) (o := IObj.row (b.cells mv) false)
  have kk := k1.tr k2
  generalize (H ++ [IObj.row (a.cells nv) false]).length = q at *
  generalize H ++ [IObj.row (a.cells nv) false] ++ [IObj.row (b.cells mv) false] = K at *
  generalize H.length = p at *
  have haK := ha.kp kk
  have hbK := hb.kp kk
  unfold veneerref07SameC4S veneerref07SameC3S veneerref07SameC2S veneerref07SameC1S
  simp only [loff_ptr, ob_some, Nat.zero_add, ld1 hp, ld1 hq]
  have a0 : ∀ (d : Dsc) v, (d.cells v)[0]? = some (.int .i64 d.ino) := fun _ _ => rfl
  have a1 : ∀ (d : Dsc) v, (d.cells v)[1]? = some (.int .i64 d.flag) := fun _ _ => rfl
  have a2 : ∀ (d : Dsc) v, (d.cells v)[2]? = some (.int .i64 d.off) := fun _ _ => rfl
  have a3 : ∀ (d : Dsc) v, (d.cells v)[3]? = some (.bool d.isd) := fun _ _ => rfl
  have a4 : ∀ (d : Dsc) v, (d.cells v)[4]? = some v := fun _ _ => rfl
  have a5 : ∀ (d : Dsc) v, (d.cells v)[5]? = some (.int .i64 d.at') := fun _ _ => rfl
  simp only [a0, a1, a2, a3, a4, a5, ob_some, lbin_neq]
  by_cases e0 : a.ino = b.ino
  case neg =>
    rw [decide_eq_false e0]
    simp only [Bool.not_false, isB_tf, gq_false, ob_some, lpick_true, cnd_true]
    exact Wp.ret ⟨by rw [decide_eq_false (fun e => e0 (by rw [e]))], kk⟩
  rw [decide_eq_true e0]
  simp only [Bool.not_true, isB_ff, gq_true, ob_some, ld1 hp, ld1 hq, a1, a2, a3, a4, a5, lbin_neq, lpick_false]
  by_cases e1 : a.flag = b.flag
  case neg =>
    rw [decide_eq_false e1]
    simp only [Bool.not_false, isB_tf, gq_false, ob_some, lpick_true, cnd_true]
    exact Wp.ret ⟨by rw [decide_eq_false (fun e => e1 (by rw [e]))], kk⟩
  rw [decide_eq_true e1]
  simp only [Bool.not_true, isB_ff, gq_true, ob_some, ld1 hp, ld1 hq, a1, a2, a3, a4, a5, lbin_neq, lpick_false]
  by_cases e2 : a.off = b.off
  case neg =>
    rw [decide_eq_false e2]
    simp only [Bool.not_false, isB_tf, gq_false, ob_some, lpick_true, cnd_true]
    exact Wp.ret ⟨by rw [decide_eq_false (fun e => e2 (by rw [e]))], kk⟩
  rw [decide_eq_true e2]
  simp only [Bool.not_true, isB_ff, gq_true, ob_some, ld1 hp, ld1 hq, a1, a2, a3, a4, a5, lbin_neq, lpick_false, leq_bool, leqv_t]
  by_cases e3 : a.isd = b.isd
  case neg =>
    have : (a.isd == b.isd) = false := by simp [e3]
    rw [this]
    simp only [Bool.not_false, isB_tf, gq_false, ob_some, lpick_true, cnd_true]
    exact Wp.ret ⟨by rw [decide_eq_false (fun e => e3 (by rw [e]))], kk⟩
  have e3' : (a.isd == b.isd) = true := by simp [e3]
  rw [e3']
  simp only [Bool.not_true, isB_ff, gq_true, ob_some, ld1 hp, ld1 hq, a1, a2, a3, a4, a5, lbin_neq, lpick_false]
  by_cases e5 : a.at' = b.at'
  case neg =>
    rw [decide_eq_false e5]
    simp only [Bool.not_false, isB_tf, gq_false, ob_some, lpick_true, cnd_true]
    exact Wp.ret ⟨by rw [decide_eq_false (fun e => e5 (by rw [e]))], kk⟩
  rw [decide_eq_true e5]
  simp only [Bool.not_true, isB_ff, gq_true, ob_some, ld1 hp, ld1 hq, a1, a2, a3, a4, a5, lbin_neq, lpick_false, haK.1.len, hbK.1.len, lbin_neq]
  by_cases e4 : ((a.names.length : Nat) : Int) = (b.names.length : Nat)
  case neg =>
    rw [decide_eq_false e4]
    simp only [Bool.not_false, lpick_false, ob_some, cnd_true]
    exact Wp.ret ⟨by rw [decide_eq_false (fun e => e4 (by rw [e]))], kk⟩
  rw [decide_eq_true e4]
  simp only [Bool.not_true, lpick_false, ob_some, cnd_false]
  refine (same7_go hp hq haK hbK (by omega) hle a.names.length 0 N (by omega) (by omega) rfl).mono ?_
  rintro ⟨r, K2⟩ h
  cases h
  refine ⟨?_, kk⟩
  have : (a.names = b.names) ↔ a = b := by
    constructor
    · intro h; cases a; cases b; simp only at *; subst e0 e1 e2 e3 e5 h; rfl
    · intro h; rw [h]
  simp only [this]
end
end Go.Shade
/- SHADE, part 35: a range over a map: whatever order is drawn. -/
namespace Go.Shade
open Go.RowKit
set_option linter.unusedSimpArgs false
set_option linter.unusedVariables false
abbrev Ent := IV × IV × Nat
def nxtC (es : List Ent) (since : Nat) (seen : List Nat) (last : Nat) : Option (List (Option Ent)) :=
  if (!seen.isEmpty && (!es.isEmpty && es.all fun e => Nat.ble last e.2.2)) = true then none else
  some ((if (es.filter fun e => !seen.contains e.2.2 && !Nat.ble since e.2.2).isEmpty then [none] else []) ++
    ((es.filter fun e => !seen.contains e.2.2 && !Nat.ble since e.2.2) ++ (es.filter fun e => !seen.contains e.2.2 && Nat.ble since e.2.2)).map some)
def nxtO (H : Heap) (i r since : Nat) (seen : List Nat) (clock : Nat) : Option Ent → IV × Heap
  | none => (.tuple [.bool false], H)
  | some e => (.tuple [.bool true, e.1, e.2.1], H.set i (.iter (some r) since (seen ++ [e.2.2]) clock))
def stNxt (H : Heap) (x : IV) : Option (List (IV × Heap)) :=
  match x with
  | .ptr i 0 => match H[i]? with
    | some (.iter none _ _ _) => some [(.tuple [.bool false], H)]
    | some (.iter (some r) since seen last) => match H[r]? with
      | some (.map es clock) => (nxtC es since seen last).bind fun cs => some (cs.map (nxtO H i r since seen clock))
      | _ => none
    | _ => none
  | _ => none
def stRng (H : Heap) (x : IV) : Option (IV × Heap) :=
  match x with
  | .nilMap => some (.ptr H.length 0, H ++ [.iter none 0 [] 0])
  | .map r => match H[r]? with
    | some (.map _ clock) => some (.ptr H.length 0, H ++ [.iter (some r) clock [] clock])
    | _ => none
  | _ => none

/-! ### the model's own -/
theorem run_choose {α : Type} {P : Program} {w : World} (n : Nat) (hn : 0 < n) (k : Nat → Sem α) : ∃ c w', c < n ∧ w'.heap = w.heap ∧ w'.os = w.os ∧ w'.tape = w.tape ∧ w'.output = w.output ∧ ((choose (.mapNext n)).bind k).run P w = (k c).run P w' := by
  have e : ((choose (.mapNext n)).bind k) = Sem.choose (.mapNext n) fun c => k c := rfl
  rw [e]
  simp only [Sem.run]
  split
  · exact ⟨0, w, hn, rfl, rfl, rfl, rfl, rfl⟩
  · refine ⟨_, { w with drawn := w.drawn + 1 }, ?_, rfl, rfl, rfl, rfl, rfl⟩
    exact Nat.mod_lt _ hn
/-- Two lists, one by one. -/
inductive L2 {α β : Type} (R : α → β → Prop) : List α → List β → Prop
  | nil : L2 R [] []
  | cons {a b as' bs} : R a b → L2 R as' bs → L2 R (a :: as') (b :: bs)
section
variable {α β : Type} {R : α → β → Prop}
theorem L2.of : ∀ {l : List α} {k : List β}, l.length = k.length → (∀ (j : Nat) x, l[j]? = some x → ∃ y, k[j]? = some y ∧ R x y) → L2 R l k
  | [], [], _, _ => .nil
  | a :: l, b :: k, h, g => by
    obtain ⟨y, h1, h2⟩ := g 0 a rfl
    simp at h1; subst h1
    exact .cons h2 (L2.of (by simpa using h) fun j x hj => by simpa using g (j + 1) x (by simpa using hj))
  | [], _ :: _, h, _ => by simp at h
  | _ :: _, [], h, _ => by simp at h
theorem L2.append {l l' : List α} {k k' : List β} (h : L2 R l k) (g : L2 R l' k') : L2 R (l ++ l') (k ++ k') := by
  induction h with
  | nil => exact g
  | cons a _ ih => exact .cons a ih
theorem L2.filter {p : α → Bool} {q : β → Bool} (hpq : ∀ a b, R a b → p a = q b) {l : List α} {k : List β} (h : L2 R l k) : L2 R (l.filter p) (k.filter q) := by
  induction h with
  | nil => exact .nil
  | @cons a b _ _ r _ ih =>
    rw [List.filter_cons, List.filter_cons, hpq a b r]
    split
    · exact .cons r ih
    · exact ih
theorem L2.empty {l : List α} {k : List β} (h : L2 R l k) : l.isEmpty = k.isEmpty := by cases h <;> rfl
theorem L2.all {p : α → Bool} {q : β → Bool} (hpq : ∀ a b, R a b → p a = q b) {l : List α} {k : List β} (h : L2 R l k) : l.all p = k.all q := by
  induction h with
  | nil => rfl
  | @cons a b _ _ r _ ih => rw [List.all_cons, List.all_cons, hpq a b r, ih]
theorem L2.length {l : List α} {k : List β} (h : L2 R l k) : l.length = k.length := by
  induction h with
  | nil => rfl
  | cons _ _ ih => simp [ih]
theorem L2.get {l : List α} {k : List β} (h : L2 R l k) : ∀ {i : Nat} {y : β}, k[i]? = some y → ∃ x, l[i]? = some x ∧ R x y := by
  induction h with
  | nil => intro i y hy; simp at hy
  | @cons a b _ _ r _ ih =>
    intro i y hy
    cases i with
    | zero => simp at hy; subst hy; exact ⟨a, rfl, r⟩
    | succ i => simpa using ih (by simpa using hy)
theorem L2.map {γ δ : Type} {S : γ → δ → Prop} {f : α → γ} {g : β → δ} (hfg : ∀ a b, R a b → S (f a) (g b)) {l : List α} {k : List β} (h : L2 R l k) : L2 S (l.map f) (k.map g) := by
  induction h with
  | nil => exact .nil
  | cons r _ ih => exact .cons (hfg _ _ r) ih
end
def ORel (m : Mp) : Option Ent → Option MapEntry → Prop
  | none, y => y = none
  | some x, y => ∃ e, y = some e ∧ ERel m x e
theorem ble_ge {a b : Nat} : Nat.ble a b = decide (b ≥ a) := by rw [Bool.eq_iff_iff, Nat.ble_eq]; simp
theorem ble_lt {a b : Nat} : (!Nat.ble a b) = decide (b < a) := by rw [ble_ge, ← decide_not]; congr 1; simp
/-- An iterator goes on. -/
theorem Rel.putIter {B0 : Nat} {w0 w : World} {m : Mp} {H : Heap} (h : Rel B0 w0 m H w) {i r since last since2 last2 : Nat} {seen seen2 : List Nat} (hr : H[i]? = some (.iter (some r) since seen last)) {l lk : Loc} (hl : m i = some l) (hlk : m r = some lk) :
    Rel B0 w0 m (H.set i (.iter (some r) since2 seen2 last2)) { w with heap := w.heap.setIfInBounds l.cb (.mapIter (some lk.cb) since2 seen2.toArray last2) } := by
  obtain ⟨l', r', g1, g0, g2, g3, g4⟩ := h.good i _ hr
  rw [hl] at g1; cases g1
  have hlt : l.cb < w.heap.size := (Array.getElem?_eq_some_iff.1 g2).1
  have far : ∀ k, k ≠ l.cb → ({ w with heap := w.heap.setIfInBounds l.cb (.mapIter (some lk.cb) since2 seen2.toArray last2) } : World).heap[k]? = w.heap[k]? := by
    intro k hk; simp [Array.getElem?_setIfInBounds, Ne.symm hk]
  have held_of : ∀ {a : Nat} {p : IObj}, (H.set i (IObj.iter (some r) since2 seen2 last2))[a]? = some p → ∃ p', H[a]? = some p' ∧ (p.held = true → p'.held = true) := by
    intro a p ha
    rw [List.getElem?_set] at ha
    by_cases e : i = a
    · subst e; exact ⟨_, hr, fun _ => rfl⟩
    · rw [if_neg e] at ha; exact ⟨p, ha, id⟩
  refine ⟨⟨h.below.os, h.below.tape, h.below.output, by simpa using h.below.size, fun k hk => ?_⟩, by simpa using h.base, fun k q hq => by simpa using h.dom k q hq, fun k q hk => ?_, fun a b p q la lb ha hb hp hq hne hma hmb => ?_⟩
  · rw [far k (by omega)]; exact h.below.block k hk
  · rw [List.getElem?_set] at hk
    by_cases e : i = k
    · subst e
      have hrl : i < H.length := (List.getElem?_eq_some_iff.1 hr).1
      simp [hrl] at hk; subst hk
      exact ⟨l, some lk.cb, hl, g0, by simp [hlt], g3, .inr ⟨r, lk, rfl, hlk, rfl⟩⟩
    · rw [if_neg e] at hk
      have hgk := h.good k q hk
      by_cases hd : q.held = true
      · exact hgk.move (Ext.refl _) (fun lk hlk _ => far _ (h.inj k i q _ lk l hk hr hd rfl (Ne.symm e) hlk hl))
      · cases q with
        | dead => trivial
        | map es c => simp [IObj.held] at hd
        | iter r s e a => simp [IObj.held] at hd
        | row cs' ro =>
          cases ro with
          | false => simp [IObj.held] at hd
          | true =>
            exact hgk.ro_move (Ext.refl _) (fun lk hlk hlt' _ => far _ (by omega))
  · obtain ⟨p', ha', hp'⟩ := held_of ha
    obtain ⟨q', hb', hq'⟩ := held_of hb
    exact h.inj a b p' q' la lb ha' hb' (hp' hp) (hq' hq) hne hma hmb
theorem run_next {P : Program} {B0 : Nat} {w0 w : World} {m : Mp} {H : Heap} (h : Rel B0 w0 m H w) {x : IV} {v : Value} (hx : VR m x v) {outs : List (IV × Heap)} (e : stNxt H x = some outs) (t : TypeId) :
    ∃ r w' u, r ∈ outs ∧ (Instr.next v false t).run P w = .ok u w' ∧ Rel B0 w0 m r.2 w' ∧ VR m r.1 u := by
  unfold stNxt at e
  split at e
  · rename_i i
    simp only [VR] at hx
    obtain ⟨l, hl, rfl⟩ := hx
    split at e
    · rename_i since seen last hi
      cases e
      obtain ⟨l', r', g1, g0, g2, g3, g4⟩ := h.good i _ hi
      rw [hl] at g1; cases g1
      have : r' = none := by
        rcases g4 with ⟨_, g⟩ | ⟨k, lk, g, _⟩
        · exact g
        · cases g
      subst this
      have hg : (getObj l.cb).run P w = .ok (.mapIter none since seen.toArray last) w := by simp [getObj, Sem.run, g2]
      refine ⟨_, w, .tuple #[.bool false], List.mem_singleton.2 rfl, ?_, h, by simp only [VR]; exact ⟨_, rfl, VRs.cons (VR_bool m _) (VRs.nil m)⟩⟩
      simp only [Instr.next, g0, Nat.zero_add, Nat.add_zero, Sem.run_bind, hg, Result.andThen_ok]
      rfl
    · rename_i r since seen last hi
      split at e
      · rename_i es clock hr
        obtain ⟨l', r', g1, g0, g2, g3, g4⟩ := h.good i _ hi
        rw [hl] at g1; cases g1
        obtain ⟨lk, hlk, rfl⟩ : ∃ lk, m r = some lk ∧ r' = some lk.cb := by
          rcases g4 with ⟨g, _⟩ | ⟨k, lk, g, h1, h2⟩
          · cases g
          · cases g; exact ⟨lk, h1, h2⟩
        obtain ⟨lr, es', k1, k2, k3, k4, k5⟩ := h.good r _ hr
        rw [hlk] at k1; cases k1
        have hrel : L2 (ERel m) es es'.toList := L2.of (by simpa using k4) (fun j x hj => by simpa using k5 j x hj)
        have hg1 : (getObj l.cb).run P w = .ok (.mapIter (some lk.cb) since seen.toArray last) w := by simp [getObj, Sem.run, g2]
        have hg2 : (getObj lk.cb).run P w = .ok (.map es' clock) w := by simp [getObj, Sem.run, k2]
        obtain ⟨cs, hcs, e⟩ := Option.bind_eq_some_iff.1 e
        cases e
        unfold nxtC at hcs
        split at hcs
        · cases hcs
        · rename_i hno
          cases hcs
          generalize hA : (if ((es'.filter fun e => !seen.toArray.contains e.born).filter fun e => decide (e.born < since)).isEmpty = true then #[none] else #[]) ++
            (((es'.filter fun e => !seen.toArray.contains e.born).filter fun e => decide (e.born < since)) ++ ((es'.filter fun e => !seen.toArray.contains e.born).filter fun e => decide (e.born ≥ since))).map some = A
          have e1 : ∀ (a : Ent) (b : MapEntry), ERel m a b → (!seen.contains a.2.2 && !Nat.ble since a.2.2) = (decide (b.born < since) && !seen.toArray.contains b.born) := by
            rintro a b ⟨_, _, hb⟩
            rw [hb, Bool.and_comm]
            congr 1
            · rw [ble_lt]
            · simp
          have e2 : ∀ (a : Ent) (b : MapEntry), ERel m a b → (!seen.contains a.2.2 && Nat.ble since a.2.2) = (decide (b.born ≥ since) && !seen.toArray.contains b.born) := by
            rintro a b ⟨_, _, hb⟩
            rw [hb, Bool.and_comm]
            congr 1
            · rw [ble_ge]
            · simp
          have hold := L2.filter e1 hrel
          have hnew := L2.filter e2 hrel
          have hAl : L2 (ORel m) ((if (es.filter fun e => !seen.contains e.2.2 && !Nat.ble since e.2.2).isEmpty then [none] else []) ++
              ((es.filter fun e => !seen.contains e.2.2 && !Nat.ble since e.2.2) ++ (es.filter fun e => !seen.contains e.2.2 && Nat.ble since e.2.2)).map some) A.toList := by
            rw [← hA]
            simp only [Array.toList_append, Array.toList_map, Array.toList_filter, List.filter_filter]
            refine L2.append ?_ (L2.map (fun a b hab => ⟨b, rfl, hab⟩) (L2.append hold hnew))
            have he : ((es'.filter fun e => !seen.toArray.contains e.born).filter fun e => decide (e.born < since)).isEmpty = (es.filter fun e => !seen.contains e.2.2 && !Nat.ble since e.2.2).isEmpty := by
              rw [hold.empty, ← Array.isEmpty_toList]
              simp only [Array.toList_filter, List.filter_filter]
            rw [he]
            split
            · exact .cons rfl .nil
            · exact .nil
          have hpos : 0 < A.size := by
            rw [← Array.length_toList, ← hAl.length]
            cases hz : (es.filter fun e => !seen.contains e.2.2 && !Nat.ble since e.2.2) with
            | nil => simp
            | cons a l => simp
          have hno' : ¬ ((!seen.toArray.isEmpty && !es'.isEmpty && es'.all fun x => decide (x.born ≥ last)) = true) := by
            intro hh
            apply hno
            rw [← Bool.and_assoc, hrel.empty, L2.all (q := fun b : MapEntry => decide (b.born ≥ last)) (fun a b ⟨_, _, hb⟩ => by rw [hb, Bool.eq_iff_iff]; simp) hrel]
            simpa using hh
          obtain ⟨c, w1, hc, o1, o2, o3, o4, hrun⟩ := run_choose (P := P) (w := w) A.size hpos (fun n => match A[n]? with
            | some (some e) => (setObj l.cb (.mapIter (some lk.cb) since (seen.toArray.push e.born) clock)).bind fun _ => Sem.pure (Value.tuple #[.bool true, e.key, e.val])
            | some none => Sem.pure (Value.tuple #[.bool false])
            | none => stuck "Next: no such candidate")
          have hR1 : Rel B0 w0 m H w1 := h.same o1 o2 o3 o4
          have hAc : A.toList[c]? = some A[c] := by simp [hc]
          obtain ⟨o, ho, hrel2⟩ := hAl.get hAc
          have start : (Instr.next (.pointer (some ⟨l.cb, l.co + 0, none⟩)) false t).run P w = ((choose (.mapNext A.size)).bind (fun n => match A[n]? with
            | some (some e) => (setObj l.cb (.mapIter (some lk.cb) since (seen.toArray.push e.born) clock)).bind fun _ => Sem.pure (Value.tuple #[.bool true, e.key, e.val])
            | some none => Sem.pure (Value.tuple #[.bool false])
            | none => stuck "Next: no such candidate")).run P w := by
            simp only [Instr.next, g0, Nat.zero_add, Nat.add_zero, Sem.run_bind, hg1, hg2, Result.andThen_ok]
            rw [if_neg hno', hA]
            rfl
          cases o with
          | none =>
            simp only [ORel] at hrel2
            refine ⟨_, w1, .tuple #[.bool false], List.mem_map.2 ⟨none, List.mem_of_getElem? ho, rfl⟩, ?_, hR1, by simp only [nxtO, VR]; exact ⟨_, rfl, VRs.cons (VR_bool m _) (VRs.nil m)⟩⟩
            rw [start, hrun]
            simp only [Array.getElem?_eq_getElem hc, hrel2]
            rfl
          | some en =>
            obtain ⟨me, hme, r1, r2, r3⟩ := hrel2
            have hset : (setObj l.cb (.mapIter (some lk.cb) since (seen.toArray.push me.born) clock)).run P w1 = .ok () { w1 with heap := w1.heap.setIfInBounds l.cb (.mapIter (some lk.cb) since (seen.toArray.push me.born) clock) } := by
              simp [setObj, Sem.run, o1, g2]
            refine ⟨_, { w1 with heap := w1.heap.setIfInBounds l.cb (.mapIter (some lk.cb) since (seen ++ [en.2.2]).toArray clock) }, .tuple #[.bool true, me.key, me.val], List.mem_map.2 ⟨some en, List.mem_of_getElem? ho, rfl⟩, ?_, ?_, by simp only [nxtO, VR]; exact ⟨_, rfl, VRs.cons (VR_bool m _) (VRs.cons r1 (VRs.cons r2 (VRs.nil m)))⟩⟩
            · rw [start, hrun]
              simp only [Array.getElem?_eq_getElem hc, hme]
              have hpush : (seen ++ [en.2.2]).toArray = seen.toArray.push me.born := by rw [r3]; simp
              rw [hpush]
              have hb : ∀ (f : Unit → Sem Value), ((setObj l.cb (.mapIter (some lk.cb) since (seen.toArray.push me.born) clock)).bind f) = ((setObj l.cb (.mapIter (some lk.cb) since (seen.toArray.push me.born) clock)) >>= f) := fun f => rfl
              rw [hb, Sem.run_bind, hset, Result.andThen_ok]
              rfl
            · exact hR1.putIter hi hl hlk
      · cases e
    · cases e
  · cases e
theorem run_range {P : Program} {B0 : Nat} {w0 w : World} {m : Mp} {H : Heap} (h : Rel B0 w0 m H w) {x : IV} {v : Value} (hx : VR m x v) {t k el : TypeId} (ht : P.underlying t = some (.map k el)) {r : IV × Heap} (e : stRng H x = some r) :
    ∃ m' w' u, (Instr.range t v).run P w = .ok u w' ∧ Ext m m' ∧ Rel B0 w0 m' r.2 w' ∧ VR m' r.1 u := by
  have new : ∀ (o : Obj), (newObj o).run P w = .ok w.heap.size (w.alloc o) := fun o => rfl
  unfold stRng at e
  split at e
  · cases e
    simp only [VR] at hx; subst hx
    have hR := h.push (.iter none 0 [] 0) (.mapIter none 0 #[] 0) 0 ⟨⟨w.heap.size, 0, 0⟩, none, by simp [grow], rfl, Array.getElem?_push_size, h.base, .inl ⟨rfl, rfl⟩⟩
    refine ⟨_, _, .pointer (some ⟨w.heap.size, 0, none⟩), ?_, grow_ext h _, hR, by simp only [VR]; exact ⟨_, grow_at _ _ _, rfl⟩⟩
    simp only [Instr.range, Sem.run_bind, run_underlying ht, Result.andThen_ok, Sem.run_pure, new]
  · rename_i r
    split at e
    · rename_i es clock hr
      cases e
      simp only [VR] at hx
      obtain ⟨l, hl, rfl⟩ := hx
      obtain ⟨lr, es', k1, k2, k3, k4, k5⟩ := h.good r _ hr
      rw [hl] at k1; cases k1
      have hg2 : (getObj l.cb).run P w = .ok (.map es' clock) w := by simp [getObj, Sem.run, k2]
      have hext := grow_ext h ⟨w.heap.size, 0, 0⟩
      have hR := h.push (.iter (some r) clock [] clock) (.mapIter (some l.cb) clock #[] clock) 0 ⟨⟨w.heap.size, 0, 0⟩, some l.cb, by simp [grow], rfl, Array.getElem?_push_size, h.base, .inr ⟨r, l, rfl, hext _ _ hl, rfl⟩⟩
      refine ⟨_, _, .pointer (some ⟨w.heap.size, 0, none⟩), ?_, hext, hR, by simp only [VR]; exact ⟨_, grow_at _ _ _, rfl⟩⟩
      simp only [Instr.range, Sem.run_bind, run_underlying ht, Result.andThen_ok, Sem.run_pure, new, hg2]
    · cases e
  · cases e

/-! ### which low operations are of a range -/
def isSp : LOp → Bool
  | .rng _ | .nxt _ => true
  | _ => false
def OkS (o : Option LOp) : Prop := ∀ lo, o = some lo → isSp lo = false
theorem OkS.none : OkS none := fun _ h => by cases h
theorem OkS.some {lo : LOp} (h : isSp lo = false) : OkS (some lo) := fun _ e => by cases e; exact h
theorem OkS.bind {α : Type} {a : Option α} {f : α → Option LOp} (h : ∀ x, OkS (f x)) : OkS (a.bind f) := fun lo e => by
  obtain ⟨x, _, e⟩ := Option.bind_eq_some_iff.1 e; exact h x lo e
theorem OkS.map {α : Type} {a : Option α} {f : α → LOp} (h : ∀ x, isSp (f x) = false) : OkS (a.map f) := fun lo e => by
  obtain ⟨x, _, rfl⟩ := Option.map_eq_some_iff.1 e; exact h x
section
variable {P : Program}
theorem sp_conv {s d : TypeId} {x : LArg} : OkS (lowConv P s d x) := by
  unfold lowConv; repeat' (first | exact OkS.none | exact OkS.some rfl | refine OkS.bind fun _ => ?_ | exact OkS.map fun _ => rfl | split)
theorem sp_bin {op : BinOp} {t : TypeId} {x y : LArg} : OkS (lowBin P op t x y) := by
  unfold lowBin; repeat' (first | exact OkS.none | exact OkS.some rfl | refine OkS.bind fun _ => ?_ | exact OkS.map fun _ => rfl | split)
theorem sp_field {t : TypeId} {f : Nat} {x : LArg} : OkS (lowField P t f x) := by
  unfold lowField; repeat' (first | exact OkS.none | exact OkS.some rfl | refine OkS.bind fun _ => ?_ | exact OkS.map fun _ => rfl | split)
theorem sp_fieldAddr {t : TypeId} {f : Nat} {x : LArg} : OkS (lowFieldAddr P t f x) := by
  unfold lowFieldAddr; repeat' (first | exact OkS.none | exact OkS.some rfl | refine OkS.bind fun _ => ?_ | exact OkS.map fun _ => rfl | split)
theorem sp_indexAddr {t : TypeId} {x i : LArg} : OkS (lowIndexAddr P t x i) := by
  unfold lowIndexAddr; repeat' (first | exact OkS.none | exact OkS.some rfl | refine OkS.bind fun _ => ?_ | exact OkS.map fun _ => rfl | split)
theorem sp_index {t : TypeId} {x i : LArg} : OkS (lowIndex P t x i) := by
  unfold lowIndex; repeat' (first | exact OkS.none | exact OkS.some rfl | refine OkS.bind fun _ => ?_ | exact OkS.map fun _ => rfl | split)
theorem sp_lookup {t : TypeId} {ok : Bool} {x i : LArg} : OkS (lowLookup P t ok x i) := by
  unfold lowLookup; repeat' (first | exact OkS.none | exact OkS.some rfl | refine OkS.bind fun _ => ?_ | exact OkS.map fun _ => rfl | split)
theorem sp_assert {t : TypeId} {ok : Bool} {x : LArg} : OkS (lowAssert P t ok x) := by
  unfold lowAssert; repeat' (first | exact OkS.none | exact OkS.some rfl | refine OkS.bind fun _ => ?_ | exact OkS.map fun _ => rfl | split)
theorem sp_build {t : TypeId} {l : List (Nat × Operand)} : OkS (lowBuild P t l) := by
  unfold lowBuild; repeat' (first | exact OkS.none | exact OkS.some rfl | refine OkS.bind fun _ => ?_ | exact OkS.map fun _ => rfl | split)
theorem sp_buildSlice {t : TypeId} {n : Nat} {l : List (Nat × Operand)} : OkS (lowBuildSlice P t n l) := by
  unfold lowBuildSlice; repeat' (first | exact OkS.none | exact OkS.some rfl | refine OkS.bind fun _ => ?_ | exact OkS.map fun _ => rfl | split)
theorem sp_makeSlice {t : TypeId} {l c : LArg} : OkS (lowMakeSlice P t l c) := by
  unfold lowMakeSlice; repeat' (first | exact OkS.none | exact OkS.some rfl | refine OkS.bind fun _ => ?_ | exact OkS.map fun _ => rfl | split)
theorem sp_app {t u : TypeId} {l c : LArg} : OkS (lowApp P t u l c) := by
  unfold lowApp; repeat' (first | exact OkS.none | exact OkS.some rfl | refine OkS.bind fun _ => ?_ | exact OkS.map fun _ => rfl | split)
theorem sp_copy {t : TypeId} {l c : LArg} : OkS (lowCopy P t l c) := by
  unfold lowCopy; repeat' (first | exact OkS.none | exact OkS.some rfl | refine OkS.bind fun _ => ?_ | exact OkS.map fun _ => rfl | split)
theorem sp_clear {t : TypeId} {l : LArg} : OkS (lowClear P t l) := by
  unfold lowClear; repeat' (first | exact OkS.none | exact OkS.some rfl | refine OkS.bind fun _ => ?_ | exact OkS.map fun _ => rfl | split)
theorem sp_upd {t : TypeId} {d k x : LArg} : OkS (lowUpd P t d k x) := by
  unfold lowUpd; repeat' (first | exact OkS.none | exact OkS.some rfl | refine OkS.bind fun _ => ?_ | exact OkS.map fun _ => rfl | split)
theorem sp_del {t : TypeId} {d k : LArg} : OkS (lowDel P t d k) := by
  unfold lowDel; repeat' (first | exact OkS.none | exact OkS.some rfl | refine OkS.bind fun _ => ?_ | exact OkS.map fun _ => rfl | split)
theorem sp_box {x : LArg} : OkS (lowBox P x) := OkS.some rfl
theorem sp_alloc {t : TypeId} : OkS (lowAlloc P t) := by
  unfold lowAlloc; repeat' (first | exact OkS.none | exact OkS.some rfl | refine OkS.bind fun _ => ?_ | exact OkS.map fun _ => rfl | split)
theorem low_sp0 {op : Op} (h1 : ∀ t y, op ≠ .range t y) (h2 : ∀ y b, op ≠ .next y b) : OkS (lowOp P op) := by
  unfold lowOp
  split
  all_goals first
    | exact absurd rfl (h1 _ _)
    | exact absurd rfl (h2 _ _)
    | exact OkS.none
    | exact OkS.some rfl
    | exact OkS.map fun _ => rfl
    | exact OkS.bind fun _ => OkS.map fun _ => rfl
    | exact OkS.bind fun _ => OkS.bind fun _ => OkS.map fun _ => rfl
    | exact OkS.bind fun _ => OkS.bind fun _ => OkS.bind fun _ => OkS.bind fun _ => OkS.map fun _ => rfl
    | exact sp_build
    | exact sp_buildSlice
    | exact sp_alloc
    | exact OkS.bind fun _ => sp_conv
    | exact OkS.bind fun _ => OkS.bind fun _ => sp_bin
    | exact OkS.bind fun _ => sp_field
    | exact OkS.bind fun _ => sp_fieldAddr
    | exact OkS.bind fun _ => OkS.bind fun _ => sp_indexAddr
    | exact OkS.bind fun _ => OkS.bind fun _ => sp_index
    | exact OkS.bind fun _ => OkS.bind fun _ => sp_lookup
    | exact OkS.bind fun _ => sp_assert
    | exact OkS.bind fun _ => OkS.bind fun _ => sp_makeSlice
    | exact OkS.bind fun _ => OkS.bind fun _ => sp_app
    | exact OkS.bind fun _ => OkS.bind fun _ => sp_copy
    | exact OkS.bind fun _ => sp_clear
    | exact OkS.bind fun _ => OkS.bind fun _ => OkS.bind fun _ => sp_upd
    | exact OkS.bind fun _ => OkS.bind fun _ => sp_del
    | exact OkS.bind fun _ => sp_box
    | (refine OkS.bind fun _ => ?_; split <;> first | exact OkS.none | exact OkS.some rfl | exact OkS.map fun _ => rfl)
    | (refine OkS.bind fun _ => OkS.bind fun _ => ?_; split <;> first | exact OkS.none | exact OkS.some rfl | exact OkS.map fun _ => rfl | (split <;> first | exact OkS.none | exact OkS.some rfl))
theorem low_sp {op : Op} : OkS (lowOp P op) ∨ (∃ t y k el, op = .range t y ∧ P.underlying t = some (.map k el) ∧ lowOp P op = (lowA y).map .rng) ∨ (∃ y, op = .next y false ∧ lowOp P op = (lowA y).map .nxt) := by
  by_cases h1 : ∃ t y, op = .range t y
  · obtain ⟨t, x, rfl⟩ := h1
    have he : lowOp P (.range t x) = (lowA x).bind fun x => match P.underlying t with
      | some (.map ..) => some (.rng x)
      | _ => none := rfl
    rw [he]
    cases hu : P.underlying t with
    | none => exact .inl (OkS.bind fun _ => OkS.none)
    | some d =>
      cases d with
      | map k el =>
        refine .inr (.inl ⟨t, x, k, el, rfl, hu, ?_⟩)
        cases lowA x <;> rfl
      | _ => exact .inl (OkS.bind fun _ => OkS.none)
  · by_cases h2 : ∃ y b, op = .next y b
    · obtain ⟨y, b, rfl⟩ := h2
      cases b with
      | true => exact .inl OkS.none
      | false => exact .inr (.inr ⟨y, rfl, rfl⟩)
    · exact .inl (low_sp0 (fun t y e => h1 ⟨t, y, e⟩) (fun y b e => h2 ⟨y, b, e⟩))
end

/-! ### one operation, a region, code -/
def lopW (cal : FuncId → Bool) (φ : Oracle) (p : LO) (σ : Sg) (H : Heap) : Option (List (IV × Heap)) :=
  match p.op with
  | .rng x => if lwanted p σ then (stRng H (la σ x)).bind fun r => some [r] else some [(.tuple [], H)]
  | .nxt x => if lwanted p σ then stNxt H (la σ x) else some [(.tuple [], H)]
  | _ => (lopV cal φ p σ H).bind fun r => some [r]
/-- Every way of going on. -/
def lopsW (cal : FuncId → Bool) (φ : Oracle) : List LO → Sg → Heap → (Sg → Heap → Prop) → Prop
  | [], σ, H, k => k σ H
  | p :: ps, σ, H, k => ∃ l, lopW cal φ p σ H = some l ∧ ∀ r ∈ l, lopsW cal φ ps (pput σ p.d r.1) r.2 k
def itW (body : Sg → Heap → (IX → Sg → Heap → Prop) → Prop) : Nat → Sg → Heap → (IX → Sg → Heap → Prop) → Prop
  | 0, _, _, _ => False
  | n + 1, σ, H, k => body σ H fun x σ H => match x with
    | .normal => itW body n σ H k
    | x => k x σ H
def lxW (cal : FuncId → Bool) (φ : Oracle) (n : Nat) : LC → Sg → Heap → (IX → Sg → Heap → Prop) → Prop
  | .skip, σ, H, k => k .normal σ H
  | .reg l, σ, H, k => lopsW cal φ l σ H (k .normal)
  | .drw l ps, σ, H, k => ∃ r, ldraw cal φ l ps σ H = some r ∧ k .normal r.1 r.2
  | .seq a b, σ, H, k => lxW cal φ n a σ H fun x σ H => match x with
    | .normal => lxW cal φ n b σ H k
    | x => k x σ H
  | .cond c a b, σ, H, k => match la σ c with
    | .bool true => lxW cal φ n a σ H k
    | .bool false => lxW cal φ n b σ H k
    | _ => False
  | .block id a, σ, H, k => lxW cal φ n a σ H fun x σ H => match x with
    | .exit id' => if id' = id then k .normal σ H else k (.exit id') σ H
    | x => k x σ H
  | .loop a, σ, H, k => itW (lxW cal φ n a) n σ H k
  | .exit id, σ, H, k => k (.exit id) σ H
  | .ret, σ, H, k => k .ret σ H
  | .bad, _, _, _ => False
section
variable {P : Program} {cal : FuncId → Bool} {φ : Oracle} (hφ : Sound P φ) (hcal : ∀ g, cal g = true → callable P g = true)
include hφ hcal
theorem wp_lopW {ops : Array Oper} {n i : Nat} {o : Oper} (hi : ops[i]? = some o) {p : POp} (hp : pOper n ops o = some p) {σ : Sg} {H : Heap} {l : List (IV × Heap)} (e : lopW cal φ (lowP P p) σ H = some l)
    {B0 : Nat} {w0 w : World} {m : Mp} {a : Act} (hR : Rel B0 w0 m H w) (hT : TR m (rep n σ) a) {Q : Exit → Act → World → Prop} {K : Act → World → Prop}
    (hK : ∀ r ∈ l, ∀ m' w' u, Ext m m' → Rel B0 w0 m' r.2 w' → VR m' r.1 u → K (a.put o.dst u) w') : wpOp P ops Q i K a w := by
  obtain ⟨r1, r2, r3, r4, r5, r6⟩ := rep_opV (P := P) (φ := φ) hp σ H
  have unwanted : pwanted p σ = false → (∀ r, r = (IV.tuple [], H) → r ∈ l) → wpOp P ops Q i K a w := by
    intro hw hl
    unfold wpOp
    rw [hi]
    simp only
    rw [wanted_eq hT, r6, hw]
    exact hK _ (hl _ rfl) m w undef (Ext.refl m) hR (VR_unit m)
  have hop : (lowP P p).op = (lowOp P p.op).getD .bad := rfl
  have usual : isSp (lowP P p).op = false → wpOp P ops Q i K a w := by
    intro hs
    have : lopW cal φ (lowP P p) σ H = (lopV cal φ (lowP P p) σ H).bind fun r => some [r] := by
      unfold lopW
      split
      · rename_i h; rw [h] at hs; cases hs
      · rename_i h; rw [h] at hs; cases hs
      · rfl
    rw [this] at e
    obtain ⟨r, hr, e⟩ := Option.bind_eq_some_iff.1 e
    cases e
    have hp' := lowP_opV (φ := φ) hcal p σ H r hr
    rw [← r1] at hp'
    exact wp_iop hφ hi hp' hR hT (fun m' w' u h1 h2 h3 => hK r (List.mem_singleton.2 rfl) m' w' u h1 h2 h3)
  rcases low_sp (P := P) (op := p.op) with hs | ⟨t, y, k, el, hy, hu, hl⟩ | ⟨y, hy, hl⟩
  · apply usual
    rw [hop]
    cases hl : lowOp P p.op with
    | none => rfl
    | some lo => exact hs lo hl
  · cases hla : lowA y with
    | none => apply usual; rw [hop, hl, hla]; rfl
    | some x =>
      have hx : (lowP P p).op = .rng x := by rw [hop, hl, hla]; rfl
      have hw' : lwanted (lowP P p) σ = pwanted p σ := rfl
      unfold lopW at e
      rw [hx] at e
      simp only [hw'] at e
      cases hpw : pwanted p σ with
      | false =>
        rw [hpw] at e
        simp only [Bool.false_eq_true, if_false] at e
        cases e
        exact unwanted hpw (fun r h => by subst h; simp)
      | true =>
        rw [hpw] at e
        simp only [if_true] at e
        obtain ⟨r, hr, e⟩ := Option.bind_eq_some_iff.1 e
        cases e
        unfold wpOp
        rw [hi]
        simp only
        rw [wanted_eq hT, r6, hpw, if_pos rfl]
        left
        have hy' : o.op = .range t y := by rw [← r3, hy]
        have hev := hT.env y (la σ x) (by rw [rep_env (r5 y (by rw [hy']; simp [Op.operands])) σ]; exact lowA_env hla σ)
        obtain ⟨m', w', u, g1, g2, g3, g4⟩ := run_range (P := P) hR hev hu hr
        unfold Oper.wp
        have hex : (execOp a.eval o).run P w = .ok (.value u) w' := by
          unfold execOp
          rw [hy']
          simp only [Sem.run_bind, g1, Result.andThen_ok]
          rfl
        rw [hex]
        exact hK r (List.mem_singleton.2 rfl) m' w' u g2 g3 g4
  · cases hla : lowA y with
    | none => apply usual; rw [hop, hl, hla]; rfl
    | some x =>
      have hx : (lowP P p).op = .nxt x := by rw [hop, hl, hla]; rfl
      have hw' : lwanted (lowP P p) σ = pwanted p σ := rfl
      unfold lopW at e
      rw [hx] at e
      simp only [hw'] at e
      cases hpw : pwanted p σ with
      | false =>
        rw [hpw] at e
        simp only [Bool.false_eq_true, if_false] at e
        cases e
        exact unwanted hpw (fun r h => by subst h; simp)
      | true =>
        rw [hpw] at e
        simp only [if_true] at e
        unfold wpOp
        rw [hi]
        simp only
        rw [wanted_eq hT, r6, hpw, if_pos rfl]
        left
        have hy' : o.op = .next y false := by rw [← r3, hy]
        have hev := hT.env y (la σ x) (by rw [rep_env (r5 y (by rw [hy']; simp [Op.operands])) σ]; exact lowA_env hla σ)
        obtain ⟨r, w', u, g0, g1, g3, g4⟩ := run_next (P := P) hR hev e o.type
        unfold Oper.wp
        have hex : (execOp a.eval o).run P w = .ok (.value u) w' := by
          unfold execOp
          rw [hy']
          simp only [Sem.run_bind, g1, Result.andThen_ok]
          rfl
        rw [hex]
        exact hK r g0 m w' u (Ext.refl m) g3 g4
theorem wp_lopsW {ops : Array Oper} {n : Nat} {Q : Exit → Act → World → Prop} {B0 : Nat} {w0 : World} {K : Sg → Heap → Prop} : ∀ (os : List Oper) (ps : List POp) (k : Nat) (σ : Sg) (H : Heap) (w : World) (m : Mp) (a : Act),
    (∀ j, os[j]? = ops[k + j]?) → pOpers n ops os = some ps → lopsW cal φ (ps.map (lowP P)) σ H K → Rel B0 w0 m H w → TR m (rep n σ) a →
    (∀ σ' H', K σ' H' → ∀ m' a' w', Ext m m' → Rel B0 w0 m' H' w' → TR m' (rep n σ') a' → Q .normal a' w') → wpOps P ops Q (List.range' k os.length) a w
  | [], ps, k, σ, H, w, m, a, _, hps, e, hR, hT, hQ => by
    simp only [pOpers, Option.some.injEq] at hps; subst hps
    exact hQ σ H e m a w (Ext.refl m) hR hT
  | o :: os, ps, k, σ, H, w, m, a, hk, hps, e, hR, hT, hQ => by
    simp only [pOpers] at hps
    obtain ⟨p, hp, hps⟩ := Option.bind_eq_some_iff.1 hps
    obtain ⟨ps', hps', hps⟩ := Option.bind_eq_some_iff.1 hps
    cases hps
    simp only [List.map_cons, lopsW] at e
    obtain ⟨l, h1, e⟩ := e
    have h0 : ops[k]? = some o := by have := hk 0; simpa using this.symm
    obtain ⟨_, r2, r3, r4, r5, r6⟩ := rep_opV (P := P) (φ := φ) hp σ H
    rw [List.length_cons, List.range'_succ, wpOps_cons]
    refine wp_lopW hφ hcal h0 hp h1 hR hT (fun r hr m1 w1 u hm hR1 hv => ?_)
    have hT1 : TR m1 (rep n (pput σ p.d r.1)) (a.put o.dst u) := by
      rw [r2, ← rep_put r4]
      exact (hT.ext hm).put _ hv
    exact wp_lopsW os ps' (k + 1) _ _ _ m1 _ (fun j => by have := hk (j + 1); simpa [Nat.add_assoc, Nat.add_comm 1 j] using this) hps' (e r hr) hR1 hT1
      (fun σ' H' hK m' a' w' h2 h3 h4 => hQ σ' H' hK m' a' w' (hm.trans h2) h3 h4)
theorem wp_lxW (hm : P.follows .mixedOrders = true) (N : Nat) {n : Nat} {B0 : Nat} {w0 : World} : ∀ (c : Code) (pc : PC), compile P n c = some pc → ∀ (σ : Sg) (H : Heap) (K : IX → Sg → Heap → Prop), lxW cal φ N (lowC P pc) σ H K →
    ∀ (m : Mp) (a : Act) (w : World) (Q : Exit → Act → World → Prop), Rel B0 w0 m H w → TR m (rep n σ) a → (∀ x σ' H', K x σ' H' → Post B0 w0 m x (rep n σ') H' Q) → c.wp P Q a w := by
  intro c
  induction c with
  | skip =>
    intro pc hc σ H K e m a w Q hR hT hQ
    cases hc
    exact wp_skip (hQ _ _ _ e m a w (Ext.refl m) hR hT)
  | label l =>
    intro pc hc σ H K e m a w Q hR hT hQ
    cases hc
    exact wp_label (hQ _ _ _ e m a w (Ext.refl m) hR hT)
  | region id ops draw =>
    intro pc hc σ H K e m a w Q hR hT hQ
    cases draw with
    | false =>
      simp only [compile] at hc
      obtain ⟨l, hl, hc⟩ := Option.bind_eq_some_iff.1 hc
      cases hc
      refine wp_region ?_
      have := wp_lopsW (P := P) (Q := Q) (K := K .normal) hφ hcal ops.toList l 0 σ H w m a (fun j => by simp) hl e hR hT (fun σ' H' hK m' a' w' g1 g2 g3 => hQ _ _ _ hK m' a' w' g1 g2 g3)
      rwa [Array.length_toList, ← List.range_eq_range'] at this
    | true =>
      simp only [compile] at hc
      split at hc
      · rename_i hok
        obtain ⟨l, hl, hc⟩ := Option.bind_eq_some_iff.1 hc
        cases hc
        obtain ⟨r, h1, h2⟩ := e
        have h3 := lowP_draw (φ := φ) hcal l (loose P ops) σ H r h1
        have h4 : idraw P φ ops (rep n σ) H = some (rep n r.1, r.2) := by
          rw [rep_draw hok hl σ H, h3]; rfl
        exact wp_idraw hφ hm h4 hR hT (fun m' a' w' g1 g2 g3 => hQ _ _ _ h2 m' a' w' g1 g2 g3)
      · cases hc
  | seq c d ihc ihd =>
    intro pc hc σ H K e m a w Q hR hT hQ
    simp only [compile] at hc
    obtain ⟨x, hx, hc⟩ := Option.bind_eq_some_iff.1 hc
    obtain ⟨y, hy, hc⟩ := Option.bind_eq_some_iff.1 hc
    cases hc
    refine wp_seq (ihc x hx σ H _ e m a w _ hR hT ?_)
    intro x1 σ1 H1 hK m' a' w' g1 g2 g3
    cases x1 with
    | normal => exact ihd y hy σ1 H1 K hK m' a' w' Q g2 g3 (fun x2 σ2 H2 k2 m2 a2 w2 k4 k5 k6 => hQ x2 σ2 H2 k2 m2 a2 w2 (g1.trans k4) k5 k6)
    | exit id => exact hQ _ _ _ hK m' a' w' g1 g2 g3
    | ret => exact hQ _ _ _ hK m' a' w' g1 g2 g3
  | cond c x1 x2 ih1 ih2 =>
    intro pc hc σ H K e m a w Q hR hT hQ
    simp only [compile] at hc
    split at hc
    · rename_i hopd
      obtain ⟨x, hx, hc⟩ := Option.bind_eq_some_iff.1 hc
      obtain ⟨y, hy, hc⟩ := Option.bind_eq_some_iff.1 hc
      cases hc
      simp only [lowC] at e
      cases hl : lowA c with
      | none => rw [hl] at e; exact e.elim
      | some y' =>
        rw [hl] at e
        simp only [lxW] at e
        have hev : env (rep n σ) c = some (la σ y') := by rw [rep_env hopd σ]; exact lowA_env hl σ
        split at e
        · rename_i hb
          rw [hb] at hev
          have := hT.env _ _ hev; simp only [VR] at this
          exact wp_cond_true this (ih1 x hx σ H K e m a w Q hR hT hQ)
        · rename_i hb
          rw [hb] at hev
          have := hT.env _ _ hev; simp only [VR] at this
          exact wp_cond_false this (ih2 y hy σ H K e m a w Q hR hT hQ)
        · exact e.elim
    · cases hc
  | block id c ih =>
    intro pc hc σ H K e m a w Q hR hT hQ
    simp only [compile] at hc
    obtain ⟨x, hx, hc⟩ := Option.bind_eq_some_iff.1 hc
    cases hc
    refine wp_block (ih x hx σ H _ e m a w _ hR hT ?_)
    intro x1 σ1 H1 hK m' a' w' g1 g2 g3
    cases x1 with
    | normal => exact hQ _ _ _ hK m' a' w' g1 g2 g3
    | exit id' =>
      simp only at hK
      simp only [IX.to, Exit.inBlock]
      split at hK
      · rename_i hid; rw [if_pos hid]; exact hQ _ _ _ hK m' a' w' g1 g2 g3
      · rename_i hid; rw [if_neg hid]; exact hQ _ _ _ hK m' a' w' g1 g2 g3
    | ret => exact hQ _ _ _ hK m' a' w' g1 g2 g3
  | loop c ih =>
    intro pc hc σ H K e m a w Q hR hT hQ
    simp only [compile] at hc
    obtain ⟨x, hx, hc⟩ := Option.bind_eq_some_iff.1 hc
    cases hc
    simp only [lowC, lxW] at e
    have key : ∀ (k : Nat) (σ : Sg) (H : Heap) (m : Mp) (a : Act) (w : World), itW (lxW cal φ N (lowC P x)) k σ H K → Rel B0 w0 m H w → TR m (rep n σ) a → (∀ x σ' H', K x σ' H' → Post B0 w0 m x (rep n σ') H' Q) → Code.rounds P c Q k a w := by
      intro k
      induction k with
      | zero => intro σ H m a w e; exact e.elim
      | succ k ihk =>
        intro σ H m a w e hR hT hQ
        rw [rounds_succ]
        refine ih x hx σ H _ e m a w _ hR hT ?_
        intro x1 σ1 H1 hK m' a' w' g1 g2 g3
        cases x1 with
        | normal => exact ihk σ1 H1 m' a' w' hK g2 g3 (fun x2 σ2 H2 k2 m2 a2 w2 k4 k5 k6 => hQ x2 σ2 H2 k2 m2 a2 w2 (g1.trans k4) k5 k6)
        | exit id => exact hQ _ _ _ hK m' a' w' g1 g2 g3
        | ret => exact hQ _ _ _ hK m' a' w' g1 g2 g3
    exact wp_loop_rounds N (key N σ H m a w e hR hT hQ)
  | exit id =>
    intro pc hc σ H K e m a w Q hR hT hQ
    cases hc
    exact wp_exit (hQ _ _ _ e m a w (Ext.refl m) hR hT)
  | ret =>
    intro pc hc σ H K e m a w Q hR hT hQ
    cases hc
    exact wp_ret (hQ _ _ _ e m a w (Ext.refl m) hR hT)
  | scope c ih =>
    intro pc hc σ H K e m a w Q hR hT hQ
    simp only [compile] at hc
    exact wp_scope_straight (ih pc hc σ H K e m a w _ hR hT (fun x σ' H' hK m' a' w' g1 g2 g3 => by have := hQ x σ' H' hK m' a' w' g1 g2 g3; cases x <;> exact this))
  | rangeFunc f ps as' body _ _ => intro pc hc; simp [compile] at hc
  | goto l => intro pc hc; simp [compile] at hc
  | refuse why => intro pc hc; simp [compile] at hc

/-! ### functions -/
def endW (rs : List LRes) (K : IV → Heap → Prop) : IX → Sg → Heap → Prop
  | .exit _, _, _ => False
  | _, σ, H => ∃ vs, lresults σ H rs = some vs ∧ K (pack vs) H
def lrunW (cal : FuncId → Bool) (φ : Oracle) (N : Nat) (lf : LFun) (args : List IV) (H : Heap) (K : IV → Heap → Prop) : Prop := lxW cal φ N lf.pc (initFrom 0 args) H (endW lf.rs K)
end
/-- A call that comes to one of many outcomes. -/
def SimW (P : Program) (f : FuncId) (args : List IV) (H : Heap) (K : IV → Heap → Prop) : Prop :=
  ∀ (B0 : Nat) (w0 w : World) (m : Mp) (us : Array Value), Rel B0 w0 m H w → VRs m args us.toList →
    Calls P f us w fun e w' => ∃ r H' m' u, K r H' ∧ e = .returned u ∧ Ext m m' ∧ Rel B0 w0 m' H' w' ∧ VR m' r u
end Go.Shade
/- SHADE, part 36: functions that range over maps; all outcomes, counted; closed calls. -/
namespace Go.Shade
open Go.RowKit
set_option linter.unusedSimpArgs false
set_option linter.unusedVariables false
theorem sim_W {P : Program} {φ : Oracle} {cal : FuncId → Bool} (hφ : Sound P φ) (hcal : ∀ g, cal g = true → callable P g = true) (hm : P.follows .mixedOrders = true) {N : Nat} {f : FuncId} {fn : Func} {lf : LFun} (hf : P.funcs[f]? = some fn) (hc : lowF P fn = some lf) {args : List IV} {H : Heap} (hl : args.length ≤ lf.n) {K : IV → Heap → Prop}
    (h : lrunW cal φ N lf args H K) : SimW P f args H K := by
  unfold lowF at hc
  obtain ⟨pf, h1, hc⟩ := oB hc
  obtain ⟨rs, h2, hc⟩ := oB hc
  cases hc
  unfold compileF at h1
  obtain ⟨c, g1, h1⟩ := Option.bind_eq_some_iff.1 h1
  obtain ⟨pc, g2, h1⟩ := Option.bind_eq_some_iff.1 h1
  split at h1
  · rename_i hres
    cases h1
    intro B0 w0 w m us hR hA
    have hl' := hA.length
    simp only [Array.length_toList] at hl'
    simp only at hl
    have hT : TR m (rep fn.ntmps (initFrom 0 args)) { tmps := us ++ Array.replicate (fn.ntmps - us.size) undef, defers := [] } := by
      rw [← rep_init hl]
      refine ⟨?_, rfl⟩
      simp only [Array.toList_append, Array.toList_replicate]
      rw [hl']
      exact hA.append (VRs.replicate (VR_unit m) _)
    refine calls_of_wp hf g1 (wp_lxW hφ hcal hm N c pc g2 _ H _ h m _ w _ hR hT ?_)
    intro x σ' H' hK m' a' w' k1 k2 k3
    have fin : (∃ vs, lresults σ' H' rs = some vs ∧ K (pack vs) H') → a'.defers = [] ∧ ∃ v, (results fn a'.tmps).run P w' = .ok v w' ∧ ∃ r H' m' u, K r H' ∧ Ending.returned v = .returned u ∧ Ext m m' ∧ Rel B0 w0 m' H' w' ∧ VR m' r u := by
      rintro ⟨vs, hvs, hk⟩
      have hvs' : iresults P (rep fn.ntmps σ') H' fn.results.toList = some vs := by
        rw [rep_results hres, lowRess_le h2]; exact hvs
      obtain ⟨u, q1, q2⟩ := run_results (P := P) k2 k3 hvs'
      exact ⟨k3.2, u, q1, _, H', m', u, hk, rfl, k1, k2, q2⟩
    cases x with
    | normal => exact fin hK
    | ret => exact fin hK
    | exit id => exact hK.elim
  · cases h1
/-! ### all outcomes, counted -/
abbrev Outs := Option (List (IV × Heap))
def outs : List Outs → Outs
  | [] => some []
  | [a] => a
  | a :: l => a.bind fun x => (outs l).bind fun y => some (x ++ y)
def lopsO (cal : FuncId → Bool) (φ : Oracle) : List LO → Sg → Heap → (Sg → Heap → Outs) → Outs
  | [], σ, H, k => k σ H
  | p :: ps, σ, H, k => match lopW cal φ p σ H with
    | none => none
    | some l => outs (l.map fun r => lopsO cal φ ps (pput σ p.d r.1) r.2 k)
def itO (body : Sg → Heap → (IX → Sg → Heap → Outs) → Outs) : Nat → Sg → Heap → (IX → Sg → Heap → Outs) → Outs
  | 0, _, _, _ => none
  | n + 1, σ, H, k => body σ H fun x σ H => match x with
    | .normal => itO body n σ H k
    | x => k x σ H
def lxO (cal : FuncId → Bool) (φ : Oracle) (n : Nat) : LC → Sg → Heap → (IX → Sg → Heap → Outs) → Outs
  | .skip, σ, H, k => k .normal σ H
  | .reg l, σ, H, k => lopsO cal φ l σ H (k .normal)
  | .drw l ps, σ, H, k => match ldraw cal φ l ps σ H with
    | none => none
    | some r => k .normal r.1 r.2
  | .seq a b, σ, H, k => lxO cal φ n a σ H fun x σ H => match x with
    | .normal => lxO cal φ n b σ H k
    | x => k x σ H
  | .cond c a b, σ, H, k => match la σ c with
    | .bool true => lxO cal φ n a σ H k
    | .bool false => lxO cal φ n b σ H k
    | _ => none
  | .block id a, σ, H, k => lxO cal φ n a σ H fun x σ H => match x with
    | .exit id' => bif Nat.beq id' id then k .normal σ H else k (.exit id') σ H
    | x => k x σ H
  | .loop a, σ, H, k => itO (lxO cal φ n a) n σ H k
  | .exit id, σ, H, k => k (.exit id) σ H
  | .ret, σ, H, k => k .ret σ H
  | .bad, _, _, _ => none
/-- What follows has these outcomes at most. -/
def Some' (L : List (IV × Heap)) (o : Outs) : Prop := ∃ l, o = some l ∧ ∀ r ∈ l, r ∈ L
theorem outs_mem : ∀ {l : List Outs} {L : List (IV × Heap)}, Some' L (outs l) → ∀ a ∈ l, Some' L a
  | [], L, h, a, ha => by cases ha
  | [b], L, h, a, ha => by
    have : a = b := by simpa using ha
    subst this; exact h
  | b :: c :: l, L, h, a, ha => by
    obtain ⟨r, hr, hL⟩ := h
    simp only [outs] at hr
    obtain ⟨x, hx, hr⟩ := Option.bind_eq_some_iff.1 hr
    obtain ⟨y, hy, hr⟩ := Option.bind_eq_some_iff.1 hr
    cases hr
    rcases List.mem_cons.1 ha with rfl | ha
    · exact ⟨x, hx, fun r hr => hL r (List.mem_append_left _ hr)⟩
    · exact outs_mem (l := c :: l) ⟨y, hy, fun r hr => hL r (List.mem_append_right _ hr)⟩ a ha
section
variable {cal : FuncId → Bool} {φ : Oracle} {L : List (IV × Heap)}
theorem lopsO_W : ∀ (ps : List LO) (σ : Sg) (H : Heap) (k : Sg → Heap → Outs), Some' L (lopsO cal φ ps σ H k) → lopsW cal φ ps σ H (fun σ H => Some' L (k σ H))
  | [], σ, H, k, h => h
  | p :: ps, σ, H, k, h => by
    simp only [lopsO] at h
    simp only [lopsW]
    cases hl : lopW cal φ p σ H with
    | none => rw [hl] at h; obtain ⟨l, e, _⟩ := h; cases e
    | some l =>
      rw [hl] at h
      exact ⟨l, rfl, fun r hr => lopsO_W ps _ _ k (outs_mem h _ (List.mem_map.2 ⟨r, hr, rfl⟩))⟩
theorem lopsW_mono : ∀ {ps : List LO} {σ : Sg} {H : Heap} {k k' : Sg → Heap → Prop}, (∀ σ H, k σ H → k' σ H) → lopsW cal φ ps σ H k → lopsW cal φ ps σ H k'
  | [], σ, H, k, k', hk, h => hk _ _ h
  | p :: ps, σ, H, k, k', hk, h => by
    obtain ⟨l, h1, h2⟩ := h
    exact ⟨l, h1, fun r hr => lopsW_mono hk (h2 r hr)⟩
theorem itW_mono {b : Sg → Heap → (IX → Sg → Heap → Prop) → Prop} (hb : ∀ (σ : Sg) (H : Heap) (k k' : IX → Sg → Heap → Prop), (∀ x σ H, k x σ H → k' x σ H) → b σ H k → b σ H k') : ∀ {n : Nat} {σ : Sg} {H : Heap} {k k' : IX → Sg → Heap → Prop}, (∀ x σ H, k x σ H → k' x σ H) → itW b n σ H k → itW b n σ H k'
  | 0, σ, H, k, k', hk, h => h
  | n + 1, σ, H, k, k', hk, h => by
    simp only [itW] at h ⊢
    refine hb _ _ _ _ (fun x σ H hx => ?_) h
    cases x with
    | normal => exact itW_mono (b := b) hb hk hx
    | exit id => exact hk _ _ _ hx
    | ret => exact hk _ _ _ hx
theorem lxW_mono {n : Nat} : ∀ {c : LC} {σ : Sg} {H : Heap} {k k' : IX → Sg → Heap → Prop}, (∀ x σ H, k x σ H → k' x σ H) → lxW cal φ n c σ H k → lxW cal φ n c σ H k' := by
  intro c
  induction c with
  | skip => intro σ H k k' hk h; exact hk _ _ _ h
  | reg l => intro σ H k k' hk h; exact lopsW_mono (hk .normal) h
  | drw l ps => intro σ H k k' hk h; obtain ⟨r, h1, h2⟩ := h; exact ⟨r, h1, hk _ _ _ h2⟩
  | seq a b iha ihb =>
    intro σ H k k' hk h
    simp only [lxW] at h ⊢
    refine iha (fun x σ H hx => ?_) h
    cases x with
    | normal => exact ihb hk hx
    | exit id => exact hk _ _ _ hx
    | ret => exact hk _ _ _ hx
  | cond c a b iha ihb =>
    intro σ H k k' hk h
    simp only [lxW] at h ⊢
    split at h
    · exact iha hk h
    · exact ihb hk h
    · exact h
  | block id a ih =>
    intro σ H k k' hk h
    simp only [lxW] at h ⊢
    refine ih (fun x σ H hx => ?_) h
    cases x with
    | normal => exact hk _ _ _ hx
    | exit id' =>
      simp only at hx ⊢
      split at hx
      · rename_i hid; rw [if_pos hid]; exact hk _ _ _ hx
      · rename_i hid; rw [if_neg hid]; exact hk _ _ _ hx
    | ret => exact hk _ _ _ hx
  | loop a ih => intro σ H k k' hk h; exact itW_mono (b := lxW cal φ n a) (fun σ H k k' hk h => ih hk h) hk h
  | exit id => intro σ H k k' hk h; exact hk _ _ _ h
  | ret => intro σ H k k' hk h; exact hk _ _ _ h
  | bad => intro σ H k k' hk h; exact h
theorem lxO_W {n : Nat} : ∀ (c : LC) (σ : Sg) (H : Heap) (k : IX → Sg → Heap → Outs), Some' L (lxO cal φ n c σ H k) → lxW cal φ n c σ H (fun x σ H => Some' L (k x σ H)) := by
  intro c
  induction c with
  | skip => intro σ H k h; exact h
  | reg l => intro σ H k h; exact lopsO_W l σ H _ h
  | drw l ps =>
    intro σ H k h
    simp only [lxO] at h
    cases hr : ldraw cal φ l ps σ H with
    | none => rw [hr] at h; obtain ⟨l, e, _⟩ := h; cases e
    | some r => rw [hr] at h; exact ⟨r, hr, h⟩
  | seq a b iha ihb =>
    intro σ H k h
    simp only [lxO] at h
    simp only [lxW]
    refine lxW_mono (fun x σ H hx => ?_) (iha _ _ _ h)
    cases x with
    | normal => exact ihb _ _ _ hx
    | exit id => exact hx
    | ret => exact hx
  | cond c a b iha ihb =>
    intro σ H k h
    simp only [lxO] at h
    simp only [lxW]
    split at h
    · rename_i hb; first | exact iha _ _ _ h | (rw [hb]; exact iha _ _ _ h)
    · rename_i hb; first | exact ihb _ _ _ h | (rw [hb]; exact ihb _ _ _ h)
    · obtain ⟨l, e, _⟩ := h; cases e
  | block id a ih =>
    intro σ H k h
    simp only [lxO] at h
    simp only [lxW]
    refine lxW_mono (fun x σ H hx => ?_) (ih _ _ _ h)
    cases x with
    | normal => exact hx
    | exit id' =>
      simp only at hx ⊢
      cases hb : Nat.beq id' id with
      | true => rw [hb] at hx; rw [if_pos (Nat.eq_of_beq_eq_true hb)]; exact hx
      | false =>
        rw [hb] at hx
        rw [if_neg (fun e => by subst e; rw [Nat.beq_refl] at hb; cases hb)]
        exact hx
    | ret => exact hx
  | loop a ih =>
    intro σ H k h
    simp only [lxO] at h
    simp only [lxW]
    have key : ∀ (j : Nat) (σ : Sg) (H : Heap), Some' L (itO (lxO cal φ n a) j σ H k) → itW (lxW cal φ n a) j σ H (fun x σ H => Some' L (k x σ H)) := by
      intro j
      induction j with
      | zero => intro σ H h; obtain ⟨l, e, _⟩ := h; cases e
      | succ j ihj =>
        intro σ H h
        simp only [itO] at h
        simp only [itW]
        refine lxW_mono (fun x σ H hx => ?_) (ih _ _ _ h)
        cases x with
        | normal => exact ihj _ _ hx
        | exit id => exact hx
        | ret => exact hx
    exact key n σ H h
  | exit id => intro σ H k h; exact h
  | ret => intro σ H k h; exact h
  | bad => intro σ H k h; obtain ⟨l, e, _⟩ := h; cases e
end
def endO (rs : List LRes) : IX → Sg → Heap → Outs
  | .exit _, _, _ => none
  | _, σ, H => match lresults σ H rs with
    | none => none
    | some vs => some [(pack vs, H)]
def lrunO (cal : FuncId → Bool) (φ : Oracle) (N : Nat) (lf : LFun) (args : List IV) (H : Heap) : Outs := lxO cal φ N lf.pc (initFrom 0 args) H (endO lf.rs)
theorem lrunO_W {cal : FuncId → Bool} {φ : Oracle} {N : Nat} {lf : LFun} {args : List IV} {H : Heap} {L : List (IV × Heap)} (h : lrunO cal φ N lf args H = some L) : lrunW cal φ N lf args H (fun r H' => (r, H') ∈ L) := by
  refine lxW_mono (fun x σ H hx => ?_) (lxO_W (L := L) _ _ _ _ ⟨L, h, fun _ h => h⟩)
  obtain ⟨l, h1, h2⟩ := hx
  cases x with
  | normal =>
    simp only [endO] at h1
    split at h1
    · cases h1
    · rename_i vs hvs
      cases h1
      exact ⟨vs, hvs, h2 _ (List.mem_singleton.2 rfl)⟩
  | ret =>
    simp only [endO] at h1
    split at h1
    · cases h1
    · rename_i vs hvs
      cases h1
      exact ⟨vs, hvs, h2 _ (List.mem_singleton.2 rfl)⟩
  | exit id => simp [endO] at h1
end Go.Shade
/- SHADE, part 37: many outcomes, told as one; calls that depend on nothing, by computing. -/
namespace Go.Shade
open Go.RowKit
set_option linter.unusedSimpArgs false
set_option linter.unusedVariables false
def ientb (a b : Ent) : Bool := ivb a.1 b.1 && (ivb a.2.1 b.2.1 && Nat.beq a.2.2 b.2.2)
def ientsb : List Ent → List Ent → Bool
  | [], [] => true
  | a :: l, b :: k => ientb a b && ientsb l k
  | _, _ => false
def iob : IObj → IObj → Bool
  | .row cs ro, .row ds so => ivbs cs ds && (ro == so)
  | .map es c, .map fs d => ientsb es fs && Nat.beq c d
  | .dead, .dead => true
  | _, _ => false
def hpb : Heap → Heap → Bool
  | [], [] => true
  | a :: l, b :: k => iob a b && hpb l k
  | _, _ => false
theorem ientb_eq {a b : Ent} (h : ientb a b = true) : a = b := by
  obtain ⟨a1, a2, a3⟩ := a
  obtain ⟨b1, b2, b3⟩ := b
  simp only [ientb, Bool.and_eq_true] at h
  rw [ivb_eq _ _ h.1, ivb_eq _ _ h.2.1, Nat.eq_of_beq_eq_true h.2.2]
theorem ientsb_eq : ∀ {l k : List Ent}, ientsb l k = true → l = k
  | [], [], _ => rfl
  | a :: l, b :: k, h => by
    simp only [ientsb, Bool.and_eq_true] at h
    rw [ientb_eq h.1, ientsb_eq h.2]
  | [], _ :: _, h => by simp [ientsb] at h
  | _ :: _, [], h => by simp [ientsb] at h
theorem iob_eq {a b : IObj} (h : iob a b = true) : a = b := by
  cases a <;> cases b <;> simp only [iob] at h <;> first
    | (cases h; done)
    | rfl
    | (simp only [Bool.and_eq_true, beq_iff_eq] at h; rw [ivbs_eq _ _ h.1, h.2]; done)
    | (simp only [Bool.and_eq_true] at h; rw [ientsb_eq h.1, Nat.eq_of_beq_eq_true h.2]; done)
theorem hpb_eq : ∀ {l k : Heap}, hpb l k = true → l = k
  | [], [], _ => rfl
  | a :: l, b :: k, h => by
    simp only [hpb, Bool.and_eq_true] at h
    rw [iob_eq h.1, hpb_eq h.2]
  | [], _ :: _, h => by simp [hpb] at h
  | _ :: _, [], h => by simp [hpb] at h
/-- An outcome without what is only passing. -/
def canon (h0 : Nat) (o : IV × Heap) : Option (IV × Heap) :=
  if Nat.ble h0 o.2.length && (o.2.take h0).all (inBO h0) then
    match inB h0 o.1, o.1 with
    | true, v => some (v, o.2.take h0)
    | false, .tuple (.slice q 0 n lb ex sz :: vs) => match o.2[q]? with
      | some (.row cs false) => if Nat.ble h0 q && (inBs h0 cs && inBs h0 vs) then some (.tuple (.slice h0 0 n lb ex sz :: vs), o.2.take h0 ++ [.row cs false]) else none
      | _ => none
    | _, _ => none
  else none
def wpick (h0 : Nat) : List (IV × Heap) → Option (IV × Heap)
  | [] => none
  | [o] => some o
  | o :: os => match canon h0 o with
    | none => none
    | some c => if os.all (fun p => match canon h0 p with
      | some d => ivb d.1 c.1 && hpb d.2 c.2
      | none => false) then some c else none
theorem canon_post {B0 : Nat} {w0 w w' : World} {m m' : Mp} {H : Heap} {o c : IV × Heap} {u : Value} (hR : Rel B0 w0 m H w) (hext : Ext m m') (hR' : Rel B0 w0 m' o.2 w') (hu : VR m' o.1 u) (hc : canon H.length o = some c) :
    ∃ m'', Ext m m'' ∧ Rel B0 w0 m'' c.2 w' ∧ VR m'' c.1 u := by
  unfold canon at hc
  split at hc
  · rename_i hok
    simp only [Bool.and_eq_true, List.all_eq_true] at hok
    obtain ⟨h1, h2⟩ := hok
    have h1 := Nat.le_of_ble_eq_true h1
    have hlen : (o.2.take H.length).length = H.length := by rw [List.length_take]; omega
    have old : ∀ (i : Nat) x, (o.2.take H.length)[i]? = some x → i < H.length ∧ inBO H.length x = true ∧ o.2[i]? = some x := by
      intro i x hi
      have hm := h2 x (List.mem_of_getElem? hi)
      rw [List.getElem?_take] at hi
      split at hi
      · rename_i hlt; exact ⟨hlt, hm, hi⟩
      · cases hi
    split at hc
    · rename_i v hv
      cases hc
      refine ⟨sub (o.2.take H.length).length id m', fun i l hi => ?_, hR'.gc id (fun i x hi => ?_) (fun _ _ _ _ h => h), VR_ren _ u (by rw [hlen]; exact hv) ?_⟩
      · simp only [sub, hlen, if_pos (hR.dom i l hi)]; exact hext i l hi
      · obtain ⟨a, b, d⟩ := old i x hi
        rw [hlen]
        exact ⟨b, by rw [renO_id (n := H.length) (f := id) (fun _ _ => rfl) b]; exact d⟩
      · rw [ren_id (n := H.length) (f := id) (fun _ _ => rfl) _ hv]; exact hu
    · rename_i q n lb ex sz vs hv he
      rw [he] at hu
      split at hc
      · rename_i cs hq
        split at hc
        · rename_i hok
          cases hc
          simp only [Bool.and_eq_true] at hok
          obtain ⟨g1, g2, g3⟩ := hok
          have g1 := Nat.le_of_ble_eq_true g1
          have hlK : (o.2.take H.length ++ [IObj.row cs false]).length = H.length + 1 := by rw [List.length_append, hlen]; rfl
          have hf : ∀ i, i < H.length → (fun i => if i = H.length then q else i) i = i := fun i hi => if_neg (by omega)
          refine ⟨sub (o.2.take H.length ++ [IObj.row cs false]).length (fun i => if i = H.length then q else i) m', fun i l hi => ?_, hR'.gc (fun i => if i = H.length then q else i) (fun i x hi => ?_) (fun i j hi hj hne => ?_), VR_ren _ u ?_ ?_⟩
          · have := hR.dom i l hi
            simp only [sub, hlK]
            rw [if_pos (by omega), if_neg (by omega)]
            exact hext i l hi
          · rw [hlK]
            rw [List.getElem?_append] at hi
            split at hi
            · obtain ⟨a, b, d⟩ := old i x hi
              refine ⟨inBO_le (by omega) b, ?_⟩
              rw [renO_id hf b]; show o.2[if i = H.length then q else i]? = _; rw [if_neg (by omega)]; exact d
            · rename_i hge
              rw [hlen] at hge hi
              have hz : i - H.length = 0 := by
                rcases Nat.eq_zero_or_pos (i - H.length) with e | e
                · exact e
                · rw [List.getElem?_eq_none (by simp; omega)] at hi; exact absurd hi (by simp)
              rw [hz] at hi; simp at hi; subst hi
              have hi' : i = H.length := by omega
              subst hi'
              refine ⟨inBs_le (by omega) cs g2, ?_⟩
              simp only [if_true, renO]
              rw [rens_id hf cs g2]; exact hq
          · rw [hlK] at hi hj
            by_cases e1 : i = H.length
            · rw [if_pos e1, if_neg (by omega)]; omega
            · rw [if_neg e1]
              by_cases e2 : j = H.length
              · rw [if_pos e2]; omega
              · rw [if_neg e2]; exact hne
          · rw [hlK]
            simp only [inB, inBs, Bool.and_eq_true, decide_eq_true_eq]
            exact ⟨by omega, inBs_le (by omega) vs g3⟩
          · simp only [ren, rens, if_true]
            rw [rens_id hf vs g3]; exact hu
        · cases hc
      · cases hc
    · cases hc
  · cases hc
theorem wpick_canon {h0 : Nat} : ∀ {L : List (IV × Heap)} {c : IV × Heap}, wpick h0 L = some c → (L = [c]) ∨ ∀ o ∈ L, canon h0 o = some c
  | [], c, h => by cases h
  | [o], c, h => by cases h; exact .inl rfl
  | o :: p :: os, c, h => by
    right
    simp only [wpick] at h
    split at h
    · cases h
    · rename_i d hd
      split at h
      · rename_i hall
        cases h
        intro x hx
        rcases List.mem_cons.1 hx with rfl | hx
        · exact hd
        · have := List.all_eq_true.1 hall x hx
          split at this
          · rename_i e he
            simp only [Bool.and_eq_true] at this
            rw [he]
            congr 1
            exact Prod.ext (ivb_eq _ _ this.1) (hpb_eq this.2)
          · cases this
      · cases h
theorem sim_pick {P : Program} {f : FuncId} {args : List IV} {H : Heap} {L : List (IV × Heap)} {c : IV × Heap} (h : SimW P f args H (fun r H' => (r, H') ∈ L)) (hc : wpick H.length L = some c) : SimCall P f args H c.1 c.2 := by
  intro B0 w0 w m us hR hA
  refine (h B0 w0 w m us hR hA).mono ?_
  rintro e w' ⟨r, H', m', u, hmem, he, hext, hR', hu⟩
  rcases wpick_canon hc with rfl | hall
  · have := List.mem_singleton.1 hmem
    subst this
    exact ⟨m', u, he, hext, hR', hu⟩
  · obtain ⟨m'', k1, k2, k3⟩ := canon_post hR hext hR' hu (hall _ hmem)
    exact ⟨m'', u, he, k1, k2, k3⟩

/-! ### calls by computing -/
def kcall (P : Program) (N : Nat) : Nat → Oracle
  | 0 => fun _ _ _ => none
  | n + 1 => fun f args H => match P.funcs[f]? with
    | none => none
    | some fn => match lowF P fn with
      | none => none
      | some lf => if Nat.ble args.length lf.n then
          match lrunO (callable P) (kcall P N n) N lf args H with
          | none => none
          | some L => wpick H.length L
        else none
theorem sound_kcall {P : Program} (hm : P.follows .mixedOrders = true) (N : Nat) : ∀ n, Sound P (kcall P N n)
  | 0 => fun f args H r H' e => by cases e
  | n + 1 => fun f args H r H' e => by
    simp only [kcall] at e
    split at e
    · cases e
    · rename_i fn hf
      split at e
      · cases e
      · rename_i lf hl
        split at e
        · rename_i hlen
          split at e
          · cases e
          · rename_i L hL
            exact sim_pick (sim_W (sound_kcall hm N n) (fun _ h => h) hm hf hl (Nat.le_of_ble_eq_true hlen) (lrunO_W hL)) e
        · cases e
/-- A call that depends on nothing, whatever there is. -/
theorem sim_closed {P : Program} {f : FuncId} {args : List IV} {v : IV} {H' : Heap} (h : SimCall P f args [] v H') (ha : inBs 0 args = true) (hv : inB 0 v = true) (H : Heap) : SimCall P f args H v H := by
  intro B0 w0 w m us hR hA
  have hA0 : VRs (fun _ => none) args us.toList := by
    have := VRs_ren (f := id) (n := 0) (m := m) args us.toList ha (by rw [rens_id (n := 0) (fun _ h => absurd h (by omega)) args ha]; exact hA)
    exact VRs.ext (fun i l hi => by simp [sub] at hi) _ _ this
  refine (h w.heap.size w w _ us (rel_start w) hA0).mono ?_
  rintro e w' ⟨m', u, he, hext, hR', hu⟩
  refine ⟨m, u, he, Ext.refl m, hR.under hR'.below, ?_⟩
  have := VR_ren (f := id) (n := 0) (m := m') v u hv (by rw [ren_id (n := 0) (fun _ h => absurd h (by omega)) v hv]; exact hu)
  exact VR.ext (fun i l hi => by simp [sub] at hi) _ _ this
def isT : Option (IV × Heap) → Bool
  | some (.bool true, _) => true
  | _ => false
theorem sim_awake {P : Program} (hm : P.follows .mixedOrders = true) {N n : Nat} {f : FuncId} (h : isT (kcall P N n f [] []) = true) (H : Heap) : SimCall P f [] H (.bool true) H := by
  unfold isT at h
  split at h
  · rename_i H' e
    exact sim_closed (sound_kcall hm N n f [] [] _ _ e) rfl rfl H
  · cases h
end Go.Shade
/- SHADE, part 39: from a seat's functions to what the oracle answers; awake, by computing. -/
namespace Go.Shade
set_option linter.unusedVariables false
/-- The program has this function, and this is its low code. -/
def LoF (P : Program) (f : FuncId) (lf : LFun) : Prop := (∃ fn, P.funcs[f]? = some fn ∧ lowF P fn = some lf) ∧ callable P f = true
section
variable {P : Program} {T : Table}
theorem denLo {f : FuncId} {lf : LFun} (h0 : T f = none) (hl : LoF P f lf) (N : Nat) {args : List IV} {H : Heap} {x : IV × Heap} (hn : args.length ≤ lf.n) (hr : lrunK (callable P) (den P T) N lf args H = some x) : den P T f args H = some x := by
  obtain ⟨⟨fn, g1, g2⟩, _⟩ := hl
  exact low_den (cal := callable P) (fun _ h => h) h0 g1 g2 hn (lrunK_le hr)
theorem denWp {f : FuncId} {lf : LFun} (h0 : T f = none) (hl : LoF P f lf) (N : Nat) {args : List IV} {H : Heap} {Q : Out → Prop} (hn : args.length ≤ lf.n) (hr : Wp (lrunK (callable P) (den P T) N lf args H) Q) : Wp (den P T f args H) Q := by
  obtain ⟨x, h1, h2⟩ := hr; exact ⟨x, denLo h0 hl N hn h1, h2⟩
end
/-- A table in which 'awake' answers true. -/
def awTab (f : FuncId) : Table := ext T0 f fun args H => match args with
  | [] => some (.bool true, H)
  | _ => none
theorem sound_awTab {P : Program} (hm : P.follows .mixedOrders = true) {N n : Nat} {f : FuncId} (h : isT (kcall P N n f [] []) = true) : SoundT P (awTab f) := by
  refine soundExt (soundT0 P) fun args H r H' e => ?_
  split at e
  · cases e; exact sim_awake hm h H
  · cases e
theorem awTab_ok {P : Program} {f : FuncId} (H : Heap) : den P (awTab f) f [] H = some (.bool true, H) := by
  refine den_some.2 ⟨1, ?_⟩
  simp only [icall, awTab, ext, if_true]
end Go.Shade
/- DESC, part 7: this seat's program: its functions and what they come to. -/
namespace Go.Proofs.Ytbcekfagnajooaa
open Go.Shade
set_option linter.unusedVariables false
theorem hm : Try.prog.follows .mixedOrders = true := by kernel_rfl
abbrev tt : Table := awTab 8
theorem ss : SoundT Try.prog tt := sound_awTab hm (N := 50) (n := 50) (by kernel_rfl)
noncomputable abbrev dd : Oracle := den Try.prog tt
theorem okAw (H : Heap) : dd 8 [] H = some (.bool true, H) := awTab_ok H
theorem lo27 : LoF Try.prog 27 slicesCloneStringString := ⟨⟨Try.f27, Try.func27, by kernel_rfl⟩, by kernel_rfl⟩
theorem lo28 : LoF Try.prog 28 slicesIndexVeneerApiDescVeneerApiDesc := ⟨⟨Try.f28, Try.func28, by kernel_rfl⟩, by kernel_rfl⟩
theorem lo26 : LoF Try.prog 26 (slicesContainsVeneerApiDescVeneerApiDesc 28) := ⟨⟨Try.f26, Try.func26, by kernel_rfl⟩, by kernel_rfl⟩
theorem lo25 : LoF Try.prog 25 (descOwn 27) := ⟨⟨Try.f25, Try.func25, by kernel_rfl⟩, by kernel_rfl⟩
theorem lo9 : LoF Try.prog 9 descNew := ⟨⟨Try.f9, Try.func9, by kernel_rfl⟩, by kernel_rfl⟩
theorem lo11 : LoF Try.prog 11 (VeneerDescTableOpen 25) := ⟨⟨Try.f11, Try.func11, by kernel_rfl⟩, by kernel_rfl⟩
theorem lo18 : LoF Try.prog 18 (VeneerDescTableGet 25) := ⟨⟨Try.f18, Try.func18, by kernel_rfl⟩, by kernel_rfl⟩
theorem lo16 : LoF Try.prog 16 (VeneerDescTableSet 18 25) := ⟨⟨Try.f16, Try.func16, by kernel_rfl⟩, by kernel_rfl⟩
theorem lo13 : LoF Try.prog 13 (VeneerDescTableClose 18) := ⟨⟨Try.f13, Try.func13, by kernel_rfl⟩, by kernel_rfl⟩
theorem lo21 : LoF Try.prog 21 VeneerDescTableAll := ⟨⟨Try.f21, Try.func21, by kernel_rfl⟩, by kernel_rfl⟩
theorem lo23 : LoF Try.prog 23 (VeneerDescTableFull 26) := ⟨⟨Try.f23, Try.func23, by kernel_rfl⟩, by kernel_rfl⟩
theorem lo15 : LoF Try.prog 15 veneerref07Same := ⟨⟨Try.f15, Try.func15, by kernel_rfl⟩, by kernel_rfl⟩
theorem lo24 : LoF Try.prog 24 (veneerlaw07Play 11 13 16) := ⟨⟨Try.f24, Try.func24, by kernel_rfl⟩, by kernel_rfl⟩
theorem okClone : CloneOk dd 27 := fun F H nv l h hb => denWp rfl lo27 0 (Nat.le_of_ble_eq_true rfl) (by rw [slicesCloneStringStringEq]; exact clone_s h hb)
theorem okOwn : OwnOk dd 25 := fun F H x d h hb => denWp rfl lo25 0 (Nat.le_of_ble_eq_true rfl) (by rw [descOwnEq]; exact own_s okClone h hb)
theorem okNew : NewOk dd 9 := fun H => denWp rfl lo9 0 (Nat.le_of_ble_eq_true rfl) (by rw [descNewEq]; exact new_s H)
theorem okOpen : OpenOk dd 11 := fun F G H t tab x d hT hx hb => denWp rfl lo11 33 (Nat.le_of_ble_eq_true rfl) (by rw [VeneerDescTableOpenEq]; exact open_s (by omega) okOwn hT hx hb)
theorem okGet : GetOk dd 18 := fun G H t tab fd hT => denWp rfl lo18 0 (Nat.le_of_ble_eq_true rfl) (by rw [VeneerDescTableGetEq]; exact get_s okOwn hT)
theorem okSet : SetOk dd 16 := fun F G H t tab fd x d hT hx hb => denWp rfl lo16 0 (Nat.le_of_ble_eq_true rfl) (by rw [VeneerDescTableSetEq]; exact set_s okGet okOwn hT hx hb)
theorem okClose : CloseOk dd 13 := fun G H t tab fd hT => denWp rfl lo13 0 (Nat.le_of_ble_eq_true rfl) (by rw [VeneerDescTableCloseEq]; exact close_s okGet hT)
theorem okIdx : IdxOk dd 28 := fun G H t tab v cs hT hs hc => denWp rfl lo28 33 (Nat.le_of_ble_eq_true rfl) (by rw [slicesIndexVeneerApiDescVeneerApiDescEq]; exact idx_s (by omega) hT hs hc)
theorem okCont : ContOk dd 26 := fun G H t tab v cs hT hs hc => denLo rfl lo26 0 (Nat.le_of_ble_eq_true rfl) (by rw [slicesContainsVeneerApiDescVeneerApiDescEq]; exact cont_s okIdx hT hs hc)
theorem okFull : FullOk dd 23 := fun G H t tab hT => denLo rfl lo23 0 (Nat.le_of_ble_eq_true rfl) (by rw [VeneerDescTableFullEq]; exact full_s okCont hT)
theorem okAll : AllOk dd 21 := fun G H t tab hT => denWp rfl lo21 33 (Nat.le_of_ble_eq_true rfl) (by rw [VeneerDescTableAllEq]; exact all_s (by omega) hT)
theorem okSame : Same7Ok dd 15 := fun F F' H x y a b hx hy hle => denWp rfl lo15 1000001 (Nat.le_of_ble_eq_true rfl) (by rw [veneerref07SameEq]; exact same7_s (by omega) hx hy hle)
theorem okPlay : PlayOk dd 24 := fun F G H t tab a nv hT hn => denWp rfl lo24 0 (Nat.le_of_ble_eq_true rfl) (by rw [veneerlaw07PlayEq]; exact play_s okOpen okClose okSet hT hn)
end Go.Proofs.Ytbcekfagnajooaa
/- DESC, part 8a: counting what is open. -/
namespace Go.Shade
set_option linter.unusedVariables false
set_option linter.unusedSimpArgs false
theorem filter_set {α : Type} (p : α → Bool) : ∀ (l : List α) (i : Nat) (a b : α), l[i]? = some a → (((l.set i b).filter p).length : Int) = (l.filter p).length - (if p a then 1 else 0) + (if p b then 1 else 0)
  | [], i, a, b, h => by simp at h
  | x :: l, 0, a, b, h => by
    simp at h; subst h
    simp only [List.set_cons_zero, List.filter_cons]
    cases p x <;> cases p b <;> simp <;> omega
  | x :: l, i + 1, a, b, h => by
    have := filter_set p l i a b (by simpa using h)
    simp only [List.set_cons_succ, List.filter_cons]
    cases p x <;> simp only [if_true, if_false, List.length_cons, Bool.false_eq_true] <;> omega
/-- How many are open. -/
def cnt (tab : Tab) : Nat := (tab.filter Option.isSome).length
theorem cnt_le (tab : Tab) : cnt tab ≤ tab.length := List.length_filter_le _ _
theorem cnt_full (tab : Tab) : cnt tab = tab.length ↔ none ∉ tab := by
  induction tab with
  | nil => simp [cnt]
  | cons a l ih =>
    have hle := cnt_le l
    unfold cnt at *
    cases a with
    | none => simp only [List.filter_cons, Option.isSome_none, Bool.false_eq_true, if_false, List.length_cons]; constructor
              · intro h; omega
              · intro h; simp at h
    | some d =>
      simp only [List.filter_cons, Option.isSome_some, if_true, List.length_cons]
      constructor
      · intro h hm
        rcases List.mem_cons.1 hm with e | e
        · cases e
        · exact ih.1 (by omega) e
      · intro h
        have := ih.2 (fun e => h (List.mem_cons_of_mem _ e))
        omega
theorem opens_cnt (tab : Tab) (h : tab.length = 32) : (opens tab).length = cnt tab := by
  have gen : ∀ (l : Tab) (k : Nat), ((List.range l.length).filter fun i => (l[i]?).join.isSome).length = (l.filter Option.isSome).length := by
    intro l _
    induction l with
    | nil => rfl
    | cons a l ih =>
      rw [List.length_cons, List.range_succ_eq_map, List.filter_cons, List.filter_map, List.filter_cons]
      have e : ((fun i => ((a :: l)[i]?).join.isSome) ∘ Nat.succ) = fun i => (l[i]?).join.isSome := by funext i; simp
      rw [e]
      cases a with
      | none => simp [ih]
      | some d => simp [ih]
  unfold opens cnt
  rw [← h]; exact gen tab 0
end Go.Shade
