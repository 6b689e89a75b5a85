/- SHADE, part 14: a region whose order Go leaves open: where the looks below say so, every order comes to what the text's order does. -/
import Derived.Test.YtdljmmdbpngchaaShadeOne
namespace Go.Shade
open Go.RowKit
set_option linter.unusedSimpArgs false
set_option linter.unusedVariables false

/-! ### an operation hangs on its operands alone -/
theorem evs_congr {ρ ρ' : Env} : ∀ {xs : List Operand}, (∀ x ∈ xs, ρ x = ρ' x) → evs ρ xs = evs ρ' xs
  | [], _ => rfl
  | x :: xs, h => by
    have ih : evs ρ xs = evs ρ' xs := evs_congr (fun y hy => h y (List.mem_cons_of_mem _ hy))
    simp only [evs, h x (by simp), ih]
theorem evps_congr {ρ ρ' : Env} : ∀ {xs : List (Nat × Operand)}, (∀ x ∈ xs, ρ x.2 = ρ' x.2) → evps ρ xs = evps ρ' xs
  | [], _ => rfl
  | (i, x) :: xs, h => by
    have ih : evps ρ xs = evps ρ' xs := evps_congr (fun y hy => h y (List.mem_cons_of_mem _ hy))
    simp only [evps, h (i, x) (by simp), ih]
theorem oneOpt_congr {ρ ρ' : Env} {x : Option Operand} (h : ∀ y, x = some y → ρ y = ρ' y) : oneOpt ρ x = oneOpt ρ' x := by
  cases x with
  | none => rfl
  | some y => simp only [oneOpt, h y rfl]
theorem iq_congr {P : Program} {H : Heap} {ρ ρ' : Env} {op : Op} (h : ∀ x ∈ op.operands, ρ x = ρ' x) : iq P H ρ op = iq P H ρ' op := by
  unfold iq
  split
  case h_23 => rfl
  all_goals simp only [Op.operands, Call.operands] at h
  all_goals first
    | (rw [h _ (by simp)]; done)
    | skip
  · rename_i c a b; simp only [h c (by simp), h a (by simp), h b (by simp)]
  · rename_i op t x y yt; simp only [h x (by simp), h y (by simp)]
  · rename_i fn first cap
    rw [evs_congr (ρ := ρ) (ρ' := ρ') (xs := first.toList) (fun x hx => h x (by simp [Array.mem_toList_iff.1 hx])), evs_congr (ρ := ρ) (ρ' := ρ') (xs := cap.toList) (fun x hx => h x (by simp [Array.mem_toList_iff.1 hx]))]
  · rename_i t x lo hi mx
    rw [h x (by simp), oneOpt_congr (ρ := ρ) (ρ' := ρ') (x := lo) (fun y hy => h y (by simp [hy])), oneOpt_congr (ρ := ρ) (ρ' := ρ') (x := hi) (fun y hy => h y (by simp [hy])), oneOpt_congr (ρ := ρ) (ρ' := ρ') (x := mx) (fun y hy => h y (by simp [hy]))]
  · rename_i t x i; simp only [h x (by simp), h i (by simp)]
  · rename_i t x i; simp only [h x (by simp), h i (by simp)]
  · rename_i t x i ok; simp only [h x (by simp), h i (by simp)]
  · rename_i t parts
    rw [evps_congr (ρ := ρ) (ρ' := ρ') (xs := parts.toList) (fun x hx => h x.2 (by simp; exact ⟨x.1, by simpa using hx⟩))]
  · rename_i x ys ts
    rw [h x (by simp), evs_congr (ρ := ρ) (ρ' := ρ') (xs := ys) (fun y hy => h y (by simp [hy]))]
  · rename_i x ys ts
    rw [h x (by simp), evs_congr (ρ := ρ) (ρ' := ρ') (xs := ys) (fun y hy => h y (by simp [hy]))]
theorem ie_congr {P : Program} {H : Heap} {ρ ρ' : Env} {op : Op} (h : ∀ x ∈ op.operands, ρ x = ρ' x) : ie P H ρ op = ie P H ρ' op := by
  unfold ie
  split
  case h_17 => rfl
  all_goals simp only [Op.operands, Call.operands] at h
  all_goals first
    | rfl
    | (rw [h _ (by simp)]; done)
    | skip
  · rename_i t len parts
    rw [evps_congr (ρ := ρ) (ρ' := ρ') (xs := parts.toList) (fun x hx => h x.2 (by simp; exact ⟨x.1, by simpa using hx⟩))]
  · rename_i t a x; simp only [h a (by simp), h x (by simp)]
  · rename_i t l c; simp only [h l (by simp), h c (by simp)]
  · rename_i t d k x; simp only [h d (by simp), h k (by simp), h x (by simp)]
  · rename_i t d k x; simp only [h d (by simp), h k (by simp), h x (by simp)]
  · rename_i s x t xT; simp only [h s (by simp), h x (by simp)]
  · rename_i s x t xT; simp only [h s (by simp), h x (by simp)]
  · rename_i s x t xT; simp only [h s (by simp), h x (by simp)]
  · rename_i f args ts
    rw [h f (by simp), evs_congr (ρ := ρ) (ρ' := ρ') (xs := args.toList) (fun x hx => h x (by simp [Array.mem_toList_iff.1 hx]))]
  · rename_i f nm args ts
    rw [h f (by simp), evs_congr (ρ := ρ) (ρ' := ρ') (xs := args.toList) (fun x hx => h x (by simp [Array.mem_toList_iff.1 hx]))]
theorem istep_congr {P : Program} {H : Heap} {ρ ρ' : Env} {op : Op} (h : ∀ x ∈ op.operands, ρ x = ρ' x) : istep P H ρ op = istep P H ρ' op := by
  unfold istep; rw [iq_congr h, ie_congr h]

theorem env_congr {ts us : List IV} {x : Operand} (h : ∀ t, x = .tmp t → ts[t]? = us[t]?) : env ts x = env us x := by
  cases x with
  | tmp t => simp only [env, List.getD_eq_getElem?_getD, h t rfl]
  | _ => rfl
theorem iopV_congr {P : Program} {φ : Oracle} {ops : Array Oper} {o : Oper} {ts us : List IV} {H : Heap} (h : ∀ t ∈ o.looksAt ops, ts[t]? = us[t]?) : iopV P φ ops o ts H = iopV P φ ops o us H := by
  have h1 : iwanted ops o ts = iwanted ops o us := by
    unfold iwanted
    split
    · rfl
    · rename_i j want hg
      unfold iyield
      cases hd : (ops[j]?).bind (·.dst) with
      | none => rfl
      | some t =>
        have : ts[t]? = us[t]? := h t (by simp [Oper.looksAt, hg, hd])
        simp only [Option.bind_some, this]
  have h2 : istep P H (env ts) o.op = istep P H (env us) o.op := istep_congr (fun x hx => env_congr (fun t ht => h t (by
    subst ht
    simp only [Oper.looksAt, List.mem_append, List.mem_filterMap]
    exact .inl ⟨.tmp t, by simpa using hx, rfl⟩)))
  unfold iopV
  rw [h1, h2]
end Go.Shade
