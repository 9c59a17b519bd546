/- Numbers as rows of words: plain arithmetic, no machine. -/
import Derived.Test.YtlpbjbgfgfjnlaaAvLib
set_option linter.unusedVariables false
set_option linter.unusedSimpArgs false
set_option linter.unusedSectionVars false
namespace Go.AVM
abbrev B : Nat := 4294967296
def val : List Nat → Nat
  | [] => 0
  | w :: ws => w + B * val ws
def Wd (ws : List Nat) : Prop := ∀ w ∈ ws, w < B
def dig (n : Nat) : List Nat := if h : n = 0 then [] else n % B :: dig (n / B)
termination_by n
decreasing_by exact Nat.div_lt_self (Nat.pos_of_ne_zero h) (by decide)
@[simp] theorem dig_zero : dig 0 = [] := by rw [dig]; simp
theorem dig_pos {n : Nat} (h : n ≠ 0) : dig n = n % B :: dig (n / B) := by rw [dig]; simp [h]
theorem Wd.cons {w : Nat} {ws : List Nat} (h : Wd (w :: ws)) : w < B ∧ Wd ws := ⟨h w (by simp), fun x hx => h x (by simp [hx])⟩
theorem Wd.mk {w : Nat} {ws : List Nat} (h : w < B) (h' : Wd ws) : Wd (w :: ws) := fun x hx => by
  rcases List.mem_cons.1 hx with rfl | hx
  · exact h
  · exact h' x hx
theorem Wd.nil : Wd [] := fun x hx => by cases hx
theorem Wd.app {a b : List Nat} (ha : Wd a) (hb : Wd b) : Wd (a ++ b) := fun x hx => by
  rcases List.mem_append.1 hx with h | h
  · exact ha x h
  · exact hb x h
theorem Wd.take {a : List Nat} (ha : Wd a) (n : Nat) : Wd (a.take n) := fun x hx => ha x (List.mem_of_mem_take hx)
theorem Wd.drop {a : List Nat} (ha : Wd a) (n : Nat) : Wd (a.drop n) := fun x hx => ha x (List.mem_of_mem_drop hx)
theorem Wd.rep {n w : Nat} (h : w < B) : Wd (List.replicate n w) := fun x hx => by rw [(List.mem_replicate.1 hx).2]; exact h
theorem Wd.set {a : List Nat} (ha : Wd a) {i w : Nat} (h : w < B) : Wd (a.set i w) := fun x hx => by
  rcases List.mem_or_eq_of_mem_set hx with h' | rfl
  · exact ha x h'
  · exact h
theorem Wd.get {a : List Nat} (ha : Wd a) {i w : Nat} (h : a[i]? = some w) : w < B := ha w (List.mem_of_getElem? h)
theorem dig_wd : ∀ n, Wd (dig n) := by
  intro n
  induction n using Nat.strongRecOn with
  | _ n ih =>
    by_cases h : n = 0
    · subst h; simp; exact Wd.nil
    · rw [dig_pos h]
      exact Wd.mk (Nat.mod_lt _ (by decide)) (ih _ (Nat.div_lt_self (Nat.pos_of_ne_zero h) (by decide)))
@[simp] theorem val_dig : ∀ n, val (dig n) = n := by
  intro n
  induction n using Nat.strongRecOn with
  | _ n ih =>
    by_cases h : n = 0
    · subst h; simp [val]
    · rw [dig_pos h, val, ih _ (Nat.div_lt_self (Nat.pos_of_ne_zero h) (by decide))]
      exact Nat.mod_add_div n B
theorem dig_cons {w n : Nat} (hw : w < B) (h : w ≠ 0 ∨ n ≠ 0) : dig (w + B * n) = w :: dig n := by
  have h0 : w + B * n ≠ 0 := by
    rcases h with h | h
    · omega
    · have : 0 < B * n := Nat.mul_pos (by decide) (Nat.pos_of_ne_zero h); omega
  rw [dig_pos h0]
  have h1 : (w + B * n) % B = w := by rw [Nat.add_mul_mod_self_left, Nat.mod_eq_of_lt hw]
  have h2 : (w + B * n) / B = n := by rw [Nat.add_mul_div_left _ _ (by decide), Nat.div_eq_of_lt hw, Nat.zero_add]
  rw [h1, h2]
/-- The last word is not 0. -/
def Top (ws : List Nat) : Prop := ∀ w, ws.getLast? = some w → w ≠ 0
theorem val_pos {ws : List Nat} (h : Top ws) (hne : ws ≠ []) : val ws ≠ 0 := by
  induction ws with
  | nil => exact absurd rfl hne
  | cons w ws ih =>
    cases ws with
    | nil =>
      have := h w rfl
      simp [val, this]
    | cons v vs =>
      have := ih (fun x hx => h x (by rw [List.getLast?_cons_cons]; exact hx)) (by simp)
      simp only [val]
      have h1 : 0 < B * (val (v :: vs)) := Nat.mul_pos (by decide) (Nat.pos_of_ne_zero this)
      simp only [val] at h1
      omega
theorem dig_val {ws : List Nat} (hw : Wd ws) (ht : Top ws) : dig (val ws) = ws := by
  induction ws with
  | nil => simp [val]
  | cons w ws ih =>
    simp only [val]
    cases ws with
    | nil => rw [dig_cons (hw.cons.1) (.inl (ht w rfl))]; simp [val]
    | cons v vs =>
      have ht' : Top (v :: vs) := fun x hx => ht x (by rw [List.getLast?_cons_cons]; exact hx)
      rw [dig_cons hw.cons.1 (.inr (val_pos ht' (by simp))), ih hw.cons.2 ht']
theorem val_append (a b : List Nat) : val (a ++ b) = val a + B ^ a.length * val b := by
  induction a with
  | nil => simp [val]
  | cons w a ih => simp only [List.cons_append, val, ih, List.length_cons, Nat.pow_succ]; rw [Nat.mul_add, Nat.add_assoc, ← Nat.mul_assoc, Nat.mul_comm B (B ^ a.length)]
theorem val_zeros {a : List Nat} (h : ∀ w ∈ a, w = 0) : val a = 0 := by
  induction a with
  | nil => rfl
  | cons w a ih => simp [val, h w (by simp), ih fun x hx => h x (by simp [hx])]
theorem val_lt {ws : List Nat} (h : Wd ws) : val ws < B ^ ws.length := by
  induction ws with
  | nil => simp [val]
  | cons w ws ih =>
    have h1 := ih h.cons.2
    have h2 := h.cons.1
    simp only [val, List.length_cons, Nat.pow_succ]
    have : B * (val ws + 1) ≤ B * B ^ ws.length := Nat.mul_le_mul_left _ h1
    rw [Nat.mul_add] at this
    rw [Nat.mul_comm (B ^ ws.length)]
    omega
/-- Cut where only zeros follow. -/
theorem cut_dig {ws : List Nat} (hw : Wd ws) {n : Nat} (hn : n ≤ ws.length) (hz : ∀ w ∈ ws.drop n, w = 0) (ht : n = 0 ∨ ∃ w, ws[n - 1]? = some w ∧ w ≠ 0) : ws.take n = dig (val ws) := by
  have h1 : val ws = val (ws.take n) := by
    conv => lhs; rw [← List.take_append_drop n ws, val_append, val_zeros hz]
    simp
  rw [h1, dig_val (hw.take n)]
  intro w hw'
  rcases ht with rfl | ⟨v, hv, hv0⟩
  · simp at hw'
  · by_cases h0 : n = 0
    · subst h0; simp at hw'
    · rw [List.getLast?_eq_getElem?, List.length_take, Nat.min_eq_left hn, List.getElem?_take_of_lt (by omega), hv] at hw'
      cases hw'; exact hv0
theorem dig_top (n : Nat) : Top (dig n) := by
  induction n using Nat.strongRecOn with
  | _ n ih =>
    by_cases h : n = 0
    · subst h; intro w hw; simp at hw
    · rw [dig_pos h]
      intro w hw
      by_cases h1 : n / B = 0
      · rw [h1] at hw; simp at hw
        subst hw
        have : n < B := by
          rcases Nat.lt_or_ge n B with h2 | h2
          · exact h2
          · have := Nat.div_pos h2 (by decide); omega
        rw [Nat.mod_eq_of_lt this]; exact h
      · have hne : dig (n / B) ≠ [] := by rw [dig_pos h1]; simp
        have : (n % B :: dig (n / B)).getLast? = (dig (n / B)).getLast? := by
          cases hd : dig (n / B) with
          | nil => exact absurd hd hne
          | cons a l => exact List.getLast?_cons_cons
        rw [this] at hw
        exact ih _ (Nat.div_lt_self (Nat.pos_of_ne_zero h) (by decide)) w hw
theorem dig_nil {n : Nat} : dig n = [] ↔ n = 0 := by
  constructor
  · intro h
    have := val_dig n
    rw [h] at this; simpa [val] using this.symm
  · rintro rfl; simp
/-- How many words. -/
def size (n : Nat) : Nat := (dig n).length
theorem size_zero : size 0 = 0 := by simp [size]
theorem lt_size (n : Nat) : n < B ^ size n := by
  have := val_lt (dig_wd n)
  rwa [val_dig] at this
theorem le_of_size {n : Nat} (h : n ≠ 0) : B ^ (size n - 1) ≤ n := by
  induction n using Nat.strongRecOn with
  | _ n ih =>
    unfold size
    rw [dig_pos h]
    by_cases h1 : n / B = 0
    · rw [h1]; simp; omega
    · have := ih _ (Nat.div_lt_self (Nat.pos_of_ne_zero h) (by decide)) h1
      unfold size at this
      have hp : 0 < (dig (n / B)).length := by
        rw [dig_pos h1]; simp
      simp only [List.length_cons, Nat.add_sub_cancel]
      obtain ⟨k, hk⟩ : ∃ k, (dig (n / B)).length = k + 1 := ⟨_, (Nat.succ_pred_eq_of_pos hp).symm⟩
      rw [hk] at this ⊢
      simp only [Nat.add_sub_cancel] at this
      rw [Nat.pow_succ]
      exact Nat.le_trans (Nat.mul_le_mul_right _ this) (Nat.div_mul_le_self n B)
theorem size_le {n k : Nat} (h : n < B ^ k) : size n ≤ k := by
  by_cases h0 : n = 0
  · subst h0; simp [size]
  · have := le_of_size h0
    have h1 : B ^ (size n - 1) < B ^ k := Nat.lt_of_le_of_lt this h
    have := (Nat.pow_lt_pow_iff_right (by decide : 1 < B)).1 h1
    omega
theorem size_mono {a b : Nat} (h : a ≤ b) : size a ≤ size b := size_le (Nat.lt_of_le_of_lt h (lt_size b))
theorem exists_cut (ws : List Nat) : ∃ n, n ≤ ws.length ∧ (∀ w ∈ ws.drop n, w = 0) ∧ (n = 0 ∨ ∃ w, ws[n - 1]? = some w ∧ w ≠ 0) := by
  have : ∀ n, n ≤ ws.length → (∀ w ∈ ws.drop n, w = 0) → ∃ n, n ≤ ws.length ∧ (∀ w ∈ ws.drop n, w = 0) ∧ (n = 0 ∨ ∃ w, ws[n - 1]? = some w ∧ w ≠ 0) := by
    intro n
    induction n with
    | zero => exact fun h1 h2 => ⟨0, h1, h2, .inl rfl⟩
    | succ n ih =>
      intro h1 h2
      by_cases h0 : ws[n] = 0
      · refine ih (by omega) fun v hv => ?_
        rw [List.drop_eq_getElem_cons (by omega)] at hv
        rcases List.mem_cons.1 hv with rfl | hv
        · exact h0
        · exact h2 v hv
      · exact ⟨n + 1, h1, h2, .inr ⟨ws[n], by simp, h0⟩⟩
  exact this ws.length (Nat.le_refl _) (by simp)
theorem norm_take {ws : List Nat} (hw : Wd ws) : ws.take (dig (val ws)).length = dig (val ws) ∧ (dig (val ws)).length ≤ ws.length := by
  obtain ⟨n, h1, h2, h3⟩ := exists_cut ws
  have := cut_dig hw h1 h2 h3
  have hl := congrArg List.length this
  rw [List.length_take, Nat.min_eq_left h1] at hl
  exact ⟨by rw [← hl]; exact this, by omega⟩
theorem val_take_succ (x : List Nat) (i : Nat) : val (x.take (i + 1)) = val (x.take i) + B ^ i * x.getD i 0 := by
  by_cases h : i < x.length
  · rw [List.take_add_one, val_append, List.length_take, Nat.min_eq_left (by omega)]
    have : x[i]? = some x[i] := List.getElem?_eq_getElem h
    rw [this, List.getD_eq_getElem?_getD, this]
    simp [val]
  · rw [List.take_of_length_le (by omega), List.take_of_length_le (by omega), List.getD_eq_getElem?_getD, List.getElem?_eq_none (by omega)]
    simp
theorem val_rep0 (n : Nat) : val (List.replicate n 0) = 0 := val_zeros fun w hw => (List.mem_replicate.1 hw).2
theorem val_set {ws : List Nat} {j w w' : Nat} (h : ws[j]? = some w) : val (ws.set j w') + B ^ j * w = val ws + B ^ j * w' := by
  induction ws generalizing j with
  | nil => simp at h
  | cons x ws ih =>
    cases j with
    | zero =>
      simp at h; subst h
      simp [val]; omega
    | succ j =>
      have := ih (j := j) (by simpa using h)
      simp only [List.set_cons_succ, val, Nat.pow_succ]
      have e : B * (val (ws.set j w') + B ^ j * w) = B * (val ws + B ^ j * w') := by rw [this]
      simp only [Nat.mul_add] at e
      rw [Nat.mul_comm (B ^ j) B, Nat.mul_assoc, Nat.mul_assoc]
      omega
theorem val_ge {ws : List Nat} {j w : Nat} (h : ws[j]? = some w) : B ^ j * w ≤ val ws := by
  have := val_set (w' := 0) h
  omega
end Go.AVM
