/- Rules for loops whose rounds are counted: they are run round by round. -/
import Derived.Test.YtlpbjbgfgfjnlaaAvInt1
set_option linter.unusedVariables false
set_option linter.unusedSimpArgs false
set_option linter.unusedSectionVars false
namespace Go.AVM
section
variable {R : RunF} {s s' : St} {live : List Bool} {base : Nat} {b : AC} {Q : FQ}
/-- What must hold after one round. -/
def loopQ (R : RunF) (live : List Bool) (base : Nat) (b : AC) (Q : FQ) : FQ := fun fl s => match fl with | .nrm => wpL R live base b (head live base s) Q | .ex i => Q (.ex i) s | .ret => Q .ret s
@[simp] theorem loopQ_nrm : loopQ R live base b Q .nrm s = wpL R live base b (head live base s) Q := rfl
@[simp] theorem loopQ_ex {i : Nat} : loopQ R live base b Q (.ex i) s = Q (.ex i) s := rfl
@[simp] theorem loopQ_ret : loopQ R live base b Q .ret s = Q .ret s := rfl
theorem wpL_step : wpL R live base b s Q ↔ wpE R b s (loopQ R live base b Q) := by
  rw [wpL_eq]
  have : (thenQ (fun s' => wpL R live base b (head live base s') Q) Q) = loopQ R live base b Q := by
    funext fl s; cases fl <;> rfl
  rw [this]
@[congr] theorem loopQ_congr : loopQ R live base b Q = loopQ R live base b Q := rfl
@[congr] theorem wpL_congr (h : s = s') : wpL R live base b s Q ↔ wpL R live base b s' Q := by rw [h]
end
@[simp] theorem wlit0 : IntKind.i64.wrap 0 = 0 := by decide
@[simp] theorem wlit1 : IntKind.i64.wrap 1 = 1 := by decide
@[simp] theorem wlit2 : IntKind.i64.wrap 2 = 2 := by decide
@[simp] theorem wlit3 : IntKind.i64.wrap 3 = 3 := by decide
@[simp] theorem wlit4 : IntKind.i64.wrap 4 = 4 := by decide
@[simp] theorem wlit5 : IntKind.i64.wrap 5 = 5 := by decide
@[simp] theorem wlit6 : IntKind.i64.wrap 6 = 6 := by decide
@[simp] theorem wlit7 : IntKind.i64.wrap 7 = 7 := by decide
@[simp] theorem wlit8 : IntKind.i64.wrap 8 = 8 := by decide
@[simp] theorem wlit9 : IntKind.i64.wrap 9 = 9 := by decide
@[simp] theorem wlit10 : IntKind.i64.wrap 10 = 10 := by decide
@[simp] theorem wlit11 : IntKind.i64.wrap 11 = 11 := by decide
@[simp] theorem wlit12 : IntKind.i64.wrap 12 = 12 := by decide
@[simp] theorem wlit13 : IntKind.i64.wrap 13 = 13 := by decide
@[simp] theorem wlit14 : IntKind.i64.wrap 14 = 14 := by decide
@[simp] theorem wlit15 : IntKind.i64.wrap 15 = 15 := by decide
@[simp] theorem wlit16 : IntKind.i64.wrap 16 = 16 := by decide
@[simp] theorem wlit17 : IntKind.i64.wrap 17 = 17 := by decide
@[simp] theorem wlit18 : IntKind.i64.wrap 18 = 18 := by decide
@[simp] theorem wlit19 : IntKind.i64.wrap 19 = 19 := by decide
@[simp] theorem wlit20 : IntKind.i64.wrap 20 = 20 := by decide
@[simp] theorem wlit21 : IntKind.i64.wrap 21 = 21 := by decide
@[simp] theorem wlit22 : IntKind.i64.wrap 22 = 22 := by decide
@[simp] theorem wlit23 : IntKind.i64.wrap 23 = 23 := by decide
@[simp] theorem wlit24 : IntKind.i64.wrap 24 = 24 := by decide
@[simp] theorem wlit25 : IntKind.i64.wrap 25 = 25 := by decide
@[simp] theorem wlitm : IntKind.i64.wrap (-1) = -1 := by decide
@[simp] theorem after_nil (st : Bool) (S : Store) (r : AV) : after st S [] r = some S := after_nr rfl
@[simp] theorem after_int (st : Bool) (S : Store) (as : List AV) (k : IntKind) (n : Int) : after st S as (.int k n) = some S := after_bare rfl
@[simp] theorem after_bool (st : Bool) (S : Store) (as : List AV) (b : Bool) : after st S as (.bool b) = some S := after_bare rfl
@[simp] theorem after_str (st : Bool) (S : Store) (as : List AV) (b : ByteArray) : after st S as (.str b) = some S := after_bare rfl
@[simp] theorem wpE_condc_t {R : RunF} {a b : AC} {s : St} {Q : FQ} : wpE R (.cond (.c (.bool true)) a b) s Q ↔ wpE R a s Q := wpE_cond_t rfl
@[simp] theorem wpE_condc_f {R : RunF} {a b : AC} {s : St} {Q : FQ} : wpE R (.cond (.c (.bool false)) a b) s Q ↔ wpE R b s Q := wpE_cond_f rfl
theorem len8 {α : Type} {l : List α} (h : l.length = 8) : ∃ a0 a1 a2 a3 a4 a5 a6 a7, l = [a0, a1, a2, a3, a4, a5, a6, a7] := by
  match l, h with
  | [a0, a1, a2, a3, a4, a5, a6, a7], _ => exact ⟨_, _, _, _, _, _, _, _, rfl⟩
@[simp] theorem nums_getElem (k : IntKind) (xs : List Int) (i : Nat) (h : i < (nums k xs).length) : (nums k xs)[i] = .int k (xs[i]'(by simpa using h)) := by simp [nums]
/-- A row of eight numbers. -/
abbrev R8 (l : List Int) : AV := .agg (nums .i64 l)
def Bd (b : Int) (l : List Int) : Prop := ∀ x ∈ l, -b ≤ x ∧ x ≤ b
theorem Bd.cons {b x : Int} {l : List Int} (h : Bd b (x :: l)) : (-b ≤ x ∧ x ≤ b) ∧ Bd b l := ⟨h x (by simp), fun y hy => h y (by simp [hy])⟩
theorem Bd.nil {b : Int} : Bd b [] := fun x hx => by cases hx
theorem Bd.mk {b x : Int} {l : List Int} (h : -b ≤ x ∧ x ≤ b) (h' : Bd b l) : Bd b (x :: l) := fun y hy => by
  rcases List.mem_cons.1 hy with rfl | hy
  · exact h
  · exact h' y hy
theorem Bd.mono {b c : Int} {l : List Int} (h : Bd b l) (hc : b ≤ c) : Bd c l := fun x hx => by have := h x hx; omega
theorem contQ_sh {R : RunF} {f : Nat} {vs : List AV} {S : Store} {d : Option Nat} {tm : List AV} {os : List ROp} {Q : FQ} (h : wpF R f vs S fun r S' => wpR R os ⟨put tm d r, trunc S.length [r] S'⟩ Q) : contQ R (callSh R f vs S) d tm os Q := by
  obtain ⟨r, S', h1, h2⟩ := h
  refine ⟨(r, trunc S.length [r] S'), ?_, h2⟩
  unfold callSh
  rw [h1]; rfl
theorem wpF_mono {R : RunF} {f : Nat} {args : List AV} {S : Store} {Q Q' : AV → Store → Prop} (h : wpF R f args S Q) (hq : ∀ r S', Q r S' → Q' r S') : wpF R f args S Q' := by
  obtain ⟨r, S', h1, h2⟩ := h
  exact ⟨r, S', h1, hq r S' h2⟩
theorem callPure_ex {R : RunF} {f : Nat} {args : List AV} {P : AV → Prop} (h : wpF R f args [] fun v S' => ∃ r, fzv S' v = some r ∧ P r) : ∃ r, callPure R f args = some r ∧ P r := by
  obtain ⟨v, S', h1, r, h2, h3⟩ := h
  exact ⟨r, by unfold callPure; rw [h1]; exact h2, h3⟩
end Go.AVM
