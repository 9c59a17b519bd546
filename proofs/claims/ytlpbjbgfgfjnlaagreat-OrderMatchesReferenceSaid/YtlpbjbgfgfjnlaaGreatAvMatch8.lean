/- Texts joined: AvSort3, AvSort4, AvSort5, AvOrd7, AvFull, AvRo1, AvRo2, AvPerm1, AvRo3, AvRef1, AvRef2, AvRef3, AvRef4, AvRef5, AvRef6, AvRef7, AvRef8, AvRef9. -/
import Derived.Test.YtlpbjbgfgfjnlaaGreatAvMatch7
import Derived.Test.YtlpbjbgfgfjnlaaGreatAvMatch6
import Derived.Test.YtlpbjbgfgfjnlaaGreatAvMatch5
set_option linter.unusedVariables false
set_option linter.unusedSimpArgs false
set_option linter.unusedSectionVars false
namespace Go.AVM
@[simp] theorem opA_clr {R : RunF} {S : Store} {sz b off n sz' vl : Nat} {cap : Option Nat} {z : List AV} : opA R (.clr sz z) [.msl b off n sz' vl cap] S = chk (sz = sz' ∧ z.length = sz) ((wr S b off vl (List.replicate n z).flatten).bind fun S' => some (.tup [], S')) := rfl
abbrev SDec (o : List (List Int)) (D : List (List Int)) : Prop := D.Pairwise fun a b => ordCmp o a b = 1
theorem take_snoc {α : Type} {L : List α} {p : Nat} {x : α} (hx : L[p]? = some x) : L.take (p + 1) = L.take p ++ [x] := by rw [List.take_add_one, hx]; rfl
theorem dec_to {o L : List (List Int)} (hd : Dec o L) {p : Nat} {x d : List Int} (hx : L[p]? = some x) (hm : d ∈ L.take p) : 0 ≤ ordCmp o d x := by
  have h := hd
  rw [← List.take_append_drop p L] at h
  have hp := (List.getElem?_eq_some_iff.1 hx)
  refine (List.pairwise_append.1 h).2.2 d hm x ?_
  rw [List.drop_eq_getElem_cons hp.1, hp.2]
  exact List.mem_cons_self ..
theorem sdec_snoc {o L D : List (List Int)} {p : Nat} {x y : List Int} (hd : Dec o L) (h8 : All8 L) (hx : L[p + 1]? = some x) (hy : L[p]? = some y) (hxy : x ≠ y) (hD : SDec o D) (hm : ∀ d, d ∈ D ↔ d ∈ L.take (p + 1)) :
    SDec o (D ++ [x]) ∧ ∀ d, d ∈ D ++ [x] ↔ d ∈ L.take (p + 2) := by
  have ht := take_snoc hx
  refine ⟨List.pairwise_append.2 ⟨hD, List.pairwise_singleton _ _, fun d hdD z hz => ?_⟩, fun d => ?_⟩
  · have hz' : z = x := by simpa using hz
    subst hz'
    have hdm := (hm d).1 hdD
    have h1 := dec_to hd hx hdm
    have hd8 := h8 d (List.mem_of_mem_take hdm)
    have hx8 := h8 z (List.mem_of_getElem? hx)
    have hy8 := h8 y (List.mem_of_getElem? hy)
    have hne : ordCmp o d z ≠ 0 := fun h0 => by
      have hdz := ordCmp_eq0 o (by omega) h0
      subst hdz
      have hyx : 0 ≤ ordCmp o y d := dec_to hd hx (by rw [take_snoc hy]; simp)
      rw [take_snoc hy] at hdm
      rcases List.mem_append.1 hdm with h | h
      · have h2 := dec_to hd hy h
        have h3 := ordCmp_anti o d y
        exact hxy (ordCmp_eq0 o (by omega) (by omega))
      · have : d = y := by simpa using h
        exact hxy this
    have := ordCmp_vals o d z
    omega
  · rw [ht]
    simp only [List.mem_append, hm d]
theorem mem_same {L D : List (List Int)} {p : Nat} {x : List Int} (hx : L[p + 1]? = some x) (hy : L[p]? = some x) (hm : ∀ d, d ∈ D ↔ d ∈ L.take (p + 1)) : ∀ d, d ∈ D ↔ d ∈ L.take (p + 2) := by
  intro d
  rw [take_snoc hx, hm d]
  constructor
  · exact fun h => List.mem_append.2 (.inl h)
  · intro h
    rcases List.mem_append.1 h with h | h
    · exact h
    · have : d = x := by simpa using h
      rw [this, take_snoc hy]; simp
structure Comp (o L : List (List Int)) (n k p : Nat) (A : List (List Int)) : Prop where
  all : All8 A
  len : A.length = n
  le : k ≤ p
  dec : SDec o (A.take k)
  mem : ∀ d, d ∈ A.take k ↔ d ∈ L.take (p + 1)
  rest : ∀ i, p ≤ i → A[i]? = L[i]?
theorem Comp.skip {o L A : List (List Int)} {n k p : Nat} {x : List Int} (h : Comp o L n k p A) (hx : L[p + 1]? = some x) (hy : L[p]? = some x) : Comp o L n k (p + 1) A :=
  ⟨h.all, h.len, by have := h.le; omega, h.dec, mem_same hx hy h.mem, fun i hi => h.rest i (by omega)⟩
theorem Comp.put {o L A : List (List Int)} {n k p : Nat} {x y : List Int} (hd : Dec o L) (h8 : All8 L) (hL : L.length = n) (h : Comp o L n k p A) (hx : L[p + 1]? = some x) (hy : L[p]? = some y) (hxy : x ≠ y) : Comp o L n (k + 1) (p + 1) (A.set k x) := by
  have hpn := (List.getElem?_eq_some_iff.1 hx).1
  have hkl : k < A.length := by have := h.le; have := h.len; omega
  have e : (A.set k x).take (k + 1) = A.take k ++ [x] := by
    rw [take_snoc (p := k) (x := x) (by simp [hkl])]
    congr 1
    rw [List.take_set_of_le (by omega)]
  have hs := sdec_snoc hd h8 hx hy hxy h.dec h.mem
  refine ⟨h.all.set (h8 x (List.mem_of_getElem? hx)), by simp [h.len], by have := h.le; omega, ?_, ?_, fun i hi => ?_⟩
  · rw [e]; exact hs.1
  · rw [e]; exact hs.2
  · have := h.le
    rw [List.getElem?_set_ne (by omega), h.rest i (by omega)]
set_option maxRecDepth 20000 in
theorem comp_inner {o L : List (List Int)} (hd : Dec o L) (h8 : All8 L) {n k0 : Nat} (hL : L.length = n) (hn : n ≤ 1000) (hk0 : k0 < n) {r : Blk} {Q : FQ}
    (hQ : ∀ (tm : List AV) (hl : tm.length = 61) (k : Nat) (A : List (List Int)), tm[0] = .msl 1 0 n 8 (8 * n) none → tm[3] = .int .i64 (k : Int) → Comp o L n k (n - 1) A → Q (.ex 2) ⟨tm, [r, .mu (nums .i64 A.flatten) false]⟩) :
    ∀ (m q : Nat), k0 + q + 1 + m = n → ∀ (k : Nat) (A : List (List Int)), Comp o L n k (k0 + q) A →
    wpL RT f38_0m 2 f38_0 ⟨[.msl 1 0 n 8 (8 * n) none, .any, .any, .int .i64 (k : Int), .msl 1 (k0 * 8) (n - k0) 8 (8 * n) none, .int .i64 ((q : Int) + 1)] ++ List.replicate 55 .any, [r, .mu (nums .i64 A.flatten) false]⟩ Q := by
  intro m
  induction m with
  | zero =>
    intro q hq k A hC
    have e : k0 + q = n - 1 := by omega
    rw [e] at hC
    have hfin := fun tm hl h0 h3 => hQ tm hl k A h0 h3 hC
    have hge : ¬ (q : Int) + 1 < ((n - k0 : Nat) : Int) := by omega
    rw [wpL_step]
    generalize hK : loopQ RT f38_0m 2 f38_0 Q = K
    simp [f38_0, List.replicate, hge]
    subst hK
    exact hfin _ rfl rfl rfl
  | succ m ih =>
    intro q hq k A hC
    have hx : L[k0 + q + 1]? = some L[k0 + q + 1] := List.getElem?_eq_getElem (by omega)
    have hy : L[k0 + q]? = some L[k0 + q] := List.getElem?_eq_getElem (by omega)
    have hskip := fun x => hC.skip (x := x)
    have hput := fun x y => hC.put hd h8 hL (x := x) (y := y)
    generalize L[k0 + q + 1] = x at *
    generalize L[k0 + q] = y at *
    have hx8 := h8 x (List.mem_of_getElem? hx)
    have hy8 := h8 y (List.mem_of_getElem? hy)
    have hAx : A[k0 + q + 1]? = some x := by rw [hC.rest _ (by omega)]; exact hx
    have hAy : A[k0 + q]? = some y := by rw [hC.rest _ (by omega)]; exact hy
    have hlt : (q : Int) + 1 < ((n - k0 : Nat) : Int) := by omega
    have hq1 : (0 : Int) ≤ (q : Int) + 1 := by omega
    have htn : ((q : Int) + 1).toNat = q + 1 := by omega
    have hlt2 : (q : Int) < ((n - k0 : Nat) : Int) := by omega
    have hlt3 : q < n - k0 := by omega
    have hw1 : IntKind.i64.wrap ((q : Int) + 1 - 1) = (q : Int) := by rw [wrap_i64 (by omega) (by omega)]; omega
    have hw1' : IntKind.i64.wrap (q : Int) = (q : Int) := wrap_i64 (by omega) (by omega)
    have hw2 : IntKind.i64.wrap ((q : Int) + 1 + 1) = ((q + 1 : Nat) : Int) + 1 := by rw [wrap_i64 (by omega) (by omega)]; push_cast; rfl
    have hkp := hC.le
    have hwk : IntKind.i64.wrap ((k : Int) + 1) = ((k + 1 : Nat) : Int) := wrap_i64 (by omega) (by omega)
    have hkn : (k : Int) < (n : Int) := by omega
    have ox : k0 * 8 + (q + 1) * 8 = (k0 + q + 1) * 8 := by omega
    have oy : k0 * 8 + q * 8 = (k0 + q) * 8 := by omega
    have rx : rd [r, .mu (nums .i64 A.flatten) false] 1 (k0 * 8 + (q + 1) * 8) (8 * n) 8 = some (nums .i64 x) := by
      rw [ox]; exact rd_row (S := [r, .mu (nums .i64 A.flatten) false]) rfl hC.all hC.len hAx
    have ry : rd [r, .mu (nums .i64 A.flatten) false] 1 (k0 * 8 + q * 8) (8 * n) 8 = some (nums .i64 y) := by
      rw [oy]; exact rd_row (S := [r, .mu (nums .i64 A.flatten) false]) rfl hC.all hC.len hAy
    have wx : wr [r, .mu (nums .i64 A.flatten) false] 1 (k * 8) (8 * n) (nums .i64 x) = some [r, .mu (nums .i64 (A.set k x).flatten) false] :=
      wr_row (S := [r, .mu (nums .i64 A.flatten) false]) rfl hC.all hC.len (by omega) hx8
    have he := eqcs_nums .i64 (a := x) (b := y) (by omega)
    rw [wpL_step]
    generalize hK : loopQ RT f38_0m 2 f38_0 Q = K
    have ep : k0 + q + 1 = k0 + (q + 1) := by omega
    by_cases c : x = y
    · have hih := ih (q + 1) (by omega) k A (by rw [← ep]; exact hskip y (c ▸ hx) hy)
      simp only [c, decide_true] at he
      generalize nums .i64 A.flatten = C at *
      simp [f38_0, List.replicate, hlt, hlt2, hlt3, hq1, htn, rx, ry, hx8, hy8, chk, hw1, hw1', he, hw2, c]
      subst hK
      simp [head, f38_0m, mask, trunc_len]
      simpa [f38_0m, List.replicate] using hih
    · have hih := ih (q + 1) (by omega) (k + 1) (A.set k x) (by rw [← ep]; exact hput x y hx hy c)
      simp only [c, decide_false] at he
      generalize nums .i64 (A.set k x).flatten = C2 at *
      generalize nums .i64 A.flatten = C at *
      simp [f38_0, List.replicate, hlt, hlt2, hlt3, hq1, htn, rx, ry, hx8, hy8, chk, hw1, hw1', he, hw2, hkn, wx, hwk]
      subst hK
      simp [head, f38_0m, mask, trunc_len]
      simpa [f38_0m, List.replicate] using hih
theorem flat_take {L : List (List Int)} (h8 : All8 L) : ∀ {k : Nat}, k ≤ L.length → L.flatten.take (8 * k) = (L.take k).flatten := by
  induction L with
  | nil => intro k _; simp
  | cons x L ih =>
    intro k hk
    cases k with
    | zero => simp
    | succ k =>
      have hx := h8 x (by simp)
      rw [List.take_succ_cons, List.flatten_cons, List.flatten_cons, List.take_append, List.take_of_length_le (by omega)]
      have e : 8 * (k + 1) - x.length = 8 * k := by omega
      rw [e, ih (fun r hr => h8 r (by simp [hr])) (by simpa using hk)]
def CompQ (o L : List (List Int)) (n : Nat) (r0 : Blk) (r : AV) (S' : Store) : Prop :=
  ∃ k F, ∃ D : List (List Int), r = .msl 1 0 k 8 (8 * n) none ∧ S' = [r0, .mu (nums .i64 F) false] ∧ F.length = 8 * n ∧ k ≤ n ∧ F.take (8 * k) = D.flatten ∧ D.length = k ∧ All8 D ∧ SDec o D ∧ ∀ d, d ∈ D ↔ d ∈ L
theorem zeros_flat (n : Nat) : (List.replicate n (List.replicate 8 (AV.int .i64 0))).flatten = nums .i64 (List.replicate (8 * n) 0) := by
  induction n with
  | zero => rfl
  | succ n ih =>
    rw [List.replicate_succ, List.flatten_cons, ih, zero8, nums_append]
    congr 1
set_option maxRecDepth 20000 in
theorem comp_outer {o L : List (List Int)} (hd : Dec o L) (h8 : All8 L) {n : Nat} (hL : L.length = n) (hn : n ≤ 1000) {r0 : Blk} {Q : FQ}
    (h1 : ∀ (tm : List AV) (hl : tm.length = 61), tm[0] = .msl 1 0 n 8 (8 * n) none → SDec o L → Q (.ex 0) ⟨tm, [r0, .mu (nums .i64 L.flatten) false]⟩)
    (h2 : ∀ (tm : List AV) (hl : tm.length = 61) (S' : Store), CompQ o L n r0 tm[2] S' → Q .ret ⟨tm, S'⟩) :
    ∀ (m k : Nat), k + 1 + m = n → SDec o (L.take (k + 1)) →
    wpL RT f38_1m 2 f38_1 ⟨[.msl 1 0 n 8 (8 * n) none, .any, .any, .int .i64 ((k : Int) + 1)] ++ List.replicate 57 .any, [r0, .mu (nums .i64 L.flatten) false]⟩ Q := by
  intro m
  induction m with
  | zero =>
    intro k hk hs
    have hs' : SDec o L := by rwa [List.take_of_length_le (by omega)] at hs
    have hfin := fun tm hl h0 => h1 tm hl h0 hs'
    have hge : ¬ (k : Int) + 1 < (n : Int) := by omega
    generalize nums .i64 L.flatten = C at *
    rw [wpL_step]
    generalize hK : loopQ RT f38_1m 2 f38_1 Q = K
    simp [f38_1, List.replicate, hge]
    subst hK
    exact hfin _ rfl rfl
  | succ m ih =>
    intro k hk hs
    have hx : L[k + 1]? = some L[k + 1] := List.getElem?_eq_getElem (by omega)
    have hy : L[k]? = some L[k] := List.getElem?_eq_getElem (by omega)
    generalize L[k + 1] = x at *
    generalize L[k] = y at *
    have hx8 := h8 x (List.mem_of_getElem? hx)
    have hy8 := h8 y (List.mem_of_getElem? hy)
    have hlt : (k : Int) + 1 < (n : Int) := by omega
    have hk1 : (0 : Int) ≤ (k : Int) + 1 := by omega
    have htn : ((k : Int) + 1).toNat = k + 1 := by omega
    have hlt2 : (k : Int) < (n : Int) := by omega
    have hltn : k < n := by omega
    have hw1 : IntKind.i64.wrap ((k : Int) + 1 - 1) = (k : Int) := by rw [wrap_i64 (by omega) (by omega)]; omega
    have hw1' : IntKind.i64.wrap (k : Int) = (k : Int) := wrap_i64 (by omega) (by omega)
    have hw2 : IntKind.i64.wrap ((k : Int) + 1 + 1) = ((k + 1 : Nat) : Int) + 1 := by rw [wrap_i64 (by omega) (by omega)]; push_cast; rfl
    have rx : rd [r0, .mu (nums .i64 L.flatten) false] 1 ((k + 1) * 8) (8 * n) 8 = some (nums .i64 x) := rd_row (S := [r0, .mu (nums .i64 L.flatten) false]) rfl h8 hL hx
    have ry : rd [r0, .mu (nums .i64 L.flatten) false] 1 (k * 8) (8 * n) 8 = some (nums .i64 y) := rd_row (S := [r0, .mu (nums .i64 L.flatten) false]) rfl h8 hL hy
    have he := eqcs_nums .i64 (a := x) (b := y) (by omega)
    by_cases c : x = y
    · subst c
      have hC0 : Comp o L n (k + 1) (k + 1 + 0) L := ⟨h8, hL, by omega, hs, mem_same hx hy (fun d => Iff.rfl), fun i _ => rfl⟩
      have key := fun (Q' : FQ) hQ' => comp_inner hd h8 hL hn (show k + 1 < n by omega) (r := r0) (Q := Q') hQ' m 0 (by omega) (k + 1) L hC0
      simp only [decide_true] at he
      have hb1 : (k : Int) + 1 ≤ (n : Int) := by omega
      have hb2 : (k + 1) * 8 ≤ 8 * n := by omega
      have hb3 : n * 8 ≤ 8 * n := by omega
      generalize nums .i64 L.flatten = C at *
      rw [wpL_step]
      generalize hK : loopQ RT f38_1m 2 f38_1 Q = K
      simp [f38_1, List.replicate, hlt, hlt2, hk1, htn, rx, ry, hx8, hy8, chk, hw1, hw1', he, sliceA, bounds, bound, hb1, hb2, hb3, capAt]
      simp [head, f38_0m, mask, trunc_len]
      have key2 := fun (Q' : FQ) hQ' => key Q' hQ'
      simp [List.replicate] at key2
      refine key2 _ ?_
      intro tm hl k2 A h0 h3 hC
      have hkn := hC.le
      have hlen := flat_len hC.all
      have hAl := hC.len
      have c1 : (k2 : Int) ≤ (n : Int) := by omega
      have c2 : k2 * 8 ≤ 8 * n := by omega
      have c3 : (k2 : Int) ≤ 8 * (n : Int) / 8 := by omega
      have hz : n - k2 = n - k2 := rfl
      have hwr : wr [r0, .mu (nums .i64 A.flatten) false] 1 (k2 * 8) (8 * n) (List.replicate (n - k2) [.int .i64 0, .int .i64 0, .int .i64 0, .int .i64 0, .int .i64 0, .int .i64 0, .int .i64 0, .int .i64 0]).flatten = some [r0, .mu (nums .i64 (A.flatten.take (k2 * 8) ++ (List.replicate (8 * (n - k2)) 0 ++ A.flatten.drop (k2 * 8 + 8 * (n - k2))))) false] := by
        have e : (List.replicate (n - k2) [.int .i64 0, .int .i64 0, .int .i64 0, .int .i64 0, .int .i64 0, .int .i64 0, .int .i64 0, .int .i64 0]).flatten = nums .i64 (List.replicate (8 * (n - k2)) 0) := zeros_flat (n - k2)
        rw [e, wr_mu (S := [r0, .mu (nums .i64 A.flatten) false]) rfl (by simp [hlen, hAl]) (by simp; omega)]
        unfold splice
        rw [nums_length, List.length_replicate, nums_take, nums_drop, nums_append, nums_append]; rfl
      generalize hF : A.flatten.take (k2 * 8) ++ (List.replicate (8 * (n - k2)) 0 ++ A.flatten.drop (k2 * 8 + 8 * (n - k2))) = F at *
      have hFl : F.length = 8 * n := by rw [← hF]; simp only [List.length_append, List.length_take, List.length_drop, List.length_replicate, hlen, hAl]; omega
      have hFt : F.take (8 * k2) = (A.take k2).flatten := by
        rw [← hF, List.take_append_of_le_length (by simp [hlen, hAl]; omega), ← flat_take hC.all (by omega), Nat.mul_comm 8 k2, List.take_take]
        congr 1; omega
      have hDl : (A.take k2).length = k2 := by rw [List.length_take]; omega
      have hDm : ∀ d, d ∈ A.take k2 ↔ d ∈ L := by
        intro d
        rw [hC.mem d, List.take_of_length_le (by omega)]
      have hfin : CompQ o L n r0 (.msl 1 0 k2 8 (8 * n) none) [r0, .mu (nums .i64 F) false] := ⟨k2, F, A.take k2, rfl, rfl, hFl, by omega, hFt, hDl, fun r hr => hC.all r (List.mem_of_mem_take hr), hC.dec, hDm⟩
      generalize nums .i64 A.flatten = C2 at *
      simp [hl, h0, h3, sliceA, bounds, bound, chk, c1, c2, hb3, capAt, hwr, c3]
      subst hK
      refine h2 _ ?_ _ ?_
      · simp [hl]
      · simpa [hl] using hfin
    · have hs2 : SDec o (L.take (k + 1 + 1)) := by
        have := (sdec_snoc hd h8 hx hy c hs (fun d => Iff.rfl)).1
        rwa [← take_snoc hx] at this
      have hih := ih (k + 1) (by omega) hs2
      simp only [c, decide_false] at he
      generalize nums .i64 L.flatten = C at *
      rw [wpL_step]
      generalize hK : loopQ RT f38_1m 2 f38_1 Q = K
      simp [f38_1, List.replicate, hlt, hlt2, hk1, htn, rx, ry, hx8, hy8, chk, hw1, hw1', he, hw2]
      subst hK
      simp [head, f38_1m, mask, trunc_len]
      simpa [f38_1m, List.replicate] using hih
theorem run_compact {o L : List (List Int)} (hd : Dec o L) (h8 : All8 L) {n : Nat} (hL : L.length = n) (hn : n ≤ 1000) (hn1 : 1 ≤ n) {r0 : Blk} :
    wpF RT 38 [.msl 1 0 n 8 (8 * n) none] [r0, .mu (nums .i64 L.flatten) false] (CompQ o L n r0) := by
  have hself : SDec o L → CompQ o L n r0 (.msl 1 0 n 8 (8 * n) none) [r0, .mu (nums .i64 L.flatten) false] := fun h =>
    ⟨n, L.flatten, L, rfl, rfl, by rw [flat_len h8, hL], Nat.le_refl _, by rw [List.take_of_length_le (by rw [flat_len h8, hL]; omega)], hL, h8, h, fun d => Iff.rfl⟩
  by_cases c : n = 1
  · subst c
    have : SDec o L := by
      match L, hL with
      | [x], _ => exact List.pairwise_singleton _ _
    have hs := hself this
    generalize nums .i64 L.flatten = C at *
    refine wpF_of tab_38 rfl ?_
    simp [f38, enter]
    exact hs
  · have key := fun (Q : FQ) h1 h2 => comp_outer hd h8 hL hn (r0 := r0) (Q := Q) h1 h2 (n - 1) 0 (by omega) (by
      match L with
      | [] => exact List.Pairwise.nil
      | x :: _ => exact List.pairwise_singleton _ _)
    have h2 : ¬ (n : Int) < 2 := by omega
    generalize hC : nums .i64 L.flatten = C at *
    refine wpF_of tab_38 rfl ?_
    simp [f38, enter, h2]
    simp [head, f38_1m, mask, trunc_len]
    have key2 := key
    simp [List.replicate] at key2
    refine key2 _ ?_ ?_
    · intro tm hl h0 hs
      simp [hl, h0]
      exact hself hs
    · intro tm hl S' hq
      simp [hl]
      exact hq
theorem chunk_rows : ∀ {D : List (List Int)}, All8 D → chunk 8 D.length (nums .i64 D.flatten) = D.map R8
  | [], _ => rfl
  | r :: D, h => by
    have hr := h r (by simp)
    rw [List.length_cons, chunk, if_neg (by decide), List.flatten_cons, ← nums_append, List.take_append_of_le_length (by simp [hr]), List.take_of_length_le (by simp [hr]), List.drop_append, List.drop_of_length_le (by simp [hr]), List.nil_append]
    have e : 8 - (nums .i64 r).length = 0 := by simp [hr]
    rw [e, List.drop_zero, chunk_rows (fun x hx => h x (by simp [hx]))]; rfl
set_option maxRecDepth 20000 in
theorem run_sort_nil (o : List (List Int)) : callPure RT 11 [OR o, .sl [] 8 false] = some (.sl [] 8 false) := by
  obtain ⟨k, hk⟩ := run_Len (n := 0) (by decide)
  have hk' : callPure RT 50 [.int .u64 0] = some (.int .i64 (k : Int)) := hk
  have h60 : wpF RT 60 [.sl [] 8 true, .int .i64 0, .int .i64 0, .fn 37 [.mptr 0 0 1]] [.mu [OR o] true] fun r S' => r = .tup [] ∧ S' = [.mu [OR o] true] := by
    refine wpF_of tab_60 rfl ?_
    simp [f60, enter]
    simp [head, f60_1m, mask, trunc_len]
    rw [wpL_step]
    generalize hK : loopQ RT _ 1 f60_1 _ = K
    simp [f60_1]
    subst hK
    simp [resAll]
  have h49 : wpF RT 49 [.sl [] 8 true, .int .i64 0, .int .i64 0, .int .i64 (k : Int), .fn 37 [.mptr 0 0 1]] [.mu [OR o] true] fun r S' => r = .tup [] ∧ S' = [.mu [OR o] true] := by
    refine wpF_of tab_49 rfl ?_
    simp [f49, enter]
    simp [head, f49_0m, mask, trunc_len]
    rw [wpL_step]
    generalize hK : loopQ RT _ 1 f49_0 _ = K
    simp [f49_0]
    refine contQ_sh (wpF_mono h60 ?_)
    rintro r S' ⟨rfl, rfl⟩
    subst hK
    simp [trunc_len, resAll]
  have hw : IntKind.u64.wrap 0 = 0 := by decide
  have h36 : wpF RT 36 [.sl [] 8 true, .fn 37 [.mptr 0 0 1]] [.mu [OR o] true] fun r S' => r = .tup [] ∧ S' = [.mu [OR o] true] := by
    refine wpF_of tab_36 rfl ?_
    simp [f36, enter, hw, hk', after_nr]
    refine contQ_sh (wpF_mono h49 ?_)
    rintro r S' ⟨rfl, rfl⟩
    simp [trunc_len, resAll]
  have h38 : wpF RT 38 [.sl [] 8 true] [.mu [OR o] true] fun r S' => r = .sl [] 8 true ∧ S' = [.mu [OR o] true] := by
    refine wpF_of tab_38 rfl ?_
    simp [f38, enter]
  refine callPure_of (wpF_of tab_11 rfl ?_)
  simp [f11, enter, appA, held, chk]
  refine contQ_sh (wpF_mono h36 ?_)
  rintro r S' ⟨rfl, rfl⟩
  simp [trunc_len]
  refine contQ_sh (wpF_mono h38 ?_)
  rintro r S' ⟨rfl, rfl⟩
  simp [trunc_len]
theorem run_sort {o m : List (List Int)} (ho : Rows o) (hol : o.length < 1000000) (hm : Mono8 m) (hml : m.length ≤ 12) :
    ∃ s, callPure RT 11 [OR o, OR m] = some (OR s) ∧ SDec o s ∧ (∀ d, d ∈ s ↔ d ∈ m) := by
  by_cases h0 : m = []
  · subst h0
    exact ⟨[], run_sort_nil o, List.Pairwise.nil, fun d => Iff.rfl⟩
  · have hn1 : 1 ≤ m.length := by
      cases m with
      | nil => exact absurd rfl h0
      | cons x r => simp
    suffices h : ∃ r, callPure RT 11 [OR o, OR m] = some r ∧ ∃ s, r = OR s ∧ SDec o s ∧ (∀ d, d ∈ s ↔ d ∈ m) by
      obtain ⟨_, h1, s, rfl, h2, h3⟩ := h
      exact ⟨s, h1, h2, h3⟩
    have hsort := run_sortFunc ho hol hml hn1 rfl hm
    have hcells := rows_cells m
    have hroom : room m.length 64 := by unfold room; omega
    have hm0 : ¬ m.length = 0 := by omega
    have e8 : m.length * 8 = 8 * m.length := Nat.mul_comm _ _
    have hmL : m.flatten.length = 8 * m.length := flat_len hm.len
    refine callPure_ex (wpF_of tab_11 rfl ?_)
    simp [f11, enter, appA, held, chk, hm0, hroom, hcells, e8]
    refine contQ_sh (wpF_mono hsort ?_)
    rintro r S' ⟨rfl, L, hp, hd, rfl⟩
    have hL8 : All8 L := fun r hr => hm.len r (hp.mem_iff.1 hr)
    have hcomp := run_compact hd hL8 (n := m.length) hp.length_eq (by omega) hn1 (r0 := .mu [OR o] true)
    simp [trunc_len]
    refine contQ_sh (wpF_mono hcomp ?_)
    rintro r S' ⟨k, F, D, rfl, rfl, hF, hk, hFt, hDl, hD8, hDs, hDm⟩
    have hrd : rd [.mu [OR o] true, .mu (nums .i64 F) false] 1 0 (8 * m.length) (k * 8) = some (nums .i64 D.flatten) := by
      rw [rd_mu (S := [.mu [OR o] true, .mu (nums .i64 F) false]) rfl (by simp [hF]) (by omega), List.drop_zero, nums_take, Nat.mul_comm k 8, hFt]
    have hch : chunk 8 k (nums .i64 D.flatten) = D.map R8 := by rw [← hDl]; exact chunk_rows hD8
    simp [trunc_len, fzc, hrd, hch]
    exact ⟨D, rfl, hDs, fun d => by rw [hDm d, hp.mem_iff]⟩
theorem sdec_unique {o : List (List Int)} : ∀ {s t : List (List Int)}, SDec o s → SDec o t → (∀ d, d ∈ s ↔ d ∈ t) → s = t
  | [], [], _, _, _ => rfl
  | [], y :: t, _, _, h => by have := (h y).2 (by simp); cases this
  | x :: s, [], _, _, h => by have := (h x).1 (by simp); cases this
  | x :: s, y :: t, hs, ht, h => by
    have hs' := List.pairwise_cons.1 hs
    have ht' := List.pairwise_cons.1 ht
    have hxy : x = y := by
      rcases List.mem_cons.1 ((h x).1 (by simp)) with hx | hx
      · exact hx
      · rcases List.mem_cons.1 ((h y).2 (by simp)) with hy | hy
        · exact hy.symm
        · have h1 := ht'.1 x hx
          have h2 := hs'.1 y hy
          have h3 := ordCmp_anti o x y
          omega
    subst hxy
    have hx1 : x ∉ s := fun hx => by
      have := hs'.1 x hx
      rw [ordCmp_self] at this; omega
    have hx2 : x ∉ t := fun hx => by
      have := ht'.1 x hx
      rw [ordCmp_self] at this; omega
    rw [sdec_unique hs'.2 ht'.2 fun d => ?_]
    constructor
    · intro hd
      rcases List.mem_cons.1 ((h d).1 (by simp [hd])) with rfl | h'
      · exact absurd hd hx1
      · exact h'
    · intro hd
      rcases List.mem_cons.1 ((h d).2 (by simp [hd])) with rfl | h'
      · exact absurd hd hx2
      · exact h'
def Grow0 (S : Store) (v : AV) (F : List (List Int)) : Prop := All8 F ∧ ((v = .sl [] 8 true ∧ F = []) ∨ ∃ b, F ≠ [] ∧ v = .msl b 0 F.length 8 (8 * F.length) none ∧ S[b]? = some (.mu (nums .i64 F.flatten) false))
theorem Grow0.app {S : Store} {v : AV} {F : List (List Int)} {r : List Int} (h : Grow0 S v F) (hr : r.length = 8) (hn : F.length < 1000) : ∃ v' S', appA 8 64 S v (.sl [R8 r] 8 true) = some (v', S') ∧ Grow0 S' v' (F ++ [r]) := by
  obtain ⟨h8, ⟨rfl, rfl⟩ | ⟨b, hne, rfl, hg⟩⟩ := h
  · refine ⟨.msl S.length 0 1 8 8 none, S ++ [.mu (nums .i64 r) false], ?_, ⟨fun x hx => ?_, .inr ⟨S.length, by simp, rfl, ?_⟩⟩⟩
    · have : room 1 64 := by decide
      simp [appA, held, chk, this]
    · have : x = r := by simpa using hx
      rw [this]; exact hr
    · simp [get_last]
  · have hl := flat_len h8
    have hroom : room (F.length + 1) 64 := by unfold room; omega
    have h1 : ¬ (F.length + 1) * 8 ≤ 8 * F.length := by omega
    have h2 : F.length * 8 ≤ 8 * F.length := by omega
    have hlt := lt_of_get hg
    refine ⟨.msl b 0 (F.length + 1) 8 (8 * (F.length + 1)) none, S.set b (.mu (nums .i64 (F ++ [r]).flatten) false), ?_, ⟨fun x hx => ?_, .inr ⟨b, by simp, by simp, by simp [hlt]⟩⟩⟩
    · have ht : (nums .i64 F.flatten).take (F.length * 8) = nums .i64 F.flatten := List.take_of_length_le (by simp only [nums_length, hl]; omega)
      have hfl : (F ++ [r]).flatten = F.flatten ++ r := by simp
      rw [hfl, ← nums_append]
      generalize hG : nums .i64 F.flatten = G at *
      have hGl : G.length = 8 * F.length := by rw [← hG, nums_length, hl]
      simp [appA, held, chk, hroom, h1, hg, hGl, h2, ht]
      omega
    · rcases List.mem_append.1 hx with h | h
      · exact h8 x h
      · have : x = r := by simpa using h
        rw [this]; exact hr
theorem Grow0.keep {S : Store} {v : AV} {F : List (List Int)} {vs : List AV} (h : Grow0 S v F) (hv : v ∈ vs) : Grow0 (trunc 0 vs S) v F := by
  obtain ⟨h8, h | ⟨b, hne, rfl, hg⟩⟩ := h
  · exact ⟨h8, .inl h⟩
  · refine ⟨h8, .inr ⟨b, hne, rfl, ?_⟩⟩
    rw [trunc_get (.inr ⟨_, hv, by simp [lt1, ltc]⟩), hg]
abbrev ExR (l : List (List Int)) : AV := .sl (l.map fun r => .agg (nums .u16 r)) 8 false
def ExOk (l : List (List Int)) : Prop := ∀ x ∈ l, x.length = 8 ∧ ∀ n ∈ x, 0 ≤ n ∧ n ≤ 65535
set_option maxRecDepth 20000 in
theorem monos_loop {l : List (List Int)} (hl : ExOk l) {Q : FQ}
    (hQ : ∀ (tm : List AV) (ht : tm.length = 25) (S : Store), Grow0 S tm[3] ((l.take 8).map monoL) → Q (.ex 0) ⟨tm, S⟩) :
    ∀ (m i : Nat), i + m = min l.length 8 → ∀ (S : Store) (v : AV), Grow0 S v ((l.take i).map monoL) →
    wpL RT f10_0m 0 f10_0 ⟨[ExR l, .any, .any, v, .int .i64 (i : Int)] ++ List.replicate 20 .any, S⟩ Q := by
  intro m
  induction m with
  | zero =>
    intro i hi S v hG
    have hfin : Grow0 S v ((l.take 8).map monoL) := by
      have : l.take i = l.take 8 := by
        by_cases h6 : l.length ≤ 8
        · rw [List.take_of_length_le (by omega), List.take_of_length_le (by omega)]
        · congr 1; omega
      rw [← this]; exact hG
    rw [wpL_step]
    generalize hK : loopQ RT f10_0m 0 f10_0 Q = K
    by_cases hx : (i : Int) < (l.length : Int)
    · have h6 : ¬ (i : Int) < 8 := by omega
      simp [f10_0, List.replicate, hx, h6]
      subst hK
      exact hQ _ rfl S hfin
    · simp [f10_0, List.replicate, hx]
      subst hK
      exact hQ _ rfl S hfin
  | succ m ih =>
    intro i hi S v hG
    have hx : (i : Int) < (l.length : Int) := by omega
    have h6 : (i : Int) < 8 := by omega
    have hi1 : i < l.length := by omega
    obtain ⟨hr8, hrb⟩ := hl l[i] (List.getElem_mem hi1)
    have hget : l[i]? = some l[i] := List.getElem?_eq_getElem hi1
    have htake : (l.take (i + 1)).map monoL = (l.take i).map monoL ++ [monoL l[i]] := by rw [take_snoc hget, List.map_append]; rfl
    generalize l[i] = r at *
    have hm := run_mono hr8 hrb
    have hm8 := monoL_len hr8
    have htr : (nums .u16 r).take 8 = nums .u16 r := List.take_of_length_le (by simp [hr8])
    have hw : IntKind.i64.wrap ((i : Int) + 1) = ((i + 1 : Nat) : Int) := wrap_i64 (by omega) (by omega)
    obtain ⟨v', S', ha, hG'⟩ := hG.app hm8 (by rw [List.length_map, List.length_take]; omega)
    rw [← htake] at hG'
    rw [wpL_step]
    generalize hK : loopQ RT f10_0m 0 f10_0 Q = K
    simp [f10_0, List.replicate, hx, h6, hget, hr8, chk, htr, hm, after_nr, opA_litn, fillE, elt, hm8, ha, hw]
    subst hK
    simp [head, f10_0m, mask]
    have := ih (i + 1) (by omega) (trunc 0 ([ExR l, .any, .any, v', .int .i64 ((i + 1 : Nat) : Int)] ++ List.replicate 20 .any) S') v' (hG'.keep (by simp))
    simpa [f10_0m, List.replicate] using this
theorem run_monos {l : List (List Int)} (hl : ExOk l) : callPure RT 10 [ExR l] = some (OR ((l.take 8).map monoL)) := by
  have key := fun (Q' : FQ) hQ' => monos_loop hl (Q := Q') hQ' (min l.length 8) 0 (by omega) [] (.sl [] 8 true) ⟨fun x hx => (by simp at hx), .inl ⟨rfl, by simp⟩⟩
  generalize (l.take 8).map monoL = F at *
  refine callPure_of (wpF_of tab_10 rfl ?_)
  simp [f10, enter]
  simp [head, f10_0m, mask, trunc_len]
  refine key _ ?_
  intro tm ht S hG
  obtain ⟨h8, ⟨hv, hF⟩ | ⟨b, hne, hv, hg⟩⟩ := hG
  · simp [ht, hv, hF]
  · have hrd : rd S b 0 (8 * F.length) (F.length * 8) = some (nums .i64 F.flatten) := by
      rw [rd_mu hg (by simp only [nums_length, flat_len h8]) (by omega), List.drop_zero, List.take_of_length_le (by simp only [nums_length, flat_len h8]; omega)]
    have hch := chunk_rows h8
    simp [ht, hv, fzc, hrd, hch]
theorem alike_loop {s : List (List Int)} (hs : All8 s) (hsl : s.length < 1000000) {Q : FQ}
    (h1 : ∀ (tm : List AV) (hl : tm.length = 26), Q (.ex 0) ⟨tm, []⟩) :
    ∀ (m i : Nat), i + m = s.length →
    wpL RT f14_0m 0 f14_0 ⟨[OR s, OR s, .any, .any, .any, .int .i64 (i : Int)] ++ List.replicate 20 .any, []⟩ Q := by
  intro m
  induction m with
  | zero =>
    intro i hi
    have hi' : i = s.length := by omega
    subst hi'
    rw [wpL_step]
    generalize hK : loopQ RT f14_0m 0 f14_0 Q = K
    simp [f14_0, List.replicate]
    subst hK
    exact h1 _ rfl
  | succ m ih =>
    intro i hi
    have hi1 : i < s.length := by omega
    have hget : s[i]? = some s[i] := List.getElem?_eq_getElem hi1
    have hr8 := hs s[i] (List.getElem_mem hi1)
    generalize s[i] = r at *
    have hlt : (i : Int) < (s.length : Int) := by omega
    have hw : IntKind.i64.wrap ((i : Int) + 1) = ((i + 1 : Nat) : Int) := wrap_i64 (by omega) (by omega)
    have htr : (nums .i64 r).take 8 = nums .i64 r := List.take_of_length_le (by simp [hr8])
    have he := eqcs_nums .i64 (a := r) (b := r) rfl
    simp only [decide_true] at he
    have hih := ih (i + 1) (by omega)
    rw [wpL_step]
    generalize hK : loopQ RT f14_0m 0 f14_0 Q = K
    simp [f14_0, List.replicate, hlt, hget, hr8, htr, chk, he, hw]
    subst hK
    simp [head, f14_0m, mask, trunc_len]
    simpa [f14_0m, List.replicate] using hih
theorem run_alike {s : List (List Int)} (hs : All8 s) (hsl : s.length < 1000000) : callPure RT 14 [OR s, OR s] = some (.bool true) := by
  refine callPure_of (wpF_of tab_14 rfl ?_)
  simp [f14, enter]
  simp [head, f14_0m, mask, trunc_len]
  refine alike_loop hs hsl ?_ s.length 0 (by simp)
  intro tm hl
  simp [hl]
theorem nodup_len {α : Type} : ∀ {s m : List α}, s.Nodup → (∀ d, d ∈ s → d ∈ m) → s.length ≤ m.length
  | [], m, _, _ => by simp
  | x :: s, m, hn, h => by
    obtain ⟨a, b, rfl⟩ := List.append_of_mem (h x (by simp))
    have hn' := List.nodup_cons.1 hn
    have := nodup_len (s := s) (m := a ++ b) hn'.2 (fun d hd => by
      have h1 := h d (by simp [hd])
      rcases List.mem_append.1 h1 with h2 | h2
      · exact List.mem_append.2 (.inl h2)
      · rcases List.mem_cons.1 h2 with rfl | h2
        · exact absurd hd hn'.1
        · exact List.mem_append.2 (.inr h2))
    simp at this ⊢; omega
def unitL (k : Nat) : List Int := (List.replicate 8 0).set k 1
def unitsL (n : Nat) : List (List Int) := (List.range n).map unitL
theorem run_unit {k : Nat} (hk : k < 8) : callPure RT 41 [.int .i64 (k : Int), .int .i64 1] = some (R8 (unitL k)) := by
  match k, hk with
  | 0, _ => exact pureIs_run (O := noneE) (n := 30) noneE_sound (by kernel_rfl)
  | 1, _ => exact pureIs_run (O := noneE) (n := 30) noneE_sound (by kernel_rfl)
  | 2, _ => exact pureIs_run (O := noneE) (n := 30) noneE_sound (by kernel_rfl)
  | 3, _ => exact pureIs_run (O := noneE) (n := 30) noneE_sound (by kernel_rfl)
  | 4, _ => exact pureIs_run (O := noneE) (n := 30) noneE_sound (by kernel_rfl)
  | 5, _ => exact pureIs_run (O := noneE) (n := 30) noneE_sound (by kernel_rfl)
  | 6, _ => exact pureIs_run (O := noneE) (n := 30) noneE_sound (by kernel_rfl)
  | 7, _ => exact pureIs_run (O := noneE) (n := 30) noneE_sound (by kernel_rfl)
theorem unitL_len (k : Nat) : (unitL k).length = 8 := by simp [unitL]
theorem Grow0.clone {S : Store} {o : List (List Int)} (h8 : All8 o) (hl : o.length < 1000) : ∃ v S', appA 8 64 S (.sl [] 8 true) (OR o) = some (v, S') ∧ Grow0 S' v o := by
  have hx : held S 8 (OR o) = some (o.length, nums .i64 o.flatten) := by
    simp only [held]
    rw [chk_pos trivial, rows_cells]; simp
  unfold appA
  rw [hx]
  simp only [Option.bind_some]
  rw [chk_pos trivial]
  by_cases h0 : o = []
  · subst h0
    exact ⟨.sl [] 8 true, S, rfl, h8, .inl ⟨rfl, rfl⟩⟩
  · have hne : ¬ o.length = 0 := fun h => h0 (List.length_eq_zero_iff.1 h)
    rw [if_neg hne, chk_pos ⟨trivial, by unfold room; simp; omega⟩]
    refine ⟨_, _, rfl, h8, .inr ⟨S.length, h0, ?_, ?_⟩⟩
    · simp; omega
    · simp
theorem Grow0.keepn {S : Store} {v : AV} {F : List (List Int)} {vs : List AV} {k : Nat} (h : Grow0 S v F) (hv : v ∈ vs) : Grow0 (trunc k vs S) v F := by
  obtain ⟨h8, h | ⟨b, hne, rfl, hg⟩⟩ := h
  · exact ⟨h8, .inl h⟩
  · refine ⟨h8, .inr ⟨b, hne, rfl, ?_⟩⟩
    by_cases hb : b < k
    · rw [trunc_get (.inl hb), hg]
    · rw [trunc_get (.inr ⟨_, hv, by simp [lt1, ltc]; omega⟩), hg]
set_option maxRecDepth 20000 in
theorem full_loop {base : Nat} {o : List (List Int)} (ho : All8 o) (hol : o.length < 900) {Q : FQ}
    (h1 : ∀ (tm : List AV) (ht : tm.length = 27) (S' : Store) (v : AV), tm[4] = v → Grow0 S' v (o ++ unitsL 8) → Q (.ex 0) ⟨tm, S'⟩) :
    ∀ (m j : Nat), j + m = 8 → ∀ (S : Store) (v : AV), Grow0 S v (o ++ unitsL j) →
    wpL RT f28_0m base f28_0 ⟨[.any, .any, .any, .any, v, .any, .any, .any, .any, .any, .any, .any, .any, .any, .int .i64 (j : Int)] ++ List.replicate 12 .any, S⟩ Q := by
  intro m
  induction m with
  | zero =>
    intro j hj S v hG
    have hj' : j = 8 := by omega
    subst hj'
    rw [wpL_step]
    generalize hK' : loopQ RT f28_0m base f28_0 Q = KK
    simp [f28_0, List.replicate]
    subst hK'
    exact h1 _ rfl S v rfl hG
  | succ m ih =>
    intro j hj S v hG
    have hj8 : j < 8 := by omega
    have hlt : (j : Int) < 8 := by omega
    have hw : IntKind.i64.wrap ((j : Int) + 1) = ((j + 1 : Nat) : Int) := wrap_i64 (by omega) (by omega)
    have hu := run_unit hj8
    obtain ⟨v', S', ha, hG'⟩ := hG.app (unitL_len j) (by simp [unitsL]; omega)
    have hul : o ++ unitsL j ++ [unitL j] = o ++ unitsL (j + 1) := by
      unfold unitsL
      rw [List.append_assoc, List.range_succ, List.map_append]; rfl
    rw [hul] at hG'
    have hlen := unitL_len j
    have hih := fun S v h => ih (j + 1) (by omega) S v h
    clear hul hG
    generalize unitL j = u at *
    rw [wpL_step]
    generalize hK' : loopQ RT f28_0m base f28_0 Q = KK
    simp [f28_0, List.replicate, hlt, hu, after_nr, opA_litn, fillE, elt, hlen, ha, hw]
    subst hK'
    simp [head, f28_0m, mask]
    have := hih (trunc base _ S') v' (hG'.keepn (vs := [.any, .any, .any, .any, v', .any, .any, .any, .any, .any, .any, .any, .any, .any, .int .i64 ((j : Int) + 1)] ++ List.replicate 12 .any) (by simp))
    simpa [f28_0m, List.replicate] using this
def fullL (o : List (List Int)) : List (List Int) := if indR 8 0 (o.map toQ) then o else o ++ unitsL 8
def FullR (o : List (List Int)) (r : AV) (S : Store) : Prop :=
  if validB o then (if (fullL o).length ≤ 24 then ∃ v, r = .tup [v, .int .i64 0] ∧ Grow0 S v (fullL o) else r = .tup [.sl [] 8 true, .int .i64 2]) else r = .tup [.sl [] 8 true, .int .i64 50]
theorem valid_bd {o : List (List Int)} (h : validB o = true) : o.length ≤ 24 := by
  unfold validB at h
  simp at h; exact h.1
set_option maxRecDepth 20000 in
theorem run_full {o : List (List Int)} (ho : ∀ w ∈ o, w.length = 8) (hb : validB o = true → ∀ w ∈ o, Bd 1000000 w) (hol : o.length < 1000000) : wpF RT 28 [OR o] [] (FullR o) := by
  have hv := run_valid ho hol
  refine wpF_of tab_28 rfl ?_
  cases hvb : validB o with
  | false =>
    rw [hvb] at hv
    simp [f28, enter, hv]
    simp [FullR, hvb]
  | true =>
    rw [hvb] at hv
    have hl24 := valid_bd hvb
    have hi := run_indep (fun w hw => ⟨ho w hw, hb hvb w hw⟩) hol
    obtain ⟨v, S, hcl, hG⟩ := Grow0.clone (S := []) ho (by omega)
    cases hib : indR 8 0 (o.map toQ) with
    | true =>
      rw [hib] at hi
      simp [f28, enter, hv, hcl, hi]
      have hf : fullL o = o := by unfold fullL; rw [if_pos hib]
      unfold FullR
      rw [if_pos hvb, hf, if_pos hl24]
      exact ⟨v, rfl, hG⟩
    | false =>
      rw [hib] at hi
      have hf : fullL o = o ++ unitsL 8 := by unfold fullL; rw [if_neg (by simp [hib])]
      have lp := fun (Q : FQ) h => full_loop (Q := Q) (base := S.length) ho (by omega) h 8 0 rfl S v (by simpa [unitsL] using hG)
      simp only [List.replicate, List.cons_append, List.nil_append, Int.natCast_zero] at lp
      have hT : ∀ vs, trunc S.length vs S = S := fun vs => trunc_len (Nat.le_refl _)
      simp [f28, enter, hv, hcl, hi]
      simp [head, f28_0m, mask, hT]
      refine lp _ ?_
      intro tm ht S' v' t4 hG'
      have hlen : (o ++ unitsL 8).length = o.length + 8 := by simp [unitsL]
      obtain ⟨h8, ⟨rfl, hF⟩ | ⟨b, hne, rfl, hg⟩⟩ := hG'
      · rw [hF] at hlen; simp at hlen
      · by_cases hc : o.length + 8 ≤ 24
        · have hc' : ¬ (24 : Int) < (o.length : Int) + 8 := by omega
          simp [ht, t4, hlen, hc']
          unfold FullR
          rw [if_pos hvb, hf, if_pos (by rw [hlen]; exact hc)]
          refine ⟨_, rfl, h8, .inr ⟨b, hne, ?_, hg⟩⟩
          rw [hlen]
        · have hc' : (24 : Int) < (o.length : Int) + 8 := by omega
          simp [ht, t4, hlen, hc']
          unfold FullR
          rw [if_pos hvb, hf, if_neg (by rw [hlen]; exact hc)]
theorem run_unit5 {k : Nat} (hk : k < 8) : callPure RT 142 [.int .i64 (k : Int), .int .i64 1] = some (R8 (unitL k)) := by
  have h : k = 0 ∨ k = 1 ∨ k = 2 ∨ k = 3 ∨ k = 4 ∨ k = 5 ∨ k = 6 ∨ k = 7 := by omega
  rcases h with rfl | rfl | rfl | rfl | rfl | rfl | rfl | rfl
  all_goals exact pureIs_run (O := noneE) (n := 30) noneE_sound (by kernel_rfl)
theorem run_lex5 : callPure RT 134 [] = some (OR []) := pureIs_run (O := noneE) (n := 30) noneE_sound (by kernel_rfl)
theorem run_graded5 : callPure RT 135 [] = some (OR gradO) := pureIs_run (O := noneE) (n := 30) noneE_sound (by kernel_rfl)
theorem run_reverse5 : callPure RT 136 [] = some (OR revO) := pureIs_run (O := noneE) (n := 30) noneE_sound (by kernel_rfl)
theorem rcmp_loop {a b : List Int} (ha : a.length = 8) (hb : b.length = 8) {Q : FQ}
    (h1 : ∀ (tm : List AV) (hl : tm.length = 24) (S : Store), cmpL a b = 0 → Q (.ex 0) ⟨tm, S⟩)
    (h2 : ∀ (tm : List AV) (hl : tm.length = 24) (S : Store), tm[4] = .int .i64 (cmpL a b) → Q .ret ⟨tm, S⟩) :
    ∀ (m i : Nat), i + m = 8 → cmpL (a.drop i) (b.drop i) = cmpL a b →
    wpL RT f140_0m 2 f140_0 ⟨[.any, .any, .mptr 0 0 8, .mptr 1 0 8, .any, .int .i64 (i : Int)] ++ List.replicate 18 .any, [.mu (nums .i64 a) true, .mu (nums .i64 b) true]⟩ Q := by
  intro m
  induction m with
  | zero =>
    intro i hi he
    have hi' : i = 8 := by omega
    subst hi'
    rw [wpL_step]
    generalize hK : loopQ RT f140_0m 2 f140_0 Q = K
    simp [f140_0, List.replicate]
    subst hK
    refine h1 _ rfl _ ?_
    rw [← he, List.drop_of_length_le (by omega), List.drop_of_length_le (by omega)]; rfl
  | succ m ih =>
    intro i hi he
    have hi1 : i < a.length := by omega
    have hi2 : i < b.length := by omega
    rw [List.drop_eq_getElem_cons hi1, List.drop_eq_getElem_cons hi2] at he
    simp only [cmpL] at he
    have hg1 : a[i]? = some a[i] := List.getElem?_eq_getElem hi1
    have hg2 : b[i]? = some b[i] := List.getElem?_eq_getElem hi2
    generalize a[i] = x at *
    generalize b[i] = y at *
    have hw : IntKind.i64.wrap ((i : Int) + 1) = ((i + 1 : Nat) : Int) := wrap_i64 (by omega) (by omega)
    have hi8 : (i : Int) < 8 := by omega
    rw [wpL_step]
    generalize hK : loopQ RT f140_0m 2 f140_0 Q = K
    have hln : i + 1 ≤ 8 := by omega
    by_cases c1 : x < y
    · rw [if_pos c1] at he
      simp [f140_0, List.replicate, hi8, rd, chk, ha, hb, hln, hg1, hg2, c1]
      subst hK
      refine h2 _ rfl _ ?_
      simp [← he]
    · rw [if_neg c1] at he
      by_cases c2 : y < x
      · rw [if_pos c2] at he
        simp [f140_0, List.replicate, hi8, rd, chk, ha, hb, hln, hg1, hg2, c1, c2]
        subst hK
        refine h2 _ rfl _ ?_
        simp [← he]
      · rw [if_neg c2] at he
        have := ih (i + 1) (by omega) he
        simp [f140_0, List.replicate, hi8, rd, chk, ha, hb, hln, hg1, hg2, c1, c2, hw]
        subst hK
        simp [head, f140_0m, mask, trunc_len]
        simpa [f140_0m, List.replicate] using this
theorem run_rcmp {a b : List Int} (ha : a.length = 8) (hb : b.length = 8) : callPure RT 140 [R8 a, R8 b] = some (.int .i64 (cmpL a b)) := by
  refine callPure_of (wpF_of tab_140 rfl ?_)
  simp [f140, enter, ha, hb, head, mask, f140_0m, trunc_len]
  refine rcmp_loop ha hb ?_ ?_ 8 0 (by omega) rfl
  · intro tm hl S hc
    simp [hl, hc]
  · intro tm hl S h4
    simp [hl, h4]
def wsum : List Int → List Int → Int
  | w :: ws, a :: as => w * a + wsum ws as
  | _, _ => 0
theorem wsum_dot : ∀ (w a b : List Int), a.length = b.length → dotL w a b = wsum w a - wsum w b
  | [], _, _, _ => by simp [dotL, wsum]
  | _ :: _, [], [], _ => by simp [dotL, wsum]
  | w :: ws, a :: as, b :: bs, h => by
    simp only [dotL, wsum, wsum_dot ws as bs (by simpa using h), Int.mul_sub]; omega
  | _ :: _, [], _ :: _, h => by simp at h
  | _ :: _, _ :: _, [], h => by simp at h
set_option maxRecDepth 20000 in
theorem run_weight {w a : List Int} (hw : w.length = 8) (ha : a.length = 8) (hwB : Bd 1000 w) (haB : Bd 200000 a) : callPure RT 139 [R8 w, R8 a] = some (.int .i64 (wsum w a)) := by
  obtain ⟨a0, a1, a2, a3, a4, a5, a6, a7, rfl⟩ := len8 ha
  obtain ⟨w0, w1, w2, w3, w4, w5, w6, w7, rfl⟩ := len8 hw
  simp [Bd] at hwB haB
  refine callPure_of (wpF_of tab_139 rfl ?_)
  have d0 := mul_bd (D := 200000) hwB.1 haB.1
  have d1 := mul_bd (D := 200000) hwB.2.1 haB.2.1
  have d2 := mul_bd (D := 200000) hwB.2.2.1 haB.2.2.1
  have d3 := mul_bd (D := 200000) hwB.2.2.2.1 haB.2.2.2.1
  have d4 := mul_bd (D := 200000) hwB.2.2.2.2.1 haB.2.2.2.2.1
  have d5 := mul_bd (D := 200000) hwB.2.2.2.2.2.1 haB.2.2.2.2.2.1
  have d6 := mul_bd (D := 200000) hwB.2.2.2.2.2.2.1 haB.2.2.2.2.2.2.1
  have d7 := mul_bd (D := 200000) hwB.2.2.2.2.2.2.2 haB.2.2.2.2.2.2.2
  simp [f139, enter, wpL_step, head, f139_0m, f139_0, mask, rd, chk, List.replicate, trunc_len]
  simp (disch := omega) only [wrap_i64, wsum]
  omega
set_option maxRecDepth 20000 in
theorem rord_loop {o : List (List Int)} {a b : List Int} (ho : Rows o) (hol : o.length < 1000000) (ha : a.length = 8) (hb : b.length = 8) (haB : Bd 200000 a) (hbB : Bd 200000 b) {Q : FQ}
    (h1 : ∀ (tm : List AV) (hl : tm.length = 37), tm[4] = .mptr 0 0 8 → tm[5] = .mptr 1 0 8 → ordCmp o a b = cmpL a b → Q (.ex 0) ⟨tm, [.mu (nums .i64 a) true, .mu (nums .i64 b) true]⟩)
    (h2 : ∀ (tm : List AV) (hl : tm.length = 37) (S : Store), tm[6] = .int .i64 (ordCmp o a b) → Q .ret ⟨tm, S⟩) :
    ∀ (m i : Nat), i + m = o.length → ordCmp (o.drop i) a b = ordCmp o a b →
    wpL RT f129_0m 2 f129_0 ⟨[OR o, .any, .any, .any, .mptr 0 0 8, .mptr 1 0 8, .any, .int .i64 (i : Int)] ++ List.replicate 29 .any, [.mu (nums .i64 a) true, .mu (nums .i64 b) true]⟩ Q := by
  have hta : (nums .i64 a).take 8 = nums .i64 a := List.take_of_length_le (by simp [ha])
  have htb : (nums .i64 b).take 8 = nums .i64 b := List.take_of_length_le (by simp [hb])
  intro m
  induction m with
  | zero =>
    intro i hi he
    have hi' : i = o.length := by omega
    subst hi'
    rw [wpL_step]
    generalize hK : loopQ RT f129_0m 2 f129_0 Q = K
    simp [f129_0, List.replicate]
    subst hK
    refine h1 _ rfl rfl rfl ?_
    rw [← he]; simp [ordCmp]
  | succ m ih =>
    intro i hi he
    have hi1 : i < o.length := by omega
    rw [List.drop_eq_getElem_cons hi1] at he
    obtain ⟨hwl, hwB⟩ := ho o[i] (List.getElem_mem hi1)
    have hget : o[i]? = some o[i] := List.getElem?_eq_getElem hi1
    generalize o[i] = w at *
    have hw : IntKind.i64.wrap ((i : Int) + 1) = ((i + 1 : Nat) : Int) := wrap_i64 (by omega) (by omega)
    have hlt : (i : Int) < (o.length : Int) := by omega
    have r1 := run_weight hwl ha hwB haB
    have r2 := run_weight hwl hb hwB hbB
    have htw : (nums .i64 w).take 8 = nums .i64 w := List.take_of_length_le (by simp [hwl])
    simp only [ordCmp, wsum_dot w a b (by omega)] at he
    generalize wsum w a = x at *
    generalize wsum w b = y at *
    rw [wpL_step]
    generalize hK : loopQ RT f129_0m 2 f129_0 Q = K
    by_cases c1 : x < y
    · rw [if_pos (by omega)] at he
      simp [f129_0, List.replicate, hlt, hget, rd, chk, ha, hb, hwl, hta, htb, htw, r1, r2, after_nr, c1]
      subst hK
      exact h2 _ rfl _ (by simp [he])
    · rw [if_neg (by omega)] at he
      by_cases c2 : y < x
      · rw [if_pos (by omega)] at he
        simp [f129_0, List.replicate, hlt, hget, rd, chk, ha, hb, hwl, hta, htb, htw, r1, r2, after_nr, c1, c2]
        subst hK
        exact h2 _ rfl _ (by simp [he])
      · rw [if_neg (by omega)] at he
        have := ih (i + 1) (by omega) he
        simp [f129_0, List.replicate, hlt, hget, rd, chk, ha, hb, hwl, hta, htb, htw, r1, r2, after_nr, c1, c2, hw]
        subst hK
        simp [head, f129_0m, mask, trunc_len]
        simpa [f129_0m, List.replicate] using this
theorem run_rord {o : List (List Int)} {a b : List Int} (ho : Rows o) (hol : o.length < 1000000) (ha : a.length = 8) (hb : b.length = 8) (haB : Bd 200000 a) (hbB : Bd 200000 b) :
    callPure RT 129 [OR o, R8 a, R8 b] = some (.int .i64 (ordCmp o a b)) := by
  refine callPure_of (wpF_of tab_129 rfl ?_)
  have hab : (nums .i64 a).take 8 = nums .i64 a := List.take_of_length_le (by simp [ha])
  have hbb : (nums .i64 b).take 8 = nums .i64 b := List.take_of_length_le (by simp [hb])
  simp [f129, enter, ha, hb, rd, chk, hab, hbb, head, mask, f129_0m, trunc_len]
  refine rord_loop ho hol ha hb haB hbB ?_ ?_ o.length 0 (by simp) rfl
  · intro tm hl h4 h5 hc
    simp [hl, h4, h5, rd, ha, hb, chk, hab, hbb, run_rcmp ha hb, after_nr, hc]
  · intro tm hl S h6
    simp [hl, h6]
def colV (k : Nat) : Int → List (List Int) → Bool
  | a, [] => decide (0 ≤ a)
  | a, w :: o => if w.getD k 0 < -1000 ∨ 1000 < w.getD k 0 then false else colV k (if a = 0 then w.getD k 0 else a) o
set_option maxRecDepth 20000 in
theorem colv_loop {o : List (List Int)} {k : Nat} (ho : ∀ w ∈ o, w.length = 8) (hol : o.length < 1000000) (hk : k < 8) {Q : FQ}
    (h1 : ∀ (tm : List AV) (hl : tm.length = 45) (a : Int), tm[0] = OR o → tm[3] = .int .i64 (k : Int) → tm[4] = .int .i64 a → colV k 0 o = decide (0 ≤ a) → Q (.ex 2) ⟨tm, []⟩)
    (h2 : ∀ (tm : List AV) (hl : tm.length = 45), tm[2] = .bool false → colV k 0 o = false → Q .ret ⟨tm, []⟩) :
    ∀ (m i : Nat), i + m = o.length → ∀ a : Int, colV k a (o.drop i) = colV k 0 o →
    wpL RT f138_0m 0 f138_0 ⟨[OR o, .any, .any, .int .i64 (k : Int), .int .i64 a, .int .i64 (i : Int)] ++ List.replicate 39 .any, []⟩ Q := by
  intro m
  induction m with
  | zero =>
    intro i hi a he
    have hi' : i = o.length := by omega
    subst hi'
    rw [List.drop_of_length_le (Nat.le_refl _)] at he
    rw [wpL_step]
    generalize hK : loopQ RT f138_0m 0 f138_0 Q = K
    simp [f138_0, List.replicate]
    subst hK
    exact h1 _ rfl a rfl rfl rfl he.symm
  | succ m ih =>
    intro i hi a he
    have hi1 : i < o.length := by omega
    rw [List.drop_eq_getElem_cons hi1] at he
    have hwl := ho o[i] (List.getElem_mem hi1)
    have hget : o[i]? = some o[i] := List.getElem?_eq_getElem hi1
    generalize o[i] = w at *
    have hwk : w[k]? = some (w.getD k 0) := by rw [List.getD_eq_getElem?_getD, List.getElem?_eq_getElem (by omega)]; rfl
    simp only [colV] at he
    have hln : k + 1 ≤ 8 := by omega
    have hkl : (k : Int) < 8 := by omega
    have hkk : 1 ≤ 8 - k := by omega
    generalize w.getD k 0 = x at *
    have hw : IntKind.i64.wrap ((i : Int) + 1) = ((i + 1 : Nat) : Int) := wrap_i64 (by omega) (by omega)
    have hlt : (i : Int) < (o.length : Int) := by omega
    rw [wpL_step]
    generalize hK : loopQ RT f138_0m 0 f138_0 Q = K
    by_cases c1 : x < -1000
    · rw [if_pos (.inl c1)] at he
      simp [f138_0, List.replicate, hlt, hget, chk, hwl, hkl, hwk, hln, hkk, c1]
      subst hK
      exact h2 _ rfl rfl he.symm
    · by_cases c2 : 1000 < x
      · rw [if_pos (.inr c2)] at he
        simp [f138_0, List.replicate, hlt, hget, chk, hwl, hkl, hwk, hln, hkk, c1, c2]
        subst hK
        exact h2 _ rfl rfl he.symm
      · rw [if_neg (by omega)] at he
        by_cases c3 : a = 0
        · subst c3
          rw [if_pos rfl] at he
          have := ih (i + 1) (by omega) x he
          simp [f138_0, List.replicate, hlt, hget, chk, hwl, hkl, hwk, hln, hkk, c1, c2, hw]
          subst hK
          simp [head, f138_0m, mask, trunc_len]
          simpa [f138_0m, List.replicate] using this
        · rw [if_neg c3] at he
          have := ih (i + 1) (by omega) a he
          simp [f138_0, List.replicate, hlt, hget, chk, hwl, hkl, hwk, hln, hkk, c1, c2, c3, hw]
          subst hK
          simp [head, f138_0m, mask, trunc_len]
          simpa [f138_0m, List.replicate] using this
set_option maxRecDepth 20000 in
theorem colsv_loop {o : List (List Int)} (ho : ∀ w ∈ o, w.length = 8) (hol : o.length < 1000000) {Q : FQ}
    (h1 : ∀ (tm : List AV) (hl : tm.length = 45), (∀ k, k < 8 → colV k 0 o = true) → Q (.ex 0) ⟨tm, []⟩)
    (h2 : ∀ (tm : List AV) (hl : tm.length = 45), tm[2] = .bool false → (∃ k, k < 8 ∧ colV k 0 o = false) → Q .ret ⟨tm, []⟩) :
    ∀ (m k : Nat), k + m = 8 → (∀ k', k' < k → colV k' 0 o = true) →
    wpL RT f138_1m 0 f138_1 ⟨[OR o, .any, .any, .int .i64 (k : Int)] ++ List.replicate 41 .any, []⟩ Q := by
  intro m
  induction m with
  | zero =>
    intro k hk hp
    have hk' : k = 8 := by omega
    subst hk'
    rw [wpL_step]
    generalize hK : loopQ RT f138_1m 0 f138_1 Q = K
    simp [f138_1, List.replicate]
    subst hK
    exact h1 _ rfl hp
  | succ m ih =>
    intro k hk hp
    have hk8 : k < 8 := by omega
    have hlt : (k : Int) < 8 := by omega
    have hw : IntKind.i64.wrap ((k : Int) + 1) = ((k + 1 : Nat) : Int) := wrap_i64 (by omega) (by omega)
    rw [wpL_step]
    generalize hK : loopQ RT f138_1m 0 f138_1 Q = K
    simp [f138_1, List.replicate, hlt]
    simp [head, f138_0m, mask, trunc_len]
    refine colv_loop ho hol hk8 ?_ ?_ o.length 0 (by simp) 0 rfl
    · intro tm hl a h0 h3 h4 he
      by_cases c : a < 0
      · simp [hl, h0, h3, h4, c]
        subst hK
        exact h2 _ (by simp [hl]) (by simp [hl]) ⟨k, hk8, by rw [he]; simp; omega⟩
      · have hck : colV k 0 o = true := by rw [he]; simp; omega
        have := ih (k + 1) (by omega) fun k' hk' => by
          by_cases e : k' = k
          · rw [e]; exact hck
          · exact hp k' (by omega)
        simp [hl, h0, h3, h4, c, hw]
        subst hK
        simp only [loopQ_nrm, head]
        rw [mask_of (n := 45) (by simp [hl])]
        simp [f138_1m, hl, h0, List.range_succ, trunc_len]
        simpa [f138_1m, List.replicate] using this
    · intro tm hl hb hf
      simp [hl, hb]
      subst hK
      exact h2 _ hl hb ⟨k, hk8, hf⟩
def ColP (k : Nat) (o : List (List Int)) : Prop := (∀ w ∈ o, -1000 ≤ w.getD k 0 ∧ w.getD k 0 ≤ 1000) ∧ colOk k o
theorem colV_pos {k : Nat} : ∀ {o : List (List Int)} {a : Int}, a ≠ 0 → (colV k a o = true ↔ (∀ w ∈ o, -1000 ≤ w.getD k 0 ∧ w.getD k 0 ≤ 1000) ∧ 0 < a)
  | [], a, h => by simp [colV]; omega
  | w :: o, a, h => by
    simp only [colV]
    by_cases c : w.getD k 0 < -1000 ∨ 1000 < w.getD k 0
    · rw [if_pos c]
      simp only [Bool.false_eq_true, List.mem_cons, forall_eq_or_imp, false_iff]
      omega
    · rw [if_neg c, if_neg h, colV_pos (o := o) h]
      simp only [List.mem_cons, forall_eq_or_imp]
      have : -1000 ≤ w.getD k 0 ∧ w.getD k 0 ≤ 1000 := by omega
      simp only [this, true_and, and_true]
theorem colV_iff {k : Nat} : ∀ {o : List (List Int)}, colV k 0 o = true ↔ ColP k o
  | [] => by simp [colV, ColP, colOk]
  | w :: o => by
    simp only [colV, ColP, colOk]
    by_cases c : w.getD k 0 < -1000 ∨ 1000 < w.getD k 0
    · rw [if_pos c]
      simp only [Bool.false_eq_true, List.mem_cons, forall_eq_or_imp, false_iff]
      omega
    · rw [if_neg c]
      simp only [if_true]
      have hb : -1000 ≤ w.getD k 0 ∧ w.getD k 0 ≤ 1000 := by omega
      by_cases h0 : w.getD k 0 = 0
      · rw [h0, colV_iff]
        simp only [ColP, List.mem_cons, forall_eq_or_imp, h0]
        simp
      · rw [colV_pos h0]
        simp only [List.mem_cons, forall_eq_or_imp, hb, true_and, h0, false_and, or_false, and_true]
theorem rowOk_iff : ∀ (w : List Int) (bs : List Bool), w.length = bs.length → (rowOk w bs = true ↔ ∀ k, k < w.length → okW (w.getD k 0) (bs.getD k false) = true)
  | [], [], _ => by simp [rowOk]
  | x :: w, b :: bs, h => by
    have ih := rowOk_iff w bs (by simpa using h)
    simp only [rowOk, Bool.and_eq_true, ih]
    constructor
    · rintro ⟨h1, h2⟩ k hk
      cases k with
      | zero => simpa using h1
      | succ k => simpa using h2 k (by simpa using hk)
    · intro h
      exact ⟨by simpa using h 0 (by simp), fun k hk => by simpa using h (k + 1) (by simpa using hk)⟩
  | [], _ :: _, h => by simp at h
  | _ :: _, [], h => by simp at h
theorem goV_iff : ∀ (o : List (List Int)) (bs : List Bool), bs.length = 8 → (∀ w ∈ o, w.length = 8) → (goV bs o = true ↔ ∀ k, k < 8 → (∀ w ∈ o, -1000 ≤ w.getD k 0 ∧ w.getD k 0 ≤ 1000) ∧ (bs.getD k false = true ∨ colOk k o))
  | [], bs, _, _ => by
    have : goV bs [] = true := by cases bs <;> rfl
    simp [this, colOk]
  | w :: o, bs, hb, ho => by
    have hwl := ho w (by simp)
    have hn : (rowNext w bs).length = 8 := by rw [rowNext_len]; exact hb
    have ih := goV_iff o (rowNext w bs) hn (fun v hv => ho v (by simp [hv]))
    have hg : goV bs (w :: o) = (rowOk w bs && goV (rowNext w bs) o) := by cases bs <;> rfl
    rw [hg, Bool.and_eq_true, ih, rowOk_iff w bs (by omega), hwl]
    have hnx : ∀ k, k < 8 → (rowNext w bs).getD k false = nextW (w.getD k 0) (bs.getD k false) := fun k hk => by
      have h1 : w[k]? = some (w.getD k 0) := by rw [List.getD_eq_getElem?_getD, List.getElem?_eq_getElem (by omega)]; rfl
      have h2 : bs[k]? = some (bs.getD k false) := by rw [List.getD_eq_getElem?_getD, List.getElem?_eq_getElem (by omega)]; rfl
      rw [List.getD_eq_getElem?_getD, rowNext_get w bs k _ _ h1 h2]; rfl
    have key : ∀ k, k < 8 → ((okW (w.getD k 0) (bs.getD k false) = true ∧ (∀ v ∈ o, -1000 ≤ v.getD k 0 ∧ v.getD k 0 ≤ 1000) ∧ ((rowNext w bs).getD k false = true ∨ colOk k o)) ↔ ((∀ v ∈ w :: o, -1000 ≤ v.getD k 0 ∧ v.getD k 0 ≤ 1000) ∧ (bs.getD k false = true ∨ colOk k (w :: o)))) := fun k hk => by
      rw [hnx k hk]
      simp only [List.mem_cons, forall_eq_or_imp, colOk, okW, nextW, Bool.and_eq_true, Bool.or_eq_true, decide_eq_true_eq]
      generalize w.getD k 0 = x
      generalize bs.getD k false = b
      cases b with
      | true => simp
      | false =>
        simp only [Bool.false_eq_true, or_false, false_or]
        constructor
        · rintro ⟨⟨h1, h2, h3⟩, h4, h5⟩
          refine ⟨⟨⟨h1, h2⟩, h4⟩, ?_⟩
          rcases h5 with h | h
          · exact .inl h
          · by_cases h0 : x = 0
            · exact .inr ⟨h0, h⟩
            · exact .inl (by omega)
        · rintro ⟨⟨⟨h1, h2⟩, h4⟩, h5⟩
          refine ⟨⟨h1, h2, by omega⟩, h4, ?_⟩
          rcases h5 with h | ⟨_, h⟩
          · exact .inl h
          · exact .inr h
    constructor
    · rintro ⟨h1, h2⟩ k hk
      exact (key k hk).1 ⟨h1 k hk, h2 k hk⟩
    · intro h
      exact ⟨fun k hk => ((key k hk).2 (h k hk)).1, fun k hk => ((key k hk).2 (h k hk)).2⟩
theorem validB_iff {o : List (List Int)} (ho : ∀ w ∈ o, w.length = 8) : validB o = true ↔ o.length ≤ 24 ∧ ∀ k, k < 8 → ColP k o := by
  unfold validB ColP
  rw [Bool.and_eq_true, decide_eq_true_eq, goV_iff o _ (by simp) ho]
  have : ∀ k, k < 8 → (List.replicate 8 false).getD k false = false := fun k hk => by
    rw [List.getD_eq_getElem?_getD, List.getElem?_replicate]; simp [hk]
  constructor
  · rintro ⟨h1, h2⟩
    exact ⟨h1, fun k hk => ⟨(h2 k hk).1, (h2 k hk).2.resolve_left (by rw [this k hk]; decide)⟩⟩
  · rintro ⟨h1, h2⟩
    exact ⟨h1, fun k hk => ⟨(h2 k hk).1, .inr (h2 k hk).2⟩⟩
theorem run_valid5 {o : List (List Int)} (ho : ∀ w ∈ o, w.length = 8) (hol : o.length < 1000000) : callPure RT 138 [OR o] = some (.bool (validB o)) := by
  have hiff := validB_iff ho
  refine callPure_of (wpF_of tab_138 rfl ?_)
  by_cases c : o.length ≤ 24
  · have c' : ¬ (24 : Int) < (o.length : Int) := by omega
    simp [f138, enter, c']
    simp [head, f138_1m, mask, trunc_len]
    refine colsv_loop ho hol ?_ ?_ 8 0 rfl (fun k' h => by omega)
    · intro tm hl h
      have : validB o = true := hiff.2 ⟨c, fun k hk => colV_iff.1 (h k hk)⟩
      simp [hl, this]
    · intro tm hl h2 ⟨k, hk, h⟩
      have : validB o = false := by
        cases hv : validB o with
        | false => rfl
        | true => rw [colV_iff.2 ((hiff.1 hv).2 k hk)] at h; cases h
      simp [hl, h2, this]
  · have c' : (24 : Int) < (o.length : Int) := by omega
    have : validB o = false := by
      cases hv : validB o with
      | false => rfl
      | true => exact absurd (hiff.1 hv).1 c
    simp [f138, enter, c', this]
def permGo : List Bool → List Int → Bool
  | _, [] => true
  | bs, k :: ks => if 0 ≤ k ∧ k < 8 ∧ bs.getD k.toNat false = false then permGo (bs.set k.toNat true) ks else false
set_option maxRecDepth 20000 in
theorem perm_loop {p : List Int} {vo : AV} (hp : p.length = 8) (hpb : ∀ x ∈ p, -9223372036854775808 ≤ x ∧ x < 9223372036854775808) {Q : FQ}
    (h1 : ∀ (tm : List AV) (ht : tm.length = 65) (bs : List Bool), tm[0] = vo → tm[3] = .mptr 0 0 8 → permGo (List.replicate 8 false) p = true → Q (.ex 0) ⟨tm, [.mu (nums .i64 p) true, .mu (bools bs) true]⟩)
    (h2 : ∀ (tm : List AV) (ht : tm.length = 65) (S : Store), tm[4] = .sl [] 8 true → tm[5] = .int .i64 1 → permGo (List.replicate 8 false) p = false → Q .ret ⟨tm, S⟩) :
    ∀ (m i : Nat), i + m = 8 → ∀ bs : List Bool, bs.length = 8 → permGo bs (p.drop i) = permGo (List.replicate 8 false) p →
    wpL RT f29_0m 2 f29_0 ⟨[vo, .any, .any, .mptr 0 0 8, .any, .any, .mptr 1 0 8, .any, .any, .any, .any, .any, .any, .any, .any, .any, .any, .any, R8 p, .int .i64 (i : Int)] ++ List.replicate 45 .any, [.mu (nums .i64 p) true, .mu (bools bs) true]⟩ Q := by
  intro m
  induction m with
  | zero =>
    intro i hi bs hbs he
    have hi' : i = 8 := by omega
    subst hi'
    rw [List.drop_of_length_le (by omega)] at he
    rw [wpL_step]
    generalize hK' : loopQ RT f29_0m 2 f29_0 Q = KK
    simp [f29_0, List.replicate]
    subst hK'
    exact h1 _ rfl bs rfl rfl he.symm
  | succ m ih =>
    intro i hi bs hbs he
    have hi8 : i < 8 := by omega
    have hlt : (i : Int) < 8 := by omega
    have hw : IntKind.i64.wrap ((i : Int) + 1) = ((i + 1 : Nat) : Int) := wrap_i64 (by omega) (by omega)
    have hget : (nums .i64 p)[i]? = some (.int .i64 (p[i]'(by omega))) := by
      rw [List.getElem?_eq_getElem (by simpa [hp] using hi8), nums_getElem]
    rw [List.drop_eq_getElem_cons (by omega)] at he
    simp only [permGo] at he
    have hbd := hpb p[i] (List.getElem_mem _)
    have hih := ih (i + 1) (by omega)
    generalize p[i] = x at *
    rw [wpL_step]
    generalize hK' : loopQ RT f29_0m 2 f29_0 Q = KK
    by_cases c1 : x < 0
    · rw [if_neg (by omega)] at he
      simp [f29_0, List.replicate, hlt, hget, hp, c1]
      subst hK'
      exact h2 _ rfl _ rfl rfl he.symm
    · by_cases c2 : 8 ≤ x
      · rw [if_neg (by omega)] at he
        simp [f29_0, List.replicate, hlt, hget, hp, c1, c2]
        subst hK'
        exact h2 _ rfl _ rfl rfl he.symm
      · obtain ⟨q, rfl⟩ : ∃ q : Nat, x = (q : Int) := ⟨x.toNat, by omega⟩
        have hq : q < 8 := by omega
        have hql : (q : Int) < 8 := by omega
        have hgb : bs[q]? = some (bs.getD q false) := by rw [List.getD_eq_getElem?_getD, List.getElem?_eq_getElem (by omega)]; rfl
        have r1 : rd [.mu (nums .i64 p) true, .mu (bools bs) true] 1 q 8 1 = some [.bool (bs.getD q false)] := rd_bool rfl hbs hgb
        have w1 : wr [.mu (nums .i64 p) true, .mu (bools bs) true] 1 q 8 [.bool true] = some [.mu (nums .i64 p) true, .mu (bools (bs.set q true)) true] := wr_bool rfl hbs hq
        simp only [Int.toNat_natCast] at he
        have hih2 := hih (bs.set q true) (by simpa using hbs)
        generalize bs.getD q false = b at *
        cases b with
        | true =>
          rw [if_neg (by simp)] at he
          simp [f29_0, List.replicate, hlt, hget, hp, c1, c2, hql, r1]
          subst hK'
          exact h2 _ rfl _ rfl rfl he.symm
        | false =>
          rw [if_pos ⟨by omega, hql, rfl⟩] at he
          have := hih2 he
          simp [f29_0, List.replicate, hlt, hget, hp, c1, c2, hql, r1, w1, hw]
          subst hK'
          simp [head, f29_0m, mask, trunc_len]
          simpa [f29_0m, List.replicate] using this
end Go.AVM
namespace Go.AVM
set_option maxRecDepth 20000 in
theorem permn_loop {p : List Int} (hp : p.length = 8) {Q : FQ}
    (h1 : ∀ (tm : List AV) (ht : tm.length = 31) (S : Store), permGo (List.replicate 8 false) p = true → Q (.ex 0) ⟨tm, S⟩)
    (h2 : ∀ (tm : List AV) (ht : tm.length = 31) (S : Store), tm[2] = .bool false → permGo (List.replicate 8 false) p = false → Q .ret ⟨tm, S⟩) :
    ∀ (m i : Nat), i + m = 8 → ∀ bs : List Bool, bs.length = 8 → permGo bs (p.drop i) = permGo (List.replicate 8 false) p →
    wpL RT f143_0m 2 f143_0 ⟨[.any, .mptr 0 0 8, .any, .mptr 1 0 8, .int .i64 (i : Int)] ++ List.replicate 26 .any, [.mu (nums .i64 p) true, .mu (bools bs) true]⟩ Q := by
  intro m
  induction m with
  | zero =>
    intro i hi bs hbs he
    have hi' : i = 8 := by omega
    subst hi'
    rw [List.drop_of_length_le (by omega)] at he
    rw [wpL_step]
    generalize hK' : loopQ RT f143_0m 2 f143_0 Q = KK
    simp [f143_0, List.replicate]
    subst hK'
    exact h1 _ rfl _ he.symm
  | succ m ih =>
    intro i hi bs hbs he
    have hi8 : i < 8 := by omega
    have hlt : (i : Int) < 8 := by omega
    have hw : IntKind.i64.wrap ((i : Int) + 1) = ((i + 1 : Nat) : Int) := wrap_i64 (by omega) (by omega)
    have hgp : p[i]? = some (p[i]'(by omega)) := List.getElem?_eq_getElem (by omega)
    rw [List.drop_eq_getElem_cons (by omega)] at he
    simp only [permGo] at he
    have hih := ih (i + 1) (by omega)
    generalize p[i] = x at *
    have r0 : ∀ bs : List Bool, rd [.mu (nums .i64 p) true, .mu (bools bs) true] 0 i 8 1 = some [.int .i64 x] := fun bs => rd_num rfl hp hgp
    rw [wpL_step]
    generalize hK' : loopQ RT f143_0m 2 f143_0 Q = KK
    by_cases c1 : x < 0
    · rw [if_neg (by omega)] at he
      simp [f143_0, List.replicate, hlt, r0, hp, c1]
      subst hK'
      exact h2 _ rfl _ rfl he.symm
    · by_cases c2 : 7 < x
      · rw [if_neg (by omega)] at he
        simp [f143_0, List.replicate, hlt, r0, hp, c1, c2]
        subst hK'
        exact h2 _ rfl _ rfl he.symm
      · obtain ⟨q, rfl⟩ : ∃ q : Nat, x = (q : Int) := ⟨x.toNat, by omega⟩
        have hq : q < 8 := by omega
        have hql : (q : Int) < 8 := by omega
        have hgb : bs[q]? = some (bs.getD q false) := by rw [List.getD_eq_getElem?_getD, List.getElem?_eq_getElem (by omega)]; rfl
        have r1 : rd [.mu (nums .i64 p) true, .mu (bools bs) true] 1 q 8 1 = some [.bool (bs.getD q false)] := rd_bool rfl hbs hgb
        have w1 : wr [.mu (nums .i64 p) true, .mu (bools bs) true] 1 q 8 [.bool true] = some [.mu (nums .i64 p) true, .mu (bools (bs.set q true)) true] := wr_bool rfl hbs hq
        simp only [Int.toNat_natCast] at he
        have hih2 := hih (bs.set q true) (by simpa using hbs)
        generalize bs.getD q false = b at *
        cases b with
        | true =>
          rw [if_neg (by simp)] at he
          simp [f143_0, List.replicate, hlt, r0, hp, c1, c2, hql, r1]
          subst hK'
          exact h2 _ rfl _ rfl he.symm
        | false =>
          rw [if_pos ⟨by omega, hql, rfl⟩] at he
          have := hih2 he
          simp [f143_0, List.replicate, hlt, r0, hp, c1, c2, hql, r1, w1, hw]
          subst hK'
          simp [head, f143_0m, mask, trunc_len]
          simpa [f143_0m, List.replicate] using this
theorem run_permn {p : List Int} (hp : p.length = 8) : callPure RT 143 [R8 p] = some (.bool (permGo (List.replicate 8 false) p)) := by
  refine callPure_of (wpF_of tab_143 rfl ?_)
  have key := fun (Q : FQ) h1 h2 => permn_loop (Q := Q) hp h1 h2 8 0 rfl (List.replicate 8 false) (by simp) rfl
  simp only [bools, List.map_replicate] at key
  simp [f143, enter, hp, fillA, wr, chk, splice]
  simp [head, f143_0m, mask, trunc_len]
  simp [List.replicate, f143_0m] at key
  refine key _ ?_ ?_
  · intro tm ht S h
    have h' : permGo (List.replicate 8 false) p = true := h
    simp [ht, h, h']
  · intro tm ht S hb h
    have h' : permGo (List.replicate 8 false) p = false := h
    simp [ht, hb, h, h']
def prow (m k : Nat) : List Int := (onesL m).take k ++ (List.replicate 8 (0 : Int)).drop k
theorem prow_len (m : Nat) {k : Nat} (hk : k ≤ 8) : (prow m k).length = 8 := by simp [prow, onesL_len]; omega
theorem prow_next (m : Nat) {k : Nat} (hk : k < 8) : prow m (k + 1) = if m.testBit k then (prow m k).set k 1 else prow m k := by
  have hg : (onesL m)[k]? = some (if m.testBit k then 1 else 0) := by
    rw [← onesL_get hk, List.getD_eq_getElem?_getD, List.getElem?_eq_getElem (by rw [onesL_len]; exact hk)]; rfl
  have hs := take_drop_set (l := List.replicate 8 (0 : Int)) (by simp [onesL_len]) hg
  unfold prow
  rw [← hs]
  split
  · rfl
  · apply List.ext_getElem?
    intro j
    by_cases hj : j = k
    · subst hj
      have hl : ((onesL m).take j ++ (List.replicate 8 (0 : Int)).drop j).length = 8 := prow_len m (by omega)
      have h1 : ((onesL m).take j).length = j := by rw [List.length_take, onesL_len]; omega
      rw [List.getElem?_set_self (by omega), List.getElem?_append_right (by omega), h1, Nat.sub_self, List.getElem?_drop, List.getElem?_replicate]
      simp [hk]
    · rw [List.getElem?_set_ne (by omega)]
theorem eliming_loop {m : Nat} {Q : FQ} (hQ : ∀ (tm : List AV) (hl : tm.length = 19), tm[3] = .mptr 0 0 8 → Q (.ex 0) ⟨tm, [.mu (nums .i64 (onesL m)) true]⟩) :
    ∀ (n k : Nat), k + n = 8 → wpL RT f137_0m 1 f137_0 ⟨[.int .u8 (m : Int), .any, .any, .mptr 0 0 8, .int .i64 (k : Int)] ++ List.replicate 14 .any, [.mu (nums .i64 (prow m k)) true]⟩ Q := by
  intro n
  induction n with
  | zero =>
    intro k hk
    have hk' : k = 8 := by omega
    subst hk'
    have he : prow m 8 = onesL m := by unfold prow; rw [List.take_of_length_le (by simp [onesL_len]), List.drop_of_length_le (by simp), List.append_nil]
    rw [he]
    rw [wpL_step]
    generalize hK : loopQ RT f137_0m 1 f137_0 Q = K
    simp [f137_0, List.replicate]
    subst hK
    exact hQ _ rfl rfl
  | succ n ih =>
    intro k hk
    have hk8 : k < 8 := by omega
    have hlt : (k : Int) < 8 := by omega
    have hw : IntKind.i64.wrap ((k : Int) + 1) = ((k + 1 : Nat) : Int) := wrap_i64 (by omega) (by omega)
    have hin := tells_in m hk8
    have hih := ih (k + 1) (by omega)
    rw [prow_next m hk8] at hih
    have hl := prow_len m (k := k) (by omega)
    generalize prow m k = F at *
    have hwr : wr [.mu (nums .i64 F) true] 0 k 8 [.int .i64 1] = some [.mu (nums .i64 (F.set k 1)) true] := wr_num (S := [.mu (nums .i64 F) true]) (b := 0) rfl hl hk8
    rw [wpL_step]
    generalize hK : loopQ RT f137_0m 1 f137_0 Q = K
    cases c : m.testBit k with
    | true =>
      rw [c] at hin hih
      simp only [if_true] at hih
      simp [f137_0, List.replicate, hlt, hin, hwr, hw]
      subst hK
      simp [head, f137_0m, mask, trunc_len]
      simpa [f137_0m, List.replicate] using hih
    | false =>
      rw [c] at hin hih
      simp only [Bool.false_eq_true, if_false] at hih
      simp [f137_0, List.replicate, hlt, hin, hw]
      subst hK
      simp [head, f137_0m, mask, trunc_len]
      simpa [f137_0m, List.replicate] using hih
theorem run_eliming5 (m : Nat) : callPure RT 137 [.int .u8 (m : Int)] = some (OR (elimO m)) := by
  refine callPure_of (wpF_of tab_137 rfl ?_)
  have hroom : room 9 64 := by decide
  have hlen : revO.length = 8 := rfl
  have hfl : (revO.map R8).flatMap AV.cells = nums .i64 revO.flatten := rows_cells revO
  have hE : elimO m = onesL m :: revO := rfl
  have ho : (nums .i64 (onesL m)) ++ nums .i64 revO.flatten = nums .i64 (elimO m).flatten := by rw [nums_append, hE, List.flatten_cons]
  have hF : ((elimO m).flatten).length = 72 := by simp [hE, onesL_len, revO]
  have hc : chunk 8 9 (nums .i64 (elimO m).flatten) = (elimO m).map R8 := by
    rw [chunk_cut 9 _ hF]; rfl
  have hrd : ∀ r : Blk, rd [r, .mu (nums .i64 (elimO m).flatten) false] 1 0 72 72 = some (nums .i64 (elimO m).flatten) := fun r => by
    rw [rd_mu (S := [r, .mu (nums .i64 (elimO m).flatten) false]) (b := 1) rfl (by simp [hF]) (by decide), List.drop_zero, List.take_of_length_le (by simp [hF])]
  have hto : (nums .i64 (onesL m)).take 8 = nums .i64 (onesL m) := List.take_of_length_le (by simp [onesL_len])
  have key := fun (Q : FQ) h => eliming_loop (m := m) (Q := Q) h 8 0 rfl
  have h0 : nums .i64 (prow m 0) = List.replicate 8 (.int .i64 0) := rfl
  rw [h0] at key
  simp [List.replicate, f137_0m] at key
  have hoE : OR (elimO m) = .sl ((elimO m).map R8) 8 false := rfl
  have hoL := onesL_len m
  rw [hoE]
  generalize (elimO m).map R8 = GR at *
  generalize (elimO m).flatten = G at *
  generalize onesL m = L at *
  have htG : (nums .i64 G).take 72 = nums .i64 G := List.take_of_length_le (by simp [hF])
  simp [f137, enter, fillA, wr, chk, splice]
  simp [head, f137_0m, mask, trunc_len]
  refine key _ ?_
  intro tm hl h3
  simp [hl, h3, rd, chk, hoL, hto, run_reverse5, after_nr, opA_litn, fillE, elt, appA, held, hlen, hroom, hfl, ho, fzc, hF, htG, hc]
def powL (i : Nat) (n : Int) : List Int := (List.replicate 8 (0 : Int)).set i n
theorem run_pow1 {i : Nat} (hi : i < 8) : callPure RT 34 [.int .i64 (i : Int), .int .i64 1] = some (R8 (powL i 1)) := by
  have h : i = 0 ∨ i = 1 ∨ i = 2 ∨ i = 3 ∨ i = 4 ∨ i = 5 ∨ i = 6 ∨ i = 7 := by omega
  rcases h with rfl | rfl | rfl | rfl | rfl | rfl | rfl | rfl
  all_goals exact pureIs_run (O := noneE) (n := 30) noneE_sound (by kernel_rfl)
theorem run_powm {i : Nat} (hi : i < 8) : callPure RT 34 [.int .i64 (i : Int), .int .i64 65535] = some (R8 (powL i 65535)) := by
  have h : i = 0 ∨ i = 1 ∨ i = 2 ∨ i = 3 ∨ i = 4 ∨ i = 5 ∨ i = 6 ∨ i = 7 := by omega
  rcases h with rfl | rfl | rfl | rfl | rfl | rfl | rfl | rfl
  all_goals exact pureIs_run (O := noneE) (n := 30) noneE_sound (by kernel_rfl)
theorem powL_len (i : Nat) (n : Int) : (powL i n).length = 8 := by simp [powL]
theorem powL_bd (i : Nat) {n : Int} (h : 0 ≤ n ∧ n ≤ 200000) : Bd 200000 (powL i n) := fun x hx => by
  rcases List.mem_or_eq_of_mem_set hx with h' | rfl
  · have := (List.mem_replicate.1 h').2; omega
  · omega
def refOk (o : List (List Int)) (m i j : Nat) : Bool := !m.testBit i || (m.testBit j || decide (0 ≤ ordCmp o (powL i 1) (powL j 65535)))
set_option maxRecDepth 20000 in
theorem relim_inner {o : List (List Int)} (ho : Rows o) (hol : o.length < 1000000) {m i : Nat} (hi : i < 8) {Q : FQ}
    (h1 : ∀ (tm : List AV) (hl : tm.length = 33), tm[0] = OR o → tm[1] = .int .u8 (m : Int) → tm[5] = .int .i64 (i : Int) → (∀ j, j < 8 → refOk o m i j = true) → Q (.ex 2) ⟨tm, []⟩)
    (h2 : ∀ (tm : List AV) (hl : tm.length = 33), tm[4] = .bool false → (∃ j, j < 8 ∧ refOk o m i j = false) → Q .ret ⟨tm, []⟩) :
    ∀ (n j : Nat), j + n = 8 → (∀ j', j' < j → refOk o m i j' = true) →
    wpL RT f133_0m 0 f133_0 ⟨[OR o, .int .u8 (m : Int), .any, .any, .any, .int .i64 (i : Int), .int .i64 (j : Int)] ++ List.replicate 26 .any, []⟩ Q := by
  intro n
  induction n with
  | zero =>
    intro j hj hp
    have hj' : j = 8 := by omega
    subst hj'
    rw [wpL_step]
    generalize hK : loopQ RT f133_0m 0 f133_0 Q = K
    simp [f133_0, List.replicate]
    subst hK
    exact h1 _ rfl rfl rfl rfl hp
  | succ n ih =>
    intro j hj hp
    have hj8 : j < 8 := by omega
    have hlt : (j : Int) < 8 := by omega
    have hw : IntKind.i64.wrap ((j : Int) + 1) = ((j + 1 : Nat) : Int) := wrap_i64 (by omega) (by omega)
    have hi1 := tells_in m hi
    have hi2 := tells_in m hj8
    have p1 := run_pow1 hi
    have p2 := run_powm hj8
    have cc := run_rord ho hol (powL_len i 1) (powL_len j 65535) (powL_bd i (by omega)) (powL_bd j (by omega))
    have hstep : refOk o m i j = true → ∀ j', j' < j + 1 → refOk o m i j' = true := fun hb j' hj' => by
      by_cases e : j' = j
      · rw [e, hb]
      · exact hp j' (by omega)
    have hih := fun h => ih (j + 1) (by omega) h
    have hex : refOk o m i j = false → ∃ j, j < 8 ∧ refOk o m i j = false := fun h1 => ⟨j, hj8, h1⟩
    have hrf : refOk o m i j = (!m.testBit i || (m.testBit j || decide (0 ≤ ordCmp o (powL i 1) (powL j 65535)))) := rfl
    generalize ordCmp o (powL i 1) (powL j 65535) = oc at *
    generalize powL i 1 = pa at *
    generalize powL j 65535 = pb at *
    rw [wpL_step]
    generalize hK : loopQ RT f133_0m 0 f133_0 Q = K
    cases c1 : m.testBit i with
    | false =>
      rw [c1] at hi1 hrf
      have := hih (hstep hrf)
      simp [f133_0, List.replicate, hlt, hi1, after_nr, hw]
      subst hK
      simp [head, f133_0m, mask, trunc_len]
      simpa [f133_0m, List.replicate] using this
    | true =>
      rw [c1] at hi1 hrf
      cases c2 : m.testBit j with
      | true =>
        rw [c2] at hi2 hrf
        have := hih (hstep hrf)
        simp [f133_0, List.replicate, hlt, hi1, hi2, after_nr, hw]
        subst hK
        simp [head, f133_0m, mask, trunc_len]
        simpa [f133_0m, List.replicate] using this
      | false =>
        rw [c2] at hi2 hrf
        by_cases c3 : oc < 0
        · have hd : decide (0 ≤ oc) = false := by simp; omega
          rw [hd] at hrf
          simp [f133_0, List.replicate, hlt, hi1, hi2, p1, p2, cc, after_nr, hw, c3]
          subst hK
          exact h2 _ rfl rfl (hex hrf)
        · have hd : decide (0 ≤ oc) = true := by simp; omega
          rw [hd] at hrf
          have := hih (hstep hrf)
          simp [f133_0, List.replicate, hlt, hi1, hi2, p1, p2, cc, after_nr, hw, c3]
          subst hK
          simp [head, f133_0m, mask, trunc_len]
          simpa [f133_0m, List.replicate] using this
def refB (o : List (List Int)) (m : Nat) : Prop := ∀ i, i < 8 → ∀ j, j < 8 → refOk o m i j = true
set_option maxRecDepth 20000 in
theorem relim_outer {o : List (List Int)} (ho : Rows o) (hol : o.length < 1000000) {m : Nat} {Q : FQ}
    (h1 : ∀ (tm : List AV) (hl : tm.length = 33), refB o m → Q (.ex 0) ⟨tm, []⟩)
    (h2 : ∀ (tm : List AV) (hl : tm.length = 33), tm[4] = .bool false → ¬ refB o m → Q .ret ⟨tm, []⟩) :
    ∀ (n i : Nat), i + n = 8 → (∀ i', i' < i → ∀ j, j < 8 → refOk o m i' j = true) →
    wpL RT f133_1m 0 f133_1 ⟨[OR o, .int .u8 (m : Int), .any, .any, .any, .int .i64 (i : Int)] ++ List.replicate 27 .any, []⟩ Q := by
  intro n
  induction n with
  | zero =>
    intro i hi hp
    have hi' : i = 8 := by omega
    subst hi'
    rw [wpL_step]
    generalize hK : loopQ RT f133_1m 0 f133_1 Q = K
    simp [f133_1, List.replicate]
    subst hK
    exact h1 _ rfl hp
  | succ n ih =>
    intro i hi hp
    have hi8 : i < 8 := by omega
    have hilt : (i : Int) < 8 := by omega
    have hw : IntKind.i64.wrap ((i : Int) + 1) = ((i + 1 : Nat) : Int) := wrap_i64 (by omega) (by omega)
    rw [wpL_step]
    generalize hK : loopQ RT f133_1m 0 f133_1 Q = K
    simp [f133_1, List.replicate, hilt]
    simp [head, f133_0m, mask, trunc_len]
    refine relim_inner ho hol hi8 ?_ ?_ 8 0 rfl (fun j' h => by omega)
    · intro tm hl h0 h1' h5 hall
      simp [hl, h0, h1', h5, hw]
      subst hK
      simp only [loopQ_nrm, head]
      rw [mask_of (n := 33) (by simp [hl])]
      have := ih (i + 1) (by omega) fun i' hi' => by
        by_cases e : i' = i
        · rw [e]; exact hall
        · exact hp i' (by omega)
      simp [f133_1m, hl, h0, h1', List.range_succ, trunc_len]
      simpa [f133_1m, List.replicate] using this
    · intro tm hl h4 hex
      simp [hl, h4]
      subst hK
      refine h2 _ hl h4 fun hE => ?_
      obtain ⟨j, hj, hf⟩ := hex
      rw [hE i hi8 j hj] at hf
      cases hf
open Classical in
theorem run_relim {o : List (List Int)} (ho : Rows o) (hol : o.length < 1000000) (m : Nat) : callPure RT 133 [OR o, .int .u8 (m : Int)] = some (.bool (decide (refB o m))) := by
  refine callPure_of (wpF_of tab_133 rfl ?_)
  simp [f133, enter]
  simp [head, f133_1m, mask, trunc_len]
  refine relim_outer ho hol ?_ ?_ 8 0 rfl (fun i' h => by omega)
  · intro tm hl h
    simp [hl, h]
  · intro tm hl h4 h
    simp [hl, h4, h]
end Go.AVM
namespace Go.AVM
theorem trim_loop {ws : List Nat} {t : Bool} (hw : Wd ws) (hlen : ws.length < 9223372036854775808) {base : Nat} {Q : FQ} (hQ : ∀ (tm : List AV) (hl : tm.length = 21), tm[0] = .sl (wds ws) 1 t → tm[3] = .int .i64 ((dig (val ws)).length : Int) → Q (.ex 0) ⟨tm, []⟩) :
    ∀ n, n ≤ ws.length → (∀ w ∈ ws.drop n, w = 0) → wpL RT f163_0m base f163_0 ⟨[.sl (wds ws) 1 t, .any, .any, .int .i64 (n : Int), .any, .any, .any, .any, .any, .any, .any, .any, .any, .any, .any, .any, .any, .any, .any, .any, .any], []⟩ Q := by
  intro n
  induction n with
  | zero =>
    intro hn hz
    have hcut := cut_dig hw hn hz (.inl rfl)
    rw [wpL_eq]
    generalize hK : (fun s' => wpL RT f163_0m base f163_0 (head f163_0m base s') Q) = K
    simp [f163_0]
    refine hQ _ rfl rfl ?_
    rw [← hcut]; simp
  | succ n ih =>
    intro hn hz
    have hnw : IntKind.i64.wrap (n : Int) = n := wrap_i64 (by omega) (by omega)
    obtain ⟨w, hget⟩ : ∃ w, ws[n]? = some w := ⟨ws[n], List.getElem?_eq_getElem (by omega)⟩
    rw [wpL_eq]
    generalize hK : (fun s' => wpL RT f163_0m base f163_0 (head f163_0m base s') Q) = K
    by_cases h0 : w = 0
    · subst h0
      simp [f163_0, hnw, hget]
      refine ⟨by omega, ?_⟩
      subst hK
      simp [head, f163_0m, mask, trunc]
      refine ih (by omega) fun v hv => ?_
      rw [List.drop_eq_getElem_cons (by omega)] at hv
      rcases List.mem_cons.1 hv with rfl | hv
      · rw [List.getElem?_eq_getElem (by omega)] at hget; exact Option.some.inj hget
      · exact hz v hv
    · have hcut := cut_dig hw hn hz (.inr ⟨w, hget, h0⟩)
      simp [f163_0, hnw, hget, h0]
      refine ⟨by omega, hQ _ rfl rfl ?_⟩
      have := congrArg List.length hcut
      simp at this
      rw [← this, Nat.min_eq_left hn]; rfl
theorem run_trim {ws : List Nat} {t : Bool} (hw : Wd ws) (hlen : ws.length < 9223372036854775808) : callPure RT 163 [.sl (wds ws) 1 t] = some (N (val ws)) := by
  refine callPure_of (wpF_of tab_163 rfl ?_)
  simp [f163, enter]
  simp [head, f163_0m, mask, trunc]
  refine trim_loop (t := t) hw hlen ?_ ws.length (Nat.le_refl _) (by simp)
  intro tm hl h0 h3
  obtain ⟨hcut, hle⟩ := norm_take hw
  simp [hl, h0, h3, sliceA, bounds, bound, hle, wds_take, hcut]
theorem run_made1 {ws : List Nat} {t neg : Bool} (hw : Wd ws) (hlen : ws.length ≤ Lim) : callPure RT 155 [.bool neg, .sl (wds ws) 1 t] = some (.agg [.bool (neg && decide (val ws ≠ 0)), N (val ws)]) := by
  refine callPure_of (wpF_of tab_155 rfl ?_)
  have hL : Lim = 1099511627776 := rfl
  have hn := run_trim (t := false) hw (by omega)
  have hd := dig_len_le hw
  by_cases h0 : val ws = 0
  · cases neg
    · simp [f155, enter, hn, h0, after_nr, held, chk, fillA, splice, wr, rd]
    · simp [f155, enter, hn, h0, after_nr, held, chk, fillA, splice, wr, rd]
  · have h1 : (dig (val ws)).length ≠ 0 := fun h => h0 (dig_nil.1 (List.eq_nil_of_length_eq_zero h))
    have h2 : 0 < (dig (val ws)).length := by omega
    cases neg
    · simp [f155, enter, hn, h0, h1, h2, after_nr, held, chk, fillA, splice, wr, rd]
    · simp [f155, enter, hn, h0, h1, h2, after_nr, held, chk, fillA, splice, wr, rd]
theorem run_madeN {n : Nat} {t neg : Bool} (h : size n ≤ Lim) : callPure RT 155 [.bool neg, .sl (wds (dig n)) 1 t] = some (Z (if neg then -(n : Int) else n)) := by
  rw [run_made1 (dig_wd n) h, val_dig, Z_of]
theorem run_words {n : Nat} (h : n < 18446744073709551616) : callPure RT 156 [.int .u64 (n : Int)] = some (N n) := by
  refine callPure_of (wpF_of tab_156 rfl ?_)
  obtain ⟨lo, hlo⟩ : ∃ lo, lo = n % 4294967296 := ⟨_, rfl⟩
  obtain ⟨hi, hhi⟩ : ∃ hi, hi = n / 4294967296 := ⟨_, rfl⟩
  have e1 : ((n : Int).tmod 4294967296) % 4294967296 = (lo : Int) := by
    rw [Int.tmod_eq_emod_of_nonneg (by omega)]; omega
  have e2 : ((n : Int).tdiv 4294967296) % 18446744073709551616 % 4294967296 = (hi : Int) := by
    rw [Int.tdiv_eq_ediv_of_nonneg (by omega)]; omega
  have e3 : (n : Int) / 4294967296 % 4294967296 = (hi : Int) := by omega
  have hw : Wd [lo, hi] := Wd.mk (show lo < 4294967296 by omega) (Wd.mk (show hi < 4294967296 by omega) Wd.nil)
  have hn := run_trim (t := false) hw (by simp)
  have hv : val [lo, hi] = n := by
    simp only [val]
    have : B = 4294967296 := rfl
    rw [this]; omega
  rw [hv, wds_cons, wds_one] at hn
  simp [f156, enter, wrap_u32, wrap_u64, opA_litn, fillE, elt, e1, e2, e3, hn, after_nr]
theorem run_word1 {ws : List Nat} {t : Bool} {i : Nat} (hw : Wd ws) (hlen : ws.length < 9223372036854775808) : callPure RT 173 [.sl (wds ws) 1 t, .int .i64 (i : Int)] = some (.int .u64 ((ws.getD i 0 : Nat) : Int)) := by
  refine callPure_of (wpF_of tab_173 rfl ?_)
  by_cases h : i < ws.length
  · have hg : ws[i]? = some ws[i] := List.getElem?_eq_getElem h
    have h' : (i : Int) < (ws.length : Int) := by omega
    have hb : ws[i] < 4294967296 := hw.get hg
    have e : ((ws[i] : Nat) : Int) % 18446744073709551616 = ((ws[i] : Nat) : Int) := by omega
    simp [f173, enter, h', hg, wrap_u64, e]
  · have h' : ¬ (i : Int) < (ws.length : Int) := by omega
    simp [f173, enter, h']
    rw [List.getElem?_eq_none (by omega)]; rfl
theorem run_number {n : Nat} (h : n < 18446744073709551616) : callPure RT 171 [N n] = some (.int .u64 (n : Int)) := by
  refine callPure_of (wpF_of tab_171 rfl ?_)
  have hs : (dig n).length ≤ 2 := size_le (k := 2) (by have : B = 4294967296 := rfl; rw [this]; omega)
  have h1 := run_word1 (t := false) (i := 1) (dig_wd n) (by omega)
  have h0 := run_word1 (t := false) (i := 0) (dig_wd n) (by omega)
  have hv := val_dig n
  have e : (dig n).getD 0 0 + 4294967296 * (dig n).getD 1 0 = n := by
    match hd : dig n, hs with
    | [], _ => rw [hd] at hv; simpa [val] using hv
    | [a], _ => rw [hd] at hv; simpa [val] using hv
    | [a, b], _ => rw [hd] at hv; simpa [val] using hv
    | _ :: _ :: _ :: _, hs => simp at hs
  generalize (dig n).getD 0 0 = a at *
  generalize (dig n).getD 1 0 = b at *
  have e1 : ((b : Int) * 4294967296 % 18446744073709551616 + a) % 18446744073709551616 = (n : Int) := by omega
  have h1' : callPure RT 173 [.sl (wds (dig n)) 1 false, .int .i64 1] = some (.int .u64 (b : Int)) := h1
  have h0' : callPure RT 173 [.sl (wds (dig n)) 1 false, .int .i64 0] = some (.int .u64 (a : Int)) := h0
  simp [f171, enter, h1', h0', wrap_u64, e1]
theorem run_Sign1 (i : Int) : callPure RT 151 [Z i] = some (.int .i64 i.sign) := by
  refine callPure_of (wpF_of tab_151 rfl ?_)
  rcases Int.lt_trichotomy i 0 with h | h | h
  · have hs : i.sign = -1 := Int.sign_eq_neg_one_iff_neg.2 h
    simp [f151, enter, Z_cells, h, hs, loadA, rd, chk]
  · subst h
    simp [f151, enter, Z_cells, loadA, rd, chk, minA]
  · have hs : i.sign = 1 := Int.sign_eq_one_iff_pos.2 h
    have h1 : ¬ i < 0 := by omega
    have h2 : (dig i.natAbs).length ≠ 0 := fun h => by
      have := dig_nil.1 (List.eq_nil_of_length_eq_zero h)
      omega
    have h3 : ¬ ((dig i.natAbs).length : Int) ≤ 1 ∨ ((dig i.natAbs).length : Int) = 1 := by omega
    simp [f151, enter, Z_cells, h1, hs, loadA, rd, chk]
    omega
theorem run_Of1 {n : Int} (h1 : -9223372036854775808 ≤ n) (h2 : n < 9223372036854775808) : callPure RT 149 [.int .i64 n] = some (Z n) := by
  refine callPure_of (wpF_of tab_149 rfl ?_)
  by_cases h : n < 0
  · have e1 : IntKind.i64.wrap (n + 1) = n + 1 := wrap_i64 (by omega) (by omega)
    obtain ⟨k, hk⟩ : ∃ k : Nat, (k : Int) = -(n + 1) := ⟨(-(n + 1)).toNat, by omega⟩
    have e2 : IntKind.i64.wrap (-(n + 1)) = (k : Int) := by rw [wrap_i64 (by omega) (by omega), hk]
    have e3 : ((k : Int) + 1) % 18446744073709551616 = ((n.natAbs : Nat) : Int) := by omega
    have hw := run_words (n := n.natAbs) (by omega)
    have hs : size n.natAbs ≤ Lim := Nat.le_trans (size_le (k := 2) (by have : B = 4294967296 := rfl; rw [this]; omega)) (by decide)
    have hm := run_madeN (t := false) (neg := true) hs
    have e4 : (if true = true then -((n.natAbs : Nat) : Int) else (n.natAbs : Nat)) = n := by simp; omega
    rw [e4] at hm
    simp [f149, enter, h, e1, e2, wrap_u64, e3, hw, hm, after_nr, Z_cells, wr, splice, rd, chk]
  · have e3 : n % 18446744073709551616 = ((n.natAbs : Nat) : Int) := by omega
    have hw := run_words (n := n.natAbs) (by omega)
    have hs : size n.natAbs ≤ Lim := Nat.le_trans (size_le (k := 2) (by have : B = 4294967296 := rfl; rw [this]; omega)) (by decide)
    have hm := run_madeN (t := false) (neg := false) hs
    have e4 : (if false = true then -((n.natAbs : Nat) : Int) else (n.natAbs : Nat)) = n := by simp; omega
    rw [e4] at hm
    simp [f149, enter, h, wrap_u64, e3, hw, hm, after_nr, Z_cells, wr, splice, rd, chk]
theorem run_Neg1 {i : Int} (h : zsize i ≤ Lim) : callPure RT 160 [Z i] = some (Z (-i)) := by
  refine callPure_of (wpF_of tab_160 rfl ?_)
  have hm := run_madeN (t := false) (neg := !decide (i < 0)) h
  have e4 : (if (!decide (i < 0)) = true then -((i.natAbs : Nat) : Int) else (i.natAbs : Nat)) = -i := by
    by_cases h : i < 0 <;> simp [h] <;> omega
  rw [e4] at hm
  simp [f160, enter, hm, after_nr, Z_cells i, Z_cells (-i), wr, splice, rd, chk]
theorem getD_wd {xs : List Nat} (hx : Wd xs) (i : Nat) : xs.getD i 0 < B := by
  rw [List.getD_eq_getElem?_getD]
  cases h : xs[i]? with
  | none => decide
  | some w => exact hx.get h
theorem tmod_word (s : Nat) : (s : Int).tmod 4294967296 = ((s % 4294967296 : Nat) : Int) := by
  rw [Int.tmod_eq_emod_of_nonneg (by omega)]; omega
theorem tdiv_word (s : Nat) : (s : Int).tdiv 4294967296 = ((s / 4294967296 : Nat) : Int) := by
  rw [Int.tdiv_eq_ediv_of_nonneg (by omega)]; omega
theorem added_loop {xs ys : List Nat} (hx : Wd xs) (hy : Wd ys) (hlx : xs.length ≤ Lim) (hly : ys.length ≤ Lim) {n : Nat} (hn : n = max xs.length ys.length + 1) {Q : FQ}
    (hQ : ∀ (tm : List AV) (hl : tm.length = 42) (ds : List Nat) (c : Nat), tm[6] = .msl 0 0 n 1 n none → ds.length = n → Wd ds → val ds + B ^ n * c = val xs + val ys → Q (.ex 0) ⟨tm, [.mu (wds ds) true]⟩) :
    ∀ (m i : Nat), i + m = n → ∀ (ds : List Nat) (c : Nat), ds.length = i → Wd ds → c ≤ 1 → val ds + B ^ i * c = val (xs.take i) + val (ys.take i) →
    wpL RT f167_0m 1 f167_0 ⟨[.sl (wds xs) 1 false, .sl (wds ys) 1 false, .any, .any, .any, .int .i64 (n : Int), .msl 0 0 n 1 n none, .int .u64 (c : Int), .int .i64 (i : Int), .any, .any, .any, .any, .any, .any, .any, .any, .any, .any, .any, .any, .any, .any, .any, .any, .any, .any, .any, .any, .any, .any, .any, .any, .any, .any, .any, .any, .any, .any, .any, .any, .any],
      [.mu (wds (ds ++ List.replicate m 0)) true]⟩ Q := by
  have hL : Lim = 1099511627776 := rfl
  intro m
  induction m with
  | zero =>
    intro i hi ds c hds hwd hc he
    have hi' : i = n := by omega
    subst hi'
    rw [wpL_step]
    generalize hK : loopQ RT f167_0m 1 f167_0 Q = K
    simp [f167_0]
    subst hK
    rw [List.take_of_length_le (by omega), List.take_of_length_le (by omega)] at he
    simp
    exact hQ _ rfl ds c rfl hds hwd he
  | succ m ih =>
    intro i hi ds c hds hwd hc he
    rw [wpL_step]
    generalize hK : loopQ RT f167_0m 1 f167_0 Q = K
    have hlt : (i : Int) < (n : Int) := by omega
    have ha1 := run_word1 (ws := xs) (t := false) (i := i) hx (by omega)
    have ha2 := run_word1 (ws := ys) (t := false) (i := i) hy (by omega)
    have hbx := getD_wd hx i
    have hby := getD_wd hy i
    have e1 := val_take_succ xs i
    have e2 := val_take_succ ys i
    generalize xs.getD i 0 = a at *
    generalize ys.getD i 0 = b at *
    obtain ⟨s, hs⟩ : ∃ s, s = (a + b + c) % B := ⟨_, rfl⟩
    obtain ⟨d, hd⟩ : ∃ d, d = (a + b + c) / B := ⟨_, rfl⟩
    have hsB : s < B := by rw [hs]; exact Nat.mod_lt _ (by decide)
    have hBe : B = 4294967296 := rfl
    have g1 : ((a : Int) + b + c) % 18446744073709551616 = ((a + b + c : Nat) : Int) := by rw [hBe] at hbx hby; omega
    have g2 := tmod_word (a + b + c)
    have g3 := tdiv_word (a + b + c)
    rw [← hBe, ← hs] at g2
    rw [← hBe, ← hd] at g3
    have g4 : (s : Int) % 4294967296 = (s : Int) := by rw [hBe] at hsB; omega
    have g5 : (d : Int) % 18446744073709551616 = (d : Int) := by rw [hBe] at hbx hby hd; omega
    have g6 : ((a + b + c : Nat) : Int) / 4294967296 % 18446744073709551616 = (d : Int) := by rw [hBe] at hbx hby hd; omega
    have hwr := wr_word (S := [.mu (wds (ds ++ List.replicate (m + 1) 0)) true]) (b := 0) (i := i) (vl := n) (w := s) rfl (by simp; omega) (by simp; omega)
    have hset : (ds ++ List.replicate (m + 1) 0).set i s = (ds ++ [s]) ++ List.replicate m 0 := by
      rw [List.set_append_right _ _ (by omega), hds, Nat.sub_self, List.replicate_succ, List.set_cons_zero]
      simp
    rw [hset] at hwr
    have hwi : IntKind.i64.wrap ((i : Int) + 1) = ((i + 1 : Nat) : Int) := wrap_i64 (by omega) (by omega)
    have hdl : d ≤ 1 := by rw [hBe] at hbx hby hd; omega
    generalize ht : a + b + c = t at *
    simp [f167_0, hlt, ha1, ha2, after_nr, wrap_u64, wrap_u32, g1, g2, g3, g4, g5]
    rw [hwr]
    simp [hwi, wrap_u64, g6]
    subst hK
    simp [head, f167_0m, mask]
    have := ih (i + 1) (by omega) (ds ++ [s]) d (by simp [hds]) (Wd.app hwd (Wd.mk hsB Wd.nil)) hdl (by
      rw [val_append, hds, e1, e2]
      have hdm := Nat.mod_add_div t B
      rw [← hs, ← hd] at hdm
      simp only [val, Nat.pow_succ]
      have e3 : B ^ i * (s + B * 0) + B ^ i * B * d = B ^ i * (a + b + c) := by
        rw [ht, ← hdm, Nat.mul_assoc, ← Nat.mul_add]; simp
      simp only [Nat.mul_zero, Nat.add_zero, Nat.mul_add] at e3 ⊢
      omega)
    simpa [f167_0m] using this
theorem run_added {x y : Nat} (hx : size x < Lim) (hy : size y < Lim) : callPure RT 167 [N x, N y] = some (N (x + y)) := by
  refine callPure_of (wpF_of tab_167 rfl ?_)
  have hL : Lim = 1099511627776 := rfl
  have hxs := lt_size x
  have hys := lt_size y
  unfold size at hx hy hxs hys
  obtain ⟨n, hn⟩ : ∃ n, n = max (dig x).length (dig y).length + 1 := ⟨_, rfl⟩
  have hmax : (if (dig x).length < (dig y).length then ((dig y).length : Int) else ((dig x).length : Int)) = ((n - 1 : Nat) : Int) := by
    split <;> omega
  have hwn : IntKind.i64.wrap (((n - 1 : Nat) : Int) + 1) = (n : Int) := by rw [wrap_i64 (by omega) (by omega)]; omega
  have hroom : room n 4 := by unfold room; omega
  have hln : (n : Int) ≤ 281474976710656 := by omega
  simp only [f167, enter_eq]
  simp [hmax, hwn, hln, hroom]
  simp [head, mask, f167_0m]
  have hst : List.replicate n (AV.int .u32 0) = wds ([] ++ List.replicate n 0) := wds_rep n 0
  rw [hst]
  refine added_loop (dig_wd x) (dig_wd y) (by omega) (by omega) hn ?_ n 0 (by omega) [] 0 rfl Wd.nil (by omega) (by simp [val])
  intro tm hl ds c h6 hds hwd he
  rw [val_dig, val_dig] at he
  have hv : val ds = x + y := by
    have h1 : B ^ (dig x).length ≤ B ^ (n - 1) := Nat.pow_le_pow_right (by decide) (by omega)
    have h2 : B ^ (dig y).length ≤ B ^ (n - 1) := Nat.pow_le_pow_right (by decide) (by omega)
    have h3 : B ^ n = B ^ (n - 1) * B := by rw [← Nat.pow_succ]; congr 1; omega
    have h4 : B ^ (n - 1) * 2 ≤ B ^ (n - 1) * B := Nat.mul_le_mul_left _ (by decide)
    rcases Nat.eq_zero_or_pos c with h | h
    · subst h; simpa using he
    · have : B ^ n * 1 ≤ B ^ n * c := Nat.mul_le_mul_left _ h
      generalize B ^ n = P at *
      omega
  have hnorm := run_trim (t := false) hwd (by omega)
  rw [hv] at hnorm
  have hfz : fzc [.mu (wds ds) true] (5 + 1) (.msl 0 0 n 1 n none) = some (W ds) := by
    have := fzc_mslv (S := [.mu (wds ds) true]) (b := 0) (n := n) (vl := n) (cap := none) (fuel := 5) rfl (by simp [hds]) (by simp [hds])
    rwa [List.take_of_length_le (by simp [hds])] at this
  simp [hl, h6, hfz, hnorm, after_row (S := [.mu (wds ds) true]) (b := 0) rfl (show (N (x + y)).bare = false from rfl)]
theorem taken_loop {xs ys : List Nat} (hx : Wd xs) (hy : Wd ys) (hlx : xs.length ≤ Lim) (hly : ys.length ≤ Lim) {n : Nat} (hn : n = xs.length) {Q : FQ}
    (hQ : ∀ (tm : List AV) (hl : tm.length = 41) (ds : List Nat) (c : Nat), tm[5] = .msl 0 0 n 1 n none → ds.length = n → Wd ds → c ≤ 1 → val ds + val (ys.take n) = val xs + B ^ n * c → Q (.ex 0) ⟨tm, [.mu (wds ds) true]⟩) :
    ∀ (m i : Nat), i + m = n → ∀ (ds : List Nat) (c : Nat), ds.length = i → Wd ds → c ≤ 1 → val ds + val (ys.take i) = val (xs.take i) + B ^ i * c →
    wpL RT f169_0m 1 f169_0 ⟨[.sl (wds xs) 1 false, .sl (wds ys) 1 false, .any, .any, .any, .msl 0 0 n 1 n none, .int .u64 (c : Int), .int .i64 (i : Int), .any, .any, .any, .any, .any, .any, .any, .any, .any, .any, .any, .any, .any, .any, .any, .any, .any, .any, .any, .any, .any, .any, .any, .any, .any, .any, .any, .any, .any, .any, .any, .any, .any],
      [.mu (wds (ds ++ List.replicate m 0)) true]⟩ Q := by
  have hL : Lim = 1099511627776 := rfl
  intro m
  induction m with
  | zero =>
    intro i hi ds c hds hwd hc he
    have hi' : i = n := by omega
    subst hi'
    rw [wpL_step]
    generalize hK : loopQ RT f169_0m 1 f169_0 Q = K
    simp [f169_0, hn]
    subst hK
    rw [List.take_of_length_le (l := xs) (by omega)] at he
    simp
    exact hQ _ rfl ds c (by simp [hn]) hds hwd hc he
  | succ m ih =>
    intro i hi ds c hds hwd hc he
    rw [wpL_step]
    generalize hK : loopQ RT f169_0m 1 f169_0 Q = K
    have hlt : (i : Int) < (xs.length : Int) := by omega
    have hlt2 : (i : Int) < (n : Int) := by omega
    obtain ⟨a, hget⟩ : ∃ a, xs[i]? = some a := ⟨xs[i], List.getElem?_eq_getElem (by omega)⟩
    have hbx : a < B := hx.get hget
    have ha2 := run_word1 (ws := ys) (t := false) (i := i) hy (by omega)
    have hby := getD_wd hy i
    have e1 := val_take_succ xs i
    have hga : xs.getD i 0 = a := by rw [List.getD_eq_getElem?_getD, hget]; rfl
    rw [hga] at e1
    have e2 := val_take_succ ys i
    generalize ys.getD i 0 = b at *
    have hBe : B = 4294967296 := rfl
    obtain ⟨t, ht⟩ : ∃ t, t = 4294967296 + a - b - c := ⟨_, rfl⟩
    obtain ⟨s, hs⟩ : ∃ s, s = t % B := ⟨_, rfl⟩
    obtain ⟨d, hd⟩ : ∃ d, d = 1 - t / B := ⟨_, rfl⟩
    have hsB : s < B := by rw [hs]; exact Nat.mod_lt _ (by decide)
    rw [hBe] at hbx hby
    have g0 : (a : Int) % 18446744073709551616 = (a : Int) := by omega
    have g0' : (4294967296 + (a : Int)) % 18446744073709551616 = 4294967296 + (a : Int) := by omega
    have g1 : (4294967296 + (a : Int) - (b : Int) - (c : Int)) % 18446744073709551616 = (t : Int) := by omega
    have g1' : (4294967296 + (a : Int) - (b : Int)) % 18446744073709551616 = 4294967296 + (a : Int) - (b : Int) := by omega
    have g2 := tmod_word t
    have g3 := tdiv_word t
    rw [← hBe, ← hs] at g2
    have g4 : (s : Int) % 4294967296 = (s : Int) := by rw [hBe] at hsB; omega
    have g5 : (1 - (t : Int) / 4294967296 % 18446744073709551616) % 18446744073709551616 = (d : Int) := by rw [hd, hBe]; omega
    have g6 : (1 - (t : Int) / 4294967296) % 18446744073709551616 = (d : Int) := by rw [hd, hBe]; omega
    have hwr := wr_word (S := [.mu (wds (ds ++ List.replicate (m + 1) 0)) true]) (b := 0) (i := i) (vl := n) (w := s) rfl (by simp; omega) (by simp; omega)
    have hset : (ds ++ List.replicate (m + 1) 0).set i s = (ds ++ [s]) ++ List.replicate m 0 := by
      rw [List.set_append_right _ _ (by omega), hds, Nat.sub_self, List.replicate_succ, List.set_cons_zero]
      simp
    rw [hset] at hwr
    have hwi : IntKind.i64.wrap ((i : Int) + 1) = ((i + 1 : Nat) : Int) := wrap_i64 (by omega) (by omega)
    have hdl : d ≤ 1 := by omega
    simp [f169_0, hlt, hlt2, hget, ha2, after_nr, wrap_u64, wrap_u32, g0, g0', g1, g1', g2, g4]
    rw [hwr]
    simp [hwi, wrap_u64, g5, g6]
    subst hK
    simp [head, f169_0m, mask]
    have := ih (i + 1) (by omega) (ds ++ [s]) d (by simp [hds]) (Wd.app hwd (Wd.mk hsB Wd.nil)) hdl (by
      rw [val_append, hds, e1, e2]
      have hdm : s + b + c = a + B * d := by
        rw [hs, hd, hBe]
        have := Nat.mod_add_div t 4294967296
        rcases (show t / 4294967296 = 0 ∨ t / 4294967296 = 1 by omega) with h | h
        · rw [h] at this ⊢; omega
        · rw [h] at this ⊢; omega
      simp only [val, Nat.pow_succ]
      have e3 : B ^ i * (s + b + c) = B ^ i * (a + B * d) := by rw [hdm]
      simp only [Nat.mul_zero, Nat.add_zero, Nat.mul_add, Nat.mul_assoc] at e3 ⊢
      omega)
    simpa [f169_0m] using this
theorem run_taken {x y : Nat} (hx : size x ≤ Lim) (hyx : y ≤ x) : callPure RT 169 [N x, N y] = some (N (x - y)) := by
  refine callPure_of (wpF_of tab_169 rfl ?_)
  have hL : Lim = 1099511627776 := rfl
  have hy : size y ≤ size x := size_mono hyx
  unfold size at hx hy
  obtain ⟨n, hn⟩ : ∃ n, n = (dig x).length := ⟨_, rfl⟩
  have hroom : room n 4 := by unfold room; omega
  have hln : (n : Int) ≤ 281474976710656 := by omega
  simp only [f169, enter_eq]
  simp [← hn, hroom]
  refine ⟨by omega, ?_⟩
  simp [head, mask, f169_0m]
  have hst : List.replicate n (AV.int .u32 0) = wds ([] ++ List.replicate n 0) := wds_rep n 0
  rw [hst]
  refine taken_loop (dig_wd x) (dig_wd y) hx (by omega) hn ?_ n 0 (by omega) [] 0 rfl Wd.nil (by omega) (by simp [val])
  intro tm hl ds b h5 hds hwd hb he
  rw [List.take_of_length_le (by omega), val_dig, val_dig] at he
  have hlt := val_lt hwd
  rw [hds] at hlt
  have hb0 : b = 0 := by
    rcases Nat.lt_or_ge b 1 with h | h
    · omega
    · have : b = 1 := by omega
      subst this
      simp only [Nat.mul_one] at he
      omega
  subst hb0
  have hv : val ds = x - y := by simp only [Nat.mul_zero, Nat.add_zero] at he; omega
  have hnorm := run_trim (t := false) hwd (by omega)
  rw [hv] at hnorm
  have hfz : fzc [.mu (wds ds) true] (5 + 1) (.msl 0 0 n 1 n none) = some (W ds) := by
    have := fzc_mslv (S := [.mu (wds ds) true]) (b := 0) (n := n) (vl := n) (cap := none) (fuel := 5) rfl (by simp [hds]) (by simp [hds])
    rwa [List.take_of_length_le (by simp [hds])] at this
  simp [hl, h5, hfz, hnorm, after_row (S := [.mu (wds ds) true]) (b := 0) rfl (show (N (x - y)).bare = false from rfl)]
theorem compared_loop {xs ys : List Nat} (hx : Wd xs) (hy : Wd ys) (hlx : xs.length ≤ Lim) {n : Nat} (hnx : xs.length = n) (hny : ys.length = n) {Q : FQ}
    (hQe : ∀ (tm : List AV) (hl : tm.length = 41), xs = ys → Q (.ex 0) ⟨tm, []⟩) (hQr : ∀ (tm : List AV) (hl : tm.length = 41), tm[4] = .int .i64 (cmpI (val xs) (val ys)) → Q .ret ⟨tm, []⟩) :
    ∀ (m : Nat), m ≤ n → xs.drop m = ys.drop m →
    wpL RT f168_0m 0 f168_0 ⟨[.sl (wds xs) 1 false, .sl (wds ys) 1 false, .any, .any, .any, .int .i64 ((m : Int) - 1), .any, .any, .any, .any, .any, .any, .any, .any, .any, .any, .any, .any, .any, .any, .any, .any, .any, .any, .any, .any, .any, .any, .any, .any, .any, .any, .any, .any, .any, .any, .any, .any, .any, .any, .any], []⟩ Q := by
  have hL : Lim = 1099511627776 := rfl
  intro m
  induction m with
  | zero =>
    intro hi hd
    rw [wpL_step]
    generalize hK : loopQ RT f168_0m 0 f168_0 Q = K
    simp [f168_0]
    subst hK
    simp
    exact hQe _ rfl (by simpa using hd)
  | succ m ih =>
    intro hi hd
    rw [wpL_step]
    generalize hK : loopQ RT f168_0m 0 f168_0 Q = K
    have hge : (0 : Int) ≤ (m : Int) := by omega
    have hlt : (m : Int) < (xs.length : Int) := by omega
    have hlt2 : (m : Int) < (ys.length : Int) := by omega
    have hm1 : ((m + 1 : Nat) : Int) - 1 = (m : Int) := by omega
    rw [hm1]
    obtain ⟨a, ha⟩ : ∃ a, xs[m]? = some a := ⟨xs[m], List.getElem?_eq_getElem (by omega)⟩
    obtain ⟨b, hb⟩ : ∃ b, ys[m]? = some b := ⟨ys[m], List.getElem?_eq_getElem (by omega)⟩
    have hw1 : IntKind.i64.wrap ((m : Int) - 1) = (m : Int) - 1 := wrap_i64 (by omega) (by omega)
    rcases Nat.lt_trichotomy a b with h | h | h
    · have h' : (a : Int) < (b : Int) := by omega
      have hv := cmp_at hx ha hb hd h
      simp [f168_0, hlt, hlt2, ha, hb, h]
      subst hK
      simp
      exact hQr _ rfl (by simp [cmpI]; omega)
    · subst h
      simp [f168_0, hlt, hlt2, ha, hb, hw1]
      subst hK
      simp [head, f168_0m, mask]
      refine ih (by omega) ?_
      rw [List.drop_eq_getElem_cons (by omega : m < xs.length), List.drop_eq_getElem_cons (by omega : m < ys.length), hd]
      rw [List.getElem?_eq_getElem (by omega)] at ha hb
      rw [Option.some.inj ha, Option.some.inj hb]
    · have h' : (b : Int) < (a : Int) := by omega
      have h'' : ¬ a < b := by omega
      have hv := cmp_at hy hb ha hd.symm h
      simp [f168_0, hlt, hlt2, ha, hb, h, h'']
      subst hK
      simp
      exact hQr _ rfl (by simp [cmpI]; omega)
theorem run_compared {x y : Nat} (hx : size x ≤ Lim) : callPure RT 168 [N x, N y] = some (.int .i64 (cmpI x y)) := by
  refine callPure_of (wpF_of tab_168 rfl ?_)
  have hL : Lim = 1099511627776 := rfl
  unfold size at hx
  rcases Nat.lt_trichotomy (dig x).length (dig y).length with h | h | h
  · have hxy := size_lt (x := x) (y := y) h
    simp [f168, enter, h, cmpI]
    omega
  · have hw1 : IntKind.i64.wrap (((dig y).length : Int) - 1) = ((dig y).length : Int) - 1 := wrap_i64 (by omega) (by omega)
    simp [f168, enter, h, hw1]
    simp [head, f168_0m, mask]
    refine compared_loop (dig_wd x) (dig_wd y) hx h rfl ?_ ?_ (dig y).length (by omega) (by rw [List.drop_of_length_le (by omega), List.drop_of_length_le (by omega)])
    · intro tm hl he
      have hxy : x = y := by rw [← val_dig x, he, val_dig]
      subst hxy
      simp [hl, cmpI]
    · intro tm hl h4
      rw [val_dig, val_dig] at h4
      simp [hl, h4]
  · have hxy := size_lt (x := y) (y := x) h
    have h' : ¬ (dig x).length < (dig y).length := by omega
    simp [f168, enter, h, h', cmpI]
    omega
theorem times_inner {xs ys : List Nat} (hx : Wd xs) (hy : Wd ys) (hlx : xs.length ≤ Lim) (hly : ys.length ≤ Lim) {i a L : Nat} (hai : xs[i]? = some a) (hL' : L ≤ 2 * Lim) (hiL : i + ys.length < L) {out0 : List Nat} (hl0 : out0.length = L) {Q : FQ}
    (hQ : ∀ (tm : List AV) (hl : tm.length = 69) (out : List Nat) (c : Nat), tm[0] = .sl (wds xs) 1 false → tm[1] = .sl (wds ys) 1 false → tm[5] = .msl 0 0 L 1 L none → tm[6] = .int .i64 (i : Int) → tm[7] = .int .u64 (c : Int) →
      out.length = L → Wd out → c < B → val out + B ^ (i + ys.length) * c = val out0 + B ^ i * (a * val ys) → (∀ j, i + ys.length ≤ j → out[j]? = out0[j]?) → Q (.ex 2) ⟨tm, [.mu (wds out) true]⟩) :
    ∀ (m k : Nat), k + m = ys.length → ∀ (out : List Nat) (c : Nat), out.length = L → Wd out → c < B → val out + B ^ (i + k) * c = val out0 + B ^ i * (a * val (ys.take k)) → (∀ j, i + k ≤ j → out[j]? = out0[j]?) →
    wpL RT f162_0m 1 f162_0 ⟨[.sl (wds xs) 1 false, .sl (wds ys) 1 false, .any, .any, .any, .msl 0 0 L 1 L none, .int .i64 (i : Int), .int .u64 (c : Int), .int .i64 (k : Int),
      .any, .any, .any, .any, .any, .any, .any, .any, .any, .any, .any, .any, .any, .any, .any, .any, .any, .any, .any, .any, .any, .any, .any, .any, .any, .any, .any, .any, .any, .any, .any, .any, .any, .any, .any, .any, .any, .any, .any, .any, .any, .any, .any, .any, .any, .any, .any, .any, .any, .any, .any, .any, .any, .any, .any, .any, .any, .any, .any, .any], [.mu (wds out) true]⟩ Q := by
  have hL : Lim = 1099511627776 := rfl
  intro m
  induction m with
  | zero =>
    intro k hk out c hlo hwo hc he hsame
    have hk' : k = ys.length := by omega
    subst hk'
    rw [wpL_step]
    generalize hK : loopQ RT f162_0m 1 f162_0 Q = K
    simp [f162_0]
    subst hK
    rw [List.take_of_length_le (Nat.le_refl _)] at he
    simp
    exact hQ _ rfl out c rfl rfl rfl rfl rfl hlo hwo hc he hsame
  | succ m ih =>
    intro k hk out c hlo hwo hc he hsame
    rw [wpL_step]
    generalize hK : loopQ RT f162_0m 1 f162_0 Q = K
    have hlt : (k : Int) < (ys.length : Int) := by omega
    obtain ⟨b, hb⟩ : ∃ b, ys[k]? = some b := ⟨ys[k], List.getElem?_eq_getElem (by omega)⟩
    have hbB : b < B := hy.get hb
    have ha : a < B := hx.get hai
    have hil := (List.getElem?_eq_some_iff.1 hai).1
    have hlti : (i : Int) < (xs.length : Int) := by omega
    obtain ⟨w, hw⟩ : ∃ w, out[i + k]? = some w := ⟨out[i + k], List.getElem?_eq_getElem (by omega)⟩
    have hwB : w < B := hwo.get hw
    have hwik : IntKind.i64.wrap ((i : Int) + (k : Int)) = ((i + k : Nat) : Int) := wrap_i64 (by omega) (by omega)
    have hwk : IntKind.i64.wrap ((k : Int) + 1) = ((k + 1 : Nat) : Int) := wrap_i64 (by omega) (by omega)
    have hab : a * b ≤ (B - 1) * (B - 1) := Nat.mul_le_mul (by omega) (by omega)
    have hB : B = 4294967296 := rfl
    rw [hB] at hab ha hbB hwB hc
    have hrd := rd_word (S := [.mu (wds out) true]) (b := 0) (i := i + k) (vl := L) rfl hlo.symm (by omega)
    have hwe : out[i + k] = w := by rw [List.getElem?_eq_getElem (by omega)] at hw; exact Option.some.inj hw
    rw [hwe] at hrd
    obtain ⟨s, hs⟩ : ∃ s, s = c + (a * b + w) := ⟨_, rfl⟩
    obtain ⟨lo, hlo'⟩ : ∃ lo, lo = s % 4294967296 := ⟨_, rfl⟩
    obtain ⟨hi, hhi⟩ : ∃ hi, hi = s / 4294967296 := ⟨_, rfl⟩
    obtain ⟨p, hp⟩ : ∃ p, p = a * b := ⟨_, rfl⟩
    have hpz : (a : Int) * (b : Int) = (p : Int) := by rw [hp]; push_cast; rfl
    rw [← hp] at hab hs
    have ea : (a : Int) % 18446744073709551616 = a := by omega
    have eb : (b : Int) % 18446744073709551616 = b := by omega
    have ew : (w : Int) % 18446744073709551616 = w := by omega
    have e1 : (p : Int) % 18446744073709551616 = (p : Int) := by omega
    have e2 : ((p : Int) + w) % 18446744073709551616 = (p : Int) + w := by omega
    have e3 : ((p : Int) + w + (c : Int)) % 18446744073709551616 = (s : Int) := by omega
    have e4 := tmod_word s
    rw [← hlo'] at e4
    have e4' : (lo : Int) % 4294967296 = (lo : Int) := by omega
    have e5 : (s : Int) / 4294967296 % 18446744073709551616 = (hi : Int) := by omega
    have e5' : (s : Int) / 4294967296 = (hi : Int) := by omega
    have e5'' : (hi : Int) % 18446744073709551616 = (hi : Int) := by omega
    have hwr := wr_word (S := [.mu (wds out) true]) (b := 0) (i := i + k) (vl := L) (w := lo) rfl hlo.symm (by omega)
    have htn : ((i : Int) + (k : Int)).toNat = i + k := by omega
    have hb1 : (0 : Int) ≤ (i : Int) + (k : Int) := by omega
    have hb2 : (i : Int) + (k : Int) < (L : Int) := by omega
    simp [f162_0, hlt, hlti, hai, hb, hwik, hwk, wrap_u64, wrap_u32, ea, eb, hpz, e1, ew, e2, e3, e4, e4', e5', htn, hb1, hb2, hrd]
    rw [hwr]
    simp [hwk, wrap_u64, e5', e5'']
    subst hK
    simp [head, f162_0m, mask]
    have hsB : lo < B := by rw [hB]; omega
    have hval := val_set (w' := lo) hw
    have e6 := val_take_succ ys k
    have hgb : ys.getD k 0 = b := by rw [List.getD_eq_getElem?_getD, hb]; rfl
    rw [hgb] at e6
    have := ih (k + 1) (by omega) (out.set (i + k) lo) hi (by simp [hlo]) (hwo.set hsB) (by rw [hB]; omega) (by
      rw [e6]
      have hdm : lo + B * hi = c + (p + w) := by rw [hB]; omega
      have e7 : B ^ (i + k) * (lo + B * hi) = B ^ (i + k) * (c + (p + w)) := by rw [hdm]
      rw [hp] at e7
      simp only [Nat.mul_add, Nat.pow_add, Nat.pow_succ, Nat.pow_zero, Nat.one_mul, Nat.mul_one] at e7 he hval ⊢
      have e8 : B ^ i * (a * (B ^ k * b)) = B ^ i * B ^ k * (a * b) := by
        rw [Nat.mul_assoc (B ^ i), Nat.mul_left_comm a]
      rw [e8]
      have e9 : B ^ i * (B ^ k * B) * hi = B ^ i * B ^ k * (B * hi) := by
        rw [← Nat.mul_assoc (B ^ i), Nat.mul_assoc (B ^ i * B ^ k)]
      rw [e9]
      omega) (fun j hj => by rw [List.getElem?_set_ne (by omega)]; exact hsame j (by omega))
    simpa [f162_0m] using this
theorem times_outer {xs ys : List Nat} (hx : Wd xs) (hy : Wd ys) (hlx : xs.length ≤ Lim) (hly : ys.length ≤ Lim) {L n : Nat} (hn : n = xs.length) (hLe : L = n + ys.length) {Q : FQ}
    (hQ : ∀ (tm : List AV) (hl : tm.length = 69) (out : List Nat), tm[5] = .msl 0 0 L 1 L none → out.length = L → Wd out → val out = val xs * val ys → Q (.ex 0) ⟨tm, [.mu (wds out) true]⟩) :
    ∀ (m i : Nat), i + m = n → ∀ (out : List Nat), out.length = L → Wd out → val out = val (xs.take i) * val ys →
    wpL RT f162_1m 1 f162_1 ⟨[.sl (wds xs) 1 false, .sl (wds ys) 1 false, .any, .any, .any, .msl 0 0 L 1 L none, .int .i64 (i : Int), .any, .any,
      .any, .any, .any, .any, .any, .any, .any, .any, .any, .any, .any, .any, .any, .any, .any, .any, .any, .any, .any, .any, .any, .any, .any, .any, .any, .any, .any, .any, .any, .any, .any, .any, .any, .any, .any, .any, .any, .any, .any, .any, .any, .any, .any, .any, .any, .any, .any, .any, .any, .any, .any, .any, .any, .any, .any, .any, .any, .any, .any, .any], [.mu (wds out) true]⟩ Q := by
  have hL : Lim = 1099511627776 := rfl
  intro m
  induction m with
  | zero =>
    intro i hi out hlo hwo he
    have hi' : i = n := by omega
    subst hi'
    rw [wpL_step]
    generalize hK : loopQ RT f162_1m 1 f162_1 Q = K
    simp [f162_1, hn]
    subst hK
    rw [List.take_of_length_le (by omega)] at he
    simp
    exact hQ _ rfl out rfl hlo hwo he
  | succ m ih =>
    intro i hi out hlo hwo he
    rw [wpL_step]
    generalize hK : loopQ RT f162_1m 1 f162_1 Q = K
    have hlt : (i : Int) < (xs.length : Int) := by omega
    obtain ⟨a, hget⟩ : ∃ a, xs[i]? = some a := ⟨xs[i], List.getElem?_eq_getElem (by omega)⟩
    have haB : a < B := hx.get hget
    have hwi : IntKind.i64.wrap ((i : Int) + 1) = ((i + 1 : Nat) : Int) := wrap_i64 (by omega) (by omega)
    simp [f162_1, hlt]
    simp [head, mask, f162_0m]
    have hin := fun (Q' : FQ) => times_inner (xs := xs) (Q := Q') hx hy hlx hly (i := i) (a := a) (L := L) hget (by omega) (by omega) hlo
    refine hin _ ?_ ys.length 0 (by omega) out 0 hlo hwo (by decide) (by simp [val]) (fun j _ => rfl)
    intro tm hl out2 c h0 h1 h5 h6 h7 hlo2 hwo2 hc he2 hsame
    have hwil : IntKind.i64.wrap ((i : Int) + (ys.length : Int)) = (i : Int) + (ys.length : Int) := wrap_i64 (by omega) (by omega)
    have htn : ((i : Int) + (ys.length : Int)).toNat = i + ys.length := by omega
    have hb1 : (0 : Int) ≤ (i : Int) + (ys.length : Int) := by omega
    have hb2 : (i : Int) + (ys.length : Int) < (L : Int) := by omega
    have hB : B = 4294967296 := rfl
    have ec : (c : Int) % 4294967296 = (c : Int) := by rw [hB] at hc; omega
    have hwr := wr_word (S := [.mu (wds out2) true]) (b := 0) (i := i + ys.length) (vl := L) (w := c) rfl hlo2.symm (by omega)
    simp [hl, h0, h1, h5, h6, h7, hwil, wrap_u32, ec, htn, hb1, hb2]
    rw [hwr]
    simp [hl, h0, h1, h5, h6, h7, hwi]
    subst hK
    simp only [loopQ_nrm, head]
    rw [mask_of (n := 69) (by simp [hl])]
    simp [f162_1m, hl, h0, h1, h5, List.range_succ]
    obtain ⟨w0, hw0⟩ : ∃ w0, out2[i + ys.length]? = some w0 := ⟨out2[i + ys.length], List.getElem?_eq_getElem (by omega)⟩
    have hw00 : w0 = 0 := by
      have h1' := hsame (i + ys.length) (Nat.le_refl _)
      rw [hw0] at h1'
      have h2 := val_ge h1'.symm
      have h3 := val_take_lt hx (k := i) (by omega)
      have h4 := val_lt hy
      have h5' : val out < B ^ (i + ys.length) := by
        rw [he, Nat.pow_add]
        exact Nat.mul_lt_mul'' h3 h4
      refine Classical.byContradiction fun hne => ?_
      have : B ^ (i + ys.length) * 1 ≤ B ^ (i + ys.length) * w0 := Nat.mul_le_mul_left _ (by omega)
      omega
    subst hw00
    have hvs := val_set (w' := c) hw0
    have e6 := val_take_succ xs i
    have hga : xs.getD i 0 = a := by rw [List.getD_eq_getElem?_getD, hget]; rfl
    rw [hga] at e6
    have := ih (i + 1) (by omega) (out2.set (i + ys.length) c) (by simp [hlo2]) (hwo2.set hc) (by
      rw [e6, Nat.add_mul, ← he, Nat.mul_assoc]
      omega)
    simpa [f162_1m] using this
theorem run_times {x y : Nat} (hx : size x ≤ Lim) (hy : size y ≤ Lim) : callPure RT 162 [N x, N y] = some (N (x * y)) := by
  refine callPure_of (wpF_of tab_162 rfl ?_)
  have hL : Lim = 1099511627776 := rfl
  unfold size at hx hy
  obtain ⟨n, hn⟩ : ∃ n, n = (dig x).length := ⟨_, rfl⟩
  obtain ⟨L, hLe⟩ : ∃ L, L = n + (dig y).length := ⟨_, rfl⟩
  have hw : IntKind.i64.wrap ((n : Int) + ((dig y).length : Int)) = (L : Int) := by
    have : (n : Int) + ((dig y).length : Int) = L := by omega
    rw [this]; exact wrap_i64 (by omega) (by omega)
  have hroom : room L 4 := by unfold room; omega
  have hln : (L : Int) ≤ 281474976710656 := by omega
  simp only [f162, enter_eq]
  simp [← hn, hw, hroom]
  refine ⟨by omega, ?_⟩
  simp [head, mask, f162_1m]
  have hst : List.replicate L (AV.int .u32 0) = wds (List.replicate L 0) := wds_rep L 0
  rw [hst]
  refine times_outer (dig_wd x) (dig_wd y) hx hy hn hLe ?_ n 0 (by omega) (List.replicate L 0) (by simp) (Wd.rep (by decide)) (by simp [val, val_rep0])
  intro tm hl out h5 hlo hwo he
  rw [val_dig, val_dig] at he
  have hnorm := run_trim (t := false) hwo (by omega)
  rw [he] at hnorm
  have hfz : fzc [.mu (wds out) true] (5 + 1) (.msl 0 0 L 1 L none) = some (W out) := by
    have := fzc_mslv (S := [.mu (wds out) true]) (b := 0) (n := L) (vl := L) (cap := none) (fuel := 5) rfl hlo.symm (by omega)
    rwa [List.take_of_length_le (by omega)] at this
  simp [hl, h5, hfz, hnorm, after_row (S := [.mu (wds out) true]) (b := 0) rfl (show (N (x * y)).bare = false from rfl)]
theorem run_Mul1 {i j : Int} (hi : 2 * zsize i ≤ Lim) (hj : 2 * zsize j ≤ Lim) : callPure RT 154 [Z i, Z j] = some (Z (i * j)) := by
  refine callPure_of (wpF_of tab_154 rfl ?_)
  unfold zsize at hi hj
  have hm := run_times (x := i.natAbs) (y := j.natAbs) (by omega) (by omega)
  have hsz : size (i.natAbs * j.natAbs) ≤ Lim := by
    have := size_mul_le (x := i.natAbs) (y := j.natAbs)
    omega
  have hs := run_madeN (t := false) (neg := decide (i < 0) != decide (j < 0)) hsz
  have hz : (if (decide (i < 0) != decide (j < 0)) = true then -((i.natAbs * j.natAbs : Nat) : Int) else ((i.natAbs * j.natAbs : Nat) : Int)) = i * j := by
    rw [← Int.natAbs_mul]
    rcases Int.lt_or_le i 0 with h1 | h1 <;> rcases Int.lt_or_le j 0 with h2 | h2
    · have := Int.mul_pos_of_neg_of_neg h1 h2
      simp [h1, h2]; omega
    · have := Int.mul_nonneg (show 0 ≤ -i by omega) h2
      rw [Int.neg_mul] at this
      have h3 : ¬ j < 0 := by omega
      simp [h1, h3]; omega
    · have := Int.mul_nonneg h1 (show 0 ≤ -j by omega)
      rw [Int.mul_neg] at this
      have h3 : ¬ i < 0 := by omega
      simp [h2, h3]; omega
    · have := Int.mul_nonneg h1 h2
      have h3 : ¬ j < 0 := by omega
      have h4 : ¬ i < 0 := by omega
      simp [h3, h4]; omega
  rw [hz] at hs
  simp only [f154, enter_eq]
  simp [Z_cells i, Z_cells j, rd, wr, chk, splice]
  simp [hm, after_nr, rd, wr, chk, splice]
  simp [hs, Z_cells, after_nr, rd, wr, chk, splice]
theorem run_Add1 {i j : Int} (hi : zsize i < Lim) (hj : zsize j < Lim) : callPure RT 164 [Z i, Z j] = some (Z (i + j)) := by
  refine callPure_of (wpF_of tab_164 rfl ?_)
  have hL : Lim = 1099511627776 := rfl
  unfold zsize at hi hj
  have hadd := run_added (x := i.natAbs) (y := j.natAbs) (by omega) (by omega)
  have hcmp := run_compared (x := i.natAbs) (y := j.natAbs) (by omega)
  have hsz : size (i.natAbs + j.natAbs) ≤ Lim := by
    have := size_add_le (x := i.natAbs) (y := j.natAbs) (k := Lim - 1) (by omega) (by omega)
    omega
  simp only [f164, enter_eq]
  by_cases hs : decide (i < 0) = decide (j < 0)
  · have hsg := run_madeN (t := false) (neg := decide (j < 0)) hsz
    have hz : (if decide (j < 0) = true then -((i.natAbs + j.natAbs : Nat) : Int) else ((i.natAbs + j.natAbs : Nat) : Int)) = i + j := by
      by_cases h1 : i < 0 <;> by_cases h2 : j < 0 <;> simp [h1, h2] at hs ⊢ <;> omega
    rw [hz] at hsg
    simp [Z_cells, hs, rd, wr, chk, splice]
    simp [hadd, after_nr, rd, wr, chk, splice]
    simp [hsg, Z_cells, after_nr, rd, wr, chk, splice]
  · by_cases hlt : i.natAbs < j.natAbs
    · have hc : cmpI i.natAbs j.natAbs < 0 := by unfold cmpI; rw [if_pos (by omega)]; decide
      have hsub := run_taken (x := j.natAbs) (y := i.natAbs) (by omega) (by omega)
      have hsg := run_madeN (t := false) (neg := decide (j < 0)) (n := j.natAbs - i.natAbs) (Nat.le_trans (size_mono (Nat.sub_le _ _)) (by omega))
      have hz : (if decide (j < 0) = true then -((j.natAbs - i.natAbs : Nat) : Int) else ((j.natAbs - i.natAbs : Nat) : Int)) = i + j := by
        by_cases h1 : i < 0 <;> by_cases h2 : j < 0 <;> simp [h1, h2] at hs ⊢ <;> omega
      rw [hz] at hsg
      have hs' : (decide (i < 0) == decide (j < 0)) = false := by simpa using hs
      simp [Z_cells, rd, wr, chk, splice]
      simp [hs', hcmp, hc, after_nr, rd, wr, chk, splice]
      simp [hsub, after_nr, rd, wr, chk, splice]
      simp [hsg, Z_cells, after_nr, rd, wr, chk, splice]
    · have hc : ¬ cmpI i.natAbs j.natAbs < 0 := by unfold cmpI; rw [if_neg (by omega)]; split <;> decide
      have hsub := run_taken (x := i.natAbs) (y := j.natAbs) (by omega) (by omega)
      have hsg := run_madeN (t := false) (neg := decide (i < 0)) (n := i.natAbs - j.natAbs) (Nat.le_trans (size_mono (Nat.sub_le _ _)) (by omega))
      have hz : (if decide (i < 0) = true then -((i.natAbs - j.natAbs : Nat) : Int) else ((i.natAbs - j.natAbs : Nat) : Int)) = i + j := by
        by_cases h1 : i < 0 <;> by_cases h2 : j < 0 <;> simp [h1, h2] at hs ⊢ <;> omega
      rw [hz] at hsg
      have hs' : (decide (i < 0) == decide (j < 0)) = false := by simpa using hs
      simp [Z_cells, rd, wr, chk, splice]
      simp [hs', hcmp, hc, after_nr, rd, wr, chk, splice]
      simp [hsub, after_nr, rd, wr, chk, splice]
      simp [hsg, Z_cells, after_nr, rd, wr, chk, splice]
theorem tmod_nat (a b : Nat) : (a : Int).tmod (b : Int) = ((a % b : Nat) : Int) := by
  rw [Int.tmod_eq_emod_of_nonneg (by omega)]; push_cast; rfl
theorem tdiv_nat (a b : Nat) : (a : Int).tdiv (b : Int) = ((a / b : Nat) : Int) := by
  rw [Int.tdiv_eq_ediv_of_nonneg (by omega)]; push_cast; rfl
theorem euclid_loop {Q : FQ} {x0 y0 : Nat} (hQ : ∀ (tm : List AV) (hl : tm.length = 14), tm[0] = .int .u64 ((Nat.gcd x0 y0 : Nat) : Int) → Q (.ex 0) ⟨tm, []⟩) :
    ∀ (y x : Nat), Nat.gcd x y = Nat.gcd x0 y0 →
    wpL RT f170_0m 0 f170_0 ⟨[.int .u64 (x : Int), .int .u64 (y : Int)] ++ List.replicate 12 .any, []⟩ Q := by
  intro y
  induction y using Nat.strongRecOn with
  | _ y ih =>
    intro x hg
    by_cases h0 : y = 0
    · subst h0
      rw [Nat.gcd_zero_right] at hg
      rw [wpL_step]
      generalize hK : loopQ RT f170_0m 0 f170_0 Q = K
      simp [f170_0, List.replicate]
      subst hK
      exact hQ _ rfl (by simp [hg])
    · have hlt : x % y < y := Nat.mod_lt _ (by omega)
      have hih := ih (x % y) hlt y (by rw [← hg, Nat.gcd_comm x y, Nat.gcd_rec y x, Nat.gcd_comm])
      have hp : (0 : Int) < (y : Int) := by omega
      have hm := tmod_nat x y
      generalize x % y = r at *
      rw [wpL_step]
      generalize hK : loopQ RT f170_0m 0 f170_0 Q = K
      have hp2 : 0 < y := by omega
      simp [f170_0, List.replicate, hp2, h0, hm]
      subst hK
      simp [head, f170_0m, mask, trunc_len]
      simpa [f170_0m, List.replicate] using hih
theorem run_euclid (x y : Nat) : callPure RT 170 [.int .u64 (x : Int), .int .u64 (y : Int)] = some (.int .u64 ((Nat.gcd x y : Nat) : Int)) := by
  refine callPure_of (wpF_of tab_170 rfl ?_)
  simp [f170, enter]
  simp [head, f170_0m, mask]
  refine euclid_loop (x0 := x) (y0 := y) ?_ y x rfl
  intro tm hl h0
  simp [hl, h0]
theorem shortly_loop {xs : List Nat} (hx : Wd xs) (hlx : xs.length ≤ Lim) {n d : Nat} (hn : n = xs.length) (hd : d ≤ B) (hd0 : 0 < d) {Q : FQ}
    (hQ : ∀ (tm : List AV) (hl : tm.length = 41) (ds : List Nat) (r : Nat), tm[6] = .msl 0 0 n 1 n none → tm[7] = .int .u64 (r : Int) → ds.length = n → Wd ds → r < d → val ds * d + r = val xs → Q (.ex 0) ⟨tm, [.mu (wds ds) true]⟩) :
    ∀ (m i : Nat), i + m = n → ∀ (ds : List Nat) (r : Nat), ds.length = i → Wd ds → r < d → val ds * d + r = val (xs.drop m) →
    wpL RT f174_0m 1 f174_0 ⟨[.sl (wds xs) 1 false, .int .u64 (d : Int), .any, .any, .any, .any, .msl 0 0 n 1 n none, .int .u64 (r : Int), .int .i64 ((m : Int) - 1), .any, .any, .any, .any, .any,
      .any, .any, .any, .any, .any, .any, .any, .any, .any, .any, .any, .any, .any, .any, .any, .any, .any, .any, .any, .any, .any, .any, .any, .any, .any, .any, .any], [.mu (wds (List.replicate m 0 ++ ds)) true]⟩ Q := by
  have hL : Lim = 1099511627776 := rfl
  intro m
  induction m with
  | zero =>
    intro i hi ds r hds hwd hr he
    have hi' : i = n := by omega
    subst hi'
    rw [wpL_step]
    generalize hK : loopQ RT f174_0m 1 f174_0 Q = K
    simp [f174_0]
    subst hK
    exact hQ _ rfl ds r rfl rfl hds hwd hr (by simpa using he)
  | succ m ih =>
    intro i hi ds r hds hwd hr he
    rw [wpL_step]
    generalize hK : loopQ RT f174_0m 1 f174_0 Q = K
    have hB : B = 4294967296 := rfl
    have hm1 : ((m + 1 : Nat) : Int) - 1 = (m : Int) := by omega
    rw [hm1]
    have hlt : (m : Int) < (xs.length : Int) := by omega
    have hlt2 : (m : Int) < (n : Int) := by omega
    obtain ⟨a, hget⟩ : ∃ a, xs[m]? = some a := ⟨xs[m], List.getElem?_eq_getElem (by omega)⟩
    have haB : a < B := hx.get hget
    have hw1 : IntKind.i64.wrap ((m : Int) - 1) = (m : Int) - 1 := wrap_i64 (by omega) (by omega)
    obtain ⟨t, ht⟩ : ∃ t, t = r * B + a := ⟨_, rfl⟩
    have hrB : (r + 1) * B ≤ d * B := Nat.mul_le_mul_right _ hr
    have hdB : d * B ≤ B * B := Nat.mul_le_mul_right _ hd
    rw [Nat.succ_mul] at hrB
    have htB : t < d * B := by omega
    obtain ⟨q, hq⟩ : ∃ q, q = t / d := ⟨_, rfl⟩
    obtain ⟨r', hr'⟩ : ∃ r', r' = t % d := ⟨_, rfl⟩
    have hqB : q < B := by
      rw [hq]
      exact Nat.div_lt_of_lt_mul htB
    have htd := tdiv_nat t d
    have htm := tmod_nat t d
    have hdiv : (t : Int) / (d : Int) = (q : Int) := by rw [hq]; push_cast; rfl
    rw [← hq] at htd
    rw [← hr'] at htm
    have g0 : (a : Int) % 18446744073709551616 = (a : Int) := by rw [hB] at haB; omega
    have g1 : (r : Int) * 4294967296 % 18446744073709551616 = (r : Int) * 4294967296 := by rw [hB] at hrB hdB htB; omega
    have g2 : ((r : Int) * 4294967296 + (a : Int)) % 18446744073709551616 = (t : Int) := by rw [hB] at ht hrB hdB htB; omega
    have g3 : (q : Int) % 18446744073709551616 = (q : Int) := by rw [hB] at hqB; omega
    have g4 : (q : Int) % 4294967296 = (q : Int) := by rw [hB] at hqB; omega
    have hwr := wr_word (S := [.mu (wds (List.replicate (m + 1) 0 ++ ds)) true]) (b := 0) (i := m) (vl := n) (w := q) rfl (by simp; omega) (by simp; omega)
    have hset : (List.replicate (m + 1) 0 ++ ds).set m q = List.replicate m 0 ++ (q :: ds) := by
      rw [List.replicate_succ', List.append_assoc, List.set_append_right _ _ (by simp)]
      simp
    rw [hset] at hwr
    have hd0' : ¬ d = 0 := by omega
    simp [f174_0, hlt, hlt2, hget, wrap_u64, wrap_u32, g0, g1, g2, htd, hdiv, g3, g4, hd0']
    rw [hwr]
    simp [hw1, hd0', htm]
    subst hK
    simp [head, f174_0m, mask]
    have hdm := Nat.div_add_mod t d
    rw [← hq, ← hr'] at hdm
    have := ih (i + 1) (by omega) (q :: ds) r' (by simp [hds]) (Wd.mk hqB hwd) (by rw [hr']; exact Nat.mod_lt _ hd0) (by
      rw [List.drop_eq_getElem_cons (show m < xs.length by omega)]
      have e1 : xs[m] = a := (List.getElem?_eq_some_iff.1 hget).2
      rw [e1]
      simp only [val]
      rw [← he, Nat.add_mul, Nat.mul_add, Nat.mul_assoc, Nat.mul_comm B r, Nat.mul_comm q d]
      omega)
    simpa [f174_0m] using this
theorem run_shortly {x d : Nat} (hx : size x ≤ Lim) (hd : d ≤ B) (hd0 : 0 < d) : callPure RT 174 [N x, .int .u64 (d : Int)] = some (.tup [N (x / d), .int .u64 ((x % d : Nat) : Int)]) := by
  obtain ⟨r0, hr0⟩ : ∃ r0, r0 = x % d := ⟨_, rfl⟩
  rw [← hr0]
  refine callPure_of (wpF_of tab_174 rfl ?_)
  have hL : Lim = 1099511627776 := rfl
  unfold size at hx
  obtain ⟨n, hn⟩ : ∃ n, n = (dig x).length := ⟨_, rfl⟩
  have hroom : room n 4 := by unfold room; omega
  have hw1 : IntKind.i64.wrap ((n : Int) - 1) = (n : Int) - 1 := wrap_i64 (by omega) (by omega)
  simp only [f174, enter_eq]
  simp [← hn, hroom, hw1]
  refine ⟨by omega, ?_⟩
  simp [head, mask, f174_0m]
  have hst : List.replicate n (AV.int .u32 0) = wds (List.replicate n 0 ++ []) := by rw [List.append_nil]; exact wds_rep n 0
  rw [hst]
  refine shortly_loop (dig_wd x) hx hn hd hd0 ?_ n 0 (by omega) [] 0 rfl Wd.nil hd0 (by rw [List.drop_of_length_le (by omega)]; simp [val])
  intro tm hl ds r h6 h7 hds hwd hr he
  rw [val_dig] at he
  have hq : val ds = x / d := by
    rw [← he, Nat.mul_comm, Nat.mul_add_div hd0, Nat.div_eq_of_lt hr, Nat.add_zero]
  have hr2 : r = x % d := by
    rw [← he, Nat.mul_comm, Nat.mul_add_mod, Nat.mod_eq_of_lt hr]
  have hnorm := run_trim (t := false) hwd (by omega)
  rw [hq] at hnorm
  have hfz : fzc [.mu (wds ds) true] (5 + 1) (.msl 0 0 n 1 n none) = some (W ds) := by
    have := fzc_mslv (S := [.mu (wds ds) true]) (b := 0) (n := n) (vl := n) (cap := none) (fuel := 5) rfl hds.symm (by omega)
    rwa [List.take_of_length_le (by omega)] at this
  rw [hr0, ← hr2]
  generalize x / d = z at *
  simp [hl, h6, h7, hfz, hnorm, after_row (S := [.mu (wds ds) true]) (b := 0) rfl (show (N z).bare = false from rfl)]
theorem guess_hi {g vt v2 rest xt x2 X V P vl xl Bv : Nat} (hB : 0 < Bv) (hg : g < Bv) (hv2 : v2 < Bv) (hx : g * vt + rest = xt) (hc : Bv ≤ rest ∨ g * v2 ≤ rest * Bv + x2) (hvt : 0 < vt)
    (hV : V = (vt * Bv + v2) * P + vl) (hvl : vl < P) (hX : X = (xt * Bv + x2) * P + xl) : g ≤ X / V + 1 := by
  have h1 : g * v2 ≤ rest * Bv + x2 := by
    rcases hc with h | h
    · have a1 : g * v2 ≤ Bv * Bv := Nat.mul_le_mul (Nat.le_of_lt hg) (Nat.le_of_lt hv2)
      have a2 : Bv * Bv ≤ rest * Bv := Nat.mul_le_mul_right _ h
      omega
    · exact h
  have h2 : g * (vt * Bv + v2) ≤ xt * Bv + x2 := by
    rw [Nat.mul_add, ← Nat.mul_assoc, ← hx, Nat.add_mul]; omega
  have h3 : g * (vt * Bv + v2) * P ≤ (xt * Bv + x2) * P := Nat.mul_le_mul_right _ h2
  have h4 : g * V = g * (vt * Bv + v2) * P + g * vl := by rw [hV, Nat.mul_add, Nat.mul_assoc]
  have h5 : g * vl ≤ Bv * vl := Nat.mul_le_mul_right _ (Nat.le_of_lt hg)
  have h6 : Bv * vl < Bv * P := Nat.mul_lt_mul_of_pos_left hvl hB
  have h7 : Bv * P ≤ (vt * Bv + v2) * P := Nat.mul_le_mul_right _ (by
    have : 1 * Bv ≤ vt * Bv := Nat.mul_le_mul_right _ hvt
    omega)
  have hVp : 0 < V := by omega
  have h8 : g * V < X + V := by omega
  have h9 : X < (X / V + 1) * V := by
    rw [Nat.succ_mul, Nat.mul_comm]; have := Nat.div_add_mod X V; have := Nat.mod_lt X hVp; omega
  refine Classical.byContradiction fun h => ?_
  have h10 : (X / V + 1 + 1) * V ≤ g * V := Nat.mul_le_mul_right _ (by omega)
  rw [Nat.succ_mul (X / V + 1)] at h10
  omega
set_option maxHeartbeats 2000000 in
set_option maxRecDepth 20000 in
theorem guess_loop {us vs : List Nat} {k X V xt vt v2 x2 vl xl : Nat} (hvs : Wd vs) (hn : vs.length = k + 2) (hul : us.length = k + 3) (hlen : us.length ≤ 2 * Lim)
    (hvt : vs[k + 1]? = some vt) (hv2 : vs[k]? = some v2) (hx2 : us[k]? = some x2) (hvt0 : 0 < vt) (hvtB : vt < B) (hv2B : v2 < B) (hx2B : x2 < B)
    (hV : V = (vt * B + v2) * B ^ k + vl) (hvl : vl < B ^ k) (hX : X = (xt * B + x2) * B ^ k + xl) (hxl : xl < B ^ k) (hXV : X < B * V) (hxt : xt < vt * B + B) (hxM : xt < 18446744073709551616) {Q : FQ}
    (hQ : ∀ (tm : List AV) (hl : tm.length = 75) (g : Nat), tm[7] = .int .u64 (g : Int) → X / V ≤ g → g ≤ X / V + 1 → g < B → Q (.ex 0) ⟨tm, []⟩) :
    ∀ (N g rest : Nat), g ≤ N → g * vt + rest = xt → X / V ≤ g → rest < B →
    wpL RT f175_0m 0 f175_0 ⟨[.sl (wds us) 1 false, .sl (wds vs) 1 false, .any, .any, .any, .int .i64 ((k + 2 : Nat) : Int), .any, .int .u64 (g : Int), .int .u64 (rest : Int)] ++ List.replicate 66 .any, []⟩ Q := by
  have hL : Lim = 1099511627776 := rfl
  have hB : B = 4294967296 := rfl
  have hVp : 0 < V := by
    rw [hV]
    have : 0 < (vt * B + v2) * B ^ k := Nat.mul_pos (Nat.lt_of_lt_of_le (Nat.mul_pos hvt0 (by decide)) (Nat.le_add_right _ _)) (Nat.pow_pos (by decide))
    omega
  have hV' : (vt * B + v2) * B ^ k ≤ V := by omega
  have hX' : X < (xt * B + x2 + 1) * B ^ k := by rw [Nat.succ_mul]; omega
  have hqB : X / V < B := (Nat.div_lt_iff_lt_mul hVp).2 hXV
  have hpos : 0 < vt * B + v2 := Nat.lt_of_lt_of_le (Nat.mul_pos hvt0 (by decide)) (Nat.le_add_right _ _)
  have e1 : IntKind.i64.wrap ((k : Int) + 2 - 2) = (k : Int) := by rw [wrap_i64 (by omega) (by omega)]; omega
  have e1' : IntKind.i64.wrap (k : Int) = (k : Int) := wrap_i64 (by omega) (by omega)
  have e1b : IntKind.i64.wrap ((k : Int) + 2 - 1) = (k : Int) + 1 := by rw [wrap_i64 (by omega) (by omega)]; omega
  have e1b' : IntKind.i64.wrap ((k : Int) + 1) = (k : Int) + 1 := wrap_i64 (by omega) (by omega)
  have hv2' : vs[k] = v2 := (List.getElem?_eq_some_iff.1 hv2).2
  have hvt' : vs[k + 1] = vt := (List.getElem?_eq_some_iff.1 hvt).2
  have hx2' : us[k]'(by omega) = x2 := (List.getElem?_eq_some_iff.1 hx2).2
  have f1 : (v2 : Int) % 18446744073709551616 = v2 := by omega
  have f1b : (vt : Int) % 18446744073709551616 = vt := by omega
  have f2 : (x2 : Int) % 18446744073709551616 = x2 := by omega
  have e4 : (k : Int) < (k : Int) + 3 := by omega
  have e5 : (k : Int) < (k : Int) + 2 := by omega
  have e6 : (k : Int) + 1 < (k : Int) + 2 := by omega
  have e7 : ((k : Int) + 1).toNat = k + 1 := by omega
  have e8 : (0 : Int) ≤ (k : Int) + 1 := by omega
  intro N
  induction N with
  | zero =>
    intro g rest hgN hx hge hrB
    have hg0 : g = 0 := by omega
    subst hg0
    have hfin := fun tm hl h7 => hQ tm hl 0 h7 hge (Nat.zero_le _) (by decide)
    obtain ⟨z, hz⟩ : ∃ z, z = rest * 4294967296 := ⟨_, rfl⟩
    have f3 : (rest : Int) * 4294967296 % 18446744073709551616 = (z : Int) := by rw [hB] at hrB; omega
    have f4 : ((z : Int) + (x2 : Int)) % 18446744073709551616 = ((z + x2 : Nat) : Int) := by rw [hB] at hrB hx2B; omega
    have f5 : ¬ (z : Int) + (x2 : Int) < 0 := by omega
    have f5' : ¬ (((z + x2 : Nat) : Int)) < 0 := by omega
    rw [wpL_step]
    generalize hK : loopQ RT f175_0m 0 f175_0 Q = K
    generalize hy : z + x2 = y at *
    simp [f175_0, List.replicate, e1, e1', hn, hul, hv2', hx2', wrap_u64, f1, f2, f3, f4, e4, e5, f5']
    subst hK
    exact hfin _ rfl rfl
  | succ N ih =>
    intro g rest hgN hx hge hrB
    have hgM : g < 18446744073709551616 := by
      have : g * 1 ≤ g * vt := Nat.mul_le_mul_left _ hvt0
      omega
    -- a round that takes one away
    have step : 1 ≤ g → X / V ≤ g - 1 → (rest + vt < B → wpL RT f175_0m 0 f175_0 ⟨[.sl (wds us) 1 false, .sl (wds vs) 1 false, .any, .any, .any, .int .i64 ((k + 2 : Nat) : Int), .any, .int .u64 ((g - 1 : Nat) : Int), .int .u64 ((rest + vt : Nat) : Int)] ++ List.replicate 66 .any, []⟩ Q) ∧
        (B ≤ rest + vt → ∀ (tm : List AV) (hl : tm.length = 75), tm[7] = .int .u64 ((g - 1 : Nat) : Int) → Q (.ex 0) ⟨tm, []⟩) := by
      intro hg1 hge1
      have hx1 : (g - 1) * vt + (rest + vt) = xt := by rw [← hx, pred_mul' (vt := vt) hg1, Nat.add_assoc, Nat.add_comm vt rest]
      refine ⟨fun h => ih (g - 1) (rest + vt) (by omega) hx1 hge1 h, fun h tm hl h7 => ?_⟩
      have hgB : g - 1 < B := by
        refine Classical.byContradiction fun hc => ?_
        have : B * vt ≤ (g - 1) * vt := Nat.mul_le_mul_right _ (by omega)
        rw [Nat.mul_comm B vt] at this
        omega
      exact hQ tm hl (g - 1) h7 hge1 (guess_hi (by decide) hgB hv2B hx1 (.inl h) hvt0 hV hvl hX) hgB
    by_cases c : g < B
    · rw [hB] at hrB hx2B hv2B
      obtain ⟨z, hz⟩ : ∃ z, z = rest * 4294967296 := ⟨_, rfl⟩
      obtain ⟨y, hy⟩ : ∃ y, y = z + x2 := ⟨_, rfl⟩
      have f3 : (rest : Int) * 4294967296 % 18446744073709551616 = (z : Int) := by omega
      have f4 : ((z : Int) + (x2 : Int)) % 18446744073709551616 = (y : Int) := by omega
      have hgv : g * v2 ≤ (B - 1) * (B - 1) := Nat.mul_le_mul (by omega) (by omega)
      rw [hB] at hgv
      obtain ⟨w, hw⟩ : ∃ w, w = g * v2 := ⟨_, rfl⟩
      rw [← hw] at hgv
      have f5 : (g : Int) * (v2 : Int) % 18446744073709551616 = (w : Int) := by
        have : (g : Int) * (v2 : Int) = (w : Int) := by rw [hw]; push_cast; rfl
        rw [this]; omega
      have hc1 : ¬ 4294967296 ≤ (g : Int) := by rw [hB] at c; omega
      have hc1' : ¬ 4294967296 ≤ g := by rw [hB] at c; omega
      by_cases c2 : y < w
      · have hg1 : 1 ≤ g := by
          refine Classical.byContradiction fun h => ?_
          have : g = 0 := by omega
          rw [this, Nat.zero_mul] at hw; omega
        have hzB : z = rest * B := by rw [hB]; exact hz
        have hst := est_step (Bv := B) hx hzB hy hw c2
        have hlt : X / V < g := est_lt hV' hX' hpos hst
        have st := step hg1 (by omega)
        have f7 : ((rest : Int) + (vt : Int)) % 18446744073709551616 = ((rest + vt : Nat) : Int) := by rw [hB] at hvtB; omega
        have f8 : ((g : Int) - 1) % 18446744073709551616 = ((g - 1 : Nat) : Int) := by omega
        have f9 : (y : Int) < (w : Int) := by omega
        generalize rest + vt = rv at *
        generalize g - 1 = g1 at *
        rw [wpL_step]
        generalize hK : loopQ RT f175_0m 0 f175_0 Q = K
        by_cases c3 : rv < B
        · have c3' : ¬ (4294967296 : Int) ≤ (rv : Int) := by rw [hB] at c3; omega
          simp [f175_0, List.replicate, hc1, hc1', e1, e1', e1b, e1b', hn, hul, hv2', hx2', hvt', wrap_u64, f1, f1b, f2, f3, f4, f5, e4, e5, e6, e7, e8, f7, f8, c2, c3']
          subst hK
          simp [head, f175_0m, mask, trunc_len]
          simpa [f175_0m, List.replicate] using st.1 c3
        · have c3' : (4294967296 : Int) ≤ (rv : Int) := by rw [hB] at c3; omega
          simp [f175_0, List.replicate, hc1, hc1', e1, e1', e1b, e1b', hn, hul, hv2', hx2', hvt', wrap_u64, f1, f1b, f2, f3, f4, f5, e4, e5, e6, e7, e8, f7, f8, c2, c3']
          subst hK
          exact st.2 (by omega) _ rfl rfl
      · have hfin := fun tm hl h7 => hQ tm hl g h7 hge (guess_hi (by decide) c (by rw [hB]; exact hv2B) hx (.inr (by rw [hB]; omega)) hvt0 hV hvl hX) c
        rw [wpL_step]
        generalize hK : loopQ RT f175_0m 0 f175_0 Q = K
        simp [f175_0, List.replicate, hc1, hc1', e1, e1', e1b, e1b', hn, hul, hv2', hx2', hvt', wrap_u64, f1, f1b, f2, f3, f4, f5, e4, e5, c2]
        subst hK
        exact hfin _ rfl rfl
    · have hg1 : 1 ≤ g := by omega
      have st := step hg1 (by omega)
      have f7 : ((rest : Int) + (vt : Int)) % 18446744073709551616 = ((rest + vt : Nat) : Int) := by rw [hB] at hvtB hrB; omega
      have f8 : ((g : Int) - 1) % 18446744073709551616 = ((g - 1 : Nat) : Int) := by omega
      have hc1' : (4294967296 : Int) ≤ (g : Int) := by rw [hB] at c; omega
      generalize rest + vt = rv at *
      generalize g - 1 = g1 at *
      rw [wpL_step]
      generalize hK : loopQ RT f175_0m 0 f175_0 Q = K
      by_cases c3 : rv < B
      · have c3' : ¬ (4294967296 : Int) ≤ (rv : Int) := by rw [hB] at c3; omega
        simp [f175_0, List.replicate, hc1', e1b, e1b', hn, hul, hvt', wrap_u64, f1b, e6, e7, e8, f7, f8, c3']
        subst hK
        simp [head, f175_0m, mask, trunc_len]
        simpa [f175_0m, List.replicate] using st.1 c3
      · have c3' : (4294967296 : Int) ≤ (rv : Int) := by rw [hB] at c3; omega
        simp [f175_0, List.replicate, hc1', e1b, e1b', hn, hul, hvt', wrap_u64, f1b, e6, e7, e8, f7, f8, c3']
        subst hK
        exact st.2 (by omega) _ rfl rfl
theorem val_two {vs : List Nat} {k vt v2 : Nat} (hn : vs.length = k + 2) (h1 : vs[k + 1]? = some vt) (h2 : vs[k]? = some v2) : val vs = (vt * B + v2) * B ^ k + val (vs.take k) := by
  have e1 := val_take_succ vs k
  have e2 := val_take_succ vs (k + 1)
  rw [List.getD_eq_getElem?_getD, h2] at e1
  rw [List.getD_eq_getElem?_getD, h1] at e2
  rw [List.take_of_length_le (by omega)] at e2
  simp only [Option.getD_some] at e1 e2
  rw [e2, e1, Nat.pow_succ, Nat.mul_comm (vt * B + v2), Nat.mul_add, Nat.mul_comm vt B, Nat.mul_assoc]
  omega
theorem val_three {vs : List Nat} {k v3 vt v2 : Nat} (hn : vs.length = k + 3) (h0 : vs[k + 2]? = some v3) (h1 : vs[k + 1]? = some vt) (h2 : vs[k]? = some v2) : val vs = ((v3 * B + vt) * B + v2) * B ^ k + val (vs.take k) := by
  have e1 := val_take_succ vs k
  have e2 : val (vs.take (k + 2)) = val (vs.take (k + 1)) + B ^ (k + 1) * vs.getD (k + 1) 0 := val_take_succ vs (k + 1)
  have e3 : val (vs.take (k + 3)) = val (vs.take (k + 2)) + B ^ (k + 2) * vs.getD (k + 2) 0 := val_take_succ vs (k + 2)
  rw [List.getD_eq_getElem?_getD, h2] at e1
  rw [List.getD_eq_getElem?_getD, h1] at e2
  rw [List.getD_eq_getElem?_getD, h0] at e3
  rw [List.take_of_length_le (by omega)] at e3
  simp only [Option.getD_some] at e1 e2 e3
  have p1 : B ^ (k + 1) = B ^ k * B := by rw [Nat.pow_succ]
  have p2 : B ^ (k + 2) = B ^ k * B * B := by rw [Nat.pow_succ, Nat.pow_succ]
  rw [p1] at e2
  rw [p2] at e3
  rw [e3, e2, e1]
  generalize B ^ k = P
  have : ((v3 * B + vt) * B + v2) * P = P * B * B * v3 + P * B * vt + P * v2 := by
    simp only [Nat.add_mul]
    simp only [Nat.mul_comm, Nat.mul_left_comm, Nat.mul_assoc]
  rw [this]; omega
theorem top_le {xn x1 x2 vt v2 P Bv V X vl xl : Nat} (hV : V = (vt * Bv + v2) * P + vl) (hX : X = ((xn * Bv + x1) * Bv + x2) * P + xl) (hvl : vl < P) (hv2 : v2 < Bv) (h : X < Bv * V) : xn ≤ vt := by
  refine Classical.byContradiction fun hc => ?_
  have h1 : (vt * Bv + v2 + 1) * P ≤ (vt * Bv + Bv) * P := Nat.mul_le_mul_right _ (by omega)
  have h2 : V < (vt + 1) * Bv * P := by
    rw [hV]
    rw [Nat.succ_mul (vt * Bv + v2)] at h1
    rw [Nat.succ_mul vt]; omega
  have h3 : Bv * V < Bv * ((vt + 1) * Bv * P) := Nat.mul_lt_mul_of_pos_left h2 (by omega)
  have h4 : (vt + 1) * Bv * Bv ≤ (xn * Bv + x1) * Bv := Nat.mul_le_mul_right _ (by
    have : (vt + 1) * Bv ≤ xn * Bv := Nat.mul_le_mul_right _ (by omega)
    omega)
  have h5 : (vt + 1) * Bv * Bv * P ≤ ((xn * Bv + x1) * Bv + x2) * P := Nat.mul_le_mul_right _ (by omega)
  have h6 : Bv * ((vt + 1) * Bv * P) = (vt + 1) * Bv * Bv * P := by
    simp only [Nat.mul_comm, Nat.mul_left_comm, Nat.mul_assoc]
  omega
theorem top_lt {xt x2 P Bv X xl : Nat} (hX : X = (xt * Bv + x2) * P + xl) (hxl : xl < P) (hx2 : x2 < Bv) : X < (xt + 1) * (P * Bv) := by
  have h1 : (x2 + 1) * P ≤ Bv * P := Nat.mul_le_mul_right _ hx2
  rw [Nat.succ_mul] at h1
  have h2 : (xt + 1) * (P * Bv) = xt * Bv * P + Bv * P := by
    rw [Nat.succ_mul, Nat.mul_comm P Bv, Nat.mul_assoc]
  rw [h2, hX, Nat.add_mul]
  omega
theorem top_ge {vt v2 P Bv V vl : Nat} (hV : V = (vt * Bv + v2) * P + vl) : vt * (P * Bv) ≤ V := by
  rw [hV, Nat.add_mul, Nat.mul_assoc, Nat.mul_comm P Bv]; omega
theorem top_xt {xn x1 vt Bv : Nat} (h : xn ≤ vt) (hx : x1 < Bv) : xn * Bv + x1 < vt * Bv + Bv := by
  have : xn * Bv ≤ vt * Bv := Nat.mul_le_mul_right _ h
  omega
set_option maxHeartbeats 2000000 in
set_option maxRecDepth 20000 in
theorem run_guess {us vs : List Nat} {k vt : Nat} (hus : Wd us) (hvs : Wd vs) (hn : vs.length = k + 2) (hul : us.length = k + 3) (hlen : us.length ≤ 2 * Lim) (hvt : vs[k + 1]? = some vt) (hvt0 : 0 < vt) (hXV : val us < B * val vs) :
    ∃ g : Nat, callPure RT 175 [.sl (wds us) 1 false, .sl (wds vs) 1 false] = some (.int .u64 (g : Int)) ∧ val us / val vs ≤ g ∧ g ≤ val us / val vs + 1 ∧ g < B := by
  have hL : Lim = 1099511627776 := rfl
  have hB : B = 4294967296 := rfl
  obtain ⟨v2, hv2⟩ : ∃ w, vs[k]? = some w := ⟨vs[k], List.getElem?_eq_getElem (by omega)⟩
  obtain ⟨x2, hx2⟩ : ∃ w, us[k]? = some w := ⟨us[k], List.getElem?_eq_getElem (by omega)⟩
  obtain ⟨x1, hx1⟩ : ∃ w, us[k + 1]? = some w := ⟨us[k + 1], List.getElem?_eq_getElem (by omega)⟩
  obtain ⟨xn, hxn⟩ : ∃ w, us[k + 2]? = some w := ⟨us[k + 2], List.getElem?_eq_getElem (by omega)⟩
  have hV := val_two hn hvt hv2
  have hX := val_three hul hxn hx1 hx2
  have hvl := val_take_lt hvs (k := k) (by omega)
  have hxl := val_take_lt hus (k := k) (by omega)
  have hvtB := hvs.get hvt
  have hv2B := hvs.get hv2
  have hx2B := hus.get hx2
  have hx1B := hus.get hx1
  have hxnB := hus.get hxn
  have hxnle : xn ≤ vt := top_le hV hX hvl hv2B hXV
  obtain ⟨xt, hxt⟩ : ∃ xt, xt = xn * B + x1 := ⟨_, rfl⟩
  rw [← hxt] at hX
  have hxtB : xt < vt * B + B := by rw [hxt]; exact top_xt hxnle hx1B
  have hxtM : xt < 18446744073709551616 := by
    have : xn * B ≤ (B - 1) * B := Nat.mul_le_mul_right _ (by omega)
    rw [hB] at this hx1B hxt; omega
  obtain ⟨q0, hq0⟩ : ∃ q, q = xt / vt := ⟨_, rfl⟩
  obtain ⟨r0, hr0⟩ : ∃ q, q = xt % vt := ⟨_, rfl⟩
  have htd := tdiv_nat xt vt
  have htm := tmod_nat xt vt
  have hdiv : (xt : Int) / (vt : Int) = (q0 : Int) := by rw [hq0]; push_cast; rfl
  rw [← hq0] at htd
  rw [← hr0] at htm
  have hq0M : q0 ≤ xt := by rw [hq0]; exact Nat.div_le_self _ _
  have hdm : q0 * vt + r0 = xt := by rw [hq0, hr0, Nat.mul_comm]; exact Nat.div_add_mod xt vt
  have hr0B : r0 < B := by rw [hr0]; exact Nat.lt_trans (Nat.mod_lt _ hvt0) hvtB
  have hge0 : val us / val vs ≤ q0 := by
    rw [hq0]
    refine est_le (k := k + 1) ?_ ?_ hvt0
    · rw [Nat.pow_succ]; exact top_ge hV
    · rw [Nat.pow_succ]; exact top_lt hX hxl hx2B
  have key := fun (Q' : FQ) hQ' => guess_loop (us := us) (vs := vs) (k := k) (X := val us) (V := val vs) (xt := xt) (vt := vt) (v2 := v2) (x2 := x2) hvs hn hul hlen hvt hv2 hx2 hvt0 hvtB hv2B hx2B hV hvl hX hxl hXV hxtB hxtM (Q := Q') hQ' q0 q0 r0 (Nat.le_refl _) hdm hge0 hr0B
  generalize val us / val vs = qq at *
  refine callPure_ex (P := fun r => ∃ g : Nat, r = .int .u64 (g : Int) ∧ qq ≤ g ∧ g ≤ qq + 1 ∧ g < B) ?_ |>.elim fun r h => h.2.elim fun g hg => ⟨g, by rw [h.1, hg.1], hg.2⟩
  refine wpF_of tab_175 rfl ?_
  have e1b : IntKind.i64.wrap ((k : Int) + 2 - 1) = (k : Int) + 1 := by rw [wrap_i64 (by omega) (by omega)]; omega
  have e1b' : IntKind.i64.wrap ((k : Int) + 1) = (k : Int) + 1 := wrap_i64 (by omega) (by omega)
  have hvt' : vs[k + 1] = vt := (List.getElem?_eq_some_iff.1 hvt).2
  have hx1' : us[k + 1]'(by omega) = x1 := (List.getElem?_eq_some_iff.1 hx1).2
  have hxn' : us[k + 2]'(by omega) = xn := (List.getElem?_eq_some_iff.1 hxn).2
  have e5 : (k : Int) + 2 < (k : Int) + 3 := by omega
  have e6 : (k : Int) + 1 < (k : Int) + 2 := by omega
  have e6' : (k : Int) + 1 < (k : Int) + 3 := by omega
  have e7 : ((k : Int) + 1).toNat = k + 1 := by omega
  have e7' : ((k : Int) + 2).toNat = k + 2 := by omega
  have e8 : (0 : Int) ≤ (k : Int) + 1 := by omega
  have e8' : (0 : Int) ≤ (k : Int) + 2 := by omega
  have f1 : (vt : Int) % 18446744073709551616 = vt := by rw [hB] at hvtB; omega
  have f2 : (x1 : Int) % 18446744073709551616 = x1 := by rw [hB] at hx1B; omega
  have f3 : (xn : Int) % 18446744073709551616 = xn := by rw [hB] at hxnB; omega
  have f4 : (xn : Int) * 4294967296 % 18446744073709551616 = (xn : Int) * 4294967296 := by rw [hB] at hxnB; omega
  have f5 : ((xn : Int) * 4294967296 + (x1 : Int)) % 18446744073709551616 = (xt : Int) := by rw [hB] at hxt; omega
  have f6 : (q0 : Int) % 18446744073709551616 = (q0 : Int) := by omega
  have hd0 : ¬ vt = 0 := by omega
  simp [f175, enter, List.replicate, hn, hul, e1b, e1b', hvt', hx1', hxn', e5, e6, e6', e7, e7', e8, e8', wrap_u64, f1, f2, f3, f4, f5, hdiv, htm, f6, hd0]
  simp [head, f175_0m, mask, trunc_len]
  simp [f175_0m, List.replicate] at key
  refine key _ ?_
  intro tm hl g h7 k1 k2 k3
  simp [hl, h7]
  exact ⟨g, rfl, k1, k2, k3⟩
set_option maxHeartbeats 2000000 in
set_option maxRecDepth 20000 in
theorem lessen_loop {S : Store} {b : Nat} {us vs : List Nat} {off n g : Nat} (hS : S[b]? = some (.mu (wds us) true)) (hus : Wd us) (hvs : Wd vs) (hn : vs.length = n) (hoff : off + (n + 1) ≤ us.length) (hg : g < B) (hlen : us.length ≤ 2 * Lim) {Q : FQ}
    (hQ : ∀ (tm : List AV) (hl : tm.length = 49) (ds : List Nat) (bo : Nat), tm[8] = .int .u64 (bo : Int) → ds.length = n + 1 → Wd ds → bo ≤ 1 →
      val ds + g * val vs = val ((us.drop off).take (n + 1)) + B ^ (n + 1) * bo → Q (.ex 0) ⟨tm, S.set b (.mu (wds (us.take off ++ ds ++ us.drop (off + (n + 1)))) true)⟩) :
    ∀ (m i : Nat), i + m = n + 1 → ∀ (ds : List Nat) (c bo low : Nat), ds.length = i → Wd ds → c < B → bo ≤ 1 → low < B ^ i → low + B ^ i * c = g * val (vs.take i) → val ds + g * val (vs.take i) = val ((us.drop off).take i) + B ^ i * (c + bo) →
    wpL RT f176_0m S.length f176_0 ⟨[.msl b off (n + 1) 1 us.length none, .sl (wds vs) 1 false, .int .u64 (g : Int), .any, .any, .any, .any, .int .u64 (c : Int), .int .u64 (bo : Int), .int .i64 (i : Int)] ++ List.replicate 39 .any,
      S.set b (.mu (wds (us.take off ++ ds ++ us.drop (off + i))) true)⟩ Q := by
  have hL : Lim = 1099511627776 := rfl
  intro m
  induction m with
  | zero =>
    intro i hi ds c bo low hds hwd hc hb hlow hpr he
    have hi' : i = n + 1 := by omega
    subst hi'
    have hv : vs.take (n + 1) = vs := List.take_of_length_le (by omega)
    rw [hv] at hpr he
    have hc0 : c = 0 := by
      have h1 := val_lt hvs
      rw [hn] at h1
      have h2 : g * val vs < B ^ (n + 1) := by rw [Nat.pow_succ']; exact Nat.mul_lt_mul'' hg h1
      refine Classical.byContradiction fun h => ?_
      have h3 : B ^ (n + 1) * 1 ≤ B ^ (n + 1) * c := Nat.mul_le_mul_left _ (by omega)
      rw [Nat.mul_one] at h3
      generalize B ^ (n + 1) * c = z at *
      generalize B ^ (n + 1) = y at *
      omega
    subst hc0
    rw [Nat.zero_add] at he
    have hfin := fun tm hl h8 => hQ tm hl ds bo h8 hds hwd hb he
    generalize us.take off ++ ds ++ us.drop (off + (n + 1)) = cs at *
    rw [wpL_step]
    generalize hK : loopQ RT f176_0m S.length f176_0 Q = K
    simp [f176_0, List.replicate]
    subst hK
    exact hfin _ rfl rfl
  | succ m ih =>
    intro i hi ds c bo low hds hwd hc hb hlow hpr he
    have hlt' : (i : Int) < (n : Int) + 1 := by omega
    have hat := run_word1 (ws := vs) (t := false) (i := i) hvs (by omega)
    have hvB := getD_wd hvs i
    have e2 := val_take_succ vs i
    generalize vs.getD i 0 = v at *
    obtain ⟨w, hw⟩ : ∃ w, us[off + i]? = some w := ⟨us[off + i], List.getElem?_eq_getElem (by omega)⟩
    have hwB : w < B := hus.get hw
    have hB : B = 4294967296 := rfl
    have hgv : g * v ≤ (B - 1) * (B - 1) := Nat.mul_le_mul (by omega) (by omega)
    obtain ⟨p, hp⟩ : ∃ p, p = g * v := ⟨_, rfl⟩
    rw [← hp, hB] at hgv
    obtain ⟨q, hq⟩ : ∃ q, q = p + c := ⟨_, rfl⟩
    obtain ⟨lo, hlo⟩ : ∃ lo, lo = q % 4294967296 := ⟨_, rfl⟩
    obtain ⟨hi2, hhi⟩ : ∃ hi2, hi2 = q / 4294967296 := ⟨_, rfl⟩
    rw [hB] at hc hvB hg hwB
    obtain ⟨t, ht⟩ : ∃ t, t = 4294967296 + w - lo - bo := ⟨_, rfl⟩
    obtain ⟨d, hd⟩ : ∃ d, d = t % B := ⟨_, rfl⟩
    obtain ⟨bo', hbo'⟩ : ∃ bo', bo' = 1 - t / B := ⟨_, rfl⟩
    have hdB : d < B := by rw [hd]; exact Nat.mod_lt _ (by decide)
    have hb1 : bo' ≤ 1 := by rw [hbo']; exact Nat.sub_le _ _
    have hbe : d + lo + bo = w + B * bo' := by
      rw [hd, hbo', hB]
      have := Nat.mod_add_div t 4294967296
      rcases (show t / 4294967296 = 0 ∨ t / 4294967296 = 1 by omega) with h | h
      · rw [h] at this ⊢; omega
      · rw [h] at this ⊢; omega
    have hq2 : q < 18446744073709551616 := by omega
    have hql : q = lo + 4294967296 * hi2 := by omega
    have hget0 := window_get (us := us) (ds := ds) (off := off) (i := i) (by omega) hds
    have hset0 := window_set (us := us) (ds := ds) (off := off) (i := i) (d := d) (by omega) hds
    have hwu : us[off + i]'(by omega) = w := (List.getElem?_eq_some_iff.1 hw).2
    rw [hwu] at hget0
    have hbl := lt_of_get hS
    have hlen0 : (us.take off ++ ds ++ us.drop (off + i)).length = us.length := by simp [hds]; omega
    have hih := ih (i + 1) (by omega) (ds ++ [d]) hi2 bo' (low + B ^ i * lo) (by simp [hds]) (Wd.app hwd (Wd.mk hdB Wd.nil)) (by rw [hB]; omega) hb1 (by
      rw [Nat.pow_succ]
      have : B ^ i * lo ≤ B ^ i * (B - 1) := Nat.mul_le_mul_left _ (by rw [hB]; omega)
      have e : B ^ i * (B - 1) + B ^ i = B ^ i * B := by
        rw [← Nat.mul_succ]; rfl
      omega) (by
      rw [e2, Nat.pow_succ, Nat.mul_add]
      have e3 : B ^ i * lo + B ^ i * B * hi2 = B ^ i * q := by
        rw [hql, Nat.mul_assoc, ← Nat.mul_add]
      have e4 : g * (B ^ i * v) = B ^ i * p := by rw [hp, ← Nat.mul_assoc, Nat.mul_comm g, Nat.mul_assoc]
      have e5 : B ^ i * q = B ^ i * c + B ^ i * p := by rw [hq, Nat.mul_add, Nat.add_comm]
      omega) (by
      have e6 : val ((us.drop off).take (i + 1)) = val ((us.drop off).take i) + B ^ i * w := by
        rw [val_take_succ, List.getD_eq_getElem?_getD, List.getElem?_drop, hw]; rfl
      rw [val_append, hds, e2, e6, Nat.pow_succ, Nat.mul_add]
      have e4 : g * (B ^ i * v) = B ^ i * p := by rw [hp, ← Nat.mul_assoc, Nat.mul_comm g, Nat.mul_assoc]
      have e7 : B ^ i * (d + (c + bo + p)) = B ^ i * (w + B * (hi2 + bo')) := by
        congr 1
        rw [hB] at hbe ⊢; omega
      have e8 : B ^ i * B * (hi2 + bo') = B ^ i * (B * (hi2 + bo')) := Nat.mul_assoc ..
      have e9 : val [d] = d := by simp [val]
      rw [e8, e9]
      simp only [Nat.mul_add] at e7 he ⊢
      omega)
    rw [← Nat.add_assoc] at hset0
    have e0 : off + (i + 1) = off + i + 1 := by omega
    rw [e0] at hih
    rw [← hset0] at hih
    generalize hcs : us.take off ++ ds ++ us.drop (off + i) = cs at *
    have hrd := rd_word (S := S.set b (.mu (wds cs) true)) (b := b) (i := off + i) (vl := us.length) (ws := cs) (ex := true) (set_get hbl) (by rw [hlen0]) (by omega)
    have hwr := wr_word (S := S.set b (.mu (wds cs) true)) (b := b) (i := off + i) (vl := us.length) (w := d) (ws := cs) (ex := true) (set_get hbl) (by rw [hlen0]) (by omega)
    have hcw : cs[off + i]'(by omega) = w := (List.getElem?_eq_some_iff.1 hget0).2
    rw [hcw] at hrd
    rw [List.set_set] at hwr
    have f2 : (g : Int) * (v : Int) % 18446744073709551616 = (p : Int) := by
      have : (g : Int) * (v : Int) = ((g * v : Nat) : Int) := by push_cast; rfl
      rw [this, ← hp]; omega
    have f3 : ((p : Int) + (c : Int)) % 18446744073709551616 = (q : Int) := by omega
    have f4 := tmod_word q
    rw [← hlo] at f4
    have f5 : (q : Int) / 4294967296 = (hi2 : Int) := by omega
    have f5' : (hi2 : Int) % 18446744073709551616 = (hi2 : Int) := by omega
    have g0 : (w : Int) % 18446744073709551616 = (w : Int) := by omega
    have g0' : (4294967296 + (w : Int)) % 18446744073709551616 = 4294967296 + (w : Int) := by omega
    have g1 : (4294967296 + (w : Int) - (lo : Int) - (bo : Int)) % 18446744073709551616 = (t : Int) := by omega
    have g1' : (4294967296 + (w : Int) - (lo : Int)) % 18446744073709551616 = 4294967296 + (w : Int) - (lo : Int) := by omega
    have g2 := tmod_word t
    rw [← hB, ← hd] at g2
    have g4 : (d : Int) % 4294967296 = (d : Int) := by rw [hB] at hdB; omega
    have g5 : (1 - (t : Int) / 4294967296 % 18446744073709551616) % 18446744073709551616 = (bo' : Int) := by rw [hbo', hB]; omega
    have g6 : (1 - (t : Int) / 4294967296) % 18446744073709551616 = (bo' : Int) := by rw [hbo', hB]; omega
    have hwi : IntKind.i64.wrap ((i : Int) + 1) = ((i + 1 : Nat) : Int) := wrap_i64 (by omega) (by omega)
    rw [wpL_step]
    generalize hK : loopQ RT f176_0m S.length f176_0 Q = K
    simp [f176_0, List.replicate, hlt', hat, after_nr, wrap_u64, wrap_u32, f2, f3, hrd, f4, f5, f5', g0, g0', g1, g1', g2, g4, hwr, hwi, g5, g6]
    subst hK
    simp [head, f176_0m, mask, trunc_len]
    simpa [f176_0m, List.replicate] using hih
theorem run_lessen {S : Store} {b : Nat} {us vs : List Nat} {off n g : Nat} (hS : S[b]? = some (.mu (wds us) true)) (hus : Wd us) (hvs : Wd vs) (hn : vs.length = n) (hoff : off + (n + 1) ≤ us.length) (hg : g < B) (hlen : us.length ≤ 2 * Lim) :
    wpF (run tab) 176 [.msl b off (n + 1) 1 us.length none, .sl (wds vs) 1 false, .int .u64 (g : Int)] S fun r S' => ∃ (ds : List Nat) (bo : Nat), r = .bool (decide (bo = 1)) ∧ ds.length = n + 1 ∧ Wd ds ∧ bo ≤ 1 ∧
      val ds + g * val vs = val ((us.drop off).take (n + 1)) + B ^ (n + 1) * bo ∧ S' = S.set b (.mu (wds (us.take off ++ ds ++ us.drop (off + (n + 1)))) true) := by
  have e0 : S.set b (.mu (wds (us.take off ++ [] ++ us.drop (off + 0))) true) = S := by
    rw [List.append_nil, Nat.add_zero, List.take_append_drop]
    obtain ⟨h1, h2⟩ := List.getElem?_eq_some_iff.1 hS
    rw [← h2]; exact List.set_getElem_self h1
  have key := fun (Q' : FQ) hQ' => lessen_loop hS hus hvs hn hoff hg hlen (Q := Q') hQ' (n + 1) 0 (by omega) [] 0 0 0 rfl Wd.nil (by decide) (by omega) (by simp) (by simp [val]) (by simp [val])
  rw [e0] at key
  refine wpF_of tab_176 rfl ?_
  simp [f176, enter, List.replicate]
  simp [head, f176_0m, mask, trunc_len]
  simp [List.replicate, f176_0m] at key
  refine key _ ?_
  intro tm hl ds bo h8 hds hwd hbo he
  have hd : decide ((bo : Int) = 1) = decide (bo = 1) := by
    by_cases h : bo = 1
    · simp [h]
    · have : ¬ (bo : Int) = 1 := by omega
      simp [h, this]
  simp [hl, h8, hd]
  exact ⟨ds, bo, Iff.rfl, hds, hwd, hbo, he, by simp⟩
set_option maxHeartbeats 2000000 in
set_option maxRecDepth 20000 in
theorem restore_loop {S : Store} {b : Nat} {us vs : List Nat} {off n : Nat} (hS : S[b]? = some (.mu (wds us) true)) (hus : Wd us) (hvs : Wd vs) (hn : vs.length = n) (hoff : off + (n + 1) ≤ us.length) (hlen : us.length ≤ 2 * Lim) {Q : FQ}
    (hQ : ∀ (tm : List AV) (hl : tm.length = 32) (ds : List Nat) (mo : Nat), ds.length = n + 1 → Wd ds → mo ≤ 1 →
      val ds + B ^ (n + 1) * mo = val ((us.drop off).take (n + 1)) + val vs → Q (.ex 0) ⟨tm, S.set b (.mu (wds (us.take off ++ ds ++ us.drop (off + (n + 1)))) true)⟩) :
    ∀ (m i : Nat), i + m = n + 1 → ∀ (ds : List Nat) (mo : Nat), ds.length = i → Wd ds → mo ≤ 1 → val ds + B ^ i * mo = val ((us.drop off).take i) + val (vs.take i) →
    wpL RT f177_0m S.length f177_0 ⟨[.msl b off (n + 1) 1 us.length none, .sl (wds vs) 1 false, .any, .any, .int .u64 (mo : Int), .int .i64 (i : Int)] ++ List.replicate 26 .any,
      S.set b (.mu (wds (us.take off ++ ds ++ us.drop (off + i))) true)⟩ Q := by
  have hL : Lim = 1099511627776 := rfl
  intro m
  induction m with
  | zero =>
    intro i hi ds mo hds hwd hmo he
    have hi' : i = n + 1 := by omega
    subst hi'
    have hv : vs.take (n + 1) = vs := List.take_of_length_le (by omega)
    rw [hv] at he
    have hfin := fun tm hl => hQ tm hl ds mo hds hwd hmo he
    generalize us.take off ++ ds ++ us.drop (off + (n + 1)) = cs at *
    rw [wpL_step]
    generalize hK : loopQ RT f177_0m S.length f177_0 Q = K
    simp [f177_0, List.replicate]
    subst hK
    exact hfin _ rfl
  | succ m ih =>
    intro i hi ds mo hds hwd hmo he
    have hlt' : (i : Int) < (n : Int) + 1 := by omega
    have hat := run_word1 (ws := vs) (t := false) (i := i) hvs (by omega)
    have hvB := getD_wd hvs i
    have e2 := val_take_succ vs i
    generalize vs.getD i 0 = v at *
    obtain ⟨w, hw⟩ : ∃ w, us[off + i]? = some w := ⟨us[off + i], List.getElem?_eq_getElem (by omega)⟩
    have hwB : w < B := hus.get hw
    obtain ⟨t, ht⟩ : ∃ t, t = w + v + mo := ⟨_, rfl⟩
    obtain ⟨s, hs⟩ : ∃ s, s = t % B := ⟨_, rfl⟩
    obtain ⟨d, hd⟩ : ∃ d, d = t / B := ⟨_, rfl⟩
    have hB : B = 4294967296 := rfl
    have hsB : s < B := by rw [hs]; exact Nat.mod_lt _ (by decide)
    have hd1 : d ≤ 1 := by rw [hB] at hd hwB hvB; omega
    have hdm := Nat.mod_add_div t B
    rw [← hs, ← hd, ht] at hdm
    have hget0 := window_get (us := us) (ds := ds) (off := off) (i := i) (by omega) hds
    have hset0 := window_set (us := us) (ds := ds) (off := off) (i := i) (d := s) (by omega) hds
    have hwu : us[off + i]'(by omega) = w := (List.getElem?_eq_some_iff.1 hw).2
    rw [hwu] at hget0
    have hbl := lt_of_get hS
    have hlen0 : (us.take off ++ ds ++ us.drop (off + i)).length = us.length := by simp [hds]; omega
    have hih := ih (i + 1) (by omega) (ds ++ [s]) d (by simp [hds]) (Wd.app hwd (Wd.mk hsB Wd.nil)) hd1 (by
      have e6 : val ((us.drop off).take (i + 1)) = val ((us.drop off).take i) + B ^ i * w := by
        rw [val_take_succ, List.getD_eq_getElem?_getD, List.getElem?_drop, hw]; rfl
      rw [val_append, hds, e2, e6, Nat.pow_succ]
      have e9 : val [s] = s := by simp [val]
      have e3 : B ^ i * s + B ^ i * B * d = B ^ i * (w + v + mo) := by rw [← hdm, Nat.mul_assoc, ← Nat.mul_add]
      rw [e9]
      simp only [Nat.mul_add] at e3
      omega)
    have e0 : off + (i + 1) = off + i + 1 := by omega
    rw [← hset0] at hih
    generalize hcs : us.take off ++ ds ++ us.drop (off + i) = cs at *
    have hrd := rd_word (S := S.set b (.mu (wds cs) true)) (b := b) (i := off + i) (vl := us.length) (ws := cs) (ex := true) (set_get hbl) (by rw [hlen0]) (by omega)
    have hwr := wr_word (S := S.set b (.mu (wds cs) true)) (b := b) (i := off + i) (vl := us.length) (w := s) (ws := cs) (ex := true) (set_get hbl) (by rw [hlen0]) (by omega)
    have hcw : cs[off + i]'(by omega) = w := (List.getElem?_eq_some_iff.1 hget0).2
    rw [hcw] at hrd
    rw [List.set_set] at hwr
    rw [hB] at hwB hvB
    have g0 : (w : Int) % 18446744073709551616 = (w : Int) := by omega
    have g1 : ((w : Int) + (v : Int) + (mo : Int)) % 18446744073709551616 = (t : Int) := by omega
    have g2 := tmod_word t
    rw [← hB, ← hs] at g2
    have g4 : (s : Int) % 4294967296 = (s : Int) := by rw [hB] at hsB; omega
    have g3 : (t : Int) / 4294967296 % 18446744073709551616 = (d : Int) := by rw [hd, hB]; omega
    have g3' : (t : Int) / 4294967296 = (d : Int) := by rw [hd, hB]; omega
    have g5 : (d : Int) % 18446744073709551616 = (d : Int) := by omega
    have hwi : IntKind.i64.wrap ((i : Int) + 1) = ((i + 1 : Nat) : Int) := wrap_i64 (by omega) (by omega)
    rw [wpL_step]
    generalize hK : loopQ RT f177_0m S.length f177_0 Q = K
    simp [f177_0, List.replicate, hlt', hat, after_nr, hrd, wrap_u64, wrap_u32, g0, g1, g2, g3', g4, g5, hwr, hwi]
    subst hK
    simp [head, f177_0m, mask, trunc_len]
    simpa [f177_0m, List.replicate] using hih
theorem run_restore {S : Store} {b : Nat} {us vs : List Nat} {off n : Nat} (hS : S[b]? = some (.mu (wds us) true)) (hus : Wd us) (hvs : Wd vs) (hn : vs.length = n) (hoff : off + (n + 1) ≤ us.length) (hlen : us.length ≤ 2 * Lim) :
    wpF (run tab) 177 [.msl b off (n + 1) 1 us.length none, .sl (wds vs) 1 false] S fun r S' => ∃ (ds : List Nat) (mo : Nat), r = .tup [] ∧ ds.length = n + 1 ∧ Wd ds ∧ mo ≤ 1 ∧
      val ds + B ^ (n + 1) * mo = val ((us.drop off).take (n + 1)) + val vs ∧ S' = S.set b (.mu (wds (us.take off ++ ds ++ us.drop (off + (n + 1)))) true) := by
  have e0 : S.set b (.mu (wds (us.take off ++ [] ++ us.drop (off + 0))) true) = S := by
    rw [List.append_nil, Nat.add_zero, List.take_append_drop]
    obtain ⟨h1, h2⟩ := List.getElem?_eq_some_iff.1 hS
    rw [← h2]; exact List.set_getElem_self h1
  have key := fun (Q' : FQ) hQ' => restore_loop hS hus hvs hn hoff hlen (Q := Q') hQ' (n + 1) 0 (by omega) [] 0 rfl Wd.nil (by omega) (by simp [val])
  rw [e0] at key
  refine wpF_of tab_177 rfl ?_
  simp [f177, enter, List.replicate]
  simp [head, f177_0m, mask, trunc_len]
  simp [List.replicate, f177_0m] at key
  refine key _ ?_
  intro tm hl ds mo hds hwd hmo he
  simp [resAll]
  exact ⟨ds, hds, hwd, mo, hmo, he, by simp⟩
theorem fzc_win {S : Store} {b off n vl : Nat} {ex : Bool} {ws : List Nat} {cap : Option Nat} {fuel : Nat} (h : S[b]? = some (.mu (wds ws) ex)) (hv : vl = ws.length) (hn : off + n ≤ ws.length) :
    fzc S (fuel + 1) (.msl b off n 1 vl cap) = some (W ((ws.drop off).take n)) := by
  subst hv
  have hr : rd S b off ws.length (n * 1) = some (wds ((ws.drop off).take n)) := by
    unfold rd
    rw [h, Nat.mul_one]
    simp only [wds_length, wds_drop, wds_take]
    exact chk_pos ⟨trivial, by omega⟩
  simp only [fzc, hr, Option.bind_some, wds_fzc]
  rw [wds_chunk (by simp; omega)]
theorem digit_ok {X V g ds bo P : Nat} (hV : 0 < V) (h1 : X / V ≤ g) (h2 : g ≤ X / V + 1) (hbo : bo ≤ 1) (hds : ds < P) (he : ds + g * V = X + P * bo) :
    (bo = 0 ∧ g = X / V ∧ ds = X % V) ∨ (bo = 1 ∧ g = X / V + 1 ∧ ∀ mo ds2, mo ≤ 1 → ds2 < P → ds2 + P * mo = ds + V → ds2 = X % V) := by
  have hdm := Nat.div_add_mod X V
  have hml := Nat.mod_lt X hV
  rw [Nat.mul_comm] at hdm
  rcases (show bo = 0 ∨ bo = 1 by omega) with rfl | rfl
  · left
    rw [Nat.mul_zero, Nat.add_zero] at he
    have hg : g = X / V := by
      rcases (show g = X / V ∨ g = X / V + 1 by omega) with h | h
      · exact h
      · rw [h, Nat.succ_mul] at he; omega
    subst hg
    exact ⟨rfl, rfl, by omega⟩
  · right
    rw [Nat.mul_one] at he
    have hg : g = X / V + 1 := by
      rcases (show g = X / V ∨ g = X / V + 1 by omega) with h | h
      · rw [h] at he; omega
      · exact h
    subst hg
    refine ⟨rfl, rfl, fun mo ds2 hmo hd2 h => ?_⟩
    rw [Nat.succ_mul] at he
    rcases (show mo = 0 ∨ mo = 1 by omega) with rfl | rfl
    · rw [Nat.mul_zero] at h; omega
    · rw [Nat.mul_one] at h; omega
set_option maxHeartbeats 4000000 in
set_option maxRecDepth 20000 in
theorem digits_loop {u0 vs : List Nat} {m n L vt V : Nat} (hu0 : Wd u0) (hvs : Wd vs) (hn : vs.length = n) (hn2 : 2 ≤ n) (hL0 : u0.length = L) (hm : m + n = L) (hLl : L ≤ 2 * Lim) (hvt : vs[n - 1]? = some vt) (hvt0 : 0 < vt) (hVv : val vs = V) (hVn : V < B ^ n) (hV : 0 < V) {x9 : AV} {Q : FQ}
    (hQ : ∀ (tm : List AV) (hl : tm.length = 110) (us qs : List Nat), tm[9] = x9 → tm[11] = .msl 0 0 L 1 L none → tm[12] = .msl 1 0 m 1 m none → us.length = L → Wd us → qs.length = m → Wd qs → val us = val u0 % V → val qs = val u0 / V → Q (.ex 0) ⟨tm, [.mu (wds us) true, .mu (wds qs) true]⟩) :
    ∀ (k : Nat), k ≤ m → ∀ (us ds : List Nat), us.length = L → Wd us → us.take k = u0.take k → val (us.drop k) = val (u0.drop k) % V → ds.length = m - k → Wd ds → val ds = val (u0.drop k) / V →
    wpL RT f172_0m 2 f172_0 ⟨[.any, .any, .any, .any, .any, .any, .any, .any, .int .i64 (n : Int), x9, .sl (wds vs) 1 false, .msl 0 0 L 1 L none, .msl 1 0 m 1 m none, .int .i64 ((k : Int) - 1)] ++ List.replicate 96 .any,
      [.mu (wds us) true, .mu (wds (List.replicate k 0 ++ ds)) true]⟩ Q := by
  have hLim : Lim = 1099511627776 := rfl
  have hB : B = 4294967296 := rfl
  intro k
  induction k with
  | zero =>
    intro hk us ds hus hwus htk hdk hdl hwd hdv
    simp only [List.drop_zero] at hdk hdv
    have hfin := fun tm hl h9 h11 h12 => hQ tm hl us (List.replicate 0 0 ++ ds) h9 h11 h12 hus hwus (by simp [hdl]) (Wd.app (Wd.rep (by decide)) hwd) hdk (by simpa using hdv)
    generalize List.replicate 0 0 ++ ds = qs at *
    rw [wpL_step]
    generalize hK : loopQ RT f172_0m 2 f172_0 Q = K
    simp [f172_0, List.replicate]
    subst hK
    exact hfin _ rfl rfl rfl rfl
  | succ k ih =>
    intro hk us ds hus hwus htk hdk hdl hwd hdv
    have hm1 : ((k + 1 : Nat) : Int) - 1 = (k : Int) := by omega
    rw [hm1]
    have hkL : k < us.length := by omega
    have hkL0 : k < u0.length := by omega
    have huk : us[k] = u0[k] := by
      have h1 : (us.take (k + 1))[k]? = (u0.take (k + 1))[k]? := by rw [htk]
      rw [List.getElem?_take_of_lt (by omega), List.getElem?_take_of_lt (by omega), List.getElem?_eq_getElem hkL, List.getElem?_eq_getElem hkL0] at h1
      exact Option.some.inj h1
    have htk' : us.take k = u0.take k := by
      have := congrArg (List.take k) htk
      rwa [List.take_take, List.take_take, Nat.min_eq_left (by omega)] at this
    have hwB : us[k] < B := hwus us[k] (List.getElem_mem hkL)
    have hsu := val_drop_step hkL
    have hsu0 := val_drop_step hkL0
    rw [← huk] at hsu0
    have hrV : val (u0.drop (k + 1)) % V < V := Nat.mod_lt _ hV
    generalize hA : val (u0.drop (k + 1)) = A at *
    rw [hdk] at hsu
    have hX : val ((us.drop k).take (n + 1)) = us[k] + B * (A % V) := by
      rw [val_take_all (hwus.drop k) ?_, hsu]
      rw [hsu, Nat.pow_succ']
      have : B * (A % V + 1) ≤ B * B ^ n := Nat.mul_le_mul_left _ (by omega)
      rw [Nat.mul_add] at this
      omega
    have hXV : us[k] + B * (A % V) < B * val vs := by
      rw [hVv]
      have : B * (A % V + 1) ≤ B * V := Nat.mul_le_mul_left _ (by omega)
      rw [Nat.mul_add] at this
      omega
    have hrest0 : val (us.drop (k + (n + 1))) = 0 := by
      have h1 : val (us.drop (k + 1)) < B ^ n := by rw [hdk]; omega
      have := val_drop_zero (hwus.drop (k + 1)) h1
      rwa [List.drop_drop, show k + 1 + n = k + (n + 1) by omega] at this
    obtain ⟨g, hgu, hg1, hg2, hgB⟩ := run_guess (us := (us.drop k).take (n + 1)) (vs := vs) (k := n - 2) (vt := vt) ((hwus.drop k).take _) hvs (by omega) (by simp; omega) (by simp; omega) (by rw [show n - 2 + 1 = n - 1 by omega]; exact hvt) hvt0 (by rw [hX]; exact hXV)
    rw [hX, hVv] at hg1 hg2
    have hles := run_lessen (S := [.mu (wds us) true, .mu (wds (List.replicate (k + 1) 0 ++ ds)) true]) (b := 0) (us := us) (vs := vs) (off := k) (n := n) (g := g) rfl hwus hvs hn (by omega) hgB (by omega)
    rw [hus, hVv, hX] at hles
    have hdm : (us[k] + B * A) % V = (us[k] + B * (A % V)) % V := by
      rw [Nat.add_mod, Nat.mul_mod, Nat.add_mod us[k] (B * (A % V)), Nat.mul_mod B (A % V), Nat.mod_mod]
    have hdd : (us[k] + B * A) / V = B * (A / V) + (us[k] + B * (A % V)) / V := by
      have e : us[k] + B * A = (us[k] + B * (A % V)) + V * (B * (A / V)) := by
        have h1 : B * A = B * (A % V + V * (A / V)) := by rw [Nat.mod_add_div]
        rw [h1, Nat.mul_add, Nat.add_assoc, ← Nat.mul_assoc, ← Nat.mul_assoc, Nat.mul_comm B V]
      rw [e, Nat.add_mul_div_left _ _ hV, Nat.add_comm]
    generalize hXX : us[k] + B * (A % V) = X at *
    have hqB : X / V < B := by
      rw [hVv] at hXV
      exact (Nat.div_lt_iff_lt_mul hV).2 hXV
    rw [← hsu0] at hdm hdd
    have hl1 : (us.take k).length = k := by rw [List.length_take]; omega
    -- what the round leaves
    have hnext : ∀ ds2 : List Nat, ds2.length = n + 1 → Wd ds2 → val ds2 = X % V → wpL RT f172_0m 2 f172_0 ⟨[.any, .any, .any, .any, .any, .any, .any, .any, .int .i64 (n : Int), x9, .sl (wds vs) 1 false, .msl 0 0 L 1 L none, .msl 1 0 m 1 m none, .int .i64 ((k : Int) - 1)] ++ List.replicate 96 .any,
      [.mu (wds (us.take k ++ ds2 ++ us.drop (k + (n + 1)))) true, .mu (wds ((List.replicate (k + 1) 0 ++ ds).set k (X / V))) true]⟩ Q := by
      intro ds2 hds2 hwd2 hval2
      have hus2 : (us.take k ++ ds2 ++ us.drop (k + (n + 1))).length = L := by simp [hds2]; omega
      have hwus2 : Wd (us.take k ++ ds2 ++ us.drop (k + (n + 1))) := Wd.app (Wd.app (hwus.take k) hwd2) (hwus.drop _)
      have hd2 : (us.take k ++ ds2 ++ us.drop (k + (n + 1))).drop k = ds2 ++ us.drop (k + (n + 1)) := by
        rw [List.append_assoc, List.drop_append, List.drop_of_length_le (by omega), List.nil_append, hl1, Nat.sub_self, List.drop_zero]
      have ht2 : (us.take k ++ ds2 ++ us.drop (k + (n + 1))).take k = u0.take k := by
        rw [List.append_assoc, List.take_append, hl1, Nat.sub_self, List.take_zero, List.append_nil, List.take_of_length_le (by omega), htk']
      have hqg : (List.replicate (k + 1) 0 ++ ds).set k (X / V) = List.replicate k 0 ++ (X / V :: ds) := by
        rw [List.replicate_succ', List.append_assoc, List.set_append_right _ _ (by simp), List.length_replicate, Nat.sub_self]; rfl
      rw [hqg]
      exact ih (by omega) (us.take k ++ ds2 ++ us.drop (k + (n + 1))) (X / V :: ds) hus2 hwus2 ht2 (by
        rw [hd2, val_append, hrest0, Nat.mul_zero, Nat.add_zero, hval2, hdm]) (by simp [hdl]; omega) (Wd.mk hqB hwd) (by
        rw [hdd, ← hdv]
        show X / V + B * val ds = B * val ds + X / V
        omega)
    have e3 : IntKind.i64.wrap (IntKind.i64.wrap ((k : Int) + (n : Int)) + 1) = (k : Int) + (n : Int) + 1 := by
      rw [wrap_i64 (n := (k : Int) + (n : Int)) (by omega) (by omega), wrap_i64 (by omega) (by omega)]
    have e4 : IntKind.i64.wrap ((k : Int) - 1) = (k : Int) - 1 := wrap_i64 (by omega) (by omega)
    have hsl : sliceA 1 true true false (.msl 0 0 L 1 L none) [.int .i64 (k : Int), .int .i64 ((k : Int) + (n : Int) + 1)] = some (.msl 0 k (n + 1) 1 L none) := by
      have b1 : bound L (.int .i64 ((k : Int) + (n : Int) + 1)) = some (k + n + 1) := by
        simp only [bound]
        rw [chk_pos (by omega)]; congr 1
      have b2 : bound (k + n + 1) (.int .i64 (k : Int)) = some k := by
        simp only [bound]
        rw [chk_pos (by omega)]; rfl
      have e5 : k + n + 1 - k = n + 1 := by omega
      have e6 : k + n + 1 ≤ L := by omega
      simp [sliceA, bounds, chk, b1, b2, capAt, e5, e6]
    have hqs : ((List.replicate (k + 1) 0 ++ ds)).length = m := by simp [hdl]; omega
    generalize hq0 : List.replicate (k + 1) 0 ++ ds = qs at *
    have hfw : fzc [.mu (wds us) true, .mu (wds qs) true] (5 + 1) (.msl 0 k (n + 1) 1 L none) = some (W ((us.drop k).take (n + 1))) := fzc_win (S := [.mu (wds us) true, .mu (wds qs) true]) (b := 0) (ex := true) (ws := us) rfl hus.symm (by omega)
    have hkm : k < m := by omega
    have hkmI : (k : Int) < (m : Int) := by omega
    have hqq : ∃ qq, X / V = qq := ⟨_, rfl⟩
    obtain ⟨qq, hqq⟩ := hqq
    rw [hqq] at hqB hnext hg1 hg2
    have f1 : (qq : Int) % 4294967296 = (qq : Int) := by rw [hB] at hqB; omega
    have hwr : ∀ us2 : List Nat, wr [.mu (wds us2) true, .mu (wds qs) true] 1 k m [.int .u32 (qq : Int)] = some [.mu (wds us2) true, .mu (wds (qs.set k qq)) true] := fun us2 => by
      have := wr_word (S := [.mu (wds us2) true, .mu (wds qs) true]) (b := 1) (i := k) (vl := m) (w := qq) rfl hqs.symm (by omega)
      simpa using this
    rw [wpL_step]
    generalize hK : loopQ RT f172_0m 2 f172_0 Q = K
    simp [f172_0, List.replicate]
    simp [e3, hsl, hfw, hgu]
    refine contQ_sh (wpF_mono hles ?_)
    rintro r S' ⟨ds1, bo, rfl, hds1, hwd1, hbo, he1, rfl⟩
    have hlt1 := val_lt hwd1
    rw [hds1] at hlt1
    have hdig := digit_ok hV (by rw [hqq]; exact hg1) (by rw [hqq]; exact hg2) hbo hlt1 he1
    rw [hqq] at hdig
    rcases hdig with ⟨rfl, rfl, hr⟩ | ⟨rfl, rfl, hr⟩
    · have hx := hnext ds1 hds1 hwd1 hr
      generalize us.take k ++ ds1 ++ us.drop (k + (n + 1)) = us2 at *
      simp [trunc_len, hkmI, wrap_u32, f1, hwr, e4]
      subst hK
      simp [head, f172_0m, mask, trunc_len]
      simpa [f172_0m, List.replicate] using hx
    · have hus1 : (us.take k ++ ds1 ++ us.drop (k + (n + 1))).length = L := by simp [hds1]; omega
      have hwus1 : Wd (us.take k ++ ds1 ++ us.drop (k + (n + 1))) := Wd.app (Wd.app (hwus.take k) hwd1) (hwus.drop _)
      obtain ⟨wl, wt, w0, w2⟩ := win_take (us := us) (ds := ds1) (off := k) (n := n) (by omega) hds1
      have hres := run_restore (S := [.mu (wds (us.take k ++ ds1 ++ us.drop (k + (n + 1)))) true, .mu (wds qs) true]) (b := 0) (us := us.take k ++ ds1 ++ us.drop (k + (n + 1))) (vs := vs) (off := k) (n := n) rfl hwus1 hvs hn (by omega) (by omega)
      rw [hus1, wt, w0, w2, hVv] at hres
      generalize hu1 : us.take k ++ ds1 ++ us.drop (k + (n + 1)) = us1 at *
      have f8 : ((qq : Int) + 1 - 1) % 18446744073709551616 = (qq : Int) := by rw [hB] at hqB; omega
      have f8' : (qq : Int) % 18446744073709551616 = (qq : Int) := by rw [hB] at hqB; omega
      simp [trunc_len, wrap_u64, f8, f8']
      refine contQ_sh (wpF_mono hres ?_)
      rintro r S' ⟨ds2, mo, rfl, hds2, hwd2, hmo, he2, rfl⟩
      have hlt2 := val_lt hwd2
      rw [hds2] at hlt2
      have hx := hnext ds2 hds2 hwd2 (hr mo _ hmo hlt2 he2)
      generalize us.take k ++ ds2 ++ us.drop (k + (n + 1)) = us2 at *
      simp [trunc_len, hkmI, wrap_u32, f1, hwr, e4]
      subst hK
      simp [head, f172_0m, mask, trunc_len]
      simpa [f172_0m, List.replicate] using hx
end Go.AVM
