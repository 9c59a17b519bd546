/- The arguments of a row, as the abstract machine sees them. -/
import Derived.Test.YtlpbjbgfgfjnlaaAvExec
import GoSem.ClaimJoined
set_option linter.unusedVariables false
set_option linter.unusedSimpArgs false
set_option linter.unusedSectionVars false
namespace Go.AVM
section
variable {P : Program} {fid : Nat → FuncId} {W : World} {H : Type} {enc : TypeId × Value → H}
/-- All that the memory holds. -/
def memOf (W : World) : Mem := fun b o => (W.cell? ⟨b, o, none⟩).filter (·.oneCell')
theorem memOf_some {b o : Nat} {v : Value} (h : memOf W b o = some v) : W.cell? ⟨b, o, none⟩ = some v ∧ v.plain := by
  unfold memOf at h
  rw [Option.filter_eq_some_iff] at h
  exact ⟨h.1, plain_one.2 h.2⟩
theorem memOf_mk {b o : Nat} {v : Value} (h : W.cell? ⟨b, o, none⟩ = some v) (hp : v.plain) : memOf W b o = some v := by
  unfold memOf
  rw [Option.filter_eq_some_iff]
  exact ⟨h, plain_one.1 hp⟩
def CellsR (fid : Nat → FuncId) (M : Mem) (avs : List AV) (cs : List Value) : Prop :=
  avs.length = cs.length ∧ ∀ (k : Nat) (x : AV), avs[k]? = some x → ∃ v : Value, cs[k]? = some v ∧ v.plain ∧ FRep fid M x v
/-- What reads as of this type is told by some x. -/
def Opens (P : Program) (fid : Nat → FuncId) (t : TypeId) (X : Type) (en : X → List AV) (ok : X → Prop) : Prop :=
  ∀ {H : Type} (enc : TypeId × Value → H) (W : World) (base : Nat) (spare : Nat → Bool) (held : Bool) (fuel : Nat) (cs : List Value) (d : DataW H) (ps : List MemPlace),
    DataW.trod enc P W base spare held fuel t cs = some (d, ps) → ∃ x, ok x ∧ CellsR fid (memOf W) (en x) cs

theorem plain_int {k : IntKind} {n : Int} : (Value.int k n).plain := ⟨fun _ h => (by cases h), fun _ h => (by cases h)⟩
theorem plain_bool {b : Bool} : (Value.bool b).plain := ⟨fun _ h => (by cases h), fun _ h => (by cases h)⟩
theorem plain_slice {a : Option Addr} {n c : Nat} : (Value.slice a n c).plain := ⟨fun _ h => (by cases h), fun _ h => (by cases h)⟩
theorem CellsR.one {M : Mem} {x : AV} {v : Value} (hp : v.plain) (h : FRep fid M x v) : CellsR fid M [x] [v] :=
  ⟨rfl, fun k y hy => by
    cases k with
    | zero => simp at hy; subst hy; exact ⟨v, rfl, hp, h⟩
    | succ k => simp at hy⟩
theorem opens_int {t : TypeId} {k : IntKind} (hu : P.underlying t = some (.int k)) : Opens P fid t Int (fun n => [.int k n]) (fun n => k.min ≤ n ∧ n ≤ k.max) := by
  intro H enc W base spare held fuel cs d ps h
  cases fuel with
  | zero => simp [DataW.trod] at h
  | succ fuel =>
    unfold DataW.trod at h
    rw [hu] at h
    split at h <;> try (simp_all; done)
    rename_i k' k2 n heq
    cases heq
    split at h
    · rename_i hc
      obtain ⟨rfl, hwf⟩ := hc
      simp [Lit.wf] at hwf
      exact ⟨n, hwf, .one plain_int (.int _ _)⟩
    · cases h
theorem opens_bool {t : TypeId} (hu : P.underlying t = some .bool) : Opens P fid t Bool (fun b => [.bool b]) (fun _ => True) := by
  intro H enc W base spare held fuel cs d ps h
  cases fuel with
  | zero => simp [DataW.trod] at h
  | succ fuel =>
    unfold DataW.trod at h
    rw [hu] at h
    split at h <;> try (exfalso; simp_all; done)
    exact ⟨_, trivial, .one plain_bool (.bool _)⟩
/-- The parts of a row, joined. -/
theorem cellsR_parts {M : Mem} {X : Type} {en : X → List AV} {sz : Nat} : ∀ {xs : List X} {cs : List Value}, cs.length = xs.length * sz → (∀ (i : Nat) (x : X), xs[i]? = some x → CellsR fid M (en x) ((cs.drop (i * sz)).take sz)) → CellsR fid M (xs.flatMap en) cs
  | [], cs, hl, _ => by
    simp at hl; subst hl
    exact ⟨rfl, fun k x hx => by simp at hx⟩
  | x :: xs, cs, hl, h => by
    have h0 := h 0 x rfl
    simp only [Nat.zero_mul, List.drop_zero] at h0
    have hsz : (cs.take sz).length = sz := by
      rw [List.length_take, List.length_cons, Nat.succ_mul] at *; omega
    have hen : (en x).length = sz := h0.1.trans hsz
    have ih := cellsR_parts (xs := xs) (cs := cs.drop sz) (en := en) (sz := sz) (by rw [List.length_drop, hl, List.length_cons, Nat.succ_mul]; omega) (fun i y hy => by
      have := h (i + 1) y (by simpa using hy)
      rw [List.drop_drop, show sz + i * sz = (i + 1) * sz by rw [Nat.succ_mul]; omega]
      exact this)
    refine ⟨by rw [List.flatMap_cons, List.length_append, hen, ih.1, List.length_drop, hl, List.length_cons, Nat.succ_mul]; omega, fun k y hk => ?_⟩
    rw [List.flatMap_cons, List.getElem?_append, hen] at hk
    split at hk
    · rename_i hlt
      obtain ⟨v, h1, h2, h3⟩ := h0.2 k y hk
      rw [List.getElem?_take_of_lt hlt] at h1
      exact ⟨v, h1, h2, h3⟩
    · rename_i hge
      obtain ⟨v, h1, h2, h3⟩ := ih.2 _ y hk
      rw [List.getElem?_drop, show sz + (k - sz) = k by omega] at h1
      exact ⟨v, h1, h2, h3⟩
theorem mapM_choose {X Y : Type} {f : Nat → Option Y} {Q : Nat → X → Prop} {n : Nat} {ys : List Y} (h : (List.range n).mapM f = some ys) (hf : ∀ i y, i < n → f i = some y → ∃ x, Q i x) : ∃ xs : List X, xs.length = n ∧ ∀ (i : Nat) (x : X), xs[i]? = some x → Q i x := by
  have key : ∀ i, i < n → ∃ x, Q i x := by
    intro i hi
    obtain ⟨hl, hq⟩ := mapM_some h
    obtain ⟨y, _, hy⟩ := hq i i (by simp [hi])
    exact hf i y hi hy
  clear h hf
  induction n with
  | zero => exact ⟨[], rfl, fun i x hx => by simp at hx⟩
  | succ n ih =>
    obtain ⟨xs, hl, hq⟩ := ih fun i hi => key i (by omega)
    obtain ⟨x, hx⟩ := key n (by omega)
    refine ⟨xs ++ [x], by simp [hl], fun i y hy => ?_⟩
    by_cases hi : i < n
    · rw [List.getElem?_append_left (by omega)] at hy; exact hq i y hy
    · rw [List.getElem?_append_right (by omega)] at hy
      by_cases hin : i = n
      · subst hin; simp [hl] at hy; subst hy; exact hx
      · rw [List.getElem?_eq_none (by simp; omega)] at hy; cases hy
theorem opens_array {t e : TypeId} {n : Nat} {X : Type} {en : X → List AV} {ok : X → Prop} (hu : P.underlying t = some (.array n e)) (hc : P.cellsOf t = n * P.cellsOf e) (h : Opens P fid e X en ok) :
    Opens P fid t (List X) (fun xs => xs.flatMap en) (fun xs => xs.length = n ∧ ∀ x ∈ xs, ok x) := by
  intro H enc W base spare held fuel cs d ps hd
  cases fuel with
  | zero => simp [DataW.trod] at hd
  | succ fuel =>
    unfold DataW.trod at hd
    rw [hu] at hd
    split at hd <;> try (exfalso; simp_all; done)
    rename_i cs _ _ n' e' heq
    cases heq
    split at hd
    · rename_i hl
      obtain ⟨ys, hm, _⟩ := Option.map_eq_some_iff.1 hd
      obtain ⟨xs, hxl, hq⟩ := mapM_choose (Q := fun i x => ok x ∧ CellsR fid (memOf W) (en x) ((cs.drop (i * P.cellsOf e)).take (P.cellsOf e))) hm fun i y hi hy => by
        obtain ⟨d', ps'⟩ := y
        exact h enc W base spare held fuel _ d' ps' hy
      refine ⟨xs, ⟨hxl, fun x hx => ?_⟩, cellsR_parts (by rw [hl, hc, hxl]) fun i x hx => (hq i x hx).2⟩
      obtain ⟨i, hi⟩ := List.mem_iff_getElem?.1 hx
      exact (hq i x hi).1
    · cases hd
/-- An element, as the elements of a slice are told. -/
def elOf (sz : Nat) (l : List AV) : AV := if sz = 1 then l.headD .any else .agg l
theorem elOf_cells {M : Mem} {sz : Nat} {l : List AV} {cs : List Value} (h : CellsR fid M l cs) (hl : l.length = sz) : (elOf sz l).cells = l := by
  unfold elOf
  split
  · rename_i h1
    subst h1
    match l, hl with
    | [x], _ =>
      obtain ⟨v, _, hp, hr⟩ := h.2 0 x rfl
      simpa using hr.cells_of_plain hp
  · rfl
theorem cells?_get {a : Addr} {base n : Nat} {cs : List Value} (h : W.cells? base a n = some cs) : cs.length = n ∧ ∀ j, j < n → ∃ v, cs[j]? = some v ∧ W.cell? (a.add j) = some v := by
  unfold World.cells? at h
  split at h
  · obtain ⟨hl, hq⟩ := mapM_some h
    refine ⟨by simpa using hl, fun j hj => hq j j (by simp [hj])⟩
  · cases h
theorem add_add {a : Addr} (hs : a.spot = none) (m j : Nat) : (a.add m).add j = ⟨a.block, a.off + m + j, none⟩ := by
  obtain ⟨b, o, sp⟩ := a
  simp only at hs
  subst hs
  unfold Addr.add
  split <;> split <;> simp_all
theorem opens_slice {t e : TypeId} {sz : Nat} {X : Type} {en : X → List AV} {ok : X → Prop} (hu : P.underlying t = some (.slice e)) (hc : P.cellsOf e = sz) (hpos : 0 < sz) (h : Opens P fid e X en ok) :
    Opens P fid t (List X) (fun xs => [.sl (xs.map fun x => elOf sz (en x)) sz false]) (fun xs => xs.length ≤ maxLen ∧ ∀ x ∈ xs, ok x) := by
  intro H enc W base spare held fuel cs d ps hd
  cases fuel with
  | zero => simp [DataW.trod] at hd
  | succ fuel =>
    unfold DataW.trod at hd
    rw [hu] at hd
    split at hd <;> try (exfalso; simp_all; done)
    · exact ⟨[], ⟨Nat.zero_le _, fun x hx => by cases hx⟩, .one plain_slice (.slN _ _ _ _ (fun h => by cases h))⟩
    · rename_i e' a len cap heq
      cases heq
      simp only at hd
      split at hd
      · rename_i hb
        obtain ⟨elems, hm, _⟩ := Option.bind_eq_some_iff.1 hd
        obtain ⟨xs, hxl, hq⟩ := mapM_choose (Q := fun i x => ok x ∧ ∃ cs, W.cells? base (a.add (i * P.cellsOf e)) (P.cellsOf e) = some cs ∧ CellsR fid (memOf W) (en x) cs) hm fun i y hi hy => by
          obtain ⟨cs, h1, h2⟩ := Option.bind_eq_some_iff.1 hy
          obtain ⟨d', ps'⟩ := y
          obtain ⟨x, o1, o2⟩ := h enc W base spare held fuel _ d' ps' h2
          exact ⟨x, o1, cs, h1, o2⟩
        subst hc
        refine ⟨xs, ⟨by omega, fun x hx => ?_⟩, .one plain_slice ?_⟩
        · obtain ⟨i, hi⟩ := List.mem_iff_getElem?.1 hx
          exact (hq i x hi).1
        · have hlen : (xs.map fun x => elOf (P.cellsOf e) (en x)).length = len := by simp [hxl]
          have key : FRep fid (memOf W) (.sl (xs.map fun x => elOf (P.cellsOf e) (en x)) (P.cellsOf e) false) (.slice (some a) (xs.map fun x => elOf (P.cellsOf e) (en x)).length cap) := by
            refine FRep.sl_mk (by rw [hlen]; exact hb.2.1) (fun h => by cases h) ?_
            match xs, hq with
            | [], _ => exact .inl rfl
            | x0 :: xr, hq =>
              right
              have hsp : a.spot = none := by
                obtain ⟨_, cs0, h1, _⟩ := hq 0 x0 rfl
                obtain ⟨_, h2⟩ := cells?_get h1
                obtain ⟨v, _, h3⟩ := h2 0 hpos
                have e0 : (a.add (0 * P.cellsOf e)).add 0 = a := by simp [Addr.add]
                rw [e0] at h3
                unfold World.cell? at h3
                split at h3
                · split at h3
                  · cases h3
                  · rename_i hsp; simpa using hsp
                · cases h3
              refine ⟨a.block, a.off, by obtain ⟨b, o, sp⟩ := a; simp only at hsp; subst hsp; rfl, fun i el hel => ?_⟩
              rw [List.getElem?_map] at hel
              obtain ⟨x, hx, rfl⟩ := Option.map_eq_some_iff.1 hel
              obtain ⟨_, cs1, h1, h2⟩ := hq i x hx
              obtain ⟨hl1, h3⟩ := cells?_get h1
              have hel : (en x).length = P.cellsOf e := h2.1.trans hl1
              rw [elOf_cells h2 hel]
              refine ⟨hel, fun k y hy => ?_⟩
              have hk : k < P.cellsOf e := by have := (List.getElem?_eq_some_iff.1 hy).1; omega
              obtain ⟨v, v1, v2, v3⟩ := h2.2 k y hy
              obtain ⟨v', w1, w2⟩ := h3 k hk
              rw [v1] at w1; cases w1
              rw [add_add hsp] at w2
              exact ⟨v, memOf_mk w2 v2, v3⟩
          rw [hlen] at key
          exact key
      · cases hd
theorem opens_struct1 {t : TypeId} {fs : Array Field} {f : Field} {X : Type} {en : X → List AV} {ok : X → Prop} (hu : P.underlying t = some (.struct fs)) (hfs : fs.toList = [f]) (ho : f.offset = 0) (hc : P.cellsOf t = P.cellsOf f.type) (h : Opens P fid f.type X en ok) :
    Opens P fid t X en ok := by
  intro H enc W base spare held fuel cs d ps hd
  cases fuel with
  | zero => simp [DataW.trod] at hd
  | succ fuel =>
    unfold DataW.trod at hd
    rw [hu] at hd
    split at hd <;> try (exfalso; simp_all; done)
    rename_i cs _ _ fs' heq
    cases heq
    split at hd
    · rename_i hl
      obtain ⟨ys, hm, _⟩ := Option.map_eq_some_iff.1 hd
      rw [hfs] at hm
      obtain ⟨_, hq⟩ := mapM_some hm
      obtain ⟨⟨d', ps'⟩, _, hy⟩ := hq 0 f rfl
      rw [ho, List.drop_zero, List.take_of_length_le (by omega)] at hy
      exact h enc W base spare held fuel _ d' ps' hy
    · cases hd
/-- An argument of several cells. -/
theorem arg_agg {t : TypeId} {X : Type} {en : X → List AV} {ok : X → Prop} (h : Opens P fid t X en ok) {base : Nat} {spare : Nat → Bool} {held : Bool} {cs : Array Value} {d : DataW H} {ps : List MemPlace} (ht : DataW.Trod enc P W base spare held t (.agg cs) d ps) :
    ∃ x, ok x ∧ FRep fid (memOf W) (.agg (en x)) (.agg cs) := by
  obtain ⟨fuel, hf⟩ := ht
  obtain ⟨x, h1, h2⟩ := h enc W base spare held fuel _ d ps hf
  have e : (Value.agg cs).cells.toList = cs.toList := rfl
  rw [e] at h2
  refine ⟨x, h1, FRep.agg_mk (by rw [← Array.length_toList]; exact h2.1.symm) fun k y hy => ?_⟩
  obtain ⟨v, v1, v2, v3⟩ := h2.2 k y hy
  exact ⟨v, by simpa using v1, v2, v3⟩
/-- An argument of one cell. -/
theorem arg_one {t : TypeId} {X : Type} {en : X → AV} {ok : X → Prop} (h : Opens P fid t X (fun x => [en x]) ok) {base : Nat} {spare : Nat → Bool} {held : Bool} {v : Value} (hv : v.cells.toList = [v]) {d : DataW H} {ps : List MemPlace} (ht : DataW.Trod enc P W base spare held t v d ps) :
    ∃ x, ok x ∧ FRep fid (memOf W) (en x) v := by
  obtain ⟨fuel, hf⟩ := ht
  rw [hv] at hf
  obtain ⟨x, h1, h2⟩ := h enc W base spare held fuel _ d ps hf
  obtain ⟨v', v1, v2, v3⟩ := h2.2 0 (en x) rfl
  simp at v1; subst v1
  exact ⟨x, h1, v3⟩
end
end Go.AVM
