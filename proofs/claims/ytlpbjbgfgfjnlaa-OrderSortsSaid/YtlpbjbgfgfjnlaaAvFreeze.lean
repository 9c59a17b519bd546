/- Freezing is right: what was told by way of the store may be told without it, while the store's blocks stay as they are. -/
import Derived.Test.YtlpbjbgfgfjnlaaAvRep
set_option linter.unusedVariables false
set_option linter.unusedSimpArgs false
set_option linter.unusedSectionVars false
namespace Go.AVM

theorem mapM_some {α β : Type} {f : α → Option β} : ∀ {l : List α} {l' : List β}, l.mapM f = some l' → l'.length = l.length ∧ ∀ (k : Nat) (x : α), l[k]? = some x → ∃ y, l'[k]? = some y ∧ f x = some y
  | [], l', h => by
    simp at h; subst h
    exact ⟨rfl, fun k x hx => by simp at hx⟩
  | a :: l, l', h => by
    rw [List.mapM_cons] at h
    cases ha : f a with
    | none => rw [ha] at h; cases h
    | some b =>
      cases hl : l.mapM f with
      | none => rw [ha, hl] at h; cases h
      | some m =>
        rw [ha, hl] at h
        cases h
        obtain ⟨h1, h2⟩ := mapM_some hl
        refine ⟨by simp [h1], fun k x hx => ?_⟩
        cases k with
        | zero => simp at hx; subst hx; exact ⟨b, rfl, ha⟩
        | succ k => simp at hx; simpa using h2 k x hx
theorem mapM_inv {α β : Type} {f : α → Option β} {l : List α} {l' : List β} (h : l.mapM f = some l') {k : Nat} {y : β} (hy : l'[k]? = some y) : ∃ x, l[k]? = some x ∧ f x = some y := by
  obtain ⟨h1, h2⟩ := mapM_some h
  have hk : k < l.length := by have := (List.getElem?_eq_some_iff.1 hy).1; omega
  obtain ⟨y', hy', hf⟩ := h2 k l[k] (by simp [hk])
  rw [hy] at hy'; cases hy'
  exact ⟨_, by simp [hk], hf⟩

theorem chunk_length (sz : Nat) : ∀ (n : Nat) (cs : List AV), (chunk sz n cs).length = n
  | 0, _ => rfl
  | n + 1, cs => by simp [chunk, chunk_length sz n]
theorem chunk_get (sz : Nat) : ∀ (n : Nat) (cs : List AV) (i : Nat), i < n → (chunk sz n cs)[i]? = some (if sz = 1 then (cs.drop (i * sz)).headD .any else .agg ((cs.drop (i * sz)).take sz))
  | 0, _, i, h => by omega
  | n + 1, cs, 0, h => by simp [chunk]
  | n + 1, cs, i + 1, h => by
    simp only [chunk, List.getElem?_cons_succ]
    rw [chunk_get sz n _ i (by omega), List.drop_drop]
    have : sz + i * sz = (i + 1) * sz := by rw [Nat.add_mul]; omega
    rw [this]
theorem chunk_cells {sz n : Nat} {cs : List AV} (hl : cs.length = n * sz) (h1 : sz = 1 → ∀ x ∈ cs, x.cells = [x]) {i : Nat} {e : AV} (he : (chunk sz n cs)[i]? = some e) :
    e.cells.length = sz ∧ ∀ (k : Nat) (x : AV), e.cells[k]? = some x → cs[i * sz + k]? = some x := by
  have hi : i < n := by have := (List.getElem?_eq_some_iff.1 he).1; rwa [chunk_length] at this
  have hb : i * sz + sz ≤ n * sz := by rw [← Nat.succ_mul]; exact Nat.mul_le_mul_right _ hi
  rw [chunk_get sz n cs i hi] at he
  by_cases hz : sz = 1
  · subst hz
    simp only [if_true, Nat.mul_one, Option.some.injEq] at he
    have hlt : i < cs.length := by omega
    rw [List.drop_eq_getElem_cons hlt, List.headD_cons] at he
    subst he
    have := h1 rfl cs[i] (List.getElem_mem hlt)
    rw [this]
    refine ⟨rfl, fun k x hx => ?_⟩
    cases k with
    | zero => simp at hx; subst hx; simp [hlt]
    | succ k => simp at hx
  · simp only [hz, if_false, Option.some.injEq] at he
    subst he
    simp only [AV.cells]
    refine ⟨by simp; omega, fun k x hx => ?_⟩
    have hk : k < sz := by
      have := (List.getElem?_eq_some_iff.1 hx).1
      simp at this; omega
    rwa [List.getElem?_take_of_lt hk, List.getElem?_drop] at hx

section
variable {fid : Nat → FuncId} {S : Store} {J : JMap} {M : Mem} {w : World}

def Covers (S : Store) (J : JMap) (B : Nat → Prop) (blk o : Nat) : Prop :=
  ∃ b cs ex base ps, B b ∧ S[b]? = some (.mu cs ex) ∧ J b cs.length = some (some (blk, base, ps)) ∧ base ≤ o ∧ o < base + cs.length
open Classical in
/-- What never changes, and what the blocks of B hold. -/
noncomputable def Mset (S : Store) (J : JMap) (M : Mem) (w : World) (B : Nat → Prop) : Mem := fun blk o =>
  match M blk o with
  | some v => some v
  | none => if Covers S J B blk o then w.cell? ⟨blk, o, none⟩ else none

theorem Mset_le (B : Nat → Prop) : M.le (Mset S J M w B) := fun b o v h => by simp [Mset, h]
theorem Mset_cases {B : Nat → Prop} {blk o : Nat} {v : Value} (h : Mset S J M w B blk o = some v) : M blk o = some v ∨ (M blk o = none ∧ Covers S J B blk o ∧ w.cell? ⟨blk, o, none⟩ = some v) := by
  unfold Mset at h
  cases hm : M blk o with
  | some u => rw [hm] at h; exact .inl h
  | none =>
    rw [hm] at h
    simp only at h
    split at h
    · rename_i hc; exact .inr ⟨rfl, hc, h⟩
    · cases h
theorem Covers.wr {B : Nat → Prop} {blk o : Nat} (h : Covers S J B blk o) : Wr S J blk := by
  obtain ⟨b, cs, ex, base, ps, _, hb, hj, _, _⟩ := h
  exact ⟨b, cs, ex, base, ps, hb, hj⟩
theorem Mset_of (I : Inv fid S J M w) {B : Nat → Prop} {b : Nat} {cs : List AV} {ex : Bool} (hB : B b) (hb : S[b]? = some (.mu cs ex)) {blk base ps : Nat} (hj : J b cs.length = some (some (blk, base, ps)))
    {k : Nat} {x : AV} (hx : cs[k]? = some x) : ∃ v, Mset S J M w B blk (base + k) = some v ∧ v.plain ∧ ARep fid J M x v := by
  rcases I.blk b cs ex hb ⟨_, by rw [hj]; simp⟩ with ⟨rfl, _, _⟩ | ⟨blk', base', ps', arr, el, hj', hh, hsz, hps, _, hc, hn⟩
  · simp at hx
  · rw [hj] at hj'; cases hj'
    obtain ⟨v, hv, hp, hr⟩ := hc k x hx
    refine ⟨v, ?_, hp, hr⟩
    unfold Mset
    rw [hn]
    simp only
    have hk := (List.getElem?_eq_some_iff.1 hx).1
    rw [if_pos ⟨b, cs, ex, base, ps, hB, hb, hj, by omega, by omega⟩]
    exact cell_of_arr hh hv
theorem Mset_mem (I : Inv fid S J M w) {B : Nat → Prop} {blk o : Nat} {v : Value} (h : Mset S J M w B blk o = some v) : w.cell? ⟨blk, o, none⟩ = some v ∧ v.plain := by
  rcases Mset_cases h with h | ⟨_, hc, h⟩
  · exact I.mem _ _ _ h
  · refine ⟨h, ?_⟩
    obtain ⟨b, cs, ex, base, ps, hB, hb, hj, h1, h2⟩ := hc
    obtain ⟨v', hv', hp, _⟩ := Mset_of I (B := B) hB hb hj (k := o - base) (x := cs[o - base]'(by omega)) (by simp)
    rw [show base + (o - base) = o by omega] at hv'
    rcases Mset_cases hv' with hm | ⟨_, _, hm⟩
    · exact absurd hm (by rw [I.wr_none ⟨b, cs, ex, base, ps, hb, hj⟩]; simp)
    · rw [hm] at h; cases h; exact hp
theorem Mset_none (I : Inv fid S J M w) {B : Nat → Prop} {b : Nat} {cs : List AV} {ex : Bool} (hB : ¬ B b) (hb : S[b]? = some (.mu cs ex)) {blk base ps : Nat} (hj : J b cs.length = some (some (blk, base, ps))) (o : Nat) :
    Mset S J M w B blk o = none := by
  cases h : Mset S J M w B blk o with
  | none => rfl
  | some v =>
    rcases Mset_cases h with hm | ⟨_, ⟨b', cs', ex', base', ps', hB', hb', hj', _, _⟩, _⟩
    · rw [I.wr_none ⟨b, cs, ex, base, ps, hb, hj⟩] at hm; cases hm
    · have := I.inj b b' cs ex cs' ex' blk base ps base' ps' hb hj hb' hj'
      subst this; exact absurd hB' hB

theorem rd_content {b off vl n : Nat} {cs : List AV} (h : rd S b off vl n = some cs) :
    ∃ c, (S[b]? = some (.fz c) ∨ ∃ ex, S[b]? = some (.mu c ex)) ∧ c.length = vl ∧ off + n ≤ vl ∧ cs = (c.drop off).take n := by
  unfold rd at h
  split at h
  · obtain ⟨⟨hl, hle⟩, e⟩ := chk_some.1 h
    cases e
    exact ⟨_, .inr ⟨_, by assumption⟩, hl, hle, rfl⟩
  · obtain ⟨⟨hl, hle⟩, e⟩ := chk_some.1 h
    cases e
    exact ⟨_, .inl (by assumption), hl, hle, rfl⟩
  · cases h
/-- What is read out of the blocks of B never changes, as long as these stay. -/
theorem rd_set (I : Inv fid S J M w) {B : Nat → Prop} {b off vl n : Nat} {cs : List AV} (h : rd S b off vl n = some cs) {blk base ps : Nat} (hj : J b vl = some (some (blk, base, ps))) (hB : B b)
    {k : Nat} {x : AV} (hx : cs[k]? = some x) : ∃ v, Mset S J M w B blk (base + off + k) = some v ∧ v.plain ∧ ARep fid J M x v := by
  obtain ⟨c, hc, hl, hle, rfl⟩ := rd_content h
  have hk : k < n := by
    have := (List.getElem?_eq_some_iff.1 hx).1
    simp at this; omega
  rw [List.getElem?_take_of_lt hk, List.getElem?_drop] at hx
  rw [Nat.add_assoc]
  rcases hc with hc | ⟨ex, hc⟩
  · rcases I.fzb b c hc ⟨_, by rw [hj]; simp⟩ with ⟨rfl, _⟩ | ⟨blk', base', ps', hj', hcc⟩
    · simp at hx
    · rw [hl, hj] at hj'; cases hj'
      obtain ⟨v, hv, hr⟩ := hcc (off + k) x hx
      exact ⟨v, Mset_le B _ _ _ hv, (I.mem _ _ _ hv).2, .fr hr⟩
  · exact Mset_of I hB hc (by rw [hl]; exact hj) hx
theorem mem_content {b off vl n : Nat} {cs : List AV} (h : rd S b off vl n = some cs) {x : AV} (hx : x ∈ cs) (fuel : Nat) {i : Nat} (hi : i ∈ ids S fuel x) {c : List AV} {ex : Bool} (hc : S[b]? = some (.mu c ex)) : i ∈ c.flatMap (ids S fuel) := by
  obtain ⟨c', hc', _, _, rfl⟩ := rd_content h
  rcases hc' with hc' | ⟨ex', hc'⟩
  · rw [hc] at hc'; cases hc'
  · rw [hc] at hc'; cases hc'
    exact List.mem_flatMap.2 ⟨x, List.mem_of_mem_drop (List.mem_of_mem_take hx), hi⟩

/-- A frozen cell's value again frozen: nothing new is needed. -/
theorem fzc_fr (fuel : Nat) : ∀ {v v' : AV} {cv : Value}, fzc S fuel v = some v' → FRep fid M v cv → FRep fid M v' cv := by
  induction fuel with
  | zero =>
    intro v v' cv h r
    cases r with
    | slN sz t a c ht => simp only [fzc] at h; cases h; exact .slN sz false a c (by simp)
    | slC es sz t blk off c cv hc ht hz h1 h2 => simp only [fzc] at h; cases h; exact .slC es sz false blk off c cv hc (by simp) hz h1 h2
    | agg | tup | fn => simp [fzc] at h
    | bool b => simp only [fzc] at h; cases h; exact .bool b
    | int k n => simp only [fzc] at h; cases h; exact .int k n
    | str s => simp only [fzc] at h; cases h; exact .str s
    | nilp => simp only [fzc] at h; cases h; exact .nilp
    | nilfn => simp only [fzc] at h; cases h; exact .nilfn
    | fptr cs blk off cv h1 h2 => simp only [fzc] at h; cases h; exact .fptr cs blk off cv h1 h2
  | succ fuel ih =>
    intro v v' cv h r
    cases r with
    | slN sz t a c ht => simp only [fzc] at h; cases h; exact .slN sz false a c (by simp)
    | slC es sz t blk off c cv hc ht hz h1 h2 => simp only [fzc] at h; cases h; exact .slC es sz false blk off c cv hc (by simp) hz h1 h2
    | agg | tup => simp [fzc] at h
    | fn f cs vs hs cv h1 h2 =>
      simp only [fzc] at h
      obtain ⟨cs', hc, e⟩ := Option.bind_eq_some_iff.1 h
      cases e
      obtain ⟨hl, hm⟩ := mapM_some hc
      refine FRep.fn_mk (by omega) fun k y hy => ?_
      obtain ⟨x, hx, hf⟩ := mapM_inv hc hy
      exact ⟨cv k, h1 k x hx, ih hf (h2 k x hx)⟩
    | bool b => simp only [fzc] at h; cases h; exact .bool b
    | int k n => simp only [fzc] at h; cases h; exact .int k n
    | str s => simp only [fzc] at h; cases h; exact .str s
    | nilp => simp only [fzc] at h; cases h; exact .nilp
    | nilfn => simp only [fzc] at h; cases h; exact .nilfn
    | fptr cs blk off cv h1 h2 => simp only [fzc] at h; cases h; exact .fptr cs blk off cv h1 h2

theorem ids_fr (fuel : Nat) : ∀ {v : AV} {cv : Value}, FRep fid M v cv → ids S fuel v = [] := by
  induction fuel with
  | zero => intro v cv r; cases r <;> simp [ids]
  | succ fuel ih =>
    intro v cv r
    cases r with
    | agg cs vs hs cv h1 h2 =>
      simp only [ids, List.flatMap_eq_nil_iff]
      intro x hx
      obtain ⟨k, hk⟩ := List.mem_iff_getElem?.1 hx
      exact ih (h2 k x hk)
    | fn f cs vs hs cv h1 h2 =>
      simp only [ids, List.flatMap_eq_nil_iff]
      intro x hx
      obtain ⟨k, hk⟩ := List.mem_iff_getElem?.1 hx
      exact ih (h2 k x hk)
    | _ => simp [ids]

theorem content_ids (I : Inv fid S J M w) {b off vl n : Nat} {cs : List AV} (h : rd S b off vl n = some cs) (hj : J b vl ≠ none) {x : AV} (hx : x ∈ cs) (fuel : Nat) {i : Nat} (hi : i ∈ ids S fuel x) :
    i ∈ (match S[b]? with | some (.mu cs _) => cs.flatMap (ids S fuel) | _ => []) := by
  obtain ⟨c, hcc, hl, _, rfl⟩ := rd_content h
  rcases hcc with hcc | ⟨ex, hcc⟩
  · exfalso
    have hx' : x ∈ c := List.mem_of_mem_drop (List.mem_of_mem_take hx)
    rcases I.fzb b c hcc ⟨_, hj⟩ with ⟨rfl, _⟩ | ⟨blk', base', ps', hj', hq⟩
    · simp at hx'
    · obtain ⟨k', hk'⟩ := List.mem_iff_getElem?.1 hx'
      obtain ⟨v', hv', hr'⟩ := hq k' x hk'
      rw [ids_fr fuel hr'] at hi
      cases hi
  · simp only [hcc]
    exact mem_content h hx fuel hi hcc

theorem fzc_sound (I : Inv fid S J M w) (B : Nat → Prop) (fuel : Nat) : ∀ {v v' : AV} {cv : Value}, fzc S fuel v = some v' → (∀ b ∈ ids S fuel v, B b) → ARep fid J M v cv → FRep fid (Mset S J M w B) v' cv := by
  induction fuel with
  | zero =>
    intro v v' cv h hB r
    cases r with
    | fr r => exact (fzc_fr 0 h r).mono (Mset_le B)
    | _ => simp [fzc] at h
  | succ fuel ih =>
    intro v v' cv h hB r
    cases r with
    | fr r => exact (fzc_fr _ h r).mono (Mset_le B)
    | any | agg | tup | tl => simp [fzc] at h
    | mslN b sz cap a hj hcap =>
      simp only [fzc] at h
      obtain ⟨cs, hc, h⟩ := Option.bind_eq_some_iff.1 h
      obtain ⟨cs', hm, e⟩ := Option.bind_eq_some_iff.1 h
      cases e
      exact .slN sz false a 0 (by simp)
    | fn f cs vs hs cv h1 h2 =>
      simp only [fzc] at h
      obtain ⟨cs', hc, e⟩ := Option.bind_eq_some_iff.1 h
      cases e
      obtain ⟨hl, hm⟩ := mapM_some hc
      refine FRep.fn_mk (by omega) fun k y hy => ?_
      obtain ⟨x, hx, hf⟩ := mapM_inv hc hy
      exact ⟨cv k, h1 k x hx, ih hf (fun b hb => hB b (by simp only [ids]; exact List.mem_flatMap.2 ⟨x, List.mem_of_getElem? hx, hb⟩)) (h2 k x hx)⟩
    | mptr b off vl blk base ps hj =>
      simp only [fzc] at h
      obtain ⟨cs, hc, h⟩ := Option.bind_eq_some_iff.1 h
      obtain ⟨cs', hm, e⟩ := Option.bind_eq_some_iff.1 h
      cases e
      refine FRep.fptr_mk fun k y hy => ?_
      obtain ⟨x, hx, hf⟩ := mapM_inv hm hy
      obtain ⟨v, hv, hp, hr⟩ := rd_set I (B := B) hc hj (hB b (by simp [ids])) hx
      refine ⟨v, hv, ih hf (fun i hi => hB i ?_) hr⟩
      simp only [ids]
      exact List.mem_cons_of_mem _ (content_ids I hc (by rw [hj]; simp) (List.mem_of_getElem? hx) fuel hi)
    | msl b off n sz vl cap blk base ps c a hj hn hcap ha =>
      simp only [fzc] at h
      obtain ⟨cs, hc, h⟩ := Option.bind_eq_some_iff.1 h
      obtain ⟨cs', hm, e⟩ := Option.bind_eq_some_iff.1 h
      cases e
      obtain ⟨hl, hm'⟩ := mapM_some hm
      have hcl : cs.length = n * sz := (I.rd hc hj).1
      have key : ∀ (k : Nat) (y : AV), cs'[k]? = some y → ∃ v, Mset S J M w B blk (base + off + k) = some v ∧ v.plain ∧ FRep fid (Mset S J M w B) y v := by
        intro k y hy
        obtain ⟨x, hx, hf⟩ := mapM_inv hm hy
        obtain ⟨v, hv, hp, hr⟩ := rd_set I (B := B) hc hj (hB b (by simp [ids])) hx
        refine ⟨v, hv, hp, ih hf (fun i hi => hB i ?_) hr⟩
        simp only [ids]
        exact List.mem_cons_of_mem _ (content_ids I hc (by rw [hj]; simp) (List.mem_of_getElem? hx) fuel hi)
      have h0 : (chunk sz n cs').length = n := chunk_length sz n cs'
      have hr : FRep fid (Mset S J M w B) (.sl (chunk sz n cs') sz false) (.slice a (chunk sz n cs').length c) := by
        refine FRep.sl_mk (by omega) (by simp) ?_
        rcases Nat.eq_zero_or_pos n with rfl | hpos
        · exact .inl rfl
        · refine .inr ⟨blk, base + off, ha.resolve_left (by omega), fun i e he => ?_⟩
          obtain ⟨hz, hk⟩ := chunk_cells (cs := cs') (by omega) (fun _ x hx => by
            obtain ⟨k, hk⟩ := List.mem_iff_getElem?.1 hx
            obtain ⟨v, _, hp, hr⟩ := key k x hk
            exact hr.cells_of_plain hp) he
          refine ⟨hz, fun k x hx => ?_⟩
          obtain ⟨v, hv, _, hr⟩ := key _ x (hk k x hx)
          exact ⟨v, by rw [Nat.add_assoc]; exact hv, hr⟩
      rw [h0] at hr
      exact hr

theorem fz1_sound (I : Inv fid S J M w) (B : Nat → Prop) {v v' : AV} {cv : Value} (h : fz1 S v = some v') (hB : ∀ b ∈ ids S fzDepth v, B b) (r : ARep fid J M v cv) : FRep fid (Mset S J M w B) v' cv := by
  unfold fz1 at h
  split at h
  · rename_i cs
    obtain ⟨cs', hc, e⟩ := Option.bind_eq_some_iff.1 h
    cases e
    obtain ⟨vs, rfl, hs, hq⟩ := r.agg_inv
    obtain ⟨hl, _⟩ := mapM_some hc
    refine FRep.agg_mk (by omega) fun k y hy => ?_
    obtain ⟨x, hx, hf⟩ := mapM_inv hc hy
    obtain ⟨cv, hv, hp, hr⟩ := hq k x hx
    exact ⟨cv, hv, hp, fzc_sound I B 5 hf (fun b hb => hB b (List.mem_flatMap.2 ⟨x, List.mem_of_getElem? hx, hb⟩)) hr⟩
  · exact fzc_sound I B fzDepth h hB r

/-- A result frozen: of the callee's store nothing is left. -/
theorem fzv_sound (I : Inv fid S J M w) {v v' : AV} {cv : Value} (h : fzv S v = some v') (r : ARep fid J M v cv) : FRep fid (Mset S J M w fun _ => True) v' cv := by
  unfold fzv at h
  split at h
  · rename_i vs
    obtain ⟨vs', hc, e⟩ := Option.bind_eq_some_iff.1 h
    cases e
    obtain ⟨ws, rfl, hs, hq⟩ := r.tup_inv
    obtain ⟨hl, _⟩ := mapM_some hc
    refine FRep.tup_mk (by omega) fun k y hy => ?_
    obtain ⟨x, hx, hf⟩ := mapM_inv hc hy
    obtain ⟨cv, hv, hr⟩ := hq k x hx
    exact ⟨cv, hv, fz1_sound I _ hf (fun _ _ => trivial) hr⟩
  · exact fz1_sound I _ h (fun _ _ => trivial) r

/-! ### Values without a way into the store -/
theorem nrc_ids {v : AV} (h : nrc v = true) (fuel : Nat) : ids S fuel v = [] := by
  cases v <;> simp [nrc] at h <;> cases fuel <;> simp [ids]
theorem nr1_ids {v : AV} (h : nr1 v = true) (fuel : Nat) : ids S fuel v = [] := by
  unfold nr1 at h
  split at h
  · rename_i cs
    cases fuel with
    | zero => rfl
    | succ fuel =>
      simp only [ids, List.flatMap_eq_nil_iff]
      intro x hx
      exact nrc_ids (List.all_eq_true.1 h x hx) fuel
  · rename_i f cs
    cases fuel with
    | zero => rfl
    | succ fuel =>
      simp only [ids, List.flatMap_eq_nil_iff]
      intro x hx
      exact nrc_ids (List.all_eq_true.1 h x hx) fuel
  · exact nrc_ids h fuel
theorem nrc_fr {v : AV} {cv : Value} (h : nrc v = true) (r : ARep fid J M v cv) : FRep fid M v cv := by
  cases r with
  | fr r => exact r
  | _ => simp [nrc] at h
theorem nr1_fr {v : AV} {cv : Value} (h : nr1 v = true) (r : ARep fid J M v cv) : FRep fid M v cv := by
  unfold nr1 at h
  split at h
  · rename_i cs
    obtain ⟨vs, rfl, hs, hq⟩ := r.agg_inv
    refine FRep.agg_mk (by omega) fun k x hx => ?_
    obtain ⟨cv, hv, hp, hr⟩ := hq k x hx
    exact ⟨cv, hv, hp, nrc_fr (List.all_eq_true.1 h x (List.mem_of_getElem? hx)) hr⟩
  · rename_i f cs
    obtain ⟨vs, rfl, hs, hq⟩ := r.fn_inv
    refine FRep.fn_mk (by omega) fun k x hx => ?_
    obtain ⟨cv, hv, hr⟩ := hq k x hx
    exact ⟨cv, hv, nrc_fr (List.all_eq_true.1 h x (List.mem_of_getElem? hx)) hr⟩
  · exact nrc_fr h r
/-- A value that bears no memory is right whatever the memory. -/
theorem bare_fr {v : AV} {cv : Value} {M M' : Mem} (h : v.bare = true) (r : FRep fid M v cv) : FRep fid M' v cv := by
  have one : ∀ {x : AV} {u : Value}, (match x with | .bool _ | .int .. | .str _ => true | _ => false) = true → FRep fid M x u → FRep fid M' x u := by
    intro x u hx r
    cases r <;> simp at hx
    · exact .bool _
    · exact .int _ _
    · exact .str _
  cases r with
  | bool b => exact .bool b
  | int k n => exact .int k n
  | str s => exact .str s
  | agg cs vs hs cv h1 h2 => exact .agg cs vs hs cv h1 fun k x hx => one (List.all_eq_true.1 h x (List.mem_of_getElem? hx)) (h2 k x hx)
  | tup cs vs hs cv h1 h2 => exact .tup cs vs hs cv h1 fun k x hx => one (List.all_eq_true.1 h x (List.mem_of_getElem? hx)) (h2 k x hx)
  | _ => simp [AV.bare] at h
end
end Go.AVM
