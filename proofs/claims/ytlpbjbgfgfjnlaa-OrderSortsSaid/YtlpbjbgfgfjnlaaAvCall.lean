/- Calls: what a callee that sees no store, or the caller's store, leaves behind. -/
import Derived.Test.YtlpbjbgfgfjnlaaAvOps8
set_option linter.unusedVariables false
set_option linter.unusedSimpArgs false
set_option linter.unusedSectionVars false
namespace Go.AVM
section
variable {P : Program} {fid : Nat → FuncId} {mid : FuncId → Option Nat} {S S' : Store} {J : JMap} {M : Mem} {w : World} {tm : List AV} {a : Act} {o : Oper} {ps : List Opd} {v' : AV} {R : RunF}

/-- Arguments, told. -/
def AsRep (fid : Nat → FuncId) (J : JMap) (M : Mem) (args : List AV) (cargs : Array Value) : Prop := cargs.size = args.length ∧ ∀ (k : Nat) (x : AV), args[k]? = some x → ∃ cv : Value, cargs[k]? = some cv ∧ ARep fid J M x cv
/-- What a call leaves: a value, store and world. -/
def Left (fid : Nat → FuncId) (S : Store) (J : JMap) (M : Mem) (w : World) (r : AV) (S' : Store) (e : Ending) (w' : World) : Prop :=
  ∃ v J' M', e = .returned v ∧ Inv fid S' J' M' w' ∧ Step S J M w S' J' M' w' ∧ ARep fid J' M' r v
/-- Every run of R is a call of the machine's. -/
def SoundR (P : Program) (fid : Nat → FuncId) (R : RunF) : Prop :=
  ∀ f args S r S', R f args S = some (r, S') → (∀ cargs w, (callFunc (fid f) cargs).run P w = .ok (.enter (fid f) cargs) w) ∧
    ∀ J M w cargs, Inv fid S J M w → AsRep fid J M args cargs → Calls P (fid f) cargs w (Left fid S J M w r S')

theorem Inv.empty (hm : ∀ b o v, M b o = some v → w.cell? ⟨b, o, none⟩ = some v ∧ v.plain) : Inv fid [] (fun _ _ => none) M w :=
  { mem := hm
    blk := fun b cs ex h => (by simp at h)
    fzb := fun b cs h => (by simp at h)
    jlt := fun b vl h => absurd rfl h
    jmx := fun b vl cs ex h => (by simp at h)
    jps := fun b vl _ _ _ h => nomatch h
    inj := fun b b' cs ex cs' ex' blk base p base' p' h => (by simp at h) }
theorem not_wr_nil {J : JMap} {i : Nat} : ¬ Wr [] J i := by
  rintro ⟨b, cs, ex, base, p, h, _⟩
  simp at h

/-- The blocks that the arguments lead into. -/
def argIds (S : Store) (args : List AV) : List Nat := args.flatMap (ids S fzDepth)
theorem argIds_nr {args : List AV} (h : args.all nr1 = true) : argIds S args = [] := by
  unfold argIds
  rw [List.flatMap_eq_nil_iff]
  intro x hx
  exact nr1_ids (List.all_eq_true.1 h x hx) _
theorem Mset_nil : Mset S J M w (· ∈ ([] : List Nat)) = M := by
  funext b o
  unfold Mset
  cases hm : M b o with
  | some v => rfl
  | none =>
    simp only
    rw [if_neg]
    rintro ⟨_, _, _, _, _, hf, _⟩
    cases hf

/-- A call that sees no store: what is known when it has come back. -/
structure Back (fid : Nat → FuncId) (S : Store) (J : JMap) (M : Mem) (w : World) (B : List Nat) (M2 : Mem) (w' : World) : Prop where
  le : (Mset S J M w (· ∈ B)).le M2
  new : ∀ b o v, M2 b o = some v → Mset S J M w (· ∈ B) b o = some v ∨ w.heap.size ≤ b
  mem : ∀ b o v, M2 b o = some v → w'.cell? ⟨b, o, none⟩ = some v ∧ v.plain
  frame : ∀ i, i < w.heap.size → w'.heap[i]? = w.heap[i]?
  size : w.heap.size ≤ w'.heap.size
  os : w'.os = w.os
  tape : w'.tape = w.tape
  output : w'.output = w.output

theorem settle_wr {bs : List Nat} (h : settle S bs bs S = some S') {i : Nat} (hw : Wr S' J i) : Wr S J i := by
  obtain ⟨b, cs, ex, base, p, h1, h2⟩ := hw
  obtain ⟨hl, hg⟩ := settle_get h
  rcases hg b with e | ⟨_, _, _, _, _, _, _, e⟩ | e
  · exact ⟨b, cs, ex, base, p, by rw [← e]; exact h1, h2⟩
  · rw [e] at h1; cases h1
  · rw [e] at h1; cases h1
theorem after_back (I : Inv fid S J M w) {args : List AV} {cargs : Array Value} (ha : AsRep fid J M args cargs) {M2 : Mem} {w' : World} (hb : Back fid S J M w (argIds S args) M2 w') {st : Bool} {r : AV} (h : after st S args r = some S') :
    ∃ M3, Inv fid S' J M3 w' ∧ Step S J M w S' J M3 w' ∧ (∀ i, Wr S' J i → Wr S J i) ∧ (M3 = M2 ∨ (r.bare = true ∧ M3 = M)) := by
  have hd : ∀ b ∈ argIds S args, ∃ vl, J b vl ≠ none := by
    intro b hb
    obtain ⟨x, hx, hb⟩ := List.mem_flatMap.1 hb
    obtain ⟨k, hk⟩ := List.mem_iff_getElem?.1 hx
    obtain ⟨cv, _, hr⟩ := ha.2 k x hk
    exact ids_def I _ hr b hb
  unfold after at h
  split at h
  · rename_i hc
    cases h
    by_cases hnr : args.all nr1 = true
    · have hB := argIds_nr (S := S) hnr
      obtain ⟨h1, h2, h3, h4, h5, h6, h7, h8⟩ := hb
      rw [hB, Mset_nil] at h1 h2
      obtain ⟨i1, s1⟩ := after_keep I h1 h2 h3 h4 h5 h6 h7 h8
      exact ⟨M2, i1, s1, fun _ h => h, .inl rfl⟩
    · have hbare : r.bare = true := by
        cases hrb : r.bare with
        | true => rfl
        | false => rw [hrb] at hc; simp at hc; exact absurd (by simpa using hc) hnr
      obtain ⟨i1, s1⟩ := after_drop I hb.frame hb.size hb.os hb.tape hb.output
      exact ⟨M, i1, s1, fun _ h => h, .inr ⟨hbare, rfl⟩⟩
  · split at h
    · cases h
    · obtain ⟨i1, s1⟩ := after_settle I h hd hb.le hb.new hb.mem hb.frame hb.size hb.os hb.tape hb.output
      exact ⟨M2, i1, s1, fun _ hw => settle_wr h hw, .inl rfl⟩

/-- The arguments, told without the store. -/
theorem frozen_args (I : Inv fid S J M w) {args as : List AV} {cargs : Array Value} (ha : AsRep fid J M args cargs) (h : args.mapM (fz1 S) = some as) :
    AsRep fid (fun _ _ => none) (Mset S J M w (· ∈ argIds S args)) as cargs := by
  obtain ⟨hl, _⟩ := mapM_some h
  refine ⟨by rw [ha.1, hl], fun k x hx => ?_⟩
  obtain ⟨y, hy, hf⟩ := mapM_inv h hx
  obtain ⟨cv, hc, hr⟩ := ha.2 k y hy
  exact ⟨cv, hc, .fr (fz1_sound I _ hf (fun b hb => List.mem_flatMap.2 ⟨y, List.mem_of_getElem? hy, hb⟩) hr)⟩
/-- Behind the callee's return. -/
theorem back_of {B : List Nat} {S0 : Store} {J' : JMap} {M' : Mem} {w' : World} {Q : Nat → Prop} (hs : Step [] (fun _ _ => none) (Mset S J M w (· ∈ B)) w S0 J' M' w') {S1 : Store} (I1 : Inv fid S1 J' M' w') (hsub : ∀ i, Wr S1 J' i → Wr S0 J' i) :
    Back fid S J M w B (Mset S1 J' M' w' Q) w' := by
  refine ⟨fun b o v h => Mset_le _ _ _ _ (hs.mle _ _ _ h), fun b o v h => ?_, fun b o v h => Mset_mem I1 h, fun i hi => hs.frame i hi not_wr_nil, hs.size, hs.os, hs.tape, hs.output⟩
  rcases Mset_cases h with h | ⟨_, hc, _⟩
  · rcases hs.mnew b o v h with h | h | h
    · exact .inl h
    · exact .inr h
    · exact absurd h not_wr_nil
  · rcases hs.wnew b (hsub b hc.wr) with h | h
    · exact absurd h not_wr_nil
    · exact .inr h

theorem callPure_sound (hR : SoundR P fid R) (I : Inv fid S J M w) {args : List AV} {cargs : Array Value} (ha : AsRep fid J M args cargs) {as : List AV} (has : args.mapM (fz1 S) = some as) {f : Nat} {r : AV} (h : callPure R f as = some r) :
    (∀ cargs w, (callFunc (fid f) cargs).run P w = .ok (.enter (fid f) cargs) w) ∧ Calls P (fid f) cargs w fun e w' => ∃ v M2, e = .returned v ∧ Back fid S J M w (argIds S args) M2 w' ∧ FRep fid M2 r v := by
  unfold callPure at h
  obtain ⟨⟨r0, S0⟩, h0, h⟩ := Option.bind_eq_some_iff.1 h
  obtain ⟨hc, hq⟩ := hR f as [] r0 S0 h0
  have I0 : Inv fid [] (fun _ _ => none) (Mset S J M w (· ∈ argIds S args)) w := .empty fun b o v h => Mset_mem I h
  refine ⟨hc, (hq _ _ w cargs I0 (frozen_args I ha has)).mono ?_⟩
  rintro e w' ⟨v, J', M', rfl, I', hs, hr⟩
  exact ⟨v, _, rfl, back_of hs I' (fun _ h => h), fzv_sound I' h hr⟩

/-! ### What is owned -/
theorem Inv.kill (I : Inv fid S J M w) (b : Nat) : Inv fid (S.set b .dead) J M w := by
  have hget : ∀ (b' : Nat) (B : Blk), (S.set b .dead)[b']? = some B → B = Blk.dead ∨ S[b']? = some B := by
    intro b' B e
    by_cases hbb : b = b'
    · subst hbb
      by_cases hl : b < S.length
      · rw [List.getElem?_set_self hl] at e; cases e; exact .inl rfl
      · simp [hl] at e
    · rw [List.getElem?_set_ne hbb] at e; exact .inr e
  have hmu : ∀ (b' : Nat) (cs : List AV) (ex : Bool), (S.set b .dead)[b']? = some (Blk.mu cs ex) → S[b']? = some (Blk.mu cs ex) := fun b' cs ex e => by
    rcases hget b' _ e with h | h
    · cases h
    · exact h
  refine ⟨I.mem, fun b' cs ex h => I.blk b' cs ex (hmu _ _ _ h), fun b' cs h => ?_, fun b' vl h => by rw [List.length_set]; exact I.jlt b' vl h, fun b' vl cs ex h => I.jmx b' vl cs ex (hmu _ _ _ h), I.jps,
    fun b1 b2 c1 e1 c2 e2 blk base p base' p' h1 j1 h2 j2 => I.inj b1 b2 c1 e1 c2 e2 blk base p base' p' (hmu _ _ _ h1) j1 (hmu _ _ _ h2) j2⟩
  rcases hget b' _ h with h | h
  · cases h
  · exact I.fzb b' cs h

/-- What a value told as owned says: a slice whose cells are nobody else's. -/
def OwnRep (fid : Nat → FuncId) (M : Mem) (w : World) (lo : Nat) : AV → Value → Prop
  | .osl cs n sz ex, v =>
    (cs = [] ∧ n = 0 ∧ ex = false ∧ ∃ ad, v = .slice ad 0 0) ∨
    ∃ blk base p arr el c ad, v = .slice ad n c ∧ (c = 0 ∨ ad = some ⟨blk, base, none⟩) ∧ lo ≤ blk ∧ w.heap[blk]? = some (.cells arr el (0, 0)) ∧ arr.size = base + p ∧ cs.length = n * sz ∧ cs.length ≤ p ∧ (ex = true → p = cs.length) ∧ n ≤ c ∧ c * sz = p ∧ (∀ o, M blk o = none) ∧
      ∀ (k : Nat) (x : AV), cs[k]? = some x → ∃ cv : Value, arr[base + k]? = some cv ∧ cv.plain ∧ FRep fid M x cv
  | x, v => FRep fid M x v
theorem takeOwn_sound {S0 : Store} {J' : JMap} {M' : Mem} {w' : World} {lo : Nat} (I : Inv fid S0 J' M' w') (hlo : ∀ i, Wr S0 J' i → lo ≤ i) {x : AV} {v : Value} (r : ARep fid J' M' x v) {oo : AV} {S1 : Store} (h : takeOwn S0 x = some (oo, S1)) :
    Inv fid S1 J' M' w' ∧ (∀ i, Wr S1 J' i → Wr S0 J' i) ∧ OwnRep fid (Mset S1 J' M' w' fun _ => True) w' lo oo v := by
  cases x with
  | sl es sz t =>
    simp only [takeOwn] at h; cases h
    refine ⟨I, fun _ h => h, ?_⟩
    cases r with
    | fr r => exact r.mono (Mset_le _)
  | msl b off n sz vl cap =>
    cases cap with
    | some c => simp [takeOwn] at h
    | none =>
      simp only [takeOwn] at h
      split at h
      · rename_i cs ex hb
        replace h := chk_some.1 h; obtain ⟨⟨rfl, hl, hfit⟩, h⟩ := h
        replace h := Option.bind_eq_some_iff.1 h; obtain ⟨cs', hm, h⟩ := h
        cases h
        have hbl := (List.getElem?_eq_some_iff.1 hb).1
        have hwr' : ∀ i, Wr (S0.set b .dead) J' i → ∃ b' c e base p, b' ≠ b ∧ S0[b']? = some (.mu c e) ∧ J' b' c.length = some (some (i, base, p)) := by
          rintro i ⟨b', c, e, base, p, h1, h2⟩
          by_cases hbb : b = b'
          · subst hbb
            rw [List.getElem?_set_self hbl] at h1; cases h1
          · rw [List.getElem?_set_ne hbb] at h1
            exact ⟨b', c, e, base, p, fun e => hbb e.symm, h1, h2⟩
        have hwr : ∀ i, Wr (S0.set b .dead) J' i → Wr S0 J' i := fun i hi => by
          obtain ⟨b', c, e, base, p, _, h1, h2⟩ := hwr' i hi
          exact ⟨b', c, e, base, p, h1, h2⟩
        have Ik := I.kill b
        refine ⟨Ik, hwr, ?_⟩
        obtain ⟨hlen, _⟩ := mapM_some hm
        have hlen' : cs'.length = n * sz := by rw [hlen, List.length_take]; omega
        rcases r.msl_inv with ⟨blk, base, p, c, ad, hj, hn, hcap, had, rfl⟩ | ⟨_, rfl, rfl, _, hj, ad, rfl⟩
        · rcases I.blk b cs ex hb ⟨vl, by rw [hj]; simp⟩ with ⟨rfl, _, h0⟩ | ⟨blk', base', p', arr, el, hj', hh, hsz, hps, hex, hc, hn'⟩
          · simp at hl; rw [← hl, h0] at hj; cases hj
          · rw [hl, hj] at hj'; cases hj'
            rcases hcap with ⟨_, hcp⟩ | ⟨h0, _⟩
            · refine .inr ⟨blk, base, p, arr, el, c, ad, rfl, had, hlo blk ⟨b, cs, ex, base, p, hb, by rw [hl]; exact hj⟩, hh, hsz, hlen', by omega, fun e => ?_, hn, by omega, fun o => ?_, fun k y hy => ?_⟩
              · simp only [Bool.and_eq_true, beq_iff_eq] at e
                have := hex e.1
                omega
              · cases e : Mset (S0.set b .dead) J' M' w' (fun _ => True) blk o with
                | none => rfl
                | some u =>
                  rcases Mset_cases e with e | ⟨_, hcv, _⟩
                  · rw [hn'] at e; cases e
                  · obtain ⟨b', c2, e2, base2, p2, hne, h1, h2⟩ := hwr' blk hcv.wr
                    exact absurd (I.inj b' b c2 e2 cs ex blk base2 p2 base p h1 h2 hb (by rw [hl]; exact hj)) hne
              · obtain ⟨x, hx, hf⟩ := mapM_inv hm hy
                have hk : k < n * sz := by have := (List.getElem?_eq_some_iff.1 hy).1; omega
                rw [List.getElem?_take_of_lt hk] at hx
                obtain ⟨cv, c1, c2, c3⟩ := hc k x hx
                exact ⟨cv, c1, c2, fzc_sound Ik _ fzDepth hf (fun _ _ => trivial) c3⟩
            · cases h0
        · rcases I.blk b cs ex hb ⟨0, by rw [hj]; simp⟩ with ⟨rfl, he, _⟩ | ⟨blk', base', p', arr, el, hj', _⟩
          · subst he
            exact .inl ⟨List.eq_nil_of_length_eq_zero (by rw [hlen']; simp), rfl, rfl, ad, rfl⟩
          · rw [hl, hj] at hj'; cases hj'
      · cases h
  | _ => simp [takeOwn] at h

theorem insert_get {l : List AV} {i : Nat} (hi : i ≤ l.length) (x : AV) (k : Nat) : (l.take i ++ x :: l.drop i)[k]? = if k < i then l[k]? else if k = i then some x else l[k - 1]? := by
  by_cases h1 : k < i
  · rw [List.getElem?_append_left (by simp; omega), List.getElem?_take_of_lt h1, if_pos h1]
  · rw [if_neg h1, List.getElem?_append_right (by simp; omega)]
    have hmin : min i l.length = i := by omega
    simp only [List.length_take, hmin]
    by_cases h2 : k = i
    · subst h2; simp
    · rw [if_neg h2, show k - i = (k - 1 - i) + 1 by omega, List.getElem?_cons_succ, List.getElem?_drop]
      congr 1; omega
/-- A result of which one part is owned. -/
def OwnsRep (fid : Nat → FuncId) (M : Mem) (w : World) (lo : Nat) (r : AV) (v : Value) : Prop :=
  OwnRep fid M w lo r v ∨ ∃ rs vs, r = .tup rs ∧ v = .tuple vs ∧ vs.size = rs.length ∧ ∃ i, i < rs.length ∧ (∀ (k : Nat) (x : AV), k ≠ i → rs[k]? = some x → ∃ cv : Value, vs[k]? = some cv ∧ FRep fid M x cv) ∧
    ∃ x cv, rs[i]? = some x ∧ vs[i]? = some cv ∧ OwnRep fid M w lo x cv
theorem ownRes_sound {S0 : Store} {J' : JMap} {M' : Mem} {w' : World} {lo : Nat} (I : Inv fid S0 J' M' w') (hlo : ∀ i, Wr S0 J' i → lo ≤ i) {r0 : AV} {v : Value} (rr : ARep fid J' M' r0 v) {i : Nat} {r : AV} (h : ownRes S0 i r0 = some r) :
    ∃ S1, Inv fid S1 J' M' w' ∧ (∀ i, Wr S1 J' i → Wr S0 J' i) ∧ OwnsRep fid (Mset S1 J' M' w' fun _ => True) w' lo r v := by
  unfold ownRes at h
  split at h
  · rename_i rs
    split at h
    · rename_i x hx
      replace h := Option.bind_eq_some_iff.1 h; obtain ⟨⟨oo, S1⟩, ho, h⟩ := h
      replace h := Option.bind_eq_some_iff.1 h; obtain ⟨r', hr', h⟩ := h
      cases h
      obtain ⟨vs, rfl, hs, hq⟩ := rr.tup_inv
      obtain ⟨cv, hcv, hrx⟩ := hq i x hx
      have hil := (List.getElem?_eq_some_iff.1 hx).1
      obtain ⟨I1, hw1, ho1⟩ := takeOwn_sound I hlo hrx ho
      refine ⟨S1, I1, hw1, .inr ⟨_, vs, rfl, rfl, ?_, i, ?_, fun k y hk hy => ?_, oo, cv, ?_, hcv, ho1⟩⟩
      · obtain ⟨hl, _⟩ := mapM_some hr'
        rw [List.length_eraseIdx_of_lt hil] at hl
        simp; omega
      · obtain ⟨hl, _⟩ := mapM_some hr'
        rw [List.length_eraseIdx_of_lt hil] at hl
        simp; omega
      · obtain ⟨hl, _⟩ := mapM_some hr'
        rw [List.length_eraseIdx_of_lt hil] at hl
        rw [insert_get (by omega)] at hy
        rw [if_neg hk] at hy
        have key : ∃ j : Nat, r'[j]? = some y ∧ (rs.eraseIdx i)[j]? = rs[k]? := by
          split at hy
          · rename_i hlt
            exact ⟨k, hy, by rw [List.getElem?_eraseIdx, if_pos hlt]⟩
          · rename_i hge
            refine ⟨k - 1, hy, ?_⟩
            rw [List.getElem?_eraseIdx, if_neg (by omega)]
            congr 1; omega
        obtain ⟨j, hj1, hj2⟩ := key
        obtain ⟨z, hz, hf⟩ := mapM_inv hr' hj1
        rw [hj2] at hz
        obtain ⟨cz, hcz, hrz⟩ := hq k z hz
        exact ⟨cz, hcz, fz1_sound I1 _ hf (fun _ _ => trivial) hrz⟩
      · obtain ⟨hl, _⟩ := mapM_some hr'
        rw [List.length_eraseIdx_of_lt hil] at hl
        rw [insert_get (by omega), if_neg (by omega), if_pos rfl]
    · cases h
  · obtain ⟨⟨oo, S1⟩, ho, e⟩ := Option.map_eq_some_iff.1 h
    simp only at e
    subst e
    obtain ⟨I1, hw1, ho1⟩ := takeOwn_sound I hlo rr ho
    exact ⟨S1, I1, hw1, .inl ho1⟩

theorem callOwn_sound (hR : SoundR P fid R) (I : Inv fid S J M w) {args : List AV} {cargs : Array Value} (ha : AsRep fid J M args cargs) {as : List AV} (has : args.mapM (fz1 S) = some as) {i f : Nat} {r : AV} (h : callOwn R i f as = some r) :
    (∀ cargs w, (callFunc (fid f) cargs).run P w = .ok (.enter (fid f) cargs) w) ∧ Calls P (fid f) cargs w fun e w' => ∃ v M2, e = .returned v ∧ Back fid S J M w (argIds S args) M2 w' ∧ OwnsRep fid M2 w' w.heap.size r v := by
  unfold callOwn at h
  obtain ⟨⟨r0, S0⟩, h0, h⟩ := Option.bind_eq_some_iff.1 h
  obtain ⟨hc, hq⟩ := hR f as [] r0 S0 h0
  have I0 : Inv fid [] (fun _ _ => none) (Mset S J M w (· ∈ argIds S args)) w := .empty fun b o v h => Mset_mem I h
  refine ⟨hc, (hq _ _ w cargs I0 (frozen_args I ha has)).mono ?_⟩
  rintro e w' ⟨v, J', M', rfl, I', hs, hr⟩
  obtain ⟨S1, I1, hw1, ho⟩ := ownRes_sound (lo := w.heap.size) I' (fun i hi => (hs.wnew i hi).resolve_left not_wr_nil) hr h
  exact ⟨v, _, rfl, back_of hs I1 hw1, ho⟩

/-- What is owned gets a place in the store. -/
theorem land1_sound {S0 : Store} {J0 : JMap} {M0 : Mem} {w0 : World} (hst : Step S0 J0 M0 w0 S J M w) (I : Inv fid S J M w) (hI0 : ∀ i, Wr S J i → i < w0.heap.size) {r : AV} {v : Value} (h : OwnRep fid M w w0.heap.size r v) :
    ∃ J', Inv fid (land1 S r).2 J' M w ∧ Step S0 J0 M0 w0 (land1 S r).2 J' M w ∧ ARep fid J' M (land1 S r).1 v ∧ J.le J' := by
  cases r with
  | osl cs n sz ex =>
    simp only [land1]
    rcases h with ⟨rfl, rfl, rfl, ad, rfl⟩ | ⟨blk, base, p, arr, el, c, ad, rfl, had, hlo, hh, hsz, hl, hlp, hex, hn, hcp, hM, hc⟩
    · exact ⟨_, I.regN, hst.regN I.fresh, ARep.mslN _ sz none ad (JMap.put_self ..) (.inl rfl), JMap.put_le (.inl (I.fresh _))⟩
    · refine ⟨_, I.reg hh (fun hw => ?_) hM hsz hlp hex (fun k x hx => let ⟨cv, c1, c2, c3⟩ := hc k x hx; ⟨cv, c1, c2, .fr c3⟩), hst.reg I.fresh hlo, ?_, JMap.put_le (.inl (I.fresh _))⟩
      · have := hI0 _ hw; omega
      · exact ARep.msl S.length 0 n sz cs.length none blk base p c ad (JMap.put_self ..) hn (.inl ⟨rfl, by omega⟩) (by simpa using had)
  | _ => exact ⟨J, I, hst, .fr h, fun _ _ _ h => h⟩
theorem land_sound {S0 : Store} {J0 : JMap} {M0 : Mem} {w0 : World} (hst : Step S0 J0 M0 w0 S J M w) (I : Inv fid S J M w) (hI0 : ∀ i, Wr S J i → i < w0.heap.size) {r : AV} {v : Value} (h : OwnsRep fid M w w0.heap.size r v) :
    ∃ J', Inv fid (land S r).2 J' M w ∧ Step S0 J0 M0 w0 (land S r).2 J' M w ∧ ARep fid J' M (land S r).1 v := by
  rcases h with h | ⟨rs, vs, rfl, rfl, hs, i, hi, hrest, x, cv, hx, hcv, ho⟩
  · have hland : land S r = land1 S r ∨ ∃ rs, r = .tup rs := by
      cases r <;> first | exact .inl rfl | exact .inr ⟨_, rfl⟩
    rcases hland with e | ⟨rs, rfl⟩
    · rw [e]
      obtain ⟨J', a1, a2, a3, _⟩ := land1_sound hst I hI0 h
      exact ⟨J', a1, a2, a3⟩
    · -- a frozen tuple
      have hfr : FRep fid M (.tup rs) v := h
      have hnone : rs.findIdx? AV.isOsl = none := by
        rw [List.findIdx?_eq_none_iff]
        intro x hx
        obtain ⟨k, hk⟩ := List.mem_iff_getElem?.1 hx
        cases hfr with
        | tup _ vs hs cv h1 h2 =>
          have hx := h2 k x hk
          generalize cv k = u at hx
          cases hx <;> rfl
      simp only [land, hnone]
      exact ⟨J, I, hst, .fr hfr⟩
  · simp only [land]
    cases hfi : rs.findIdx? AV.isOsl with
    | none =>
      simp only
      rw [List.findIdx?_eq_none_iff] at hfi
      refine ⟨J, I, hst, ARep.tup_mk hs fun k y hy => ?_⟩
      by_cases hki : k = i
      · subst hki
        rw [hx] at hy; cases hy
        refine ⟨cv, hcv, .fr ?_⟩
        have hno := hfi x (List.mem_of_getElem? hx)
        cases x <;> first | exact ho | (simp [AV.isOsl] at hno)
      · obtain ⟨c2, h1, h2⟩ := hrest k y hki hy
        exact ⟨c2, h1, .fr h2⟩
    | some j =>
      simp only
      obtain ⟨hjl, hjo, _⟩ := List.findIdx?_eq_some_iff_getElem.1 hfi
      have hji : j = i := by
        by_cases hne : j = i
        · exact hne
        · obtain ⟨c2, h1, h2⟩ := hrest j rs[j] hne (by simp [hjl])
          exfalso
          revert h2 hjo
          generalize rs[j] = q
          intro hjo h2
          cases q <;> first | (simp [AV.isOsl] at hjo; done) | cases h2
      subst hji
      have hgd : rs.getD j .any = x := by rw [List.getD_eq_getElem?_getD, hx]; rfl
      rw [hgd]
      obtain ⟨J', a1, a2, a3, a4⟩ := land1_sound hst I hI0 ho
      refine ⟨J', a1, a2, ARep.tup_mk (by simpa using hs) fun k y hy => ?_⟩
      by_cases hki : k = j
      · subst hki
        rw [List.getElem?_set_self hi] at hy; cases hy
        exact ⟨cv, hcv, a3⟩
      · rw [List.getElem?_set_ne (fun e => hki e.symm)] at hy
        obtain ⟨c2, h1, h2⟩ := hrest k y hki hy
        exact ⟨c2, h1, .fr h2⟩

theorem bare_owns {M M' : Mem} {lo : Nat} {r : AV} {v : Value} (h : r.bare = true) (ho : OwnsRep fid M w lo r v) : OwnsRep fid M' w lo r v := by
  have one : ∀ {x : AV} {u : Value}, (match x with | .bool _ | .int .. | .str _ => true | _ => false) = true → OwnRep fid M w lo x u → FRep fid M x u := by
    intro x u hx ho
    cases x <;> first | exact ho | (simp at hx)
  have fin : FRep fid M r v → OwnsRep fid M' w lo r v := fun hf => by
    have := bare_fr (M' := M') h hf
    left
    cases r <;> first | exact this | (simp [AV.bare] at h)
  rcases ho with ho | ⟨rs, vs, rfl, rfl, hs, i, hi, hrest, x, cv, hx, hcv, ho⟩
  · refine fin ?_
    cases r <;> first | exact ho | (simp [AV.bare] at h)
  · refine fin (FRep.tup_mk hs fun k y hy => ?_)
    by_cases hk : k = i
    · subst hk
      rw [hx] at hy; cases hy
      exact ⟨cv, hcv, one (List.all_eq_true.1 h x (List.mem_of_getElem? hx)) ho⟩
    · exact hrest k y hk hy
/-- A call, whichever way. -/
theorem doCall_sound (hR : SoundR P fid R) (I : Inv fid S J M w) {args : List AV} {cargs : Array Value} (ha : AsRep fid J M args cargs) {m : CM} {st : Bool} {f : Nat} {r : AV} (h : doCall R m st f args S = some (r, S')) :
    (∀ cargs w, (callFunc (fid f) cargs).run P w = .ok (.enter (fid f) cargs) w) ∧ Calls P (fid f) cargs w (Left fid S J M w r S') := by
  cases m with
  | pure =>
    simp only [doCall] at h
    replace h := Option.bind_eq_some_iff.1 h; obtain ⟨as, has, h⟩ := h
    replace h := Option.bind_eq_some_iff.1 h; obtain ⟨r', hc, h⟩ := h
    replace h := Option.bind_eq_some_iff.1 h; obtain ⟨S1, haf, h⟩ := h
    cases h
    obtain ⟨c1, c2⟩ := callPure_sound hR I ha has hc
    refine ⟨c1, c2.mono ?_⟩
    rintro e w' ⟨v, M2, rfl, hb, hr⟩
    obtain ⟨M3, i1, s1, hwr, hM⟩ := after_back I ha hb haf
    refine ⟨v, J, M3, rfl, i1, s1, .fr ?_⟩
    rcases hM with rfl | ⟨hbare, rfl⟩
    · exact hr
    · exact bare_fr hbare hr
  | own i =>
    simp only [doCall] at h
    replace h := Option.bind_eq_some_iff.1 h; obtain ⟨as, has, h⟩ := h
    replace h := Option.bind_eq_some_iff.1 h; obtain ⟨r', hc, h⟩ := h
    replace h := Option.bind_eq_some_iff.1 h; obtain ⟨S1, haf, h⟩ := h
    simp only [Option.some.injEq] at h
    obtain ⟨c1, c2⟩ := callOwn_sound hR I ha has hc
    refine ⟨c1, c2.mono ?_⟩
    rintro e w' ⟨v, M2, rfl, hb, hr⟩
    obtain ⟨M3, i1, s1, hwr, hM⟩ := after_back I ha hb haf
    have hr' : OwnsRep fid M3 w' w.heap.size r' v := by
      rcases hM with rfl | ⟨hbare, rfl⟩
      · exact hr
      · exact bare_owns hbare hr
    obtain ⟨J', a1, a2, a3⟩ := land_sound s1 i1 (fun i hi => I.wr_lt (hwr i hi)) hr'
    rw [h] at a1 a2 a3
    exact ⟨v, J', M3, rfl, a1, a2, a3⟩
  | sh =>
    simp only [doCall, callSh] at h
    replace h := Option.bind_eq_some_iff.1 h; obtain ⟨⟨r', S1⟩, hc, h⟩ := h
    cases h
    obtain ⟨c1, c2⟩ := hR f args S r' S1 hc
    refine ⟨c1, (c2 J M w cargs I ha).mono ?_⟩
    rintro e w' ⟨v, J', M', rfl, I', hs, hr⟩
    unfold trunc
    split
    · rename_i hc
      simp only [Bool.and_eq_true] at hc
      have hlt : lt1 S.length r' = true := by simpa using hc.1
      exact ⟨v, J'.cut S.length, M', rfl, I'.cut hc.2, hs.cut I, lt1_rep hlt hr⟩
    · exact ⟨v, J', M', rfl, I', hs, hr⟩
end
end Go.AVM
