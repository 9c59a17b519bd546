/- What may happen to the store and the world together. -/
import Derived.Test.YtlpbjbgfgfjnlaaAvFreeze
set_option linter.unusedVariables false
set_option linter.unusedSimpArgs false
set_option linter.unusedSectionVars false
namespace Go.AVM
section
variable {fid : Nat → FuncId}

theorem cell_same {w w' : World} {i : Nat} (h : w'.heap[i]? = w.heap[i]?) (o : Nat) : w'.cell? ⟨i, o, none⟩ = w.cell? ⟨i, o, none⟩ := by simp [World.cell?, h]
theorem cell_lt {w : World} {i o : Nat} {v : Value} (h : w.cell? ⟨i, o, none⟩ = some v) : i < w.heap.size := by
  unfold World.cell? at h
  cases e : w.heap[i]? with
  | none => simp [e] at h
  | some x => exact (Array.getElem?_eq_some_iff.1 e).1
theorem Inv.mem_lt {S : Store} {J : JMap} {M : Mem} {w : World} (I : Inv fid S J M w) {b o : Nat} {v : Value} (h : M b o = some v) : b < w.heap.size := cell_lt (I.mem _ _ _ h).1

/-- A world that has grown beside the store. -/
theorem Inv.grow {S : Store} {J : JMap} {M : Mem} {w w' : World} (I : Inv fid S J M w) (hf : ∀ i, i < w.heap.size → w'.heap[i]? = w.heap[i]?) : Inv fid S J M w' := by
  refine ⟨fun b o v h => ?_, fun b cs ex hb hj => ?_, I.fzb, I.jlt, I.jmx, I.jps, I.inj⟩
  · obtain ⟨h1, h2⟩ := I.mem b o v h
    exact ⟨(cell_same (hf b (cell_lt h1)) o).trans h1, h2⟩
  · rcases I.blk b cs ex hb hj with h | ⟨blk, base, ps, arr, el, hj', hh, r⟩
    · exact .inl h
    · exact .inr ⟨blk, base, ps, arr, el, hj', (hf blk (Array.getElem?_eq_some_iff.1 hh).1).trans hh, r⟩
theorem Step.grow {S0 S : Store} {J0 J : JMap} {M0 M : Mem} {w0 w w' : World} (h : Step S0 J0 M0 w0 S J M w) (hf : ∀ i, i < w.heap.size → w'.heap[i]? = w.heap[i]?) (hs : w.heap.size ≤ w'.heap.size)
    (h1 : w'.os = w.os) (h2 : w'.tape = w.tape) (h3 : w'.output = w.output) : Step S0 J0 M0 w0 S J M w' :=
  ⟨h.jle, h.mle, h.mnew, fun i hi hw => (hf i (Nat.lt_of_lt_of_le hi h.size)).trans (h.frame i hi hw), h.wnew, Nat.le_trans h.size hs, h1.trans h.os, h2.trans h.tape, h3.trans h.output, h.slen, h.keep⟩

def JMap.put (J : JMap) (b vl : Nat) (l : Option (Nat × Nat × Nat)) : JMap := fun b' vl' => if b' = b ∧ vl' = vl then some l else J b' vl'
theorem JMap.put_le {J : JMap} {b vl : Nat} {l : Option (Nat × Nat × Nat)} (h : J b vl = none ∨ J b vl = some l) : J.le (J.put b vl l) := by
  intro b' vl' l' e
  unfold JMap.put
  split
  · rename_i hh
    obtain ⟨rfl, rfl⟩ := hh
    rcases h with h | h
    · rw [h] at e; cases e
    · rw [h] at e; exact e
  · exact e
theorem JMap.put_self (J : JMap) (b vl : Nat) (l : Option (Nat × Nat × Nat)) : J.put b vl l b vl = some l := by simp [JMap.put]

/-- A block of the store gets new cells, at its old place or at a new one. -/
theorem Inv.setb {S : Store} {J : JMap} {M : Mem} {w w' : World} (I : Inv fid S J M w) {b : Nat} {cs cs' : List AV} {ex ex' : Bool} (hb : S[b]? = some (.mu cs ex)) (hjd : ∃ vl, J b vl ≠ none)
    {blk base ps : Nat} {arr : Array Value} {el : TypeId} (hlen : cs.length ≤ cs'.length)
    (hJ : J b cs'.length = none ∨ J b cs'.length = some (some (blk, base, ps)))
    (hsame : ∀ i, i < w.heap.size → (∀ base ps, J b cs.length ≠ some (some (i, base, ps))) → w'.heap[i]? = w.heap[i]?)
    (hat : w.heap.size ≤ blk ∨ ∃ base ps, J b cs.length = some (some (blk, base, ps)))
    (hh : w'.heap[blk]? = some (.cells arr el (0, 0))) (hsz : arr.size = base + ps) (hps : cs'.length ≤ ps) (hex : ex' = true → ps = cs'.length)
    (hc : ∀ (k : Nat) (x : AV), cs'[k]? = some x → ∃ v, arr[base + k]? = some v ∧ v.plain ∧ ARep fid J M x v)
    (hs : w.heap.size ≤ w'.heap.size) (h1 : w'.os = w.os) (h2 : w'.tape = w.tape) (h3 : w'.output = w.output) :
    Inv fid (S.set b (.mu cs' ex')) (J.put b cs'.length (some (blk, base, ps))) M w' ∧ Step S J M w (S.set b (.mu cs' ex')) (J.put b cs'.length (some (blk, base, ps))) M w' := by
  have hle : J.le (J.put b cs'.length (some (blk, base, ps))) := JMap.put_le hJ
  have hbl : b < S.length := (List.getElem?_eq_some_iff.1 hb).1
  have hget : ∀ b' B, (S.set b (.mu cs' ex'))[b']? = some B → (b' = b ∧ B = .mu cs' ex') ∨ (b' ≠ b ∧ S[b']? = some B) := by
    intro b' B e
    by_cases hbb : b' = b
    · subst hbb; rw [List.getElem?_set_self hbl] at e; cases e; exact .inl ⟨rfl, rfl⟩
    · rw [List.getElem?_set_ne (fun h => hbb h.symm)] at e; exact .inr ⟨hbb, e⟩
  have hjne : ∀ b' vl, b' ≠ b → (J.put b cs'.length (some (blk, base, ps))) b' vl = J b' vl := by
    intro b' vl hne; simp [JMap.put, hne]
  have hnot : ∀ i, (∃ base ps, J b cs.length = some (some (i, base, ps))) → Wr S J i := fun i ⟨base, ps, e⟩ => ⟨b, cs, ex, base, ps, hb, e⟩
  have hMn : ∀ o, M blk o = none := by
    intro o
    rcases hat with h | h
    · cases e : M blk o with
      | none => rfl
      | some v => have := I.mem_lt e; omega
    · exact I.wr_none (hnot _ h) o
  have hkeep : ∀ i, i < w.heap.size → ¬ (∃ base ps, J b cs.length = some (some (i, base, ps))) → w'.heap[i]? = w.heap[i]? := fun i hi hn => hsame i hi fun base ps e => hn ⟨base, ps, e⟩
  refine ⟨⟨fun b' o v h => ?_, fun b' c e hb' hj => ?_, fun b' c hb' hj => ?_, fun b' vl h => ?_, fun b' vl c e hb' h => ?_, fun b' vl blk1 base1 ps1 h => ?_, ?_⟩, ⟨hle, fun _ _ _ h => h, fun _ _ _ h => .inl h, fun i hi hw => hkeep i hi fun h => hw (hnot i h), fun i hi => ?_, hs, h1, h2, h3, by simp, fun b' hb' hj => ?_⟩⟩
  · obtain ⟨e1, e2⟩ := I.mem b' o v h
    refine ⟨?_, e2⟩
    rw [cell_same (hkeep b' (cell_lt e1) fun hw => ?_) o, e1]
    rw [I.wr_none (hnot _ hw) o] at h; cases h
  · rcases hget b' _ hb' with ⟨rfl, e'⟩ | ⟨hne, hb''⟩
    · cases e'
      exact .inr ⟨blk, base, ps, arr, el, JMap.put_self .., hh, hsz, hps, hex, fun k x hx => let ⟨v, a1, a2, a3⟩ := hc k x hx; ⟨v, a1, a2, a3.mono hle fun _ _ _ h => h⟩, hMn⟩
    · have hj' : ∃ vl, J b' vl ≠ none := by obtain ⟨vl, h⟩ := hj; exact ⟨vl, by rwa [hjne b' vl hne] at h⟩
      rcases I.blk b' c e hb'' hj' with ⟨a1, a2, a3⟩ | ⟨blk', base', ps', arr', el', a1, a2, a3, a4, a5, a6, a7⟩
      · exact .inl ⟨a1, a2, by rw [hjne b' 0 hne]; exact a3⟩
      · refine .inr ⟨blk', base', ps', arr', el', hle _ _ _ a1, ?_, a3, a4, a5, fun k x hx => let ⟨v, u1, u2, u3⟩ := a6 k x hx; ⟨v, u1, u2, u3.mono hle fun _ _ _ h => h⟩, a7⟩
        rw [hkeep blk' (Array.getElem?_eq_some_iff.1 a2).1 fun ⟨base2, ps2, hw⟩ => hne (I.inj b' b c e cs ex blk' base' ps' base2 ps2 hb'' a1 hb hw), a2]
  · rcases hget b' _ hb' with ⟨rfl, e'⟩ | ⟨hne, hb''⟩
    · cases e'
    · have hj' : ∃ vl, J b' vl ≠ none := by obtain ⟨vl, h⟩ := hj; exact ⟨vl, by rwa [hjne b' vl hne] at h⟩
      rcases I.fzb b' c hb'' hj' with ⟨a1, a2⟩ | ⟨blk', base', ps', a1, a2⟩
      · exact .inl ⟨a1, by rw [hjne b' 0 hne]; exact a2⟩
      · exact .inr ⟨blk', base', ps', hle _ _ _ a1, a2⟩
  · rw [List.length_set]
    by_cases hbb : b' = b
    · subst hbb; exact hbl
    · rw [hjne b' vl hbb] at h; exact I.jlt b' vl h
  · rcases hget b' _ hb' with ⟨rfl, e'⟩ | ⟨hne, hb''⟩
    · cases e'
      by_cases hv : vl = cs'.length
      · omega
      · have : J b' vl ≠ none := by simpa [JMap.put, hv] using h
        have := I.jmx b' vl cs ex hb this
        omega
    · rw [hjne b' vl hne] at h
      exact I.jmx b' vl c e hb'' h
  · unfold JMap.put at h
    split at h
    · rename_i hh; obtain ⟨rfl, rfl⟩ := hh; cases h; exact hps
    · exact I.jps _ _ _ _ _ h
  · intro b1 b2 c1 e1 c2 e2 blk' base1 ps1 base2 ps2 hb1 hj1 hb2 hj2
    rcases hget b1 _ hb1 with ⟨rfl, r1⟩ | ⟨hne1, hb1'⟩
    · cases r1
      rcases hget b2 _ hb2 with ⟨rfl, r2⟩ | ⟨hne2, hb2'⟩
      · rfl
      · rw [JMap.put_self] at hj1; cases hj1
        rw [hjne b2 _ hne2] at hj2
        rcases hat with h | ⟨base', ps', h⟩
        · have := I.wr_lt ⟨b2, c2, e2, base2, ps2, hb2', hj2⟩; omega
        · exact I.inj b1 b2 cs ex c2 e2 blk base' ps' base2 ps2 hb h hb2' hj2
    · rw [hjne b1 _ hne1] at hj1
      rcases hget b2 _ hb2 with ⟨rfl, r2⟩ | ⟨hne2, hb2'⟩
      · cases r2
        rw [JMap.put_self] at hj2; cases hj2
        rcases hat with h | ⟨base', ps', h⟩
        · have := I.wr_lt ⟨b1, c1, e1, base1, ps1, hb1', hj1⟩; omega
        · exact I.inj b1 b2 c1 e1 cs ex blk base1 ps1 base' ps' hb1' hj1 hb h
      · rw [hjne b2 _ hne2] at hj2
        exact I.inj b1 b2 c1 e1 c2 e2 blk' base1 ps1 base2 ps2 hb1' hj1 hb2' hj2
  · obtain ⟨b', c, e, base', ps', hb', hj'⟩ := hi
    rcases hget b' _ hb' with ⟨rfl, r⟩ | ⟨hne, hb''⟩
    · cases r
      rw [JMap.put_self] at hj'; cases hj'
      rcases hat with h | h
      · exact .inr h
      · exact .inl (hnot _ h)
    · rw [hjne b' _ hne] at hj'
      exact .inl ⟨b', c, e, base', ps', hb'', hj'⟩
  · have hne : b' ≠ b := by rintro rfl; obtain ⟨vl, h⟩ := hjd; exact h (hj vl)
    exact ⟨List.getElem?_set_ne (fun h => hne h.symm), fun vl => by rw [hjne b' vl hne]; exact hj vl⟩

/-- A new block of the store, at a block of the world that is nobody's. -/
theorem Inv.reg {S : Store} {J : JMap} {M : Mem} {w : World} (I : Inv fid S J M w) {cs : List AV} {ex : Bool} {blk base ps : Nat} {arr : Array Value} {el : TypeId}
    (hh : w.heap[blk]? = some (.cells arr el (0, 0))) (hn : ¬ Wr S J blk) (hM : ∀ o, M blk o = none) (hsz : arr.size = base + ps) (hps : cs.length ≤ ps) (hex : ex = true → ps = cs.length)
    (hc : ∀ (k : Nat) (x : AV), cs[k]? = some x → ∃ v, arr[base + k]? = some v ∧ v.plain ∧ ARep fid J M x v) :
    Inv fid (S ++ [.mu cs ex]) (J.put S.length cs.length (some (blk, base, ps))) M w := by
  have hJ : ∀ vl, J S.length vl = none := by
    intro vl
    cases e : J S.length vl with
    | none => rfl
    | some l => have := I.jlt S.length vl (by rw [e]; simp); omega
  have hle : J.le (J.put S.length cs.length (some (blk, base, ps))) := JMap.put_le (.inl (hJ _))
  have hjne : ∀ b' vl, b' ≠ S.length → (J.put S.length cs.length (some (blk, base, ps))) b' vl = J b' vl := by
    intro b' vl hne; simp [JMap.put, hne]
  have hget : ∀ b' B, (S ++ [.mu cs ex])[b']? = some B → (b' = S.length ∧ B = .mu cs ex) ∨ (b' ≠ S.length ∧ S[b']? = some B) := by
    intro b' B e
    have hb' : b' < S.length + 1 := by have := (List.getElem?_eq_some_iff.1 e).1; simpa using this
    by_cases hbb : b' = S.length
    · subst hbb; simp at e; exact .inl ⟨rfl, e.symm⟩
    · rw [List.getElem?_append_left (by omega)] at e; exact .inr ⟨hbb, e⟩
  refine ⟨I.mem, fun b' c e hb' hj => ?_, fun b' c hb' hj => ?_, fun b' vl h => ?_, fun b' vl c e hb' h => ?_, fun b' vl blk1 base1 ps1 h => ?_, ?_⟩
  · rcases hget b' _ hb' with ⟨rfl, e'⟩ | ⟨hne, hb''⟩
    · cases e'
      exact .inr ⟨blk, base, ps, arr, el, JMap.put_self .., hh, hsz, hps, hex, fun k x hx => let ⟨v, a1, a2, a3⟩ := hc k x hx; ⟨v, a1, a2, a3.mono hle fun _ _ _ h => h⟩, hM⟩
    · have hj' : ∃ vl, J b' vl ≠ none := by obtain ⟨vl, h⟩ := hj; exact ⟨vl, by rwa [hjne b' vl hne] at h⟩
      rcases I.blk b' c e hb'' hj' with ⟨a1, a2, a3⟩ | ⟨blk', base', ps', arr', el', a1, a2, a3, a4, a5, a6, a7⟩
      · exact .inl ⟨a1, a2, by rw [hjne b' 0 hne]; exact a3⟩
      · exact .inr ⟨blk', base', ps', arr', el', hle _ _ _ a1, a2, a3, a4, a5, fun k x hx => let ⟨v, u1, u2, u3⟩ := a6 k x hx; ⟨v, u1, u2, u3.mono hle fun _ _ _ h => h⟩, a7⟩
  · rcases hget b' _ hb' with ⟨rfl, e'⟩ | ⟨hne, hb''⟩
    · cases e'
    · have hj' : ∃ vl, J b' vl ≠ none := by obtain ⟨vl, h⟩ := hj; exact ⟨vl, by rwa [hjne b' vl hne] at h⟩
      rcases I.fzb b' c hb'' hj' with ⟨a1, a2⟩ | ⟨blk', base', ps', a1, a2⟩
      · exact .inl ⟨a1, by rw [hjne b' 0 hne]; exact a2⟩
      · exact .inr ⟨blk', base', ps', hle _ _ _ a1, a2⟩
  · rw [List.length_append, List.length_singleton]
    by_cases hbb : b' = S.length
    · omega
    · rw [hjne b' vl hbb] at h; have := I.jlt b' vl h; omega
  · rcases hget b' _ hb' with ⟨rfl, e'⟩ | ⟨hne, hb''⟩
    · cases e'
      by_cases hv : vl = cs.length
      · omega
      · simp [JMap.put, hv, hJ] at h
    · rw [hjne b' vl hne] at h
      exact I.jmx b' vl c e hb'' h
  · unfold JMap.put at h
    split at h
    · rename_i hh; obtain ⟨rfl, rfl⟩ := hh; cases h; exact hps
    · exact I.jps _ _ _ _ _ h
  · intro b1 b2 c1 e1 c2 e2 blk' base1 ps1 base2 ps2 hb1 hj1 hb2 hj2
    rcases hget b1 _ hb1 with ⟨rfl, r1⟩ | ⟨hne1, hb1'⟩
    · cases r1
      rcases hget b2 _ hb2 with ⟨rfl, r2⟩ | ⟨hne2, hb2'⟩
      · rfl
      · rw [JMap.put_self] at hj1; cases hj1
        rw [hjne b2 _ hne2] at hj2
        exact absurd ⟨b2, c2, e2, base2, ps2, hb2', hj2⟩ hn
    · rw [hjne b1 _ hne1] at hj1
      rcases hget b2 _ hb2 with ⟨rfl, r2⟩ | ⟨hne2, hb2'⟩
      · cases r2
        rw [JMap.put_self] at hj2; cases hj2
        exact absurd ⟨b1, c1, e1, base1, ps1, hb1', hj1⟩ hn
      · rw [hjne b2 _ hne2] at hj2
        exact I.inj b1 b2 c1 e1 c2 e2 blk' base1 ps1 base2 ps2 hb1' hj1 hb2' hj2
theorem Step.reg {S0 S : Store} {J0 J : JMap} {M0 M : Mem} {w0 w : World} (h : Step S0 J0 M0 w0 S J M w) (hJ : ∀ vl, J S.length vl = none) {cs : List AV} {ex : Bool} {blk base ps : Nat} (hblk : w0.heap.size ≤ blk) :
    Step S0 J0 M0 w0 (S ++ [.mu cs ex]) (J.put S.length cs.length (some (blk, base, ps))) M w := by
  refine ⟨fun b vl l e => JMap.put_le (.inl (hJ _)) _ _ _ (h.jle _ _ _ e), h.mle, h.mnew, h.frame, fun i hi => ?_, h.size, h.os, h.tape, h.output, by simp; have := h.slen; omega, fun b hb hj => ?_⟩
  · obtain ⟨b', c, e, base', ps', hb', hj'⟩ := hi
    have hlt : b' < S.length + 1 := by have := (List.getElem?_eq_some_iff.1 hb').1; simpa using this
    by_cases hbb : b' = S.length
    · subst hbb; simp at hb'; obtain ⟨rfl, rfl⟩ := hb'
      rw [JMap.put_self] at hj'; cases hj'; exact .inr hblk
    · rw [List.getElem?_append_left (by omega)] at hb'
      exact h.wnew i ⟨b', c, e, base', ps', hb', by simpa [JMap.put, hbb] using hj'⟩
  · obtain ⟨a1, a2⟩ := h.keep b hb hj
    have := h.slen
    refine ⟨by rw [List.getElem?_append_left (by omega)]; exact a1, fun vl => ?_⟩
    have hne : b ≠ S.length := by omega
    simp [JMap.put, hne, a2]
theorem Inv.fresh {S : Store} {J : JMap} {M : Mem} {w : World} (I : Inv fid S J M w) (vl : Nat) : J S.length vl = none := by
  cases e : J S.length vl with
  | none => rfl
  | some l => have := I.jlt S.length vl (by rw [e]; simp); omega

/-- An empty block that lies nowhere yet. -/
theorem Inv.regN {S : Store} {J : JMap} {M : Mem} {w : World} (I : Inv fid S J M w) : Inv fid (S ++ [.mu [] false]) (J.put S.length 0 none) M w := by
  have hJ := I.fresh
  have hle : J.le (J.put S.length 0 none) := JMap.put_le (.inl (hJ _))
  have hjne : ∀ b' vl, b' ≠ S.length → (J.put S.length 0 none) b' vl = J b' vl := by
    intro b' vl hne; simp [JMap.put, hne]
  have hget : ∀ b' B, (S ++ [.mu [] false])[b']? = some B → (b' = S.length ∧ B = .mu [] false) ∨ (b' ≠ S.length ∧ S[b']? = some B) := by
    intro b' B e
    have hb' : b' < S.length + 1 := by have := (List.getElem?_eq_some_iff.1 e).1; simpa using this
    by_cases hbb : b' = S.length
    · subst hbb; simp at e; exact .inl ⟨rfl, e.symm⟩
    · rw [List.getElem?_append_left (by omega)] at e; exact .inr ⟨hbb, e⟩
  refine ⟨I.mem, fun b' c e hb' hj => ?_, fun b' c hb' hj => ?_, fun b' vl h => ?_, fun b' vl c e hb' h => ?_, fun b' vl blk1 base1 ps1 h => ?_, ?_⟩
  · rcases hget b' _ hb' with ⟨rfl, e'⟩ | ⟨hne, hb''⟩
    · cases e'
      exact .inl ⟨rfl, rfl, JMap.put_self ..⟩
    · have hj' : ∃ vl, J b' vl ≠ none := by obtain ⟨vl, h⟩ := hj; exact ⟨vl, by rwa [hjne b' vl hne] at h⟩
      rcases I.blk b' c e hb'' hj' with ⟨a1, a2, a3⟩ | ⟨blk', base', ps', arr', el', a1, a2, a3, a4, a5, a6, a7⟩
      · exact .inl ⟨a1, a2, by rw [hjne b' 0 hne]; exact a3⟩
      · exact .inr ⟨blk', base', ps', arr', el', hle _ _ _ a1, a2, a3, a4, a5, fun k x hx => let ⟨v, u1, u2, u3⟩ := a6 k x hx; ⟨v, u1, u2, u3.mono hle fun _ _ _ h => h⟩, a7⟩
  · rcases hget b' _ hb' with ⟨rfl, e'⟩ | ⟨hne, hb''⟩
    · cases e'
    · have hj' : ∃ vl, J b' vl ≠ none := by obtain ⟨vl, h⟩ := hj; exact ⟨vl, by rwa [hjne b' vl hne] at h⟩
      rcases I.fzb b' c hb'' hj' with ⟨a1, a2⟩ | ⟨blk', base', ps', a1, a2⟩
      · exact .inl ⟨a1, by rw [hjne b' 0 hne]; exact a2⟩
      · exact .inr ⟨blk', base', ps', hle _ _ _ a1, a2⟩
  · rw [List.length_append, List.length_singleton]
    by_cases hbb : b' = S.length
    · omega
    · rw [hjne b' vl hbb] at h; have := I.jlt b' vl h; omega
  · rcases hget b' _ hb' with ⟨rfl, e'⟩ | ⟨hne, hb''⟩
    · cases e'
      by_cases hv : vl = 0
      · simp [hv]
      · simp [JMap.put, hv, hJ] at h
    · rw [hjne b' vl hne] at h
      exact I.jmx b' vl c e hb'' h
  · unfold JMap.put at h
    split at h
    · cases h
    · exact I.jps _ _ _ _ _ h
  · intro b1 b2 c1 e1 c2 e2 blk' base1 ps1 base2 ps2 hb1 hj1 hb2 hj2
    rcases hget b1 _ hb1 with ⟨rfl, r1⟩ | ⟨hne1, hb1'⟩
    · cases r1
      simp only [List.length_nil] at hj1
      rw [JMap.put_self] at hj1; cases hj1
    · rw [hjne b1 _ hne1] at hj1
      rcases hget b2 _ hb2 with ⟨rfl, r2⟩ | ⟨hne2, hb2'⟩
      · cases r2
        simp only [List.length_nil] at hj2
        rw [JMap.put_self] at hj2; cases hj2
      · rw [hjne b2 _ hne2] at hj2
        exact I.inj b1 b2 c1 e1 c2 e2 blk' base1 ps1 base2 ps2 hb1' hj1 hb2' hj2
theorem Step.regN {S0 S : Store} {J0 J : JMap} {M0 M : Mem} {w0 w : World} (h : Step S0 J0 M0 w0 S J M w) (hJ : ∀ vl, J S.length vl = none) : Step S0 J0 M0 w0 (S ++ [.mu [] false]) (J.put S.length 0 none) M w := by
  refine ⟨fun b vl l e => JMap.put_le (.inl (hJ _)) _ _ _ (h.jle _ _ _ e), h.mle, h.mnew, h.frame, fun i hi => ?_, h.size, h.os, h.tape, h.output, by simp; have := h.slen; omega, fun b hb hj => ?_⟩
  · obtain ⟨b', c, e, base', ps', hb', hj'⟩ := hi
    have hlt : b' < S.length + 1 := by have := (List.getElem?_eq_some_iff.1 hb').1; simpa using this
    by_cases hbb : b' = S.length
    · subst hbb; simp at hb'; obtain ⟨rfl, rfl⟩ := hb'
      simp only [List.length_nil] at hj'
      rw [JMap.put_self] at hj'; cases hj'
    · rw [List.getElem?_append_left (by omega)] at hb'
      exact h.wnew i ⟨b', c, e, base', ps', hb', by simpa [JMap.put, hbb] using hj'⟩
  · obtain ⟨a1, a2⟩ := h.keep b hb hj
    have := h.slen
    refine ⟨by rw [List.getElem?_append_left (by omega)]; exact a1, fun vl => ?_⟩
    have hne : b ≠ S.length := by omega
    simp [JMap.put, hne, a2]

/-! ### Forgetting blocks -/
def JMap.cut (J : JMap) (n : Nat) : JMap := fun b vl => if b < n then J b vl else none
theorem JMap.cut_lt {J : JMap} {n b : Nat} (h : b < n) (vl : Nat) : J.cut n b vl = J b vl := if_pos h
theorem JMap.cut_le (J : JMap) (n : Nat) : (J.cut n).le J := fun b vl l h => by
  unfold JMap.cut at h
  split at h
  · exact h
  · cases h
theorem ltc_rep {J : JMap} {M : Mem} {n : Nat} {v : AV} {cv : Value} (h : ltc n v = true) (r : ARep fid J M v cv) : ARep fid (J.cut n) M v cv := by
  cases r with
  | any => exact .any _
  | fr r => exact .fr r
  | mptr b off vl blk base ps e =>
    have : b < n := by simpa [ltc] using h
    exact .mptr b off vl blk base ps (by rw [JMap.cut_lt this]; exact e)
  | msl b off n' sz vl cap blk base ps c a e hn hc ha =>
    have : b < n := by simpa [ltc] using h
    exact .msl b off n' sz vl cap blk base ps c a (by rw [JMap.cut_lt this]; exact e) hn hc ha
  | mslN b sz cap a e hc =>
    have : b < n := by simpa [ltc] using h
    exact .mslN b sz cap a (by rw [JMap.cut_lt this]; exact e) hc
  | tup cs vs hs cv h1 h2 =>
    cases cs with
    | nil => exact .tup [] vs hs cv (fun k x hx => by simp at hx) (fun k x hx => by simp at hx)
    | cons a l => simp [ltc] at h
  | _ => simp [ltc] at h
theorem lt1_rep {J : JMap} {M : Mem} {n : Nat} {v : AV} {cv : Value} (h : lt1 n v = true) (r : ARep fid J M v cv) : ARep fid (J.cut n) M v cv := by
  unfold lt1 at h
  split at h
  · rename_i cs
    obtain ⟨vs, rfl, hs, hq⟩ := r.agg_inv
    refine ARep.agg_mk (by omega) fun k x hx => ?_
    obtain ⟨cv, hv, hp, hr⟩ := hq k x hx
    exact ⟨cv, hv, hp, ltc_rep (List.all_eq_true.1 h x (List.mem_of_getElem? hx)) hr⟩
  · rename_i f cs
    obtain ⟨vs, rfl, hs, hq⟩ := r.fn_inv
    refine ARep.fn_mk (by omega) fun k x hx => ?_
    obtain ⟨cv, hv, hr⟩ := hq k x hx
    exact ⟨cv, hv, ltc_rep (List.all_eq_true.1 h x (List.mem_of_getElem? hx)) hr⟩
  · rename_i cs
    obtain ⟨vs, rfl, hs, hq⟩ := r.tup_inv
    refine ARep.tup_mk (by omega) fun k x hx => ?_
    obtain ⟨cv, hv, hr⟩ := hq k x hx
    exact ⟨cv, hv, ltc_rep (List.all_eq_true.1 h x (List.mem_of_getElem? hx)) hr⟩
  · exact ltc_rep h r
theorem Inv.cut {S : Store} {J : JMap} {M : Mem} {w : World} (I : Inv fid S J M w) {n : Nat} (h : (S.take n).all (Blk.lt n) = true) : Inv fid (S.take n) (J.cut n) M w := by
  have hget : ∀ b B, (S.take n)[b]? = some B → b < n ∧ S[b]? = some B := by
    intro b B e
    have hb : b < n := by have := (List.getElem?_eq_some_iff.1 e).1; simp at this; omega
    rw [List.getElem?_take_of_lt hb] at e
    exact ⟨hb, e⟩
  refine ⟨I.mem, fun b c e hb hj => ?_, fun b c hb hj => ?_, fun b vl hj => ?_, fun b vl c e hb hj => ?_, fun b vl blk1 base1 ps1 h => I.jps b vl blk1 base1 ps1 (JMap.cut_le J n _ _ _ h), ?_⟩
  · have hall := List.all_eq_true.1 h _ (List.mem_of_getElem? hb)
    obtain ⟨hbn, hb'⟩ := hget b _ hb
    rcases I.blk b c e hb' (by obtain ⟨vl, x⟩ := hj; rw [JMap.cut_lt hbn] at x; exact ⟨vl, x⟩) with ⟨a1, a2, a3⟩ | ⟨blk', base', ps', arr', el', a1, a2, a3, a4, a5, a6, a7⟩
    · exact .inl ⟨a1, a2, by rw [JMap.cut_lt hbn]; exact a3⟩
    · exact .inr ⟨blk', base', ps', arr', el', by rw [JMap.cut_lt hbn]; exact a1, a2, a3, a4, a5, fun k x hx => let ⟨v, u1, u2, u3⟩ := a6 k x hx; ⟨v, u1, u2, lt1_rep (List.all_eq_true.1 hall x (List.mem_of_getElem? hx)) u3⟩, a7⟩
  · obtain ⟨hbn, hb'⟩ := hget b _ hb
    rcases I.fzb b c hb' (by obtain ⟨vl, x⟩ := hj; rw [JMap.cut_lt hbn] at x; exact ⟨vl, x⟩) with ⟨a1, a2⟩ | ⟨blk', base', ps', a1, a2⟩
    · exact .inl ⟨a1, by rw [JMap.cut_lt hbn]; exact a2⟩
    · exact .inr ⟨blk', base', ps', by rw [JMap.cut_lt hbn]; exact a1, a2⟩
  · have hbn : b < n := by
      unfold JMap.cut at hj
      split at hj
      · assumption
      · exact absurd rfl hj
    rw [JMap.cut_lt hbn] at hj
    have := I.jlt b vl hj
    simp; omega
  · obtain ⟨hbn, hb'⟩ := hget b _ hb
    rw [JMap.cut_lt hbn] at hj
    exact I.jmx b vl c e hb' hj
  · intro b1 b2 c1 e1 c2 e2 blk' base1 ps1 base2 ps2 hb1 hj1 hb2 hj2
    obtain ⟨h1, hb1'⟩ := hget b1 _ hb1
    obtain ⟨h2, hb2'⟩ := hget b2 _ hb2
    rw [JMap.cut_lt h1] at hj1
    rw [JMap.cut_lt h2] at hj2
    exact I.inj b1 b2 c1 e1 c2 e2 blk' base1 ps1 base2 ps2 hb1' hj1 hb2' hj2
theorem Step.cut {S0 S : Store} {J0 J : JMap} {M0 M : Mem} {w0 w : World} (h : Step S0 J0 M0 w0 S J M w) (I0 : Inv fid S0 J0 M0 w0) : Step S0 J0 M0 w0 (S.take S0.length) (J.cut S0.length) M w := by
  refine ⟨fun b vl l e => ?_, h.mle, h.mnew, h.frame, fun i hi => ?_, h.size, h.os, h.tape, h.output, by simp only [List.length_take]; exact Nat.le_min.2 ⟨Nat.le_refl _, h.slen⟩, fun b hb hj => ?_⟩
  · rw [JMap.cut_lt (I0.jlt b vl (by rw [e]; simp))]; exact h.jle _ _ _ e
  · obtain ⟨b, c, e, base, ps, hb, hj⟩ := hi
    have hbn : b < S0.length := by have := (List.getElem?_eq_some_iff.1 hb).1; simp at this; omega
    rw [List.getElem?_take_of_lt hbn] at hb
    rw [JMap.cut_lt hbn] at hj
    exact h.wnew i ⟨b, c, e, base, ps, hb, hj⟩
  · obtain ⟨a1, a2⟩ := h.keep b hb hj
    exact ⟨by rw [List.getElem?_take_of_lt hb]; exact a1, fun vl => by rw [JMap.cut_lt hb]; exact a2 vl⟩

/-! ### Behind a call that saw no store -/
theorem ids_def {S : Store} {J : JMap} {M : Mem} {w : World} (I : Inv fid S J M w) (fuel : Nat) : ∀ {v : AV} {cv : Value}, ARep fid J M v cv → ∀ b ∈ ids S fuel v, ∃ vl, J b vl ≠ none := by
  induction fuel with
  | zero => intro v cv r b hb; cases v <;> simp [ids] at hb
  | succ fuel ih =>
    have content : ∀ b vl, J b vl ≠ none → ∀ i ∈ (match S[b]? with | some (.mu cs _) => cs.flatMap (ids S fuel) | _ => []), ∃ vl, J i vl ≠ none := by
      intro b vl hj i hi
      split at hi
      · rename_i cs ex hb
        obtain ⟨x, hx, hi⟩ := List.mem_flatMap.1 hi
        rcases I.blk b cs ex hb ⟨vl, hj⟩ with ⟨rfl, _⟩ | ⟨blk', base', ps', arr', el', a1, a2, a3, a4, a5, a6, a7⟩
        · cases hx
        · obtain ⟨k, hk⟩ := List.mem_iff_getElem?.1 hx
          obtain ⟨v, _, _, hr⟩ := a6 k x hk
          exact ih hr i hi
      · cases hi
    intro v cv r b hb
    cases r with
    | any v => simp [ids] at hb
    | fr r => rw [ids_fr (fuel + 1) r] at hb; cases hb
    | mptr b' off vl blk base ps e =>
      simp only [ids, List.mem_cons] at hb
      rcases hb with rfl | hb
      · exact ⟨vl, by rw [e]; simp⟩
      · exact content b' vl (by rw [e]; simp) b hb
    | msl b' off n sz vl cap blk base ps c a e hn hc ha =>
      simp only [ids, List.mem_cons] at hb
      rcases hb with rfl | hb
      · exact ⟨vl, by rw [e]; simp⟩
      · exact content b' vl (by rw [e]; simp) b hb
    | mslN b' sz cap a e hc =>
      simp only [ids, List.mem_cons] at hb
      rcases hb with rfl | hb
      · exact ⟨0, by rw [e]; simp⟩
      · exact content b' 0 (by rw [e]; simp) b hb
    | tl | tup => simp [ids] at hb
    | agg cs vs hs cv h1 h2 =>
      obtain ⟨x, hx, hb⟩ := List.mem_flatMap.1 hb
      obtain ⟨k, hk⟩ := List.mem_iff_getElem?.1 hx
      exact ih (h2 k x hk) b hb
    | fn f cs vs hs cv h1 h2 =>
      obtain ⟨x, hx, hb⟩ := List.mem_flatMap.1 hb
      obtain ⟨k, hk⟩ := List.mem_iff_getElem?.1 hx
      exact ih (h2 k x hk) b hb

theorem settle_get {S : Store} {all : List Nat} : ∀ {bs : List Nat} {S1 S' : Store}, settle S all bs S1 = some S' → S'.length = S1.length ∧
    ∀ b, S'[b]? = S1[b]? ∨ (b ∈ bs ∧ ∃ cs ex cs', S[b]? = some (.mu cs ex) ∧ cs.mapM (fzc S fzDepth) = some cs' ∧ (∀ x ∈ cs, ∀ i ∈ ids S fzDepth x, i ∈ all) ∧ S'[b]? = some (.fz cs')) ∨ S'[b]? = none
  | [], S1, S', h => by
    simp only [settle] at h; cases h
    exact ⟨rfl, fun b => .inl rfl⟩
  | b0 :: bs, S1, S', h => by
    simp only [settle] at h
    split at h
    · rename_i cs ex hb
      obtain ⟨hall, h⟩ := chk_some.1 h
      obtain ⟨cs', hm, h⟩ := Option.bind_eq_some_iff.1 h
      obtain ⟨hl, hg⟩ := settle_get h
      refine ⟨by rw [hl, List.length_set], fun b => ?_⟩
      rcases hg b with e | ⟨hb', r⟩ | e
      · by_cases hbb : b = b0
        · subst hbb
          by_cases hlt : b < S1.length
          · rw [List.getElem?_set_self hlt] at e
            refine .inr (.inl ⟨List.mem_cons_self .., cs, ex, cs', hb, hm, fun x hx i hi => ?_, e⟩)
            have := List.all_eq_true.1 hall i (List.mem_flatMap.2 ⟨x, hx, hi⟩)
            simpa using this
          · exact .inr (.inr (by rw [e]; simp [hlt]))
        · rw [List.getElem?_set_ne (fun h => hbb h.symm)] at e
          exact .inl e
      · exact .inr (.inl ⟨List.mem_cons_of_mem _ hb', r⟩)
      · exact .inr (.inr e)
    · obtain ⟨hl, hg⟩ := settle_get h
      refine ⟨hl, fun b => ?_⟩
      rcases hg b with e | ⟨hb', r⟩ | e
      · exact .inl e
      · exact .inr (.inl ⟨List.mem_cons_of_mem _ hb', r⟩)
      · exact .inr (.inr e)

/-- Behind a call that saw the blocks of B as they were and touched nothing that was there: three ways on. -/
theorem after_drop {S : Store} {J : JMap} {M : Mem} {w w' : World} (I : Inv fid S J M w) (hf : ∀ i, i < w.heap.size → w'.heap[i]? = w.heap[i]?) (hs : w.heap.size ≤ w'.heap.size)
    (h1 : w'.os = w.os) (h2 : w'.tape = w.tape) (h3 : w'.output = w.output) : Inv fid S J M w' ∧ Step S J M w S J M w' :=
  ⟨I.grow hf, (Step.refl S J M w).grow hf hs h1 h2 h3⟩
theorem after_keep {S : Store} {J : JMap} {M M' : Mem} {w w' : World} (I : Inv fid S J M w) (hm : M.le M') (hn : ∀ b o v, M' b o = some v → M b o = some v ∨ w.heap.size ≤ b)
    (hw : ∀ b o v, M' b o = some v → w'.cell? ⟨b, o, none⟩ = some v ∧ v.plain)
    (hf : ∀ i, i < w.heap.size → w'.heap[i]? = w.heap[i]?) (hs : w.heap.size ≤ w'.heap.size)
    (h1 : w'.os = w.os) (h2 : w'.tape = w.tape) (h3 : w'.output = w.output) : Inv fid S J M' w' ∧ Step S J M w S J M' w' := by
  have I' := I.grow hf
  refine ⟨⟨hw, fun b cs ex hb hj => ?_, fun b cs hb hj => ?_, I.jlt, I.jmx, I.jps, I.inj⟩, ⟨fun _ _ _ h => h, hm, fun b o v h => (hn b o v h).imp id .inl, fun i hi _ => hf i hi, fun _ h => .inl h, hs, h1, h2, h3, Nat.le_refl _, fun _ _ h => ⟨rfl, h⟩⟩⟩
  · rcases I'.blk b cs ex hb hj with h | ⟨blk', base', ps', arr', el', a1, a2, a3, a4, a5, a6, a7⟩
    · exact .inl h
    · refine .inr ⟨blk', base', ps', arr', el', a1, a2, a3, a4, a5, fun k x hx => let ⟨v, u1, u2, u3⟩ := a6 k x hx; ⟨v, u1, u2, u3.mono (fun _ _ _ h => h) hm⟩, fun o => ?_⟩
      cases e : M' blk' o with
      | none => rfl
      | some v =>
        rcases hn _ _ _ e with h | h
        · rw [a7] at h; cases h
        · have := I.wr_lt ⟨b, cs, ex, base', ps', hb, a1⟩; omega
  · rcases I'.fzb b cs hb hj with h | ⟨blk', base', ps', a1, a2⟩
    · exact .inl h
    · exact .inr ⟨blk', base', ps', a1, fun k x hx => let ⟨v, u1, u2⟩ := a2 k x hx; ⟨v, hm _ _ _ u1, u2.mono hm⟩⟩
theorem after_settle {S S' : Store} {J : JMap} {M M' : Mem} {w w' : World} (I : Inv fid S J M w) {bs : List Nat} (hst : settle S bs bs S = some S') (hd : ∀ b ∈ bs, ∃ vl, J b vl ≠ none)
    (hm : (Mset S J M w (· ∈ bs)).le M') (hn : ∀ b o v, M' b o = some v → Mset S J M w (· ∈ bs) b o = some v ∨ w.heap.size ≤ b)
    (hw : ∀ b o v, M' b o = some v → w'.cell? ⟨b, o, none⟩ = some v ∧ v.plain)
    (hf : ∀ i, i < w.heap.size → w'.heap[i]? = w.heap[i]?) (hs : w.heap.size ≤ w'.heap.size)
    (h1 : w'.os = w.os) (h2 : w'.tape = w.tape) (h3 : w'.output = w.output) : Inv fid S' J M' w' ∧ Step S J M w S' J M' w' := by
  have I' := I.grow hf
  have hmm : M.le M' := fun b o v h => hm _ _ _ (Mset_le _ _ _ _ h)
  obtain ⟨hl, hg⟩ := settle_get hst
  have hmu : ∀ (b : Nat) (cs : List AV) (ex : Bool), S'[b]? = some (Blk.mu cs ex) → S[b]? = some (Blk.mu cs ex) := by
    intro b cs ex e
    rcases hg b with h | ⟨_, _, _, _, _, _, _, h⟩ | h
    · rw [h] at e; exact e
    · rw [h] at e; cases e
    · rw [h] at e; cases e
  have hnot : ∀ (b : Nat) (cs : List AV) (ex : Bool), S'[b]? = some (Blk.mu cs ex) → b ∉ bs := by
    intro b cs ex e hb
    -- a block of the list that is still a mutable one was none before
    have key : ∀ {bs0 : List Nat} {S1 : Store}, settle S bs bs0 S1 = some S' → b ∈ bs0 → (∃ cs', S1[b]? = some (.fz cs')) ∨ b < S1.length → ∃ cs', S'[b]? = some (.fz cs') := by
      intro bs0
      induction bs0 with
      | nil => intro S1 _ h _; cases h
      | cons b0 r ih =>
        intro S1 hs hb hl1
        have stay : ∀ {r : List Nat} {S1 : Store}, settle S bs r S1 = some S' → (∃ cs', S1[b]? = some (.fz cs')) → ∃ cs', S'[b]? = some (.fz cs') := by
          intro r
          induction r with
          | nil => intro S1 h e; simp only [settle] at h; cases h; exact e
          | cons b1 r ih =>
            intro S1 h e
            simp only [settle] at h
            split at h
            · obtain ⟨_, h⟩ := chk_some.1 h
              obtain ⟨cs1, _, h⟩ := Option.bind_eq_some_iff.1 h
              refine ih h ?_
              by_cases hbb : b = b1
              · subst hbb
                obtain ⟨c, e⟩ := e
                exact ⟨cs1, List.getElem?_set_self (List.getElem?_eq_some_iff.1 e).1⟩
              · rw [List.getElem?_set_ne (fun h => hbb h.symm)]; exact e
            · exact ih h e
        simp only [settle] at hs
        split at hs
        · rename_i c e' hb0
          obtain ⟨_, hs⟩ := chk_some.1 hs
          obtain ⟨cs1, _, hs⟩ := Option.bind_eq_some_iff.1 hs
          by_cases hbb : b = b0
          · subst hbb
            refine stay hs ⟨cs1, List.getElem?_set_self ?_⟩
            rcases hl1 with ⟨c, e⟩ | h
            · exact (List.getElem?_eq_some_iff.1 e).1
            · exact h
          · refine ih hs ((List.mem_cons.1 hb).resolve_left hbb) ?_
            rw [List.getElem?_set_ne (fun h => hbb h.symm), List.length_set]
            exact hl1
        · rename_i hb0
          by_cases hbb : b = b0
          · subst hbb
            exact absurd (hmu b cs ex e) (hb0 cs ex)
          · exact ih hs ((List.mem_cons.1 hb).resolve_left hbb) hl1
    obtain ⟨cs', h⟩ := key hst hb (.inr (by rw [← hl]; exact (List.getElem?_eq_some_iff.1 e).1))
    rw [h] at e; cases e
  refine ⟨⟨hw, fun b cs ex hb hj => ?_, fun b cs hb hj => ?_, fun b vl h => by rw [hl]; exact I.jlt b vl h, fun b vl cs ex hb h => I.jmx b vl cs ex (hmu b cs ex hb) h, I.jps, ?_⟩,
    ⟨fun _ _ _ h => h, hmm, fun b o v h => ?_, fun i hi _ => hf i hi, fun i hi => ?_, hs, h1, h2, h3, by rw [hl]; exact Nat.le_refl _, fun b hb hj => ⟨?_, hj⟩⟩⟩
  · have hb' := hmu b cs ex hb
    rcases I'.blk b cs ex hb' hj with h | ⟨blk', base', ps', arr', el', a1, a2, a3, a4, a5, a6, a7⟩
    · exact .inl h
    · refine .inr ⟨blk', base', ps', arr', el', a1, a2, a3, a4, a5, fun k x hx => let ⟨v, u1, u2, u3⟩ := a6 k x hx; ⟨v, u1, u2, u3.mono (fun _ _ _ h => h) hmm⟩, fun o => ?_⟩
      cases e : M' blk' o with
      | none => rfl
      | some v =>
        rcases hn _ _ _ e with h | h
        · rw [Mset_none I (hnot b cs ex hb) hb' a1] at h; cases h
        · have := I.wr_lt ⟨b, cs, ex, base', ps', hb', a1⟩; omega
  · rcases hg b with h | ⟨hbs, c, e, cs', hb', hm', hcl, h⟩ | h
    · rw [h] at hb
      rcases I'.fzb b cs hb hj with h | ⟨blk', base', ps', a1, a2⟩
      · exact .inl h
      · exact .inr ⟨blk', base', ps', a1, fun k x hx => let ⟨v, u1, u2⟩ := a2 k x hx; ⟨v, hmm _ _ _ u1, u2.mono hmm⟩⟩
    · rw [h] at hb; cases hb
      obtain ⟨hlen, _⟩ := mapM_some hm'
      rcases I.blk b c e hb' hj with ⟨rfl, _, h0⟩ | ⟨blk', base', ps', arr', el', a1, a2, a3, a4, a5, a6, a7⟩
      · exact .inl ⟨List.eq_nil_of_length_eq_zero (by simpa using hlen), h0⟩
      · refine .inr ⟨blk', base', ps', by rw [hlen]; exact a1, fun k y hy => ?_⟩
        obtain ⟨x, hx, hf'⟩ := mapM_inv hm' hy
        obtain ⟨v, hv, hp, hr⟩ := Mset_of I (B := (· ∈ bs)) hbs hb' a1 hx
        exact ⟨v, hm _ _ _ hv, (fzc_sound I (· ∈ bs) fzDepth hf' (fun i hi => hcl x (List.mem_of_getElem? hx) i hi) hr).mono hm⟩
    · rw [h] at hb; cases hb
  · intro b1 b2 c1 e1 c2 e2 blk' base1 ps1 base2 ps2 hb1 hj1 hb2 hj2
    exact I.inj b1 b2 c1 e1 c2 e2 blk' base1 ps1 base2 ps2 (hmu _ _ _ hb1) hj1 (hmu _ _ _ hb2) hj2
  · rcases hn _ _ _ h with h | h
    · rcases Mset_cases h with h | ⟨_, hc, _⟩
      · exact .inl h
      · exact .inr (.inr hc.wr)
    · exact .inr (.inl h)
  · obtain ⟨b, c, e, base, ps, hb, hj⟩ := hi
    exact .inl ⟨b, c, e, base, ps, hmu _ _ _ hb, hj⟩
  · rcases hg b with h | ⟨hbs, _⟩ | h
    · exact h
    · obtain ⟨vl, hne⟩ := hd b hbs
      exact absurd (hj vl) hne
    · have : b < S'.length := by omega
      simp [List.getElem?_eq_getElem this] at h
end
end Go.AVM
