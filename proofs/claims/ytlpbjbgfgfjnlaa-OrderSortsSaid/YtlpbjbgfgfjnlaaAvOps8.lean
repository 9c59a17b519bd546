/- Operations, one lemma a kind (seventh part: append, copy, clear). -/
import Derived.Test.YtlpbjbgfgfjnlaaAvOps7
set_option linter.unusedVariables false
set_option linter.unusedSimpArgs false
set_option linter.unusedSectionVars false
namespace Go.AVM
section
variable {P : Program} {fid : Nat → FuncId} {mid : FuncId → Option Nat} {S S' : Store} {J : JMap} {M : Mem} {w : World} {tm : List AV} {a : Act} {o : Oper} {ps : List Opd} {v' : AV} {R : RunF}

theorem fresh_new (I : Inv fid S J M w) {b : Nat} {cs : List AV} {ex : Bool} (hb : S[b]? = some (.mu cs ex)) {vl : Nat} (h : cs.length < vl) : J b vl = none := by
  cases e : J b vl with
  | none => rfl
  | some l => have := I.jmx b vl cs ex hb (by rw [e]; simp); omega

/-- append to a row of which it is not known whether there is room. -/
theorem app_amb (I : Inv fid S J M w) {t ty e : TypeId} {sz by_ : Nat} (hu : P.underlying t = some (.slice e)) {i : TypeInfo} (hi : P.info? e = some i) (his : i.size = sz) (hib : i.bytes = by_) {z : Value} (hz : i.zero = some z) (hzs : z.cells.size = sz)
    (hpos : 0 < sz) (hbp : 0 < by_) {b n m c c' vl blk base p : Nat} {ad ad' : Option Addr} {cs1 xs : List AV} (hb : S[b]? = some (.mu cs1 false)) (hl : cs1.length = vl) (hj : J b vl = some (some (blk, base, p))) (hn : n ≤ c) (hcp : c * sz + 0 = p)
    (had : c = 0 ∨ ad = some ⟨blk, base + 0, none⟩) (hxl : xs.length = m * sz) (hmp : 0 < m) (hroom : room (n + m) by_) (o1 : (cs1.take (n * sz)).length = n * sz)
    (o2 : n = 0 ∨ ∃ blk off, ad = some ⟨blk, off, none⟩ ∧ ∀ (k : Nat) (y : AV), (cs1.take (n * sz))[k]? = some y → ∃ v : Value, w.cell? ⟨blk, off + k, none⟩ = some v ∧ v.plain ∧ ARep fid J M y v)
    (hx' : ∃ blk off, ad' = some ⟨blk, off, none⟩ ∧ ∀ (k : Nat) (y : AV), xs[k]? = some y → ∃ v : Value, w.cell? ⟨blk, off + k, none⟩ = some v ∧ v.plain ∧ ARep fid J M y v)
    (hnle : ¬ 0 + (n + m) * sz ≤ vl) :
    ∃ cv J' w', (Builtin.append_ #[t, t] ty #[.slice ad n c, .slice ad' m c']).run P w = .ok cv w' ∧ Inv fid (S.set b (.mu (cs1.take (n * sz) ++ xs) false)) J' M w' ∧ Step S J M w (S.set b (.mu (cs1.take (n * sz) ++ xs) false)) J' M w' ∧
      ARep fid J' M (.msl b 0 (n + m) sz ((n + m) * sz) none) cv := by
  have hjd : ∃ vl, J b vl ≠ none := ⟨vl, by rw [hj]; simp⟩
  have hadn : ad = none → c = 0 := by
    rintro rfl
    rcases had with h | h
    · exact h
    · cases h
  have hlen : (cs1.take (n * sz) ++ xs).length = (n + m) * sz := by
    rw [List.length_append, o1, hxl, Nat.add_mul]
  have hgt : cs1.length < (n + m) * sz := by omega
  have hJn : J b (cs1.take (n * sz) ++ xs).length = none := by rw [hlen]; exact fresh_new I hb hgt
  have hnl : n * sz ≤ cs1.length := by rw [List.length_take] at o1; omega
  rcases I.blk b cs1 false hb hjd with ⟨rfl, _, h0⟩ | ⟨blk', base', ps', arr, el, hj', hh, hsz, hps, hex, hc, hnM⟩
  · simp at hl; rw [← hl, h0] at hj; cases hj
  · rw [hl, hj] at hj'; cases hj'
    by_cases hin : n + m ≤ c
    · -- there was room: the row grows where it lies
      have hde : ad = some ⟨blk, base + 0, none⟩ := had.resolve_left (by omega)
      subst hde
      obtain ⟨xb, xo, rfl, hxx⟩ := hx'
      obtain ⟨news, n1, n2, n3, n4⟩ := news_of hxl hxx
      have hcm : (n + m) * sz ≤ c * sz := Nat.mul_le_mul_right _ hin
      have hcm' : n * sz + m * sz ≤ p := by rw [← Nat.add_mul]; omega
      obtain ⟨arr', hrun, a1, a2⟩ := run_append_in (P := P) (ty := ty) (g := blk) (off := base + 0) (n := n) (c := c) (cur := arr) (el := el) hu hi hh (news := news) (m := m) (b := ⟨xb, xo, none⟩) (c' := c') (by rw [his]; exact n1) n2 n3 hin (by rw [his, n1, hsz]; omega)
      obtain ⟨f1, f2⟩ := setRow_frame w blk arr'
      have hcells : ∀ (k : Nat) (x : AV), (cs1.take (n * sz) ++ xs)[k]? = some x → ∃ v, arr'[base + k]? = some v ∧ v.plain ∧ ARep fid J M x v := by
        intro k x hk
        rw [a2, his, n1]
        by_cases hk1 : k < n * sz
        · rw [List.getElem?_append_left (by omega), List.getElem?_take_of_lt hk1] at hk
          rw [if_neg (by omega)]
          exact hc k x hk
        · rw [List.getElem?_append_right (by omega), o1] at hk
          have hk2 := (List.getElem?_eq_some_iff.1 hk).1
          rw [if_pos (by omega)]
          obtain ⟨v, v1, v2, v3⟩ := n4.2 _ x hk
          exact ⟨v, by rw [show base + k - (base + 0 + n * sz) = k - n * sz by omega]; simpa using v1, v2, v3⟩
      have hset := I.setb (w' := w.setRow blk arr') (cs' := cs1.take (n * sz) ++ xs) (ex' := false) (blk := blk) (base := base) (ps := p) (arr := arr') (el := el) hb hjd (by omega) (.inl hJn)
        (fun i hi hne => f1 i fun e => hne base p (by rw [e, hl]; exact hj)) (.inr ⟨base, p, by rw [hl]; exact hj⟩) (setRow_heap w blk arr arr' el (0, 0) hh) (by omega) (by rw [hlen, Nat.add_mul]; exact hcm') (by simp) hcells (by rw [f2]; exact Nat.le_refl _) rfl rfl rfl
      rw [hlen] at hset
      exact ⟨_, _, _, hrun, hset.1, hset.2, ARep.msl b 0 (n + m) sz _ none blk base p c _ (JMap.put_self ..) hin (.inl ⟨rfl, hcp⟩) (.inr rfl)⟩
    · -- there was none: a new row, under the old number
      obtain ⟨arr', cap', hrun, q1, q2, q3, q4⟩ := append_grown (P := P) (ty := ty) I hu hi his hib hz hzs hpos hbp (ad := ad) (ad' := ad') (c := c) (c' := c') o1 hxl hn hadn (by omega) hmp hroom o2 hx'
      have hheap : (w.drew.alloc (.cells arr' e)).heap = w.heap.push (.cells arr' e (0, 0)) := rfl
      have hset := I.setb (w' := w.drew.alloc (.cells arr' e)) (cs' := cs1.take (n * sz) ++ xs) (ex' := false) (blk := w.heap.size) (base := 0) (ps := arr'.size) (arr := arr') (el := e) hb hjd (by omega) (.inl hJn)
        (fun i hi _ => by rw [hheap, Array.getElem?_push, if_neg (by omega)]) (.inl (Nat.le_refl _)) (by rw [hheap]; simp) (by omega) q3 (by simp)
        (fun k x hk => by simpa using q4 k x hk) (by rw [hheap]; simp) rfl rfl rfl
      rw [hlen] at hset
      exact ⟨_, _, _, hrun, hset.1, hset.2, ARep.msl b 0 (n + m) sz _ none w.heap.size 0 arr'.size cap' _ (JMap.put_self ..) q1 (.inl ⟨rfl, by omega⟩) (.inr rfl)⟩

set_option maxHeartbeats 1000000 in
/-- append, its operands read: the machine's builtin gives what 'appA' says. -/
theorem appA_rep (I : Inv fid S J M w) {t ty e : TypeId} {sz by_ : Nat} (hu : P.underlying t = some (.slice e)) {i : TypeInfo} (hi : P.info? e = some i) (his : i.size = sz) (hib : i.bytes = by_) {z : Value} (hz : i.zero = some z) (hzs : z.cells.size = sz)
    (hpos : 0 < sz) (hbp : 0 < by_) {s x v' : AV} {cs cx : Value} (hs : ARep fid J M s cs) (hx : ARep fid J M x cx) (h : appA sz by_ S s x = some (v', S')) :
    ∃ cv J' w', (Builtin.append_ #[t, t] ty #[cs, cx]).run P w = .ok cv w' ∧ Inv fid S' J' M w' ∧ Step S J M w S' J' M w' ∧ ARep fid J' M v' cv := by
  have hsi : szIs P e sz = true := by simp [szIs, hi, his]
  unfold appA at h
  replace h := Option.bind_eq_some_iff.1 h; obtain ⟨⟨m, xs⟩, hh, h⟩ := h
  obtain ⟨ad', c', rfl, hmc, hxl, hxc⟩ := held_rep I hh hx
  simp only at h
  by_cases hm0 : m = 0
  · -- nothing is appended
    subst hm0
    clear hh
    cases s with
    | sl es sz' t' =>
      simp only at h
      replace h := chk_some.1 h; obtain ⟨rfl, h⟩ := h
      simp only [if_true, Option.some.injEq, Prod.mk.injEq] at h
      obtain ⟨rfl, rfl⟩ := h
      obtain ⟨ad, c, rfl, hc, _⟩ := hs.sl_inv
      exact ⟨_, J, w, run_append_zero hu hsi hc w, I, Step.refl .., hs⟩
    | msl b off n sz' vl cap =>
      simp only at h
      replace h := chk_some.1 h; obtain ⟨rfl, h⟩ := h
      simp only [if_true, Option.some.injEq, Prod.mk.injEq] at h
      obtain ⟨rfl, rfl⟩ := h
      rcases hs.msl_inv with ⟨_, _, _, c, ad, _, hn, _, _, rfl⟩ | ⟨rfl, rfl, rfl, _, _, ad, rfl⟩
      · exact ⟨_, J, w, run_append_zero hu hsi hn w, I, Step.refl .., hs⟩
      · exact ⟨_, J, w, run_append_zero hu hsi (Nat.le_refl _) w, I, Step.refl .., hs⟩
    | _ => simp only at h; cases h
  · have hmp : 0 < m := by omega
    have hx' : ∃ blk off, ad' = some ⟨blk, off, none⟩ ∧ ∀ (k : Nat) (y : AV), xs[k]? = some y → ∃ v : Value, w.cell? ⟨blk, off + k, none⟩ = some v ∧ v.plain ∧ ARep fid J M y v :=
      hxc.resolve_left (by have := Nat.mul_pos hmp hpos; omega)
    -- a new row, under a new number
    have newrow : ∀ {ad : Option Addr} {n c : Nat} {os : List AV}, os.length = n * sz → n ≤ c → (ad = none → c = 0) → c < n + m → room (n + m) by_ →
        (n = 0 ∨ ∃ blk off, ad = some ⟨blk, off, none⟩ ∧ ∀ (k : Nat) (y : AV), os[k]? = some y → ∃ v : Value, w.cell? ⟨blk, off + k, none⟩ = some v ∧ v.plain ∧ ARep fid J M y v) →
        ∃ cv J' w', (Builtin.append_ #[t, t] ty #[.slice ad n c, .slice ad' m c']).run P w = .ok cv w' ∧ Inv fid (S ++ [.mu (os ++ xs) false]) J' M w' ∧ Step S J M w (S ++ [.mu (os ++ xs) false]) J' M w' ∧
          ARep fid J' M (.msl S.length 0 (n + m) sz ((n + m) * sz) none) cv := by
      intro ad n c os hol hnc hc0 hlt hroom ho
      obtain ⟨arr, cap, hrun, hcap, hsize, hle, hcells⟩ := append_grown (P := P) (ty := ty) I hu hi his hib hz hzs hpos hbp (ad := ad) (ad' := ad') (c := c) (c' := c') hol hxl hnc hc0 hlt hmp hroom ho hx'
      obtain ⟨I1, st⟩ := alloc_block (w1 := w.drew.alloc (.cells arr e)) I (cs := os ++ xs) (ex := false) rfl rfl rfl rfl hle (by simp) hcells
      refine ⟨_, _, _, hrun, I1, st, ?_⟩
      have hlen : (os ++ xs).length = (n + m) * sz := by rw [List.length_append, hol, hxl, Nat.add_mul]
      rw [hlen]
      exact ARep.msl S.length 0 (n + m) sz _ none w.heap.size 0 arr.size cap _ (JMap.put_self ..) hcap (.inl ⟨rfl, by omega⟩) (.inr rfl)
    clear hh
    cases s with
    | sl es sz' t' =>
      simp only at h
      replace h := chk_some.1 h; obtain ⟨rfl, h⟩ := h
      rw [if_neg hm0] at h
      replace h := chk_some.1 h; obtain ⟨⟨rfl, hroom⟩, h⟩ := h
      cases h
      obtain ⟨ad, c, rfl, hc, htt, hq⟩ := hs.sl_inv
      have hce := htt rfl
      rcases hq with rfl | ⟨blk, off, rfl, hq⟩
      · simp only [List.length_nil] at hce hroom ⊢
        subst hce
        exact newrow (os := []) (by simp) (Nat.le_refl _) (fun _ => rfl) (by omega) hroom (.inl rfl)
      · obtain ⟨f1, f2⟩ := flat_cells (Q := fun k y => ∃ v : Value, w.cell? ⟨blk, off + k, none⟩ = some v ∧ v.plain ∧ ARep fid J M y v) (fun i e he => by
          obtain ⟨b1, b2⟩ := hq i e he
          refine ⟨b1, fun k y hy => ?_⟩
          obtain ⟨v, hv, hr⟩ := b2 k y hy
          obtain ⟨q1, q2⟩ := I.mem _ _ _ hv
          exact ⟨v, by rw [← Nat.add_assoc]; exact q1, q2, .fr hr⟩)
        exact newrow f1 hc (by simp) (by omega) hroom (.inr ⟨blk, off, rfl, f2⟩)
    | msl b off n sz' vl cap =>
      simp only at h
      replace h := chk_some.1 h; obtain ⟨rfl, h⟩ := h
      rw [if_neg hm0] at h
      -- in place
      have inplace : ∀ {c : Nat} {ad : Option Addr} {blk base p : Nat}, J b vl = some (some (blk, base, p)) → n ≤ c → ((cap = none ∧ c * sz + off = p) ∨ (cap = some c ∧ off + c * sz ≤ p)) → (c = 0 ∨ ad = some ⟨blk, base + off, none⟩) → n + m ≤ c →
          ∀ {S1 : Store}, wr S b (off + n * sz) vl xs = some S1 →
          ∃ cv J' w', (Builtin.append_ #[t, t] ty #[.slice ad n c, .slice ad' m c']).run P w = .ok cv w' ∧ Inv fid S1 J' M w' ∧ Step S J M w S1 J' M w' ∧ ARep fid J' M (.msl b off (n + m) sz vl cap) cv := by
        intro c ad blk base p hj hn hcap had hle S1 hw
        have hde : ad = some ⟨blk, base + off, none⟩ := had.resolve_left (by omega)
        subst hde
        obtain ⟨xb, xo, rfl, hxx⟩ := hx'
        obtain ⟨news, n1, n2, n3, n4⟩ := news_of hxl hxx
        obtain ⟨J1, w1, hst, I1, st⟩ := wr_rep (P := P) I hw hj n4
        have hf := run_firstCells_some (P := P) w sz m ⟨xb, xo, none⟩ m c' news n1 n2
        refine ⟨.slice (some ⟨blk, base + off, none⟩) (n + m) c, J1, w1, ?_, I1, st, ?_⟩
        · have e1 : (⟨blk, base + off, none⟩ : Addr).add (n * sz) = ⟨blk, base + (off + n * sz), none⟩ := by rw [Addr.add_lit, Nat.add_assoc]
          simp only [List.toList_toArray] at hst
          simp [Builtin.append_, run_underlying hu, sizeOf, typeInfo, hi, his, Builtin.lenOf, hle, hf, e1, hst]
        · exact ARep.msl b off (n + m) sz vl cap blk base p c _ (st.jle _ _ _ hj) hle hcap (.inr rfl)
      rcases hs.msl_inv with ⟨blk, base, p, c, ad, hj, hn, hcap, had, rfl⟩ | ⟨rfl, rfl, rfl, hcap, hj, ad, rfl⟩
      · -- what the slice holds
        have olds : ∀ {os : List AV}, rd S b off vl (n * sz) = some os → os.length = n * sz ∧ (n = 0 ∨ ∃ blk off, ad = some ⟨blk, off, none⟩ ∧ ∀ (k : Nat) (y : AV), os[k]? = some y → ∃ v : Value, w.cell? ⟨blk, off + k, none⟩ = some v ∧ v.plain ∧ ARep fid J M y v) := by
          intro os hr
          obtain ⟨l1, l2⟩ := I.rd hr hj
          refine ⟨l1, ?_⟩
          rcases had with rfl | rfl
          · left; omega
          · exact .inr ⟨blk, _, rfl, l2⟩
        have hadn : ad = none → c = 0 := by
          rintro rfl
          rcases had with h | h
          · exact h
          · cases h
        split at h
        · rename_i c0
          rcases hcap with ⟨h0, _⟩ | ⟨h0, hcp⟩
          · cases h0
          · cases h0
            split at h
            · rename_i hle
              replace h := Option.bind_eq_some_iff.1 h; obtain ⟨S1, hw, h⟩ := h
              cases h
              exact inplace hj hn (.inr ⟨rfl, hcp⟩) had hle hw
            · rename_i hnle
              replace h := chk_some.1 h; obtain ⟨hroom, h⟩ := h
              replace h := Option.bind_eq_some_iff.1 h; obtain ⟨os, hr, h⟩ := h
              cases h
              obtain ⟨o1, o2⟩ := olds hr
              exact newrow o1 hn hadn (by omega) hroom o2
        · rcases hcap with ⟨_, hcp⟩ | ⟨h0, _⟩
          · have hvp := I.jps _ _ _ _ _ hj
            split at h
            · rename_i hle
              replace h := Option.bind_eq_some_iff.1 h; obtain ⟨S1, hw, h⟩ := h
              cases h
              have hcc : n + m ≤ c := by
                have : (n + m) * sz ≤ c * sz := by omega
                exact Nat.le_of_mul_le_mul_right this hpos
              exact inplace hj hn (.inl ⟨rfl, hcp⟩) had hcc hw
            · rename_i hnle
              replace h := chk_some.1 h; obtain ⟨hroom, h⟩ := h
              split at h
              · rename_i cs1 hb
                replace h := chk_some.1 h; obtain ⟨⟨hl, hfit⟩, h⟩ := h
                cases h
                have hjd : ∃ vl, J b vl ≠ none := ⟨vl, by rw [hj]; simp⟩
                rcases I.blk b cs1 true hb hjd with ⟨_, hf, _⟩ | ⟨blk', base', ps', arr, el, hj', hh, hsz, hps, hex, hc, hnM⟩
                · cases hf
                · rw [hl, hj] at hj'; cases hj'
                  have hpl := hex rfl
                  have hr : rd S b off vl (n * sz) = some ((cs1.drop off).take (n * sz)) := by
                    unfold rd; rw [hb]; simp only; rw [chk_pos ⟨hl, hfit⟩]
                  obtain ⟨o1, o2⟩ := olds hr
                  have hlt : c < n + m := by
                    have : c * sz < (n + m) * sz := by omega
                    exact Nat.lt_of_mul_lt_mul_right this
                  exact newrow o1 hn hadn hlt hroom o2
              · rename_i cs1 hb
                replace h := chk_some.1 h; obtain ⟨⟨hl, hoff, hfit⟩, h⟩ := h
                subst hoff
                cases h
                have hjd : ∃ vl, J b vl ≠ none := ⟨vl, by rw [hj]; simp⟩
                rcases I.blk b cs1 false hb hjd with ⟨rfl, _, h0⟩ | ⟨blk', base', ps', arr, el, hj', hh, hsz, hps, hex, hc, hnM⟩
                · simp at hl; rw [← hl, h0] at hj; cases hj
                · rw [hl, hj] at hj'; cases hj'
                  have hr : rd S b 0 vl (n * sz) = some (cs1.take (n * sz)) := by
                    unfold rd; rw [hb]; simp only; rw [chk_pos ⟨hl, by omega⟩]; rfl
                  obtain ⟨o1, o2⟩ := olds hr
                  exact app_amb I hu hi his hib hz hzs hpos hbp hb hl hj hn hcp had hxl hmp hroom o1 o2 hx' hnle
              · cases h
          · cases h0
      · -- it lay nowhere
        have hmz : 0 < m * sz := Nat.mul_pos hmp hpos
        split at h
        · rename_i c0
          rcases hcap with h0 | h0
          · cases h0
          · cases h0
            rw [if_neg (by omega)] at h
            replace h := chk_some.1 h; obtain ⟨hroom, h⟩ := h
            replace h := Option.bind_eq_some_iff.1 h; obtain ⟨os, hr, h⟩ := h
            cases h
            have := rd_virtual I hr
            subst this
            exact newrow (os := []) (by simp) (Nat.le_refl _) (fun _ => rfl) (by omega) hroom (.inl rfl)
        · rw [if_neg (by simp only [Nat.zero_add]; omega)] at h
          replace h := chk_some.1 h; obtain ⟨hroom, h⟩ := h
          split at h
          · rename_i cs1 hb
            replace h := chk_some.1 h; obtain ⟨⟨hl, hfit⟩, h⟩ := h
            cases h
            have hc1 : cs1 = [] := List.eq_nil_of_length_eq_zero hl
            subst hc1
            simp only [Nat.zero_mul, List.take_zero, List.drop_nil, List.take_nil]
            exact newrow (os := []) (by simp) (Nat.le_refl _) (fun _ => rfl) (by omega) hroom (.inl rfl)
          · rename_i cs1 hb
            replace h := chk_some.1 h; obtain ⟨⟨hl, _, hfit⟩, h⟩ := h
            cases h
            have hc1 : cs1 = [] := List.eq_nil_of_length_eq_zero hl
            subst hc1
            have hjd : ∃ vl, J b vl ≠ none := ⟨0, by rw [hj]; simp⟩
            obtain ⟨arr', cap', hrun, q1, q2, q3, q4⟩ := append_grown (P := P) (ty := ty) I hu hi his hib hz hzs hpos hbp (ad := ad) (ad' := ad') (n := 0) (c := 0) (c' := c') (os := []) (by simp) hxl (Nat.le_refl _) (fun _ => rfl) (by omega) hmp hroom (.inl rfl) hx'
            have hheap : (w.drew.alloc (.cells arr' e)).heap = w.heap.push (.cells arr' e (0, 0)) := rfl
            have hset := I.setb (w' := w.drew.alloc (.cells arr' e)) (cs' := [] ++ xs) (ex' := false) (blk := w.heap.size) (base := 0) (ps := arr'.size) (arr := arr') (el := e) hb hjd (by simp) (.inl (fresh_new I hb (by simp; omega)))
              (fun i hi _ => by rw [hheap, Array.getElem?_push, if_neg (by omega)]) (.inl (Nat.le_refl _)) (by rw [hheap]; simp) (by omega) q3 (by simp)
              (fun k x hk => by simpa using q4 k x hk) (by rw [hheap]; simp) rfl rfl rfl
            have hlen : ([] ++ xs).length = (0 + m) * sz := by simp [hxl]
            rw [hlen] at hset
            simp only [Nat.zero_mul, List.take_zero]
            exact ⟨_, _, _, hrun, hset.1, hset.2, ARep.msl b 0 (0 + m) sz _ none w.heap.size 0 arr'.size cap' _ (JMap.put_self ..) q1 (.inl ⟨rfl, by omega⟩) (.inr rfl)⟩
          · cases h
    | _ => simp only at h; cases h

set_option maxHeartbeats 1000000 in
theorem sim_app (hm : MidOk fid mid) {sz by_ : Nat} : Sim P fid mid R o (.app sz by_) := by
  intro ps S S' J M w tm a v' hok I ht h
  unfold okOp at hok
  simp only at hok
  split at hok
  · rename_i args ats hop
    simp only [Bool.and_eq_true, decide_eq_true_eq] at hok
    obtain ⟨⟨⟨hty, h4⟩, hpos⟩, hbp⟩ := hok
    split at hty
    · rename_i t t' hat
      have hat' := toList_two hat
      simp only [Bool.and_eq_true, beq_iff_eq] at hty
      obtain ⟨rfl, hty⟩ := hty
      split at hty
      · rename_i e hu
        simp only [Bool.and_eq_true] at hty
        obtain ⟨⟨hs, hb⟩, hz⟩ := hty
        split at hz
        · rename_i i hi
          split at hz
          · rename_i z hzz
            have his : i.size = sz := by unfold szIs at hs; rw [hi] at hs; simpa using hs
            have hib : i.bytes = by_ := by unfold byIs at hb; rw [hi] at hb; simpa using hb
            have hzs : z.cells.size = sz := by simpa using hz
            cases hvs : ps.map (·.ev tm) with
            | nil => rw [hvs] at h; simp [opA] at h
            | cons x xs =>
              cases xs with
              | nil => rw [hvs] at h; simp [opA] at h
              | cons y ys =>
                cases ys with
                | cons u us => rw [hvs] at h; simp [opA] at h
                | nil =>
                  rw [hvs] at h
                  simp only [opA] at h
                  obtain ⟨c1, c2, hca, r1, r2⟩ := args2 hm ht h4 hvs
                  obtain ⟨cv, J', w', hrun, I', st, hr⟩ := appA_rep (P := P) (ty := o.type) I hu hi his hib hzz hzs hpos hbp r1 r2 h
                  exact ⟨cv, J', M, w', .inl (by simp only [execOp_builtin hop, hca, hat']; simp [builtin, hrun]), I', st, hr⟩
          · cases hz
        · cases hz
      · cases hty
    · cases hty
  · cases hok

theorem sim_cpy (hm : MidOk fid mid) {sz : Nat} : Sim P fid mid R o (.cpy sz) := by
  intro ps S S' J M w tm a v' hok I ht h
  unfold okOp at hok
  simp only at hok
  split at hok
  · rename_i args ats hop
    simp only [Bool.and_eq_true, decide_eq_true_eq] at hok
    obtain ⟨⟨hty, h4⟩, hpos⟩ := hok
    split at hty
    · rename_i t t' hat
      have hat' := toList_two hat
      split at hty
      · rename_i e hu
        cases hvs : ps.map (·.ev tm) with
        | nil => rw [hvs] at h; simp [opA] at h
        | cons x xs =>
          cases xs with
          | nil => rw [hvs] at h; cases x <;> simp [opA] at h
          | cons y ys =>
            cases ys with
            | cons u us => rw [hvs] at h; cases x <;> simp [opA] at h
            | nil =>
              rw [hvs] at h
              cases x <;> simp only [opA] at h <;> try (cases h)
              rename_i b off n sz' vl cap
              replace h := chk_some.1 h; obtain ⟨rfl, h⟩ := h
              replace h := Option.bind_eq_some_iff.1 h; obtain ⟨⟨m, xs⟩, hh, h⟩ := h
              simp only at h
              replace h := Option.bind_eq_some_iff.1 h; obtain ⟨S1, hw, h⟩ := h
              cases h
              obtain ⟨c1, c2, hca, r1, r2⟩ := args2 hm ht h4 hvs
              obtain ⟨ad', c', rfl, hmc, hxl, hxc⟩ := held_rep I hh r2
              -- what is copied
              have hfc : ∃ news : List Value, (Builtin.firstCells sz (min m n) (.slice ad' m c')).run P w = .ok news.toArray w ∧ CRep fid J M (xs.take (min m n * sz)) news.toArray := by
                by_cases h0 : min m n * sz = 0
                · refine ⟨[], ?_, by simp [h0], fun k x hx => by rw [h0] at hx; simp at hx⟩
                  cases ad' <;> simp [Builtin.firstCells, h0, loadCells, loadCellsFrom]
                · have hmz : ¬ m * sz = 0 := fun e => h0 (by
                    rcases Nat.mul_eq_zero.1 e with e | e
                    · simp [e]
                    · simp [e])
                  obtain ⟨blk, o', rfl, hx⟩ := hxc.resolve_left hmz
                  have hle : min m n * sz ≤ m * sz := Nat.mul_le_mul_right _ (Nat.min_le_left _ _)
                  obtain ⟨news, n1, n2, n3, n4⟩ := news_of (m := min m n) (sz := sz) (xs := xs.take (min m n * sz)) (by simp; omega) (blk := blk) (off := o') (fun k y hy => by
                    have hk : k < min m n * sz := by have := (List.getElem?_eq_some_iff.1 hy).1; simp at this; omega
                    rw [List.getElem?_take_of_lt hk] at hy
                    exact hx k y hy)
                  exact ⟨news, run_firstCells_some (P := P) w sz (min m n) ⟨blk, o', none⟩ m c' news n1 n2, n4⟩
              obtain ⟨news, hfr, hcr⟩ := hfc
              rcases r1.msl_inv with ⟨blk, base, p, c, ad, hj, hn, hcap, had, rfl⟩ | ⟨rfl, rfl, rfl, hcap, hj, ad, rfl⟩
              · obtain ⟨J', w', hst, I', st⟩ := wr_rep (P := P) I hw hj hcr
                rcases had with rfl | rfl
                · have hn0 : n = 0 := by omega
                  subst hn0
                  have hx0 : xs.take (min m 0 * sz) = [] := by simp
                  have hnews : news = [] := by have := hcr.1; rw [hx0] at this; simpa using this
                  subst hnews
                  have hw' : w' = w := by
                    have : (storeCells ⟨blk, base + off, none⟩ ([] : List Value).toArray.toList).run P w = .ok () w := by simp [storeCells]
                    rw [this] at hst; cases hst; rfl
                  subst hw'
                  refine ⟨goInt ((min m 0 : Nat) : Int), J', M, w', .inl ?_, I', st, .fr (.int _ _)⟩
                  simp only [execOp_builtin hop, hca, hat']
                  cases ad <;> simp [builtin, Builtin.copy_, run_underlying hu, szIs_run hty, Builtin.lenOf, Nat.min_def] at hfr ⊢ <;> simp [hfr, storeCells]
                · refine ⟨goInt ((min m n : Nat) : Int), J', M, w', .inl ?_, I', st, .fr (.int _ _)⟩
                  simp only [List.toList_toArray] at hst
                  simp only [execOp_builtin hop, hca, hat']
                  simp [builtin, Builtin.copy_, run_underlying hu, szIs_run hty, Builtin.lenOf, show m.min n = min m n from rfl, hfr, hst]
              · -- a copy into what lies nowhere
                have hx0 : xs.take (min m 0 * sz) = [] := by simp
                have hnews : news = [] := by have := hcr.1; rw [hx0] at this; simpa using this
                subst hnews
                have hS : S' = S := by
                  rw [hx0] at hw
                  unfold wr at hw
                  split at hw
                  · rename_i cs0 ex0 hb0
                    replace hw := chk_some.1 hw; obtain ⟨⟨hl0, _⟩, hw⟩ := hw
                    cases hw
                    have : cs0 = [] := List.eq_nil_of_length_eq_zero hl0
                    subst this
                    apply List.ext_getElem?
                    intro k
                    by_cases hk : b = k
                    · subst hk; rw [List.getElem?_set_self (List.getElem?_eq_some_iff.1 hb0).1, hb0]; rfl
                    · rw [List.getElem?_set_ne hk]
                  · cases hw
                subst hS
                refine ⟨goInt ((min m 0 : Nat) : Int), J, M, w, .inl ?_, I, Step.refl .., .fr (.int _ _)⟩
                simp only [execOp_builtin hop, hca, hat']
                cases ad <;> simp [builtin, Builtin.copy_, run_underlying hu, szIs_run hty, Builtin.lenOf, Nat.min_def] at hfr ⊢ <;> simp [hfr, storeCells]
      · cases hty
    · cases hty
  · cases hok

theorem zeroCells_eq (z : Array Value) (n : Nat) : Builtin.zeroCells z n = (Array.range (n * z.size)).map (z[· % z.size]!) := rfl
theorem sim_clr (hm : MidOk fid mid) {sz : Nat} {z : List AV} : Sim P fid mid R o (.clr sz z) := by
  intro ps S S' J M w tm a v' hok I ht h
  unfold okOp at hok
  simp only at hok
  split at hok
  · rename_i args ats hop
    simp only [Bool.and_eq_true, decide_eq_true_eq] at hok
    obtain ⟨⟨hty, h4⟩, hpos⟩ := hok
    split at hty
    · rename_i t hat
      have hat' := toList_one hat
      split at hty
      · rename_i e hu
        simp only [Bool.and_eq_true] at hty
        obtain ⟨hs, hz⟩ := hty
        cases hvs : ps.map (·.ev tm) with
        | nil => rw [hvs] at h; simp [opA] at h
        | cons x xs =>
          cases xs with
          | cons y ys => rw [hvs] at h; cases x <;> simp [opA] at h
          | nil =>
            rw [hvs] at h
            cases x <;> simp only [opA] at h <;> try (cases h)
            rename_i b off n sz' vl cap
            replace h := chk_some.1 h; obtain ⟨⟨rfl, hzl⟩, h⟩ := h
            replace h := Option.bind_eq_some_iff.1 h; obtain ⟨S1, hw, h⟩ := h
            cases h
            obtain ⟨c1, hca, r1⟩ := args1 hm ht h4 hvs
            obtain ⟨i, v, hi, hv, his, hvs', hE⟩ := zeros_rep (fid := fid) (J := J) (M := M) (len := n) (z := .agg z) (t := e) hz hs hzl hpos
            obtain ⟨e1, e2⟩ := hE.cells hpos
            have hfl : (List.replicate n (AV.agg z)).flatMap AV.cells = (List.replicate n z).flatten := by
              rw [List.flatMap_def, List.map_replicate]; rfl
            rw [hfl] at e1 e2
            have hcr : CRep fid J M (List.replicate n z).flatten (Builtin.zeroCells v.cells n) := by
              rw [zeroCells_eq, show n * v.cells.size = n * sz by rw [hvs']]
              exact ⟨e1.symm, e2⟩
            have hzv : ∀ w, (zeroValue e).run P w = .ok v w := fun w => by simp [zeroValue, typeInfo, hi, hv]
            have hun : ARep fid J M (.tup []) (.tuple #[]) := .tup [] #[] rfl (fun _ => default) (fun k x hx => by simp at hx) (fun k x hx => by simp at hx)
            rcases r1.msl_inv with ⟨blk, base, p, c, ad, hj, hn, hcap, had, rfl⟩ | ⟨rfl, rfl, rfl, hcap, hj, ad, rfl⟩
            · obtain ⟨J', w', hst, I', st⟩ := wr_rep (P := P) I hw hj hcr
              have hun' : ARep fid J' M (.tup []) (.tuple #[]) := .tup [] #[] rfl (fun _ => default) (fun k x hx => by simp at hx) (fun k x hx => by simp at hx)
              by_cases hn0 : n = 0
              · subst hn0
                have hw' : w' = w := by
                  have h0 : Builtin.zeroCells v.cells 0 = #[] := by simp [Builtin.zeroCells, Array.range_zero']
                  rw [h0] at hst
                  simp [storeCells] at hst
                  exact hst.symm
                subst hw'
                refine ⟨.tuple #[], J', M, w', .inl ?_, I', st, hun'⟩
                simp only [execOp_builtin hop, hca, hat']
                cases ad <;> simp [builtin, Builtin.clear_, run_underlying hu]
              · have hde : ad = some ⟨blk, base + off, none⟩ := had.resolve_left (by omega)
                subst hde
                refine ⟨.tuple #[], J', M, w', .inl ?_, I', st, hun'⟩
                simp only [execOp_builtin hop, hca, hat']
                obtain ⟨k, rfl⟩ : ∃ k, n = k + 1 := ⟨n - 1, by omega⟩
                simp [builtin, Builtin.clear_, run_underlying hu, hzv, hst]
            · have hS : S' = S := by
                simp only [List.replicate_zero, List.flatten_nil] at hw
                unfold wr at hw
                split at hw
                · rename_i cs0 ex0 hb0
                  replace hw := chk_some.1 hw; obtain ⟨⟨hl0, _⟩, hw⟩ := hw
                  cases hw
                  have : cs0 = [] := List.eq_nil_of_length_eq_zero hl0
                  subst this
                  apply List.ext_getElem?
                  intro k
                  by_cases hk : b = k
                  · subst hk; rw [List.getElem?_set_self (List.getElem?_eq_some_iff.1 hb0).1, hb0]; rfl
                  · rw [List.getElem?_set_ne hk]
                · cases hw
              subst hS
              refine ⟨.tuple #[], J, M, w, .inl ?_, I, Step.refl .., hun⟩
              simp only [execOp_builtin hop, hca, hat']
              cases ad <;> simp [builtin, Builtin.clear_, run_underlying hu]
      · cases hty
    · cases hty
  · cases hok
end
end Go.AVM
