/- Texts joined: AvInt12, AvInt13, AvInt14, AvInt15, AvInt16, AvRat1, AvInd1, AvInd2, AvInd3, AvInd4, AvInd5, AvInd6, AvInd7, AvInd8, AvInd9, AvInd10, AvElim2, AvElim3, AvEx5, AvOrd4, AvOrd5, AvAdm1, AvSort1, AvSort2. -/
import Derived.Test.YtlpbjbgfgfjnlaaGreatAvMatch6
import Derived.Test.YtlpbjbgfgfjnlaaGreatAvMatch5
import Derived.KernelRfl
set_option linter.unusedVariables false
set_option linter.unusedSimpArgs false
set_option linter.unusedSectionVars false
namespace Go.AVM
set_option maxRecDepth 20000 in
theorem red_add {S : Store} {b : Nat} {us vs : List Nat} {off n g bo : Nat} (hS : S[b]? = some (.mu (wds us) true)) (hus : Wd us) (hvs : Wd vs) (hn : vs.length = n) (hoff : off + (n + 1) ≤ us.length) (hlen : us.length ≤ 2 * Lim) {Q : FQ}
    (hQ : ∀ (tm : List AV) (hl : tm.length = 141) (ds : List Nat) (mo : Nat), tm[0] = .msl b off (n + 1) 1 us.length none → tm[1] = .sl (wds vs) 1 false → tm[6] = .int .u64 (g : Int) → tm[11] = .int .u32 (bo : Int) → tm[13] = .int .u32 (mo : Int) → ds.length = n + 1 → Wd ds → mo ≤ 1 →
      val ds + B ^ (n + 1) * mo = val ((us.drop off).take (n + 1)) + val vs → Q (.ex 6) ⟨tm, S.set b (.mu (wds (us.take off ++ ds ++ us.drop (off + (n + 1)))) true)⟩) :
    ∀ (m i : Nat), i + m = n + 1 → ∀ (ds : List Nat) (mo : Nat), ds.length = i → Wd ds → mo ≤ 1 → val ds + B ^ i * mo = val ((us.drop off).take i) + val (vs.take i) →
    wpL RT f101_2m S.length f101_2 ⟨[.msl b off (n + 1) 1 us.length none, .sl (wds vs) 1 false, .any, .any, .any, .any, .int .u64 (g : Int), .any, .any, .any, .any, .int .u32 (bo : Int), .any, .int .u32 (mo : Int)] ++ List.replicate 102 .any ++ [.int .i64 ((n + 1 : Nat) : Int), .int .i64 (i : Int)] ++ List.replicate 23 .any,
      S.set b (.mu (wds (us.take off ++ ds ++ us.drop (off + i))) true)⟩ Q := by
  have hL : Lim = 1099511627776 := rfl
  intro m
  induction m with
  | zero =>
    intro i hi ds mo hds hwd hmo he
    have hi' : i = n + 1 := by omega
    subst hi'
    have hv : vs.take (n + 1) = vs := List.take_of_length_le (by omega)
    rw [hv] at he
    have hfin := fun tm hl h0 h1 h6 h11 h13 => hQ tm hl ds mo h0 h1 h6 h11 h13 hds hwd hmo he
    generalize us.take off ++ ds ++ us.drop (off + (n + 1)) = cs at *
    rw [wpL_step]
    generalize hK : loopQ RT f101_2m S.length f101_2 Q = K
    simp [f101_2, List.replicate]
    subst hK
    exact hfin _ rfl rfl rfl rfl rfl rfl
  | succ m ih =>
    intro i hi ds mo hds hwd hmo he
    have hlt' : (i : Int) < (n : Int) + 1 := by omega
    have hat := run_at (ws := vs) (t := false) (i := i) (by omega)
    have hvB : vs.getD i 0 < B := by
      rw [List.getD_eq_getElem?_getD]
      cases h : vs[i]? with
      | none => decide
      | some w => exact hvs.get h
    have e2 := val_take_succ vs i
    generalize vs.getD i 0 = v at *
    obtain ⟨w, hw⟩ : ∃ w, us[off + i]? = some w := ⟨us[off + i], List.getElem?_eq_getElem (by omega)⟩
    have hwB : w < B := hus.get hw
    have had := run_Add32 (x := w) (y := v) (c := mo) hwB hvB (Nat.lt_of_le_of_lt hmo (by decide))
    obtain ⟨s, hs⟩ : ∃ s, s = (w + v + mo) % B := ⟨_, rfl⟩
    obtain ⟨d, hd⟩ : ∃ d, d = (w + v + mo) / B := ⟨_, rfl⟩
    rw [← hs, ← hd] at had
    have hsB : s < B := by rw [hs]; exact Nat.mod_lt _ (by decide)
    have hd1 : d ≤ 1 := by rw [hd]; exact Nat.lt_succ_iff.1 (Nat.div_lt_of_lt_mul (by have : B = 4294967296 := rfl; omega))
    have hdm := Nat.mod_add_div (w + v + mo) B
    rw [← hs, ← hd] at hdm
    have hget0 := window_get (us := us) (ds := ds) (off := off) (i := i) (by omega) hds
    have hset0 := window_set (us := us) (ds := ds) (off := off) (i := i) (d := s) (by omega) hds
    have hwu : us[off + i]'(by omega) = w := (List.getElem?_eq_some_iff.1 hw).2
    rw [hwu] at hget0
    have hbl := lt_of_get hS
    have hlen0 : (us.take off ++ ds ++ us.drop (off + i)).length = us.length := by simp [hds]; omega
    have hih := ih (i + 1) (by omega) (ds ++ [s]) d (by simp [hds]) (Wd.app hwd (Wd.mk hsB Wd.nil)) hd1 (by
      have e6 : val ((us.drop off).take (i + 1)) = val ((us.drop off).take i) + B ^ i * w := by
        rw [val_take_succ, List.getD_eq_getElem?_getD, List.getElem?_drop, hw]; rfl
      rw [val_append, hds, e2, e6, Nat.pow_succ]
      have e9 : val [s] = s := by simp [val]
      have e3 : B ^ i * s + B ^ i * B * d = B ^ i * (w + v + mo) := by rw [← hdm, Nat.mul_assoc, ← Nat.mul_add]
      rw [e9]
      simp only [Nat.mul_add] at e3
      omega)
    have e0 : off + (i + 1) = off + i + 1 := by omega
    rw [← hset0] at hih
    generalize hcs : us.take off ++ ds ++ us.drop (off + i) = cs at *
    have hrd := rd_word (S := S.set b (.mu (wds cs) true)) (b := b) (i := off + i) (vl := us.length) (ws := cs) (ex := true) (set_get hbl) (by rw [hlen0]) (by omega)
    have hwr := wr_word (S := S.set b (.mu (wds cs) true)) (b := b) (i := off + i) (vl := us.length) (w := s) (ws := cs) (ex := true) (set_get hbl) (by rw [hlen0]) (by omega)
    have hcw : cs[off + i]'(by omega) = w := (List.getElem?_eq_some_iff.1 hget0).2
    rw [hcw] at hrd
    rw [List.set_set] at hwr
    have hwi : IntKind.i64.wrap ((i : Int) + 1) = ((i + 1 : Nat) : Int) := wrap_i64 (by omega) (by omega)
    rw [wpL_step]
    generalize hK : loopQ RT f101_2m S.length f101_2 Q = K
    simp [f101_2, List.replicate, hlt', hat, after_nr, hrd, had, hwr, hwi]
    subst hK
    simp [head, f101_2m, mask, trunc_len]
    simpa [f101_2m, List.replicate] using hih
theorem win_take {us ds : List Nat} {off n : Nat} (hoff : off + (n + 1) ≤ us.length) (hds : ds.length = n + 1) : (us.take off ++ ds ++ us.drop (off + (n + 1))).length = us.length ∧ ((us.take off ++ ds ++ us.drop (off + (n + 1))).drop off).take (n + 1) = ds ∧
    (us.take off ++ ds ++ us.drop (off + (n + 1))).take off = us.take off ∧ (us.take off ++ ds ++ us.drop (off + (n + 1))).drop (off + (n + 1)) = us.drop (off + (n + 1)) := by
  have hl : (us.take off).length = off := by rw [List.length_take]; omega
  refine ⟨by simp [hds]; omega, ?_, ?_, ?_⟩
  · rw [List.append_assoc, List.drop_append, List.drop_of_length_le (by omega), List.nil_append, hl, Nat.sub_self, List.drop_zero, List.take_append, List.take_of_length_le (by omega), hds, Nat.sub_self, List.take_zero, List.append_nil]
  · rw [List.append_assoc, List.take_append, hl, Nat.sub_self, List.take_zero, List.append_nil, List.take_of_length_le (by omega)]
  · have : (us.take off ++ ds).length = off + (n + 1) := by rw [List.length_append, hl, hds]
    rw [List.drop_append, List.drop_of_length_le (by omega), List.nil_append, this, Nat.sub_self, List.drop_zero]
set_option maxRecDepth 20000 in
theorem red_back {S : Store} {b : Nat} {us vs : List Nat} {off n X P : Nat} (hP : B ^ (n + 1) = P) (hS : S[b]? = some (.mu (wds us) true)) (hus : Wd us) (hvs : Wd vs) (hn : vs.length = n) (hoff : off + (n + 1) ≤ us.length) (hlen : us.length ≤ 2 * Lim) (hV : 0 < val vs) {Q : FQ}
    (hQ : ∀ (tm : List AV) (hl : tm.length = 141) (ds : List Nat), tm[6] = .int .u64 ((X / val vs : Nat) : Int) → ds.length = n + 1 → Wd ds → val ds = X % val vs → Q (.ex 4) ⟨tm, S.set b (.mu (wds (us.take off ++ ds ++ us.drop (off + (n + 1)))) true)⟩) :
    ∀ (g : Nat) (ds : List Nat) (bo : Nat), g < B → X / val vs ≤ g → ds.length = n + 1 → Wd ds → bo ≤ 1 → val ds + g * val vs = X + P * bo →
    wpL RT f101_3m S.length f101_3 ⟨[.msl b off (n + 1) 1 us.length none, .sl (wds vs) 1 false, .any, .any, .any, .any, .int .u64 (g : Int), .any, .any, .any, .any, .int .u32 (bo : Int)] ++ List.replicate 129 .any, S.set b (.mu (wds (us.take off ++ ds ++ us.drop (off + (n + 1)))) true)⟩ Q := by
  intro g
  induction g with
  | zero =>
    intro ds bo hgB hge hds hwd hbo he
    have hb0 : bo = 0 := by
      refine Classical.byContradiction fun h => ?_
      have h1 : bo = 1 := by omega
      subst h1
      have := val_lt hwd
      rw [hds, hP] at this
      rw [Nat.zero_mul, Nat.add_zero, Nat.mul_one] at he
      omega
    subst hb0
    have hq : X / val vs = 0 := Nat.eq_zero_of_le_zero hge
    have hr : val ds = X % val vs := by
      have := Nat.mod_add_div X (val vs)
      rw [hq, Nat.mul_zero, Nat.add_zero] at this
      rw [this]
      simpa using he
    have hfin := fun tm hl h6 => hQ tm hl ds h6 hds hwd hr
    rw [hq] at hfin
    generalize us.take off ++ ds ++ us.drop (off + (n + 1)) = cs at *
    rw [wpL_step]
    generalize hK : loopQ RT f101_3m S.length f101_3 Q = K
    simp [f101_3, List.replicate]
    subst hK
    exact hfin _ rfl rfl
  | succ g ih =>
    intro ds bo hgB hge hds hwd hbo he
    have hlt := val_lt hwd
    rw [hds, hP] at hlt
    have hbl := lt_of_get hS
    by_cases hb0 : bo = 0
    · subst hb0
      have hle : (g + 1) * val vs ≤ X := by omega
      have hq : X / val vs = g + 1 := Nat.le_antisymm hge ((Nat.le_div_iff_mul_le hV).2 hle)
      have hr : val ds = X % val vs := by
        have := Nat.mod_add_div X (val vs)
        rw [hq, Nat.mul_comm] at this
        omega
      have hfin := fun tm hl h6 => hQ tm hl ds h6 hds hwd hr
      rw [hq] at hfin
      generalize us.take off ++ ds ++ us.drop (off + (n + 1)) = cs at *
      rw [wpL_step]
      generalize hK : loopQ RT f101_3m S.length f101_3 Q = K
      simp [f101_3, List.replicate]
      subst hK
      exact hfin _ rfl rfl
    · have h1 : bo = 1 := by omega
      subst h1
      obtain ⟨wl, wt, w0, w2⟩ := win_take (us := us) (ds := ds) hoff hds
      have hge2 : X / val vs ≤ g := by
        have : X < (g + 1) * val vs := by
          rw [Nat.mul_one] at he
          omega
        have := (Nat.div_lt_iff_lt_mul hV).2 this
        omega
      have hwcs : Wd (us.take off ++ ds ++ us.drop (off + (n + 1))) := Wd.app (Wd.app (hus.take off) hwd) (hus.drop _)
      have hSl : (S.set b (.mu (wds (us.take off ++ ds ++ us.drop (off + (n + 1)))) true)).length = S.length := by simp
      have key := fun (Q' : FQ) hQ' => red_add (S := S.set b (.mu (wds (us.take off ++ ds ++ us.drop (off + (n + 1)))) true)) (b := b) (us := us.take off ++ ds ++ us.drop (off + (n + 1))) (vs := vs) (off := off) (n := n) (g := g) (bo := 1) (set_get hbl) hwcs hvs hn (by rw [wl]; exact hoff) (by rw [wl]; exact hlen) (Q := Q') hQ' (n + 1) 0 (by omega) [] 0 rfl Wd.nil (by omega) (by simp [val])
      rw [hSl, wl, wt, w0] at key
      simp only [List.set_set, List.append_nil, Nat.add_zero] at key
      have hdt : us.take off ++ (us.take off ++ ds ++ us.drop (off + (n + 1))).drop off = us.take off ++ ds ++ us.drop (off + (n + 1)) := by
        have hl : (us.take off).length = off := by rw [List.length_take]; omega
        rw [List.append_assoc, List.drop_append, List.drop_of_length_le (by omega), List.nil_append, hl, Nat.sub_self, List.drop_zero]
      rw [hdt] at key
      have hih := fun ds2 mo h => ih ds2 (1 - mo) (by omega) hge2 h
      generalize hcs : us.take off ++ ds ++ us.drop (off + (n + 1)) = cs at *
      have hg1 : ((g : Int) + 1 - 1) % 18446744073709551616 = (g : Int) := by
        have : B = 4294967296 := rfl
        omega
      have hg1' : (g : Int) % 18446744073709551616 = (g : Int) := by
        have : B = 4294967296 := rfl
        omega
      rw [wpL_step]
      generalize hK : loopQ RT f101_3m S.length f101_3 Q = K
      simp [f101_3, List.replicate, wrap_u64, hg1, hg1']
      simp [head, f101_2m, mask, trunc_len]
      simp [List.replicate] at key
      refine key _ ?_
      intro tm hl ds2 mo h0 h1 h6 h11 h13 hds2 hwd2 hmo he2
      have hlt2 := val_lt hwd2
      rw [hds2, hP] at hlt2
      rw [hP] at he2
      have hih2 := hih ds2 mo hds2 hwd2 (by omega) (by
        rw [Nat.succ_mul] at he
        have hm : mo = 0 ∨ mo = 1 := by omega
        rcases hm with rfl | rfl
        · simp only [Nat.mul_zero, Nat.add_zero, Nat.sub_zero, Nat.mul_one] at he2 he ⊢; omega
        · simp only [Nat.sub_self, Nat.mul_zero, Nat.mul_one, Nat.add_zero] at he2 he ⊢; omega)
      rw [w2]
      have hm1 : ((1 : Int) - (mo : Int)) % 4294967296 = ((1 - mo : Nat) : Int) := by omega
      simp [hl, h0, h1, h6, h11, h13, wrap_u32, hm1]
      subst hK
      simp only [loopQ_nrm, head]
      rw [mask_G (n := 141) (by simp [hl])]
      simp [f101_3m, hl, h0, h1, h6, maskG_t, maskG_f, maskG_nil, trunc_len]
      simpa [f101_3m, List.replicate] using hih2
theorem est_step {xt g vt v2 x2 rest Bv z y w : Nat} (hx : g * vt + rest = xt) (hz : z = rest * Bv) (hy : y = z + x2) (hw : w = g * v2) (c : y < w) : xt * Bv + x2 < g * (vt * Bv + v2) := by
  have h1 : g * (vt * Bv + v2) = g * vt * Bv + g * v2 := by rw [Nat.mul_add, Nat.mul_assoc]
  have h2 : xt * Bv = g * vt * Bv + rest * Bv := by rw [← hx, Nat.add_mul]
  rw [h1, h2]
  omega
theorem pred_mul' {g vt : Nat} (h : 1 ≤ g) : g * vt = (g - 1) * vt + vt := by
  obtain ⟨j, rfl⟩ : ∃ j, g = j + 1 := ⟨g - 1, by omega⟩
  rw [Nat.succ_mul]; rfl
theorem or_word {r x : Nat} (hr : r < B) (hx : x < B) : binA .or (.int .u64 ((r * 4294967296 : Nat) : Int)) (.int .u64 (x : Int)) = some (.int .u64 ((r * 4294967296 + x : Nat) : Int)) := by
  have hB : B = 4294967296 := rfl
  have h : r * 4294967296 ||| x = r * 4294967296 + x := by
    have := Nat.two_pow_add_eq_or_of_lt (i := 32) (b := x) hx r
    rw [Nat.mul_comm] at this
    exact this.symm
  rw [or_nat rfl (show r * 4294967296 < 2 ^ 64 by omega) (show x < 2 ^ 64 by omega), h]
theorem or_word' {r x y z : Nat} (hr : r < B) (hx : x < B) (hz : z = r * 4294967296) (hy : y = z + x) : binA .or (.int .u64 (z : Int)) (.int .u64 (x : Int)) = some (.int .u64 (y : Int)) := by
  subst hy hz
  exact or_word hr hx
set_option maxHeartbeats 2000000 in
set_option maxRecDepth 20000 in
theorem red_est {S : Store} {b : Nat} {us vs : List Nat} {off n X xt vt v2 x2 : Nat} (hS : S[b]? = some (.mu (wds us) true)) (hvs : Wd vs) (hn : vs.length = n) (hn2 : 2 ≤ n) (hoff : off + (n + 1) ≤ us.length) (hlen : us.length ≤ 2 * Lim)
    (hvt : vs[n - 1]? = some vt) (hv2 : vs[n - 2]? = some v2) (hx2 : us[off + (n - 2)]? = some x2) (hvt0 : 0 < vt) (hvtB : vt < B) (hv2B : v2 < B) (hx2B : x2 < B)
    (hV : (vt * B + v2) * B ^ (n - 2) ≤ val vs) (hX : X < (xt * B + x2 + 1) * B ^ (n - 2)) {Q : FQ}
    (hQ : ∀ (tm : List AV) (hl : tm.length = 141) (g : Nat), tm[0] = .msl b off (n + 1) 1 us.length none → tm[1] = .sl (wds vs) 1 false → tm[6] = .int .u64 (g : Int) → X / val vs ≤ g → g < B → Q (.ex 0) ⟨tm, S⟩) :
    ∀ (N g rest : Nat), g ≤ N → g < B → g * vt + rest = xt → X / val vs ≤ g → rest < 2 * B →
    wpL RT f101_0m S.length f101_0 ⟨[.msl b off (n + 1) 1 us.length none, .sl (wds vs) 1 false, .any, .any, .any, .int .i64 (n : Int), .int .u64 (g : Int), .any, .any, .int .u64 (rest : Int)] ++ List.replicate 131 .any, S⟩ Q := by
  have hL : Lim = 1099511627776 := rfl
  have hB : B = 4294967296 := rfl
  obtain ⟨k, rfl⟩ : ∃ k, n = k + 2 := ⟨n - 2, by omega⟩
  simp only [show k + 2 - 1 = k + 1 by omega, show k + 2 - 2 = k by omega] at hvt hv2 hx2 hV hX
  intro N
  induction N with
  | zero =>
    intro g rest hgN hgB hx hge hrB
    have hg0 : g = 0 := by omega
    subst hg0
    have hfin := fun tm hl h0 h1 h6 => hQ tm hl 0 h0 h1 h6 hge (by decide)
    by_cases c : (rest : Int) ≤ 4294967295
    · have e1 : IntKind.i64.wrap ((k : Int) + 2 - 2) = (k : Int) := by rw [wrap_i64 (by omega) (by omega)]; omega
      have e1' : IntKind.i64.wrap (k : Int) = (k : Int) := wrap_i64 (by omega) (by omega)
      have hv2' : vs[k] = v2 := (List.getElem?_eq_some_iff.1 hv2).2
      have hx2' : us[off + k]'(by omega) = x2 := (List.getElem?_eq_some_iff.1 hx2).2
      have hrd := rd_word (i := off + k) hS (rfl : us.length = us.length) (by omega)
      rw [hx2'] at hrd
      have f1 : (v2 : Int) % 18446744073709551616 = v2 := by omega
      have f2 : (x2 : Int) % 18446744073709551616 = x2 := by omega
      obtain ⟨z, hz⟩ : ∃ z, z = rest * 4294967296 := ⟨_, rfl⟩
      obtain ⟨y, hy⟩ : ∃ y, y = z + x2 := ⟨_, rfl⟩
      have f3 : (rest : Int) * 4294967296 % 18446744073709551616 = (z : Int) := by omega
      have hor := or_word' (r := rest) (x := x2) (by omega) hx2B hz hy
      have f4 : ¬ ((y : Int) < 0) := by omega
      have e4 : (k : Int) < (k : Int) + 2 + 1 := by omega
      have e5 : (k : Int) < (k : Int) + 2 := by omega
      rw [wpL_step]
      generalize hK : loopQ RT f101_0m S.length f101_0 Q = K
      simp [f101_0, List.replicate, c, e1, e1', hn, hv2', wrap_u64, f1, f3, IntKind.bits, e4, e5, hrd, f2, hor, f4]
      subst hK
      exact hfin _ rfl rfl rfl rfl
    · rw [wpL_step]
      generalize hK : loopQ RT f101_0m S.length f101_0 Q = K
      simp [f101_0, List.replicate, c]
      subst hK
      exact hfin _ rfl rfl rfl rfl
  | succ N ih =>
    intro g rest hgN hgB hx hge hrB
    have hfin := fun tm hl h0 h1 h6 => hQ tm hl g h0 h1 h6 hge hgB
    by_cases c : (rest : Int) ≤ 4294967295
    · have e1 : IntKind.i64.wrap ((k : Int) + 2 - 2) = (k : Int) := by rw [wrap_i64 (by omega) (by omega)]; omega
      have e1' : IntKind.i64.wrap (k : Int) = (k : Int) := wrap_i64 (by omega) (by omega)
      have e1b : IntKind.i64.wrap ((k : Int) + 2 - 1) = (k : Int) + 1 := by rw [wrap_i64 (by omega) (by omega)]; omega
      have e1b' : IntKind.i64.wrap ((k : Int) + 1) = (k : Int) + 1 := wrap_i64 (by omega) (by omega)
      have hv2' : vs[k] = v2 := (List.getElem?_eq_some_iff.1 hv2).2
      have hvt' : vs[k + 1] = vt := (List.getElem?_eq_some_iff.1 hvt).2
      have hx2' : us[off + k]'(by omega) = x2 := (List.getElem?_eq_some_iff.1 hx2).2
      have hrd := rd_word (i := off + k) hS (rfl : us.length = us.length) (by omega)
      rw [hx2'] at hrd
      have f1 : (v2 : Int) % 18446744073709551616 = v2 := by omega
      have f1b : (vt : Int) % 18446744073709551616 = vt := by omega
      have f2 : (x2 : Int) % 18446744073709551616 = x2 := by omega
      obtain ⟨z, hz⟩ : ∃ z, z = rest * 4294967296 := ⟨_, rfl⟩
      obtain ⟨y, hy⟩ : ∃ y, y = z + x2 := ⟨_, rfl⟩
      have f3 : (rest : Int) * 4294967296 % 18446744073709551616 = (z : Int) := by omega
      have hor := or_word' (r := rest) (x := x2) (by omega) hx2B hz hy
      have hgv : g * v2 ≤ (B - 1) * (B - 1) := Nat.mul_le_mul (by omega) (by omega)
      rw [hB] at hgv
      obtain ⟨w, hw⟩ : ∃ w, w = g * v2 := ⟨_, rfl⟩
      rw [← hw] at hgv
      have f5 : (g : Int) * (v2 : Int) % 18446744073709551616 = (w : Int) := by
        have : (g : Int) * (v2 : Int) = (w : Int) := by rw [hw]; push_cast; rfl
        rw [this]; omega
      have f6 : (rest : Int) + (vt : Int) < 18446744073709551616 := by omega
      have f7 : ((rest : Int) + (vt : Int)) % 18446744073709551616 = ((rest + vt : Nat) : Int) := by omega
      have e4 : (k : Int) < (k : Int) + 2 + 1 := by omega
      have e5 : (k : Int) < (k : Int) + 2 := by omega
      have e6 : (k : Int) + 1 < (k : Int) + 2 := by omega
      have e7 : ((k : Int) + 1).toNat = k + 1 := by omega
      have e8 : (0 : Int) ≤ (k : Int) + 1 := by omega
      by_cases c2 : y < w
      · have hg1 : 1 ≤ g := by
          refine Classical.byContradiction fun h => ?_
          have : g = 0 := by omega
          rw [this, Nat.zero_mul] at hw; omega
        have hzB : z = rest * B := by rw [hB]; exact hz
        have hst := est_step (Bv := B) hx hzB hy hw c2
        have hpos : 0 < vt * B + v2 := Nat.lt_of_lt_of_le (Nat.mul_pos hvt0 (by decide)) (Nat.le_add_right _ _)
        have hlt : X / val vs < g := est_lt hV hX hpos hst
        have hih := ih (g - 1) (rest + vt) (by omega) (by omega) (by
          rw [← hx, pred_mul' (vt := vt) hg1, Nat.add_assoc, Nat.add_comm vt rest]) (by omega) (by omega)
        have f8 : ((g : Int) - 1) % 18446744073709551616 = ((g - 1 : Nat) : Int) := by omega
        have f4 : (y : Int) < (w : Int) := by omega
        generalize rest + vt = rv at *
        generalize g - 1 = g1 at *
        rw [wpL_step]
        generalize hK : loopQ RT f101_0m S.length f101_0 Q = K
        simp [f101_0, List.replicate, c, e1, e1', e1b, e1b', hn, hv2', hvt', wrap_u64, f1, f1b, f3, f5, IntKind.bits, e4, e5, e6, e7, e8, hrd, f2, hor, f4, c2, f7, f8]
        subst hK
        simp [head, f101_0m, mask, trunc_len]
        simpa [f101_0m, List.replicate] using hih
      · have f4 : ¬ ((y : Int) < (w : Int)) := by omega
        rw [wpL_step]
        generalize hK : loopQ RT f101_0m S.length f101_0 Q = K
        simp [f101_0, List.replicate, c, e1, e1', hn, hv2', wrap_u64, f1, f3, f5, IntKind.bits, e4, e5, hrd, f2, hor, f4, c2]
        subst hK
        exact hfin _ rfl rfl rfl rfl
    · rw [wpL_step]
      generalize hK : loopQ RT f101_0m S.length f101_0 Q = K
      simp [f101_0, List.replicate, c]
      subst hK
      exact hfin _ rfl rfl rfl rfl
def f101T : AC :=
 ((.seq
      (.reg [⟨(some 10), .mv, [.c (.int .u64 0)], none⟩])
      ((.seq
       (.reg [⟨(some 11), .mv, [.c (.int .u32 0)], none⟩])
       ((.seq
        ((.seq
         (.reg [⟨(some 81), .mv, [.t 0], none⟩,
           ⟨(some 82), .len, [.t 81], none⟩,
           ⟨(some 83), .mv, [.c (.int .i64 0)], none⟩])
         (.block 2 (.loop f101_1m f101_1))))
        ((.seq
         (.block 4 (.loop f101_3m f101_3))
         ((.seq
          (.reg [⟨(some 139), .mv, [.t 6], none⟩,
            ⟨(some 140), .conv .u32, [.t 139], none⟩,
            ⟨(some 4), .mv, [.t 140], none⟩])
          (.ret)))))))))))
theorem f101_parts : f101 = ⟨2, 141, [.t 4],
 (.seq
  (.reg [⟨(some 4), .mv, [.c (.int .u32 0)], none⟩])
  ((.seq
   (.reg [⟨(some 15), .mv, [.t 1], none⟩,
     ⟨(some 16), .len, [.t 15], none⟩,
     ⟨(some 5), .mv, [.t 16], none⟩])
   ((.seq
    (.reg [⟨(some 6), .mv, [.c (.int .u64 4294967295)], none⟩])
    ((.seq
     ((.seq
      (.reg [⟨(some 17), .mv, [.t 0], none⟩,
        ⟨(some 18), .mv, [.t 5], none⟩,
        ⟨(some 19), .ias 1, [.t 17, .t 18], none⟩,
        ⟨(some 20), .load false 1, [.t 19], none⟩,
        ⟨(some 21), .mv, [.t 1], none⟩,
        ⟨(some 22), .mv, [.t 5], none⟩,
        ⟨(some 23), .bin .sub, [.t 22, .c (.int .i64 1)], none⟩,
        ⟨(some 24), .ias 1, [.t 21, .t 23], none⟩,
        ⟨(some 25), .load false 1, [.t 24], none⟩,
        ⟨(some 26), .bin .lss, [.t 20, .t 25], none⟩])
      (.cond (.t 26)
       ((.seq
        (.reg [⟨(some 28), .mv, [.t 0], none⟩,
          ⟨(some 29), .mv, [.t 5], none⟩,
          ⟨(some 30), .ias 1, [.t 28, .t 29], none⟩,
          ⟨(some 31), .load false 1, [.t 30], none⟩,
          ⟨(some 32), .mv, [.t 0], none⟩,
          ⟨(some 33), .mv, [.t 5], none⟩,
          ⟨(some 34), .bin .sub, [.t 33, .c (.int .i64 1)], none⟩,
          ⟨(some 35), .ias 1, [.t 32, .t 34], none⟩,
          ⟨(some 36), .load false 1, [.t 35], none⟩,
          ⟨(some 37), .mv, [.t 1], none⟩,
          ⟨(some 38), .mv, [.t 5], none⟩,
          ⟨(some 39), .bin .sub, [.t 38, .c (.int .i64 1)], none⟩,
          ⟨(some 40), .ias 1, [.t 37, .t 39], none⟩,
          ⟨(some 41), .load false 1, [.t 40], none⟩,
          ⟨(some 42), .call .pure true 107, [.t 31, .t 36, .t 41], none⟩,
          ⟨(some 27), .mv, [.t 42], none⟩,
          ⟨(some 43), .ext 0, [.t 27], none⟩,
          ⟨(some 44), .ext 1, [.t 27], none⟩,
          ⟨(some 7), .mv, [.t 43], none⟩,
          ⟨(some 8), .mv, [.t 44], none⟩])
        ((.seq
         (.reg [⟨(some 45), .mv, [.t 8], none⟩,
           ⟨(some 46), .conv .u64, [.t 45], none⟩,
           ⟨(some 9), .mv, [.t 46], none⟩])
         ((.seq
          (.reg [⟨(some 47), .mv, [.t 7], none⟩,
            ⟨(some 48), .conv .u64, [.t 47], none⟩,
            ⟨(some 6), .mv, [.t 48], none⟩])
          (.block 0 (.loop f101_0m f101_0))))))))
       (.skip))))
     f101T)))))))⟩ := rfl
theorem est_top {a P Bv x2 x1 xn : Nat} (ha : a < P) : a + P * x2 + P * Bv * x1 + P * Bv * Bv * xn < ((xn * Bv + x1) * Bv + x2 + 1) * P := by
  have h : ((xn * Bv + x1) * Bv + x2 + 1) * P = P * Bv * Bv * xn + P * Bv * x1 + P * x2 + P := by
    simp only [Nat.add_mul, Nat.one_mul]
    simp only [Nat.mul_comm, Nat.mul_left_comm, Nat.mul_assoc]
  rw [h]
  omega
def RedQ (S : Store) (b : Nat) (us vs : List Nat) (off n X : Nat) (r : AV) (S' : Store) : Prop :=
  r = .int .u32 ((X / val vs : Nat) : Int) ∧ ∃ ds : List Nat, ds.length = n + 1 ∧ Wd ds ∧ val ds = X % val vs ∧ S' = S.set b (.mu (wds (us.take off ++ ds ++ us.drop (off + (n + 1)))) true)
set_option maxHeartbeats 2000000 in
set_option maxRecDepth 20000 in
theorem red_tail {S : Store} {b : Nat} {us vs : List Nat} {off n X g : Nat} (hS : S[b]? = some (.mu (wds us) true)) (hus : Wd us) (hvs : Wd vs) (hn : vs.length = n) (hoff : off + (n + 1) ≤ us.length) (hlen : us.length ≤ 2 * Lim) (hV : 0 < val vs)
    (hX : val ((us.drop off).take (n + 1)) = X) (hge : X / val vs ≤ g) (hgB : g < B) (tm : List AV) (hl : tm.length = 141) (h0 : tm[0] = .msl b off (n + 1) 1 us.length none) (h1 : tm[1] = .sl (wds vs) 1 false) (h6 : tm[6] = .int .u64 (g : Int)) :
    wpE (run tab) f101T ⟨tm, S⟩ (retQ [.t 4] (RedQ S b us vs off n X)) := by
  have hB : B = 4294967296 := rfl
  have hbl := lt_of_get hS
  have e0 : S.set b (.mu (wds (us.take off ++ [] ++ us.drop (off + 0))) true) = S := by
    rw [List.append_nil, Nat.add_zero, List.take_append_drop]
    obtain ⟨h1, h2⟩ := List.getElem?_eq_some_iff.1 hS
    rw [← h2]; exact List.set_getElem_self h1
  have key := fun (Q' : FQ) hQ' => red_sub hS hus hvs hn hoff hgB hlen (Q := Q') hQ' (n + 1) 0 (by omega) [] 0 0 0 rfl Wd.nil (by decide) (by omega) (by simp) (by simp [val]) (by simp [val])
  rw [e0] at key
  simp [f101T, hl, h0, h1, h6]
  simp only [head]
  rw [mask_G (n := 141) (by simp [hl])]
  simp [f101_1m, hl, h0, h1, h6, maskG_t, maskG_f, maskG_nil, trunc_len]
  simp [List.replicate] at key
  refine key _ ?_
  intro tm2 hl2 ds bo k0 k1 k6 k11 hds hwd hbo he
  rw [hX] at he
  simp [hl2, k0, k1, k6, k11]
  simp only [head]
  rw [mask_G (n := 141) (by simp [hl2])]
  simp [f101_3m, hl2, k0, k1, k6, k11, maskG_t, maskG_f, maskG_nil, trunc_len]
  have key2 := fun (Q' : FQ) hQ' => red_back (P := B ^ (n + 1)) rfl hS hus hvs hn hoff hlen hV (X := X) (Q := Q') hQ' g ds bo hgB hge hds hwd hbo he
  have hqlt : X / val vs < 4294967296 := Nat.lt_of_le_of_lt hge hgB
  obtain ⟨q, hqq⟩ : ∃ q, X / val vs = q := ⟨_, rfl⟩
  rw [hqq] at key2 hqlt
  unfold RedQ
  rw [hqq]
  have f1 : (q : Int) % 4294967296 = (q : Int) := by omega
  simp [List.replicate] at key2
  refine key2 _ ?_
  intro tm3 hl3 ds2 m6 hds2 hwd2 hval
  simp [hl3, m6, wrap_u32, f1]
  exact ⟨ds2, hds2, hwd2, hval, by simp⟩
set_option maxHeartbeats 2000000 in
set_option maxRecDepth 20000 in
theorem run_reduce {S : Store} {b : Nat} {us vs : List Nat} {off n X vt : Nat} (hS : S[b]? = some (.mu (wds us) true)) (hus : Wd us) (hvs : Wd vs) (hn : vs.length = n) (hn2 : 2 ≤ n) (hoff : off + (n + 1) ≤ us.length) (hlen : us.length ≤ 2 * Lim)
    (hvt : vs[n - 1]? = some vt) (hvt0 : 0 < vt) (hX : val ((us.drop off).take (n + 1)) = X) (hXV : X < B * val vs) :
    wpF (run tab) 101 [.msl b off (n + 1) 1 us.length none, .sl (wds vs) 1 false] S (RedQ S b us vs off n X) := by
  have hL : Lim = 1099511627776 := rfl
  have hB : B = 4294967296 := rfl
  obtain ⟨k, rfl⟩ : ∃ k, n = k + 2 := ⟨n - 2, by omega⟩
  simp only [show k + 2 - 1 = k + 1 by omega] at hvt
  have hvtB := hvs.get hvt
  have hVge : B ^ (k + 1) * vt ≤ val vs := val_ge hvt
  have hV : 0 < val vs := Nat.lt_of_lt_of_le (Nat.mul_pos (Nat.pow_pos (by decide)) hvt0) hVge
  have ht := fun g => red_tail (X := X) (off := off) (g := g) hS hus hvs hn hoff hlen hV hX
  obtain ⟨xn, hxn⟩ : ∃ x, us[off + (k + 2)]? = some x := ⟨us[off + (k + 2)], List.getElem?_eq_getElem (by omega)⟩
  obtain ⟨x1, hx1⟩ : ∃ x, us[off + (k + 1)]? = some x := ⟨us[off + (k + 1)], List.getElem?_eq_getElem (by omega)⟩
  obtain ⟨x2, hx2⟩ : ∃ x, us[off + k]? = some x := ⟨us[off + k], List.getElem?_eq_getElem (by omega)⟩
  obtain ⟨v2, hv2⟩ : ∃ x, vs[k]? = some x := ⟨vs[k], List.getElem?_eq_getElem (by omega)⟩
  have hxnB := hus.get hxn
  have hx1B := hus.get hx1
  have hx2B := hus.get hx2
  have hv2B := hvs.get hv2
  have wn : ∀ j x, j ≤ k + 2 → us[off + j]? = some x → (us.drop off).getD j 0 = x := fun j x _ h => by rw [List.getD_eq_getElem?_getD, List.getElem?_drop, h]; rfl
  have s1 : val ((us.drop off).take (k + 2 + 1)) = val ((us.drop off).take (k + 1)) + B ^ (k + 1) * x1 + B ^ (k + 2) * xn := by
    rw [val_take_succ, wn _ _ (by omega) hxn, val_take_succ, wn _ _ (by omega) hx1]
  have s2 : val ((us.drop off).take (k + 1)) = val ((us.drop off).take k) + B ^ k * x2 := by rw [val_take_succ, wn _ _ (by omega) hx2]
  have b0 : val ((us.drop off).take k) < B ^ k := val_take_lt (hus.drop off) (by simp; omega)
  have sV : val vs = val (vs.take k) + B ^ k * (v2 + B * vt) := by
    rw [val_split hv2, List.drop_eq_getElem_cons (by omega), (List.getElem?_eq_some_iff.1 hvt).2, List.drop_of_length_le (by omega)]
    simp [val]
  have hVest : (vt * B + v2) * B ^ k ≤ val vs := by
    rw [sV, Nat.mul_comm _ (B ^ k), Nat.mul_comm vt B, Nat.add_comm v2]; omega
  have pw1 : B ^ (k + 1) = B ^ k * B := Nat.pow_succ ..
  have pw2 : B ^ (k + 2) = B ^ k * B * B := by rw [Nat.pow_succ, Nat.pow_succ]
  have hXest : X < ((xn * B + x1) * B + x2 + 1) * B ^ k := by
    rw [← hX, s1, s2, pw2, pw1]
    exact est_top b0
  have hge1 : xn < vt → X / val vs ≤ (xn * B + x1) / vt := fun _ => by
    refine est_le (k := k + 1) (by rw [Nat.mul_comm]; exact hVge) ?_ hvt0
    have : X < ((xn * B + x1) * B + B) * B ^ k := Nat.lt_of_lt_of_le hXest (Nat.mul_le_mul_right _ (by omega))
    have e : ((xn * B + x1) * B + B) * B ^ k = (xn * B + x1 + 1) * B ^ (k + 1) := by
      rw [← Nat.succ_mul, Nat.mul_assoc, Nat.pow_succ', Nat.succ_eq_add_one]
    rw [← e]; exact this
  have hgeM : X / val vs ≤ 4294967295 := by
    have := (Nat.div_lt_iff_lt_mul hV).2 hXV
    omega
  have r0 : rd S b (off + (k + 2)) us.length 1 = some [.int .u32 ((xn : Nat) : Int)] := by
    have := rd_word (i := off + (k + 2)) hS (rfl : us.length = us.length) (by omega)
    rw [(List.getElem?_eq_some_iff.1 hxn).2] at this; exact this
  have r1 : rd S b (off + (k + 1)) us.length 1 = some [.int .u32 ((x1 : Nat) : Int)] := by
    have := rd_word (i := off + (k + 1)) hS (rfl : us.length = us.length) (by omega)
    rw [(List.getElem?_eq_some_iff.1 hx1).2] at this; exact this
  have e1 : IntKind.i64.wrap ((k : Int) + 2 - 1) = (k : Int) + 1 := by rw [wrap_i64 (by omega) (by omega)]; omega
  have e1' : IntKind.i64.wrap ((k : Int) + 1) = (k : Int) + 1 := wrap_i64 (by omega) (by omega)
  have e2 : ((k : Int) + 2).toNat = k + 2 := by omega
  have e3 : ((k : Int) + 1).toNat = k + 1 := by omega
  have e4 : (k : Int) + 2 < (k : Int) + 2 + 1 := by omega
  have e5 : (0 : Int) ≤ (k : Int) + 2 := by omega
  have e6 : (0 : Int) ≤ (k : Int) + 1 := by omega
  have e7 : (k : Int) + 1 < (k : Int) + 2 := by omega
  have e8 : (k : Int) + 1 < (k : Int) + 2 + 1 := by omega
  have hvt' : vs[k + 1] = vt := (List.getElem?_eq_some_iff.1 hvt).2
  refine wpF_of tab_101 rfl ?_
  by_cases c : xn < vt
  · have hdiv := run_Div32 (h := xn) (l := x1) (d := vt) c hx1B hvtB
    obtain ⟨q, hq⟩ : ∃ q, q = (xn * B + x1) / vt := ⟨_, rfl⟩
    obtain ⟨r, hr⟩ : ∃ r, r = (xn * B + x1) % vt := ⟨_, rfl⟩
    rw [← hq, ← hr] at hdiv
    have hqr : q * vt + r = xn * B + x1 := by
      have := Nat.mod_add_div (xn * B + x1) vt
      rw [← hq, ← hr, Nat.mul_comm] at this
      omega
    have hqB : q < B := by
      rw [hq]
      refine Nat.div_lt_of_lt_mul ?_
      have : (xn + 1) * B ≤ vt * B := Nat.mul_le_mul_right _ c
      rw [Nat.succ_mul] at this
      omega
    have hrv : r < vt := by rw [hr]; exact Nat.mod_lt _ hvt0
    have hge : X / val vs ≤ q := by rw [hq]; exact hge1 c
    have f1 : (r : Int) % 18446744073709551616 = r := by omega
    have f2 : (q : Int) % 18446744073709551616 = q := by omega
    have key := fun (Q' : FQ) hQ' => red_est (n := k + 2) (X := X) (xt := xn * B + x1) (vt := vt) (v2 := v2) (x2 := x2) hS hvs hn hn2 hoff hlen hvt hv2 hx2 hvt0 hvtB hv2B hx2B (by simpa using hVest) (by simpa using hXest) (Q := Q') hQ' q q r (Nat.le_refl _) hqB hqr hge (by omega)
    rw [f101_parts]
    have c' : (xn : Int) < (vt : Int) := by omega
    have hT : f101T = f101T := rfl
    generalize f101T = T at *
    simp [enter, hn, e1, e1', e2, e3, e4, e5, e6, e7, e8, r0, r1, hvt', c, hdiv, after_nr, wrap_u64, f1, f2]
    simp [head, f101_0m, mask, trunc_len]
    simp [List.replicate] at key
    refine key _ ?_
    intro tm hl g h0 h1 h6 hgg hgB
    simp
    exact ht _ hgg hgB tm hl h0 h1 h6
  · have c' : ¬ (xn : Int) < (vt : Int) := by omega
    rw [f101_parts]
    generalize f101T = T at *
    simp [enter, hn, e1, e1', e2, e3, e4, e5, e6, e7, e8, r0, r1, hvt', c, after_nr, wrap_u64]
    refine ht _ hgeM (by decide) _ ?_ ?_ ?_ ?_ <;> rfl
theorem val_take_all {l : List Nat} (hl : Wd l) {n : Nat} (h : val l < B ^ n) : val (l.take n) = val l := by
  by_cases hn : l.length ≤ n
  · rw [List.take_of_length_le hn]
  · have hs : val l = val (l.take n) + B ^ n * val (l.drop n) := by
      conv => lhs; rw [← List.take_append_drop n l, val_append, List.length_take, Nat.min_eq_left (by omega)]
    have h0 : val (l.drop n) = 0 := by
      refine Classical.byContradiction fun hne => ?_
      have : B ^ n * 1 ≤ B ^ n * val (l.drop n) := Nat.mul_le_mul_left _ (by omega)
      omega
    rw [hs, h0]; simp
theorem val_drop_zero {l : List Nat} (hl : Wd l) {n : Nat} (h : val l < B ^ n) : val (l.drop n) = 0 := by
  by_cases hn : l.length ≤ n
  · rw [List.drop_of_length_le hn]; rfl
  · have hs : val l = val (l.take n) + B ^ n * val (l.drop n) := by
      conv => lhs; rw [← List.take_append_drop n l, val_append, List.length_take, Nat.min_eq_left (by omega)]
    refine Classical.byContradiction fun hne => ?_
    have : B ^ n * 1 ≤ B ^ n * val (l.drop n) := Nat.mul_le_mul_left _ (by omega)
    omega
theorem val_drop_step {l : List Nat} {k : Nat} (h : k < l.length) : val (l.drop k) = l[k] + B * val (l.drop (k + 1)) := by
  rw [List.drop_eq_getElem_cons h]; rfl
set_option maxHeartbeats 2000000 in
set_option maxRecDepth 20000 in
theorem div_loop {u0 vs : List Nat} {m n L vt V : Nat} (hu0 : Wd u0) (hvs : Wd vs) (hn : vs.length = n) (hn2 : 2 ≤ n) (hL0 : u0.length = L) (hm : m + n = L) (hLl : L ≤ 2 * Lim) (hvt : vs[n - 1]? = some vt) (hvt0 : 0 < vt) (hVv : val vs = V) (hVn : V < B ^ n) (hV : 0 < V) {x8 : AV} {Q : FQ}
    (hQ : ∀ (tm : List AV) (hl : tm.length = 84) (us qs : List Nat), tm[8] = x8 → tm[9] = .msl 0 0 L 1 L none → tm[11] = .msl 1 0 m 1 m none → us.length = L → Wd us → qs.length = m → Wd qs → val us = val u0 % V → val qs = val u0 / V → Q (.ex 0) ⟨tm, [.mu (wds us) true, .mu (wds qs) true]⟩) :
    ∀ (k : Nat), k ≤ m → ∀ (us ds : List Nat), us.length = L → Wd us → us.take k = u0.take k → val (us.drop k) = val (u0.drop k) % V → ds.length = m - k → Wd ds → val ds = val (u0.drop k) / V →
    wpL RT f94_0m 2 f94_0 ⟨[.any, .any, .any, .any, .any, .any, .any, .any, x8, .msl 0 0 L 1 L none, .sl (wds vs) 1 false, .msl 1 0 m 1 m none] ++ List.replicate 43 .any ++ [.int .i64 (m : Int), .int .i64 ((m : Int) - (k : Int))] ++ List.replicate 27 .any,
      [.mu (wds us) true, .mu (wds (List.replicate k 0 ++ ds)) true]⟩ Q := by
  have hLim : Lim = 1099511627776 := rfl
  have hB : B = 4294967296 := rfl
  intro k
  induction k with
  | zero =>
    intro hk us ds hus hwus htk hdk hdl hwd hdv
    simp only [List.drop_zero] at hdk hdv
    have hfin := fun tm hl h8 h9 h11 => hQ tm hl us (List.replicate 0 0 ++ ds) h8 h9 h11 hus hwus (by simp [hdl]) (Wd.app (Wd.rep (by decide)) hwd) hdk (by simpa using hdv)
    generalize List.replicate 0 0 ++ ds = qs at *
    have e : (m : Int) - ((0 : Nat) : Int) = (m : Int) := by omega
    rw [e]
    rw [wpL_step]
    generalize hK : loopQ RT f94_0m 2 f94_0 Q = K
    simp [f94_0, List.replicate]
    subst hK
    exact hfin _ rfl rfl rfl rfl
  | succ k ih =>
    intro hk us ds hus hwus htk hdk hdl hwd hdv
    have hkL : k < us.length := by omega
    have hkL0 : k < u0.length := by omega
    have huk : us[k] = u0[k] := by
      have h1 : (us.take (k + 1))[k]? = (u0.take (k + 1))[k]? := by rw [htk]
      rw [List.getElem?_take_of_lt (by omega), List.getElem?_take_of_lt (by omega), List.getElem?_eq_getElem hkL, List.getElem?_eq_getElem hkL0] at h1
      exact Option.some.inj h1
    have htk' : us.take k = u0.take k := by
      have := congrArg (List.take k) htk
      rwa [List.take_take, List.take_take, Nat.min_eq_left (by omega)] at this
    have hwB : us[k] < B := hwus us[k] (List.getElem_mem hkL)
    have hsu := val_drop_step hkL
    have hsu0 := val_drop_step hkL0
    rw [← huk] at hsu0
    have hrV : val (u0.drop (k + 1)) % V < V := Nat.mod_lt _ hV
    generalize hA : val (u0.drop (k + 1)) = A at *
    rw [hdk] at hsu
    have hX : val ((us.drop k).take (n + 1)) = us[k] + B * (A % V) := by
      rw [val_take_all (hwus.drop k) ?_, hsu]
      rw [hsu, Nat.pow_succ']
      have : B * (A % V + 1) ≤ B * B ^ n := Nat.mul_le_mul_left _ (by omega)
      rw [Nat.mul_add] at this
      omega
    have hXV : us[k] + B * (A % V) < B * val vs := by
      rw [hVv]
      have : B * (A % V + 1) ≤ B * V := Nat.mul_le_mul_left _ (by omega)
      rw [Nat.mul_add] at this
      omega
    have hrest0 : val (us.drop (k + (n + 1))) = 0 := by
      have h1 : val (us.drop (k + 1)) < B ^ n := by rw [hdk]; omega
      have := val_drop_zero (hwus.drop (k + 1)) h1
      rwa [List.drop_drop, show k + 1 + n = k + (n + 1) by omega] at this
    have hred := run_reduce (S := [.mu (wds us) true, .mu (wds (List.replicate (k + 1) 0 ++ ds)) true]) (b := 0) (us := us) (vs := vs) (off := k) (n := n) rfl hwus hvs hn hn2 (by omega) (by omega) hvt hvt0 hX hXV
    rw [hus] at hred
    have hdm : (us[k] + B * A) % V = (us[k] + B * (A % V)) % V := by
      rw [Nat.add_mod, Nat.mul_mod, Nat.add_mod us[k] (B * (A % V)), Nat.mul_mod B (A % V), Nat.mod_mod]
    have hdd : (us[k] + B * A) / V = B * (A / V) + (us[k] + B * (A % V)) / V := by
      have e : us[k] + B * A = (us[k] + B * (A % V)) + V * (B * (A / V)) := by
        have h1 : B * A = B * (A % V + V * (A / V)) := by rw [Nat.mod_add_div]
        rw [h1, Nat.mul_add, Nat.add_assoc, ← Nat.mul_assoc, ← Nat.mul_assoc, Nat.mul_comm B V]
      rw [e, Nat.add_mul_div_left _ _ hV, Nat.add_comm]
    generalize hXX : us[k] + B * (A % V) = X at *
    have hqB : X / V < B := by
      rw [hVv] at hXV
      exact (Nat.div_lt_iff_lt_mul hV).2 hXV
    rw [← hsu0] at hdm hdd
    have e1 : (m : Int) - ((k + 1 : Nat) : Int) < (m : Int) := by omega
    have e2 : IntKind.i64.wrap (IntKind.i64.wrap ((m : Int) - 1) - ((m : Int) - ((k + 1 : Nat) : Int))) = (k : Int) := by
      rw [wrap_i64 (n := (m : Int) - 1) (by omega) (by omega), wrap_i64 (by omega) (by omega)]; omega
    have e3 : IntKind.i64.wrap (IntKind.i64.wrap ((k : Int) + (n : Int)) + 1) = (k : Int) + (n : Int) + 1 := by
      rw [wrap_i64 (n := (k : Int) + (n : Int)) (by omega) (by omega), wrap_i64 (by omega) (by omega)]
    have e4 : IntKind.i64.wrap ((m : Int) - ((k + 1 : Nat) : Int) + 1) = (m : Int) - (k : Int) := by rw [wrap_i64 (by omega) (by omega)]; omega
    have hsl : sliceA 1 true true false (.msl 0 0 L 1 L none) [.int .i64 (k : Int), .int .i64 ((k : Int) + (n : Int) + 1)] = some (.msl 0 k (n + 1) 1 L none) := by
      have b1 : bound L (.int .i64 ((k : Int) + (n : Int) + 1)) = some (k + n + 1) := by
        simp only [bound]
        rw [chk_pos (by omega)]; congr 1
      have b2 : bound (k + n + 1) (.int .i64 (k : Int)) = some k := by
        simp only [bound]
        rw [chk_pos (by omega)]; rfl
      have e5 : k + n + 1 - k = n + 1 := by omega
      have e6 : k + n + 1 ≤ L := by omega
      simp [sliceA, bounds, chk, b1, b2, capAt, e5, e6]
    have hqg : (List.replicate (k + 1) 0 ++ ds).set k (X / V) = List.replicate k 0 ++ (X / V :: ds) := by
      rw [List.replicate_succ', List.append_assoc, List.set_append_right _ _ (by simp), List.length_replicate, Nat.sub_self]; rfl
    have hqs : ((List.replicate (k + 1) 0 ++ ds)).length = m := by simp [hdl]; omega
    generalize hq0 : List.replicate (k + 1) 0 ++ ds = qs at *
    rw [wpL_step]
    generalize hK : loopQ RT f94_0m 2 f94_0 Q = K
    have hkm : k < m := by omega
    have hkmI : (k : Int) < (m : Int) := by omega
    have hne : ¬ (m : Int) - ((k : Int) + 1) = (m : Int) := by omega
    push_cast at e1 e2 e4
    simp [f94_0, List.replicate, e1, e2, hn]
    simp [e3, hsl]
    refine contQ_sh (wpF_mono hred ?_)
    rintro r S' ⟨rfl, ds2, hds2, hwd2, hval2, rfl⟩
    rw [hVv] at hval2
    rw [hVv]
    have hl1 : (us.take k).length = k := by rw [List.length_take]; omega
    have hus2 : (us.take k ++ ds2 ++ us.drop (k + (n + 1))).length = L := by simp [hds2]; omega
    have hwus2 : Wd (us.take k ++ ds2 ++ us.drop (k + (n + 1))) := Wd.app (Wd.app (hwus.take k) hwd2) (hwus.drop _)
    have hd2 : (us.take k ++ ds2 ++ us.drop (k + (n + 1))).drop k = ds2 ++ us.drop (k + (n + 1)) := by
      rw [List.append_assoc, List.drop_append, List.drop_of_length_le (by omega), List.nil_append, hl1, Nat.sub_self, List.drop_zero]
    have ht2 : (us.take k ++ ds2 ++ us.drop (k + (n + 1))).take k = u0.take k := by
      rw [List.append_assoc, List.take_append, hl1, Nat.sub_self, List.take_zero, List.append_nil, List.take_of_length_le (by omega), htk']
    have hih := ih (by omega) (us.take k ++ ds2 ++ us.drop (k + (n + 1))) (X / V :: ds) hus2 hwus2 ht2 (by
      rw [hd2, val_append, hrest0, Nat.mul_zero, Nat.add_zero, hval2, hdm]) (by simp [hdl]; omega) (Wd.mk hqB hwd) (by
      rw [hdd, ← hdv]
      show X / V + B * val ds = B * val ds + X / V
      omega)
    rw [← hqg] at hih
    generalize us.take k ++ ds2 ++ us.drop (k + (n + 1)) = us2 at *
    generalize X / V = q at *
    have hwr := wr_word (S := [.mu (wds us2) true, .mu (wds qs) true]) (b := 1) (i := k) (vl := m) (w := q) rfl hqs.symm (by omega)
    simp at hwr
    simp [trunc_len, hkmI, hwr, e4]
    subst hK
    simp [head, f94_0m, mask, trunc_len]
    simpa [f94_0m, List.replicate] using hih
theorem size_shift {y s n w : Nat} (hn : (dig y).length = n) (hn1 : 1 ≤ n) (hw : (dig y)[n - 1]? = some w) (hws : w * 2 ^ s < B) (hw0 : 0 < w) (hs : s < 32) : (dig (y * 2 ^ s)).length = n := by
  obtain ⟨k, rfl⟩ : ∃ k, n = k + 1 := ⟨n - 1, by omega⟩
  have e : k + 1 - 1 = k := by omega
  rw [e] at hw
  have hps : 0 < 2 ^ s := Nat.two_pow_pos s
  have hy0 : y ≠ 0 := fun h => by rw [h] at hn; simp at hn
  have hsp := val_split hw
  rw [val_dig, List.drop_of_length_le (by omega)] at hsp
  have hlt : val ((dig y).take k) < B ^ k := val_take_lt (dig_wd y) (by omega)
  have hsB : B = 2 ^ s * 2 ^ (32 - s) := by rw [← Nat.pow_add, show s + (32 - s) = 32 by omega]
  have hup : (w + 1) * 2 ^ s ≤ B := by
    rw [hsB, Nat.mul_comm (2 ^ s)] at hws ⊢
    exact Nat.mul_le_mul_right _ (Nat.lt_of_mul_lt_mul_right hws)
  have hvn : val ([] : List Nat) = 0 := rfl
  rw [hvn, Nat.mul_zero, Nat.add_zero] at hsp
  have hyu : y < (w + 1) * B ^ k := by
    rw [Nat.succ_mul, Nat.mul_comm w]
    generalize B ^ k = P at *
    omega
  have h1 : y * 2 ^ s < B ^ (k + 1) := by
    have h2 : y * 2 ^ s < (w + 1) * B ^ k * 2 ^ s := Nat.mul_lt_mul_of_pos_right hyu hps
    have h3 : (w + 1) * B ^ k * 2 ^ s = (w + 1) * 2 ^ s * B ^ k := by rw [Nat.mul_assoc, Nat.mul_comm (B ^ k), ← Nat.mul_assoc]
    rw [h3] at h2
    refine Nat.lt_of_lt_of_le h2 ?_
    rw [Nat.pow_succ, Nat.mul_comm (B ^ k)]
    exact Nat.mul_le_mul_right _ hup
  have h4 : size (y * 2 ^ s) ≤ k + 1 := size_le h1
  have h5 : size y ≤ size (y * 2 ^ s) := size_mono (Nat.le_mul_of_pos_right _ hps)
  unfold size at h4 h5
  omega
set_option maxHeartbeats 2000000 in
set_option maxRecDepth 20000 in
theorem run_div {x y : Nat} (hx : size x < Lim) (hy : size y < Lim) (hy0 : y ≠ 0) : callPure RT 94 [N x, N y] = some (.tup [N (x / y), N (x % y)]) := by
  have hL : Lim = 1099511627776 := rfl
  have hB : B = 4294967296 := rfl
  have hcmp := run_ncmp (x := x) (y := y) (by omega)
  unfold size at hx hy
  by_cases c1 : x < y
  · have hc : cmpI x y = -1 := by unfold cmpI; rw [if_pos (by omega)]
    rw [hc] at hcmp
    rw [Nat.div_eq_of_lt c1, Nat.mod_eq_of_lt c1]
    have hN0 : N 0 = .sl [] 1 false := by simp [N, W]
    rw [hN0]
    refine callPure_of (wpF_of tab_94 rfl ?_)
    simp [f94, enter, hcmp, after_nr]
  · have hc : ¬ cmpI x y < 0 := by
      unfold cmpI
      rw [if_neg (by omega)]
      split <;> decide
    have hn1 : 1 ≤ (dig y).length := by
      refine Classical.byContradiction fun h => hy0 ?_
      exact dig_nil.1 (List.eq_nil_of_length_eq_zero (by omega))
    by_cases c2 : (dig y).length = 1
    · obtain ⟨d, hd⟩ : ∃ d, dig y = [d] := by
        match h : dig y, c2 with
        | [d], _ => exact ⟨d, rfl⟩
      have hdy : y = d := by
        have := val_dig y
        rw [hd] at this
        simpa [val] using this.symm
      have hdB : d < B := dig_wd y d (by rw [hd]; simp)
      have hd0 : 0 < d := by omega
      have hw := run_word (x := x) (d := d) (by unfold size; omega) hdB hd0
      have hr : x % d < B := Nat.lt_trans (Nat.mod_lt _ hd0) hdB
      have hn := run_norm (ws := [x % d]) (t := false) (Wd.mk hr Wd.nil) (by simp)
      have hv : val [x % d] = x % d := by simp [val]
      rw [hv] at hn
      rw [hdy] at hcmp hc ⊢
      have hd' : dig d = [d] := by rw [← hd, hdy]
      obtain ⟨xd, hxd⟩ : ∃ q, x / d = q := ⟨_, rfl⟩
      obtain ⟨xm, hxm⟩ : ∃ q, x % d = q := ⟨_, rfl⟩
      rw [hxd, hxm] at hw
      rw [hxm] at hn
      rw [hxd, hxm]
      have hNd : N d = .sl [.int .u32 (d : Int)] 1 false := by simp [N, W, hd']
      rw [hNd] at hcmp ⊢
      refine callPure_of (wpF_of tab_94 rfl ?_)
      simp [f94, enter, hcmp, hc, after_nr, hw, opA_litn, fillE, elt]
      rw [wds_one] at hn
      simp [hn, after_nr]
    · have hn2 : 2 ≤ (dig y).length := by omega
      obtain ⟨w, hw⟩ : ∃ w, (dig y)[(dig y).length - 1]? = some w := ⟨(dig y)[(dig y).length - 1], List.getElem?_eq_getElem (by omega)⟩
      have hwB := (dig_wd y).get hw
      have hw0 : 0 < w := by
        have := dig_top y w (by rw [List.getLast?_eq_getElem?]; exact hw)
        omega
      obtain ⟨s, hs, hlz, hws, _⟩ := run_LeadingZeros32 hwB hw0
      obtain ⟨out, ho1, ho2, ho3, _, hown⟩ := run_shlP (x := x) (s := s) (by unfold size; omega) hs
      obtain ⟨out2, ho4, ho5, ho6, hpure, _⟩ := run_shlP (x := y) (s := s) (by unfold size; omega) hs
      have hVl := size_shift rfl hn1 hw hws hw0 hs
      unfold size at ho1 ho4
      have hnorm := run_norm (ws := out2) (t := false) ho5 (by omega)
      rw [ho6] at hnorm
      have hps : 0 < 2 ^ s := Nat.two_pow_pos s
      have hVpos : 0 < y * 2 ^ s := Nat.mul_pos (by omega) hps
      have hVlt : y * 2 ^ s < B ^ (dig y).length := by
        have := lt_size (y * 2 ^ s)
        unfold size at this
        rwa [hVl] at this
      obtain ⟨vt, hvt⟩ : ∃ vt, (dig (y * 2 ^ s))[(dig y).length - 1]? = some vt := ⟨(dig (y * 2 ^ s))[(dig y).length - 1]'(by omega), List.getElem?_eq_getElem (by omega)⟩
      have hvt0 : 0 < vt := by
        have := dig_top (y * 2 ^ s) vt (by rw [List.getLast?_eq_getElem?, hVl]; exact hvt)
        omega
      have hdiv2 : x * 2 ^ s / (y * 2 ^ s) = x / y := Nat.mul_div_mul_right _ _ hps
      have hmod2 : x * 2 ^ s % (y * 2 ^ s) / 2 ^ s = x % y := by rw [Nat.mul_mod_mul_right, Nat.mul_div_cancel _ hps]
      have hshr := run_shr (x := x * 2 ^ s % (y * 2 ^ s)) (s := s) (by
        have h1 : x * 2 ^ s % (y * 2 ^ s) < B ^ (dig y).length := Nat.lt_trans (Nat.mod_lt _ hVpos) hVlt
        have := size_le h1
        omega) hs
      rw [hmod2] at hshr
      have hxy : (dig y).length ≤ (dig x).length := size_mono (by omega)
      have htop : val (out.drop (out.length - (dig y).length)) < y * 2 ^ s := by
        have hsp : val out = val (out.take (out.length - (dig y).length)) + B ^ (out.length - (dig y).length) * val (out.drop (out.length - (dig y).length)) := by
          conv => lhs; rw [← List.take_append_drop (out.length - (dig y).length) out, val_append, List.length_take, Nat.min_eq_left (by omega)]
        have hxl : x < B ^ (dig x).length := lt_size x
        have hyl : B ^ ((dig y).length - 1) ≤ y := le_of_size hy0
        have hpw : B ^ (dig x).length = B ^ ((dig y).length - 1) * B ^ (out.length - (dig y).length) := by
          rw [← Nat.pow_add]; congr 1; omega
        have h1 : x < y * B ^ (out.length - (dig y).length) := by
          rw [hpw] at hxl
          exact Nat.lt_of_lt_of_le hxl (Nat.mul_le_mul_right _ hyl)
        have h2 : val out < y * 2 ^ s * B ^ (out.length - (dig y).length) := by
          rw [ho3, Nat.mul_assoc, Nat.mul_comm (2 ^ s), ← Nat.mul_assoc]
          exact Nat.mul_lt_mul_of_pos_right h1 hps
        have h3 : B ^ (out.length - (dig y).length) * val (out.drop (out.length - (dig y).length)) < y * 2 ^ s * B ^ (out.length - (dig y).length) := Nat.lt_of_le_of_lt (by rw [hsp]; exact Nat.le_add_left _ _) h2
        rw [Nat.mul_comm] at h3
        exact Nat.lt_of_mul_lt_mul_right h3
      obtain ⟨m, hm⟩ : ∃ m, m = out.length - (dig y).length := ⟨_, rfl⟩
      rw [← hm] at htop
      have key := fun (Q' : FQ) hQ' => div_loop (u0 := out) (vs := dig (y * 2 ^ s)) (m := m) (n := (dig y).length) (L := out.length) (vt := vt) (V := y * 2 ^ s) (x8 := .int .i64 (s : Int)) ho2 (dig_wd _) hVl hn2 rfl (by omega) (by omega) hvt hvt0 (val_dig _) hVlt hVpos (Q := Q') hQ' m (Nat.le_refl _) out [] rfl ho2 rfl (Nat.mod_eq_of_lt htop).symm (by simp) Wd.nil (by rw [Nat.div_eq_of_lt htop]; rfl)
      rw [ho3, hdiv2] at key
      generalize hU : x * 2 ^ s % (y * 2 ^ s) = R at *
      generalize hVV : y * 2 ^ s = V at *
      generalize x / y = xd at *
      generalize x % y = xm at *
      have hOl : (out.length : Int) ≤ 281474976710656 := by omega
      have hyl2 : (dig y).length - 1 < (dig y).length := by omega
      have hwy : (dig y)[(dig y).length - 1] = w := (List.getElem?_eq_some_iff.1 hw).2
      have e1 : IntKind.i64.wrap (((dig y).length : Int) - 1) = (((dig y).length - 1 : Nat) : Int) := by rw [wrap_i64 (by omega) (by omega)]; omega
      have e2 : (((dig y).length - 1 : Nat) : Int) < ((dig y).length : Int) := by omega
      have e3 : IntKind.i64.wrap ((out.length : Int) - ((dig y).length : Int)) = (m : Int) := by rw [wrap_i64 (by omega) (by omega)]; omega
      have hroom : room m 4 := by unfold room; omega
      have hm2 : (m : Int) ≤ 281474976710656 := by omega
      have c2' : ¬ ((dig y).length : Int) = 1 := by omega
      generalize (dig y).length - 1 = j at *
      refine callPure_of (wpF_of tab_94 rfl ?_)
      have hml : 0 ≤ (m : Int) := by omega
      simp [f94, enter, hcmp, hc, after_nr, c2', c2, e1, e2, hw, hwy, hlz, hown, land, land1, hpure, hnorm, hVl, e3, hroom, hm2]
      simp only [head]
      rw [mask_G (n := 84) (by simp)]
      simp [f94_0m, maskG_t, maskG_f, maskG_nil, trunc_len]
      have hrep : List.replicate m (AV.int .u32 0) = wds (List.replicate m 0 ++ []) := by rw [List.append_nil]; exact wds_rep m 0
      rw [hrep]
      generalize hC : wds (List.replicate m 0 ++ []) = C at *
      simp [List.replicate] at key
      refine key _ ?_
      intro tm hl us qs h8 h9 h11 hus hwus hqs hwqs hvu hvq
      have hn1 := run_norm (ws := qs) (t := false) hwqs (by omega)
      have hn2 := run_norm (ws := us) (t := false) hwus (by omega)
      rw [hvq] at hn1
      rw [hvu] at hn2
      have hf1 : fzc [.mu (wds us) true, .mu (wds qs) true] (5 + 1) (.msl 1 0 m 1 m none) = some (W qs) := by
        have := fzc_mslv (S := [.mu (wds us) true, .mu (wds qs) true]) (b := 1) (n := m) (vl := m) (cap := none) (fuel := 5) rfl hqs.symm (by omega)
        rwa [List.take_of_length_le (by omega)] at this
      have hf2 : fzc [.mu (wds us) true, .fz (wds qs)] (5 + 1) (.msl 0 0 out.length 1 out.length none) = some (W us) := by
        have := fzc_mslv (S := [.mu (wds us) true, .fz (wds qs)]) (b := 0) (n := out.length) (vl := out.length) (cap := none) (fuel := 5) rfl hus.symm (by omega)
        rwa [List.take_of_length_le (by omega)] at this
      have ha1 := fun r hr => after_row (S := [.mu (wds us) true, .mu (wds qs) true]) (b := 1) (off := 0) (n := m) (vl := m) (cap := none) (r := r) rfl hr
      have ha2 := fun r hr => after_row (S := [.mu (wds us) true, .fz (wds qs)]) (b := 0) (off := 0) (n := out.length) (vl := out.length) (cap := none) (r := r) rfl hr
      have ha1' := ha1 (N xd) rfl
      have ha2' := ha2 (N R) rfl
      simp [hl, h8, h9, h11, hf1, hn1, ha1']
      simp [hl, h8, h9, h11, hf2, hn2, ha2', hshr, after_nr]
theorem size_le_of {a b : Nat} (h : a ≤ b) {k : Nat} (hk : size b < k) : size a < k := Nat.lt_of_le_of_lt (size_mono h) hk
theorem ediv_of {i j r q : Int} (hj : j ≠ 0) (h : i = r + j * q) (h0 : 0 ≤ r) (h1 : r < (j.natAbs : Int)) : i % j = r ∧ i / j = q := by
  have h2 : i % j = r := by
    rcases Int.lt_trichotomy j 0 with hn | hz | hp
    · rw [h, Int.add_mul_emod_self_left]
      have : j = -(j.natAbs : Int) := by omega
      rw [this, Int.emod_neg, Int.emod_eq_of_lt h0 h1]
    · exact absurd hz hj
    · rw [h, Int.add_mul_emod_self_left, Int.emod_eq_of_lt h0 (by omega)]
  refine ⟨h2, ?_⟩
  have h4 := Int.emod_add_mul_ediv i j
  rw [h2] at h4
  have h5 : j * (i / j) = j * q := by omega
  exact Int.eq_of_mul_eq_mul_left hj h5
set_option maxHeartbeats 1000000 in
theorem run_DivMod {i j : Int} (hi : zsize i < Lim) (hj : zsize j < Lim) (hj0 : j ≠ 0) : callPure RT 88 [Z i, Z j] = some (.tup [Z (i / j), Z (i % j), .int .i64 0]) := by
  have hL : Lim = 1099511627776 := rfl
  obtain ⟨x, hx⟩ : ∃ x, x = i.natAbs := ⟨_, rfl⟩
  obtain ⟨y, hy⟩ : ∃ y, y = j.natAbs := ⟨_, rfl⟩
  have hxs : size x < Lim := by rw [hx]; exact hi
  have hys : size y < Lim := by rw [hy]; exact hj
  have hy0 : y ≠ 0 := by omega
  have hd := run_div hxs hys hy0
  have hylen : ¬ (dig y).length = 0 := fun h => hy0 (dig_nil.1 (List.eq_nil_of_length_eq_zero h))
  have hyne : dig y ≠ [] := fun h => hylen (by rw [h]; rfl)
  have hq : size (x / y) < Lim := size_le_of (Nat.div_le_self x y) hxs
  have hrlt : x % y < y := Nat.mod_lt _ (by omega)
  have hr : size (x % y) < Lim := size_le_of (Nat.le_of_lt hrlt) hys
  have hdm := Nat.mod_add_div x y
  obtain ⟨q, hqe⟩ : ∃ q, q = x / y := ⟨_, rfl⟩
  obtain ⟨r, hre⟩ : ∃ r, r = x % y := ⟨_, rfl⟩
  rw [← hqe, ← hre] at hd hdm
  rw [← hqe] at hq
  rw [← hre] at hr hrlt
  have hI : i = if i < 0 then -(x : Int) else (x : Int) := by split <;> omega
  have hJ : j = if j < 0 then -(y : Int) else (y : Int) := by split <;> omega
  have hxI : (x : Int) = (r : Int) + (y : Int) * (q : Int) := by rw [← hdm]; push_cast; rfl
  have hsz1 : size 1 ≤ 1 := size_le (by decide)
  have hrl : (dig r).length = 0 ↔ r = 0 := ⟨fun h => dig_nil.1 (List.eq_nil_of_length_eq_zero h), fun h => by rw [h]; simp⟩
  have hb : AV.agg [.bool (decide (i < 0)), N x] = Z i := by rw [hx]; rfl
  have hb2 : AV.agg [.bool (decide (j < 0)), N y] = Z j := by rw [hy]; rfl
  by_cases c : i < 0 ∧ r ≠ 0
  · obtain ⟨ci, cr⟩ := c
    have hs1 := run_signedN (n := q + 1) (t := false) (neg := (decide (i < 0) != decide (j < 0))) (by
      have := size_add_le (x := q) (y := 1) (k := Lim - 1) (by omega) (by omega)
      omega)
    have hs2 := run_signedN (n := y - r) (t := false) (neg := false) (Nat.le_of_lt (size_le_of (Nat.sub_le y r) hys))
    have hadd := run_nadd (x := q) (y := 1) (by omega) (by omega)
    have hsub := run_nsub (x := y) (y := r) (by omega) (by omega)
    have h1 : callPure RT 83 [.int .u64 1] = some (N 1) := run_natural (n := 1) (by decide)
    have hir : i = -(x : Int) := by rw [if_pos ci] at hI; exact hI
    have hyr : ((y - r : Nat) : Int) = (y : Int) - (r : Int) := by omega
    have hem := ediv_of (i := i) (j := j) (r := ((y - r : Nat) : Int)) (q := if (decide (i < 0) != decide (j < 0)) = true then -((q + 1 : Nat) : Int) else ((q + 1 : Nat) : Int)) hj0 (by
      by_cases cj : j < 0
      · have hjr : j = -(y : Int) := by rw [if_pos cj] at hJ; exact hJ
        have e : (decide (i < 0) != decide (j < 0)) = false := by simp [ci, cj]
        rw [e, hyr, if_neg (by decide), hir, hxI, hjr]
        push_cast
        rw [Int.neg_mul, Int.mul_add]
        omega
      · have hjr : j = (y : Int) := by rw [if_neg cj] at hJ; exact hJ
        have e : (decide (i < 0) != decide (j < 0)) = true := by simp [ci, cj]
        rw [e, hyr, if_pos rfl, hir, hxI, hjr]
        push_cast
        rw [Int.mul_neg, Int.mul_add]
        omega) (by omega) (by omega)
    rw [hem.1, hem.2]
    simp only [Bool.false_eq_true, if_false] at hs2
    have hr0 : 0 < (dig r).length := by
      refine Nat.pos_of_ne_zero fun h => cr (hrl.1 h)
    have dci : decide (i < 0) = true := by simp [ci]
    rw [← hb, ← hb2]
    rw [dci] at hs1 ⊢
    generalize (if (true != decide (j < 0)) = true then -((q + 1 : Nat) : Int) else ((q + 1 : Nat) : Int)) = zq at *
    generalize ((y - r : Nat) : Int) = zr at *
    have z1 := Z_cells zq
    have z2 := Z_cells zr
    rw [show (true != decide (j < 0)) = !decide (j < 0) from by cases decide (j < 0) <;> rfl] at hs1
    refine callPure_of (wpF_of tab_88 rfl ?_)
    simp [f88, enter, rd, chk, hylen, hyne, hd, after_nr, hr0, h1, hadd, hsub, hs1, hs2, wr, splice, z1, z2]
  · have hs1 := run_signedN (n := q) (t := false) (neg := (decide (i < 0) != decide (j < 0))) (by omega)
    have hs2 := run_signedN (n := r) (t := false) (neg := false) (by omega)
    have hem := ediv_of (i := i) (j := j) (r := (r : Int)) (q := if (decide (i < 0) != decide (j < 0)) = true then -(q : Int) else (q : Int)) hj0 (by
      by_cases ci : i < 0
      · have hir : i = -(x : Int) := by rw [if_pos ci] at hI; exact hI
        have hr0 : r = 0 := Classical.byContradiction fun h => c ⟨ci, h⟩
        by_cases cj : j < 0
        · have hjr : j = -(y : Int) := by rw [if_pos cj] at hJ; exact hJ
          have e : (decide (i < 0) != decide (j < 0)) = false := by simp [ci, cj]
          rw [e, if_neg (by decide), hir, hxI, hjr, hr0, Int.neg_mul]; simp
        · have hjr : j = (y : Int) := by rw [if_neg cj] at hJ; exact hJ
          have e : (decide (i < 0) != decide (j < 0)) = true := by simp [ci, cj]
          rw [e, if_pos rfl, hir, hxI, hjr, hr0, Int.mul_neg]; simp
      · have hir : i = (x : Int) := by rw [if_neg ci] at hI; exact hI
        by_cases cj : j < 0
        · have hjr : j = -(y : Int) := by rw [if_pos cj] at hJ; exact hJ
          have e : (decide (i < 0) != decide (j < 0)) = true := by simp [ci, cj]
          rw [e, if_pos rfl, hir, hxI, hjr, Int.neg_mul_neg]
        · have hjr : j = (y : Int) := by rw [if_neg cj] at hJ; exact hJ
          have e : (decide (i < 0) != decide (j < 0)) = false := by simp [ci, cj]
          rw [e, if_neg (by decide), hir, hxI, hjr]) (by omega) (by omega)
    rw [hem.1, hem.2]
    simp only [Bool.false_eq_true, if_false] at hs2
    have hrz : i < 0 → (dig r).length = 0 := fun h => hrl.2 (Classical.byContradiction fun h' => c ⟨h, h'⟩)
    rw [← hb, ← hb2]
    generalize (if (decide (i < 0) != decide (j < 0)) = true then -(q : Int) else (q : Int)) = zq at *
    generalize (r : Int) = zr at *
    have z1 := Z_cells zq
    have z2 := Z_cells zr
    refine callPure_of (wpF_of tab_88 rfl ?_)
    by_cases ci : i < 0
    · have hrz' := hrz ci
      simp [ci] at hs1
      simp [f88, enter, rd, chk, hylen, hyne, hd, after_nr, hrz', ci, hs1, hs2, wr, splice, z1, z2]
    · simp [ci] at hs1
      simp [f88, enter, rd, chk, hylen, hyne, hd, after_nr, ci, hs1, hs2, wr, splice, z1, z2]
theorem gcd_loop {S : Store} {Q : FQ} {x0 y0 : Nat} (hQ : ∀ (tm : List AV) (hl : tm.length = 26), tm[4] = .mptr 2 0 2 → tm[5] = N (Nat.gcd x0 y0) → Q (.ex 0) ⟨tm, S⟩) :
    ∀ (y x : Nat), size x < Lim → size y < Lim → Nat.gcd x y = Nat.gcd x0 y0 →
    wpL RT f86_0m S.length f86_0 ⟨[.any, .any, .any, .any, .mptr 2 0 2, N x, N y] ++ List.replicate 19 .any, S⟩ Q := by
  intro y
  induction y using Nat.strongRecOn with
  | _ y ih =>
    intro x hx hy hg
    by_cases h0 : y = 0
    · subst h0
      rw [Nat.gcd_zero_right] at hg
      rw [wpL_step]
      generalize hK : loopQ RT f86_0m S.length f86_0 Q = K
      simp [f86_0, List.replicate]
      subst hK
      exact hQ _ rfl rfl (by simp [hg])
    · have hlt : x % y < y := Nat.mod_lt _ (by omega)
      have hd := run_div hx hy h0
      have hih := ih (x % y) hlt y hy (size_le_of (Nat.le_of_lt hlt) hy) (by rw [← hg, Nat.gcd_comm x y, Nat.gcd_rec y x, Nat.gcd_comm])
      have hl : 0 < (dig y).length := Nat.pos_of_ne_zero fun h => h0 (dig_nil.1 (List.eq_nil_of_length_eq_zero h))
      generalize x % y = r at *
      rw [wpL_step]
      generalize hK : loopQ RT f86_0m S.length f86_0 Q = K
      simp [f86_0, List.replicate, hl, hd, after_nr]
      subst hK
      simp [head, f86_0m, mask, trunc_len]
      simpa [f86_0m, List.replicate] using hih
theorem run_Gcd {i j : Int} (hi : zsize i < Lim) (hj : zsize j < Lim) : callPure RT 86 [Z i, Z j] = some (Z (Int.gcd i j : Int)) := by
  have hgs : size (Nat.gcd i.natAbs j.natAbs) < Lim := by
    by_cases h : i.natAbs = 0
    · rw [h, Nat.gcd_zero_left]; exact hj
    · exact size_le_of (Nat.gcd_le_left _ (by omega)) hi
  have hs := run_signedN (n := Nat.gcd i.natAbs j.natAbs) (t := false) (neg := false) (Nat.le_of_lt hgs)
  simp only [Bool.false_eq_true, if_false] at hs
  have hz : Z (Int.gcd i j : Int) = Z ((Nat.gcd i.natAbs j.natAbs : Nat) : Int) := rfl
  rw [hz, Z_cells i, Z_cells j]
  have z1 := Z_cells ((Nat.gcd i.natAbs j.natAbs : Nat) : Int)
  refine callPure_of (wpF_of tab_86 rfl ?_)
  simp [f86, enter, rd, chk]
  simp [head, f86_0m, mask, trunc_len]
  refine gcd_loop (S := [_, _, _]) (x0 := i.natAbs) (y0 := j.natAbs) ?_ j.natAbs i.natAbs hi hj rfl
  intro tm hl h4 h5
  simp [hl, h4, h5, hs, after_nr, wr, splice, chk, rd, z1]
def Zc (i : Int) : List AV := [.bool (decide (i < 0)), N i.natAbs]
@[simp] theorem Zc_len (i : Int) : (Zc i).length = 2 := rfl
@[simp] theorem Zc_fzc (S : Store) (fuel : Nat) (i : Int) : (Zc i).mapM (fzc S fuel) = some (Zc i) := by simp [Zc]
@[simp] theorem Zc_nrc (i : Int) : (Zc i).all nrc = true := by simp [Zc]
def QR (q : Rat) : AV := .agg (Zc q.num ++ Zc (q.den : Int))
theorem QR_eq (q : Rat) : QR q = .agg [.bool (decide (q.num < 0)), N q.num.natAbs, .bool false, N q.den] := by
  have h : ¬ ((q.den : Int) < 0) := by omega
  simp [QR, Zc, h]
def RB (q : Rat) (k : Nat) : Prop := zsize q.num ≤ k ∧ size q.den ≤ k
theorem RB.mono {q : Rat} {k l : Nat} (h : RB q k) (hk : k ≤ l) : RB q l := ⟨Nat.le_trans h.1 hk, Nat.le_trans h.2 hk⟩
theorem zsize_le {a b : Int} (h : a.natAbs ≤ b.natAbs) : zsize a ≤ zsize b := size_mono h
theorem zsize_mul (a b : Int) : zsize (a * b) ≤ zsize a + zsize b := by
  unfold zsize
  rw [Int.natAbs_mul]
  exact size_mul_le
theorem RB_divInt {n d : Int} {k : Nat} (hn : zsize n ≤ k) (hd : zsize d ≤ k) (hk : 1 ≤ k) : RB (Rat.divInt n d) k := by
  constructor
  · rw [Rat.num_divInt]
    refine Nat.le_trans (zsize_le ?_) hn
    have h1 : (d.sign * n / (d.gcd n : Int)).natAbs ≤ (d.sign * n).natAbs := by
      by_cases h0 : d.gcd n = 0
      · rw [h0]; simp
      · have hd := Int.natAbs_ediv_le_natAbs (d.sign * n) (d.gcd n : Int)
        exact hd
    have h2 : (d.sign * n).natAbs ≤ n.natAbs := by
      rw [Int.natAbs_mul]
      have : d.sign.natAbs ≤ 1 := by
        rcases Int.lt_trichotomy d 0 with h | h | h
        · rw [Int.sign_eq_neg_one_of_neg h]; decide
        · rw [h]; decide
        · rw [Int.sign_eq_one_of_pos h]; decide
      exact Nat.le_trans (Nat.mul_le_mul_right _ this) (by omega)
    exact Nat.le_trans h1 h2
  · rw [Rat.den_divInt]
    split
    · exact Nat.le_trans (size_le (k := 1) (by decide)) hk
    · exact Nat.le_trans (size_mono (Nat.div_le_self _ _)) hd
theorem run_product2 {i j : Int} (hi : 4 * zsize i ≤ Lim) (hj : 4 * zsize j ≤ Lim) : callPure RT 75 [.sl [Z i, Z j] 2 false] = some (Z (i * j)) := by
  have hL : Lim = 1099511627776 := rfl
  have h1 : callPure RT 72 [.int .i64 1] = some (Z 1) := run_Of (n := 1) (by decide) (by decide)
  have hz1 : zsize 1 ≤ 1 := size_le (by decide)
  have m1 := run_Mul (i := 1) (j := i) (by omega) (by omega)
  have m2 := run_Mul (i := i) (j := j) (by omega) (by omega)
  rw [Int.one_mul] at m1
  simp only [Z_cells] at h1 m1 m2 ⊢
  refine callPure_of (wpF_of tab_75 rfl ?_)
  simp [f75, enter, h1, after_nr, wr, chk, splice]
  simp at m1
  simp [wpL_step, head, f75_0m, f75_0, mask, rd, wr, chk, trunc, lt1, ltc, Blk.lt, splice, m1, m2, after_nr]
theorem sign_gcd {n d : Int} (hd : d ≠ 0) : (d < 0 → n / -(Int.gcd n d : Int) = (Rat.divInt n d).num ∧ d / -(Int.gcd n d : Int) = ((Rat.divInt n d).den : Int)) ∧ (¬ d < 0 → n / (Int.gcd n d : Int) = (Rat.divInt n d).num ∧ d / (Int.gcd n d : Int) = ((Rat.divInt n d).den : Int)) := by
  have hg : Int.gcd d n = Int.gcd n d := Int.gcd_comm d n
  have hn : (Int.gcd n d : Int) ∣ n := Int.gcd_dvd_left ..
  have hdd : (Int.gcd n d : Int) ∣ d := Int.gcd_dvd_right ..
  constructor
  · intro h
    rw [Rat.num_divInt, Rat.den_divInt, if_neg hd, hg, Int.sign_eq_neg_one_of_neg h]
    refine ⟨?_, ?_⟩
    · rw [Int.ediv_neg, Int.neg_mul, Int.one_mul, Int.neg_ediv_of_dvd hn]
    · rw [Int.ediv_neg, ← Int.neg_ediv_of_dvd hdd]
      have : -d = (d.natAbs : Int) := by omega
      rw [this]; push_cast; rfl
  · intro h
    rw [Rat.num_divInt, Rat.den_divInt, if_neg hd, hg, Int.sign_eq_one_of_pos (by omega), Int.one_mul]
    refine ⟨rfl, ?_⟩
    have : d = (d.natAbs : Int) := by omega
    conv => lhs; rw [this]
    push_cast; rfl
set_option maxHeartbeats 1000000 in
theorem run_lowest {n d : Int} (hn : zsize n < Lim) (hd : zsize d < Lim) (hd0 : d ≠ 0) : callPure RT 76 [Z n, Z d] = some (QR (Rat.divInt n d)) := by
  have hg0 : Int.gcd n d ≠ 0 := fun h => hd0 (Int.gcd_eq_zero_iff.1 h).2
  have hgs : zsize (Int.gcd n d : Int) < Lim := by
    refine Nat.lt_of_le_of_lt (zsize_le ?_) hd
    have : Int.gcd n d ≤ d.natAbs := Nat.gcd_le_right _ (by omega)
    simpa using this
  have hgn : zsize (-(Int.gcd n d : Int)) < Lim := by unfold zsize at *; rwa [Int.natAbs_neg]
  have hgcd := run_Gcd hn hd
  have hsg := run_Sign d
  have hneg := run_Neg (i := (Int.gcd n d : Int)) (Nat.le_of_lt hgs)
  have d1 := run_DivMod (i := n) (j := (Int.gcd n d : Int)) hn hgs (by omega)
  have d2 := run_DivMod (i := d) (j := (Int.gcd n d : Int)) hd hgs (by omega)
  have d3 := run_DivMod (i := n) (j := -(Int.gcd n d : Int)) hn hgn (by omega)
  have d4 := run_DivMod (i := d) (j := -(Int.gcd n d : Int)) hd hgn (by omega)
  have hs := sign_gcd (n := n) hd0
  rw [QR_eq]
  have zden := Z_cells ((Rat.divInt n d).den : Int)
  have hdn : ¬ (((Rat.divInt n d).den : Int) < 0) := by omega
  simp only [hdn, decide_false, Int.natAbs_natCast] at zden
  have znum := Z_cells (Rat.divInt n d).num
  generalize (Rat.divInt n d).num = qn at *
  generalize hqd : (Rat.divInt n d).den = qd at *
  refine callPure_of (wpF_of tab_76 rfl ?_)
  by_cases c : d < 0
  · obtain ⟨e1, e2⟩ := hs.1 c
    rw [e1] at d3
    rw [e2] at d4
    have hsn : d.sign = -1 := Int.sign_eq_neg_one_of_neg c
    rw [hsn] at hsg
    rw [zden] at d4
    simp only [Z_cells] at hgcd hsg hneg d3 d4 ⊢
    generalize (n % -(Int.gcd n d : Int)) = r3 at *
    generalize (d % -(Int.gcd n d : Int)) = r4 at *
    generalize -(Int.gcd n d : Int) = h at *
    generalize (Int.gcd n d : Int) = g at *
    simp [f76, enter, rd, wr, chk, splice, hgcd, hsg, hneg, d3, d4, after_nr, fillA]
  · obtain ⟨e1, e2⟩ := hs.2 c
    rw [e1] at d1
    rw [e2] at d2
    have hsn : d.sign = 1 := Int.sign_eq_one_of_pos (by omega)
    rw [hsn] at hsg
    rw [zden] at d2
    simp only [Z_cells] at hgcd hsg d1 d2 ⊢
    generalize (n % (Int.gcd n d : Int)) = r3 at *
    generalize (d % (Int.gcd n d : Int)) = r4 at *
    generalize (Int.gcd n d : Int) = g at *
    simp [f76, enter, rd, wr, chk, splice, hgcd, hsg, d1, d2, after_nr, fillA]
theorem cells_QR (q : Rat) : QR q = .agg [.bool (decide (q.num < 0)), N q.num.natAbs, .bool false, N q.den] := QR_eq q
theorem Zden (q : Rat) : Z (q.den : Int) = .agg [.bool false, N q.den] := by
  have h : ¬ ((q.den : Int) < 0) := by omega
  rw [Z_cells]; simp [h]
theorem zsize_den (q : Rat) : zsize (q.den : Int) = size q.den := rfl
theorem size_pos {n : Nat} (h : n ≠ 0) : 1 ≤ size n := by
  refine Nat.pos_of_ne_zero fun h0 => h ?_
  exact dig_nil.1 (List.eq_nil_of_length_eq_zero h0)
theorem RB.pos {q : Rat} {k : Nat} (h : RB q k) : 1 ≤ k := Nat.le_trans (size_pos q.den_nz) h.2
theorem RB.mul {a b : Rat} {k : Nat} (ha : RB a k) (hb : RB b k) : RB (a * b) (2 * k) := by
  rw [Rat.mul_def', ← Rat.divInt_ofNat]
  refine RB_divInt ?_ ?_ (by have := ha.pos; omega)
  · have := zsize_mul a.num b.num
    have h1 := ha.1; have h2 := hb.1; omega
  · have := size_mul_le (x := a.den) (y := b.den)
    have h1 := ha.2; have h2 := hb.2
    show size (a.den * b.den) ≤ _
    omega
theorem zsize_sub {a b : Int} {k : Nat} (ha : zsize a ≤ k) (hb : zsize b ≤ k) : zsize (a - b) ≤ k + 1 := by
  have h : (a - b).natAbs ≤ a.natAbs + b.natAbs := by omega
  exact Nat.le_trans (size_mono h) (size_add_le ha hb)
theorem RB.sub {a b : Rat} {k : Nat} (ha : RB a k) (hb : RB b k) : RB (a - b) (2 * k + 1) := by
  rw [Rat.sub_def', ← Rat.divInt_ofNat]
  have h1 := ha.1; have h2 := hb.1; have h3 := ha.2; have h4 := hb.2
  refine RB_divInt (zsize_sub ?_ ?_) ?_ (by omega)
  · have := zsize_mul a.num (b.den : Int)
    rw [zsize_den] at this; omega
  · have := zsize_mul b.num (a.den : Int)
    rw [zsize_den] at this; omega
  · have := size_mul_le (x := a.den) (y := b.den)
    show size (a.den * b.den) ≤ _
    omega
theorem RB.div {a b : Rat} {k : Nat} (ha : RB a k) (hb : RB b k) : RB (a / b) (2 * k) := by
  have e : a / b = Rat.divInt (a.num * b.den) (a.den * b.num) := by
    conv => lhs; rw [← Rat.num_divInt_den a, ← Rat.num_divInt_den b]
    rw [Rat.div_def, Rat.inv_divInt, Rat.divInt_mul_divInt]
  rw [e]
  have h1 := ha.1; have h2 := hb.1; have h3 := ha.2; have h4 := hb.2
  refine RB_divInt ?_ ?_ (by have := ha.pos; omega)
  · have := zsize_mul a.num (b.den : Int)
    rw [zsize_den] at this; omega
  · have := zsize_mul (a.den : Int) b.num
    rw [zsize_den] at this; omega
theorem run_rMul {a b : Rat} {k : Nat} (ha : RB a k) (hb : RB b k) (hk : 8 * k ≤ Lim) : callPure RT 59 [QR a, QR b] = some (QR (a * b)) := by
  have hL : Lim = 1099511627776 := rfl
  have h1 := ha.1; have h2 := hb.1; have h3 := ha.2; have h4 := hb.2
  have p1 := run_product2 (i := a.num) (j := b.num) (by omega) (by omega)
  have p2 := run_product2 (i := (a.den : Int)) (j := (b.den : Int)) (by rw [zsize_den]; omega) (by rw [zsize_den]; omega)
  have m1 := zsize_mul a.num b.num
  have m2 := zsize_mul (a.den : Int) (b.den : Int)
  rw [zsize_den, zsize_den] at m2
  have hd0 : (a.den : Int) * (b.den : Int) ≠ 0 := Int.mul_ne_zero (by have := a.den_nz; omega) (by have := b.den_nz; omega)
  have lo := run_lowest (n := a.num * b.num) (d := (a.den : Int) * (b.den : Int)) (by omega) (by omega) hd0
  have e : Rat.divInt (a.num * b.num) ((a.den : Int) * (b.den : Int)) = a * b := by
    rw [Rat.mul_def', ← Rat.divInt_ofNat]; push_cast; rfl
  rw [e] at lo
  rw [Zden, Zden] at p2
  rw [cells_QR (a * b)] at lo ⊢
  rw [cells_QR a, cells_QR b]
  simp only [Z_cells] at p1 p2 lo
  generalize a.num * b.num = nn at *
  generalize (a.den : Int) * (b.den : Int) = dd at *
  generalize (a * b).num = rn at *
  generalize (a * b).den = rd' at *
  refine callPure_of (wpF_of tab_59 rfl ?_)
  simp [f59, enter, rd, wr, chk, splice, opA_litn, fillE, elt, p1, p2, lo, after_nr]
theorem run_rSub {a b : Rat} {k : Nat} (ha : RB a k) (hb : RB b k) (hk : 8 * k + 8 ≤ Lim) : callPure RT 58 [QR a, QR b] = some (QR (a - b)) := by
  have hL : Lim = 1099511627776 := rfl
  have h1 := ha.1; have h2 := hb.1; have h3 := ha.2; have h4 := hb.2
  have p1 := run_product2 (i := a.num) (j := (b.den : Int)) (by omega) (by rw [zsize_den]; omega)
  have p2 := run_product2 (i := b.num) (j := (a.den : Int)) (by omega) (by rw [zsize_den]; omega)
  have p3 := run_product2 (i := (a.den : Int)) (j := (b.den : Int)) (by rw [zsize_den]; omega) (by rw [zsize_den]; omega)
  have m1 := zsize_mul a.num (b.den : Int)
  have m2 := zsize_mul b.num (a.den : Int)
  have m3 := zsize_mul (a.den : Int) (b.den : Int)
  rw [zsize_den] at m1 m2
  rw [zsize_den, zsize_den] at m3
  have sb := run_Sub (i := a.num * (b.den : Int)) (j := b.num * (a.den : Int)) (by omega) (by omega)
  have ms := zsize_sub (a := a.num * (b.den : Int)) (b := b.num * (a.den : Int)) (k := 2 * k) (by omega) (by omega)
  have hd0 : (a.den : Int) * (b.den : Int) ≠ 0 := Int.mul_ne_zero (by have := a.den_nz; omega) (by have := b.den_nz; omega)
  have lo := run_lowest (n := a.num * (b.den : Int) - b.num * (a.den : Int)) (d := (a.den : Int) * (b.den : Int)) (by omega) (by omega) hd0
  have e : Rat.divInt (a.num * (b.den : Int) - b.num * (a.den : Int)) ((a.den : Int) * (b.den : Int)) = a - b := by
    rw [Rat.sub_def', ← Rat.divInt_ofNat]; push_cast; rfl
  rw [e] at lo
  rw [Zden] at p1 p2
  rw [Zden, Zden] at p3
  rw [cells_QR (a - b)] at lo ⊢
  rw [cells_QR a, cells_QR b]
  simp only [Z_cells] at p1 p2 p3 sb lo
  generalize a.num * (b.den : Int) - b.num * (a.den : Int) = nn at *
  generalize a.num * (b.den : Int) = n1 at *
  generalize b.num * (a.den : Int) = n2 at *
  generalize (a.den : Int) * (b.den : Int) = dd at *
  generalize (a - b).num = rn at *
  generalize (a - b).den = rd' at *
  refine callPure_of (wpF_of tab_58 rfl ?_)
  simp [f58, enter, rd, wr, chk, splice, opA_litn, fillE, elt, p1, p2, p3, sb, lo, after_nr]
theorem run_rDiv {a b : Rat} {k : Nat} (ha : RB a k) (hb : RB b k) (hk : 8 * k + 8 ≤ Lim) (hb0 : b ≠ 0) : callPure RT 57 [QR a, QR b] = some (.tup [QR (a / b), .int .i64 0]) := by
  have hL : Lim = 1099511627776 := rfl
  have h1 := ha.1; have h2 := hb.1; have h3 := ha.2; have h4 := hb.2
  have hn0 : b.num ≠ 0 := fun h => hb0 (Rat.num_eq_zero.1 h)
  have p1 := run_product2 (i := a.num) (j := (b.den : Int)) (by omega) (by rw [zsize_den]; omega)
  have p2 := run_product2 (i := (a.den : Int)) (j := b.num) (by rw [zsize_den]; omega) (by omega)
  have m1 := zsize_mul a.num (b.den : Int)
  have m2 := zsize_mul (a.den : Int) b.num
  rw [zsize_den] at m1 m2
  have hd0 : (a.den : Int) * b.num ≠ 0 := Int.mul_ne_zero (by have := a.den_nz; omega) hn0
  have lo := run_lowest (n := a.num * (b.den : Int)) (d := (a.den : Int) * b.num) (by omega) (by omega) hd0
  have e : Rat.divInt (a.num * (b.den : Int)) ((a.den : Int) * b.num) = a / b := by
    conv => rhs; rw [← Rat.num_divInt_den a, ← Rat.num_divInt_den b]
    rw [Rat.div_def, Rat.inv_divInt, Rat.divInt_mul_divInt]
  rw [e] at lo
  have hsg := run_Sign ((a.den : Int) * b.num)
  have hs0 : ((a.den : Int) * b.num).sign ≠ 0 := fun h => hd0 (Int.sign_eq_zero_iff_zero.1 h)
  rw [Zden] at p1 p2
  rw [cells_QR (a / b)] at lo ⊢
  rw [cells_QR a, cells_QR b]
  simp only [Z_cells] at p1 p2 lo hsg
  generalize a.num * (b.den : Int) = nn at *
  generalize (a.den : Int) * b.num = dd at *
  generalize (a / b).num = rn at *
  generalize (a / b).den = rd' at *
  generalize dd.sign = sg at *
  have hnew : callPure RT 74 [.agg [.bool (decide (nn < 0)), N nn.natAbs], .agg [.bool (decide (dd < 0)), N dd.natAbs]] = some (.tup [.agg [.bool (decide (rn < 0)), N rn.natAbs, .bool false, N rd'], .int .i64 0]) := by
    refine callPure_of (wpF_of tab_74 rfl ?_)
    simp [f74, enter, rd, wr, chk, splice, hsg, hs0, lo, after_nr]
  refine callPure_of (wpF_of tab_57 rfl ?_)
  simp [f57, enter, rd, wr, chk, splice, opA_litn, fillE, elt, p1, p2, hnew, after_nr]
theorem run_rSign (q : Rat) : callPure RT 55 [QR q] = some (.int .i64 q.num.sign) := by
  have hsg := run_Sign q.num
  rw [cells_QR q]
  simp only [Z_cells] at hsg
  refine callPure_of (wpF_of tab_55 rfl ?_)
  simp [f55, enter, rd, chk, hsg, after_nr]
theorem run_Whole {n : Int} (h1 : -9223372036854775808 ≤ n) (h2 : n < 9223372036854775808) : callPure RT 52 [.int .i64 n] = some (QR (n : Rat)) := by
  have ho := run_Of h1 h2
  have h1 : callPure RT 72 [.int .i64 1] = some (Z 1) := run_Of (n := 1) (by decide) (by decide)
  rw [cells_QR]
  simp only [Rat.num_intCast, Rat.den_intCast]
  simp only [Z_cells] at ho h1
  have hof : callPure RT 71 [.agg [.bool (decide (n < 0)), N n.natAbs]] = some (.agg [.bool (decide (n < 0)), N n.natAbs, .bool false, N 1]) := by
    refine callPure_of (wpF_of tab_71 rfl ?_)
    simp at h1
    simp [f71, enter, rd, wr, chk, splice, h1, after_nr, fillA]
  refine callPure_of (wpF_of tab_52 rfl ?_)
  simp [f52, enter, rd, wr, chk, splice, ho, hof, after_nr]
  exact decide_eq_decide.2 Iff.rfl
def QRow (l : List Rat) : AV := .sl (l.map QR) 4 false
def QRows (ls : List (List Rat)) : AV := .sl (ls.map QRow) 1 false
def qnz (k : Nat) (l : List Rat) : Bool := decide (l.getD k 0 ≠ 0)
theorem sign_ne (q : Rat) : (q.num.sign ≠ 0) ↔ q ≠ 0 := by
  rw [Ne, Int.sign_eq_zero_iff_zero, Rat.num_eq_zero]
theorem run_nz {l : List Rat} {k : Nat} (hk : k < l.length) (hl : l.length < 1000000) : callPure RT 54 [QRow l, .fptr [.int .i64 (k : Int)]] = some (.bool (qnz k l)) := by
  have hget : l[k]? = some l[k] := List.getElem?_eq_getElem hk
  have hlt : (k : Int) < (l.length : Int) := by omega
  have hs := run_rSign l[k]
  have e : qnz k l = decide (l[k].num.sign ≠ 0) := by
    unfold qnz
    rw [List.getD_eq_getElem?_getD, hget]
    exact decide_eq_decide.2 (sign_ne _).symm
  rw [e]
  generalize l[k] = q at *
  unfold QRow
  rw [cells_QR] at hs
  refine callPure_of (wpF_of tab_54 rfl ?_)
  generalize q.num.sign = sg at *
  by_cases c : sg = 0
  · simp [f54, enter, hlt, hget, chk, cells_QR, hs, c]
  · simp [f54, enter, hlt, hget, chk, cells_QR, hs, c]
def idxG {α : Type} (p : α → Bool) : List α → Nat → Int
  | [], _ => -1
  | w :: o, n => if p w then (n : Int) else idxG p o (n + 1)
theorem pivot_loop {o : List (List Rat)} {k : Nat} (ho : ∀ w ∈ o, w.length = 8) (hol : o.length < 1000000) (hk : k < 8) {Q : FQ}
    (h1 : ∀ (tm : List AV) (hl : tm.length = 19), idxG (qnz k) o 0 = -1 → Q (.ex 0) ⟨tm, []⟩)
    (h2 : ∀ (tm : List AV) (hl : tm.length = 19), tm[4] = .int .i64 (idxG (qnz k) o 0) → Q .ret ⟨tm, []⟩) :
    ∀ (m n : Nat), n + m = o.length → idxG (qnz k) (o.drop n) n = idxG (qnz k) o 0 →
    wpL RT f53_0m 0 f53_0 ⟨[QRows o, .fn 54 [.fptr [.int .i64 (k : Int)]], .any, .any, .any, .any, .any, .int .i64 (o.length : Int), .int .i64 (n : Int)] ++ List.replicate 10 .any, []⟩ Q := by
  intro m
  unfold QRows
  induction m with
  | zero =>
    intro n hn he
    have hn' : n = o.length := by omega
    subst hn'
    rw [wpL_step]
    generalize hK : loopQ RT f53_0m 0 f53_0 Q = K
    simp [f53_0, List.replicate]
    subst hK
    refine h1 _ rfl ?_
    rw [← he, List.drop_of_length_le (Nat.le_refl _)]; rfl
  | succ m ih =>
    intro n hn he
    have hn1 : n < o.length := by omega
    rw [List.drop_eq_getElem_cons hn1] at he
    have hwl := ho o[n] (List.getElem_mem hn1)
    have hget : o[n]? = some o[n] := List.getElem?_eq_getElem hn1
    generalize o[n] = w at *
    have hw : IntKind.i64.wrap ((n : Int) + 1) = ((n + 1 : Nat) : Int) := wrap_i64 (by omega) (by omega)
    have hlt : (n : Int) < (o.length : Int) := by omega
    have hocc := run_nz (l := w) (k := k) (by omega) (by omega)
    unfold QRow at hocc
    rw [wpL_step]
    generalize hK : loopQ RT f53_0m 0 f53_0 Q = K
    simp only [idxG] at he
    cases c : qnz k w with
    | true =>
      rw [c] at he hocc
      simp at he
      simp [f53_0, List.replicate, hlt, hget, QRow, chk, hocc, after_nr, opA_vpure]
      subst hK
      refine h2 _ rfl ?_
      simp [he]
    | false =>
      rw [c] at he hocc
      simp at he
      simp [f53_0, List.replicate, hlt, hget, QRow, chk, hocc, after_nr, opA_vpure, hw]
      subst hK
      have := ih (n + 1) (by omega) he
      simp [head, f53_0m, mask, trunc_len]
      simpa [f53_0m, List.replicate] using this
theorem run_pivot {o : List (List Rat)} {k : Nat} (ho : ∀ w ∈ o, w.length = 8) (hol : o.length < 1000000) (hk : k < 8) :
    callPure RT 53 [QRows o, .fn 54 [.fptr [.int .i64 (k : Int)]]] = some (.int .i64 (idxG (qnz k) o 0)) := by
  refine callPure_of (wpF_of tab_53 rfl ?_)
  simp [f53, enter, QRows]
  simp [head, f53_0m, mask, trunc_len]
  refine pivot_loop ho hol hk ?_ ?_ o.length 0 (by simp) rfl
  · intro tm hl h
    simp [hl, h]
  · intro tm hl h
    simp [hl, h]
theorem bound_ok {k : IntKind} {hi n : Nat} (h : n ≤ hi) : bound hi (.int k (n : Int)) = some n := by
  have : (0 : Int) ≤ (n : Int) ∧ (n : Int) ≤ (hi : Int) := by omega
  simp only [bound]
  rw [chk_pos this]; simp
theorem slc_lo {bl n vl i : Nat} (hn : n ≤ vl) (hi : i ≤ n) : sliceA 1 true false false (.msl bl 0 n 1 vl none) [.int .i64 (i : Int)] = some (.msl bl i (n - i) 1 vl none) := by
  simp only [sliceA, bounds, bound_ok hi, Option.bind_some]
  rw [chk_pos (by simp)]
  rw [chk_pos (by omega)]
  simp [capAt]
theorem slc_hi {bl n vl i : Nat} (hn : n ≤ vl) (hi : i ≤ n) : sliceA 1 false true false (.msl bl 0 n 1 vl none) [.int .i64 (i : Int)] = some (.msl bl 0 i 1 vl none) := by
  have : i ≤ (Option.none.getD ((vl - 0) / 1) : Nat) := by simp; omega
  simp only [sliceA, bounds, bound_ok this, Option.bind_some]
  rw [chk_pos (by simp)]
  rw [chk_pos (by omega)]
  simp [capAt]
theorem slc_lh {bl n vl i j : Nat} (hn : n ≤ vl) (hi : i ≤ j) (hj : j ≤ vl) : sliceA 1 true true false (.msl bl 0 n 1 vl none) [.int .i64 (i : Int), .int .i64 (j : Int)] = some (.msl bl i (j - i) 1 vl none) := by
  have : j ≤ (Option.none.getD ((vl - 0) / 1) : Nat) := by simp; omega
  simp only [sliceA, bounds, bound_ok this, Option.bind_some, bound_ok hi]
  rw [chk_pos (by simp)]
  rw [chk_pos (by omega)]
  simp [capAt]
theorem slc_lhm {bl n vl i j m : Nat} (hn : n ≤ vl) (hi : i ≤ j) (hj : j ≤ m) (hm : m ≤ vl) : sliceA 1 true true true (.msl bl 0 n 1 vl none) [.int .i64 (i : Int), .int .i64 (j : Int), .int .i64 (m : Int)] = some (.msl bl i (j - i) 1 vl (some (m - i))) := by
  have : m ≤ (Option.none.getD ((vl - 0) / 1) : Nat) := by simp; omega
  simp only [sliceA, bounds, bound_ok this, Option.bind_some, bound_ok hi, bound_ok hj]
  rw [chk_pos (by simp)]
  rw [chk_pos (by omega)]
  simp [capAt]
theorem app_in {S : Store} {bl i m o vl : Nat} {cs : List AV} {ex : Bool} (hS : S[bl]? = some (.mu cs ex)) (hl : cs.length = vl) (hm : i + m ≤ vl) (ho : o + m ≤ vl) (hm0 : m ≠ 0) :
    appA 1 24 S (.msl bl 0 i 1 vl none) (.msl bl o m 1 vl none) = some (.msl bl 0 (i + m) 1 vl none, S.set bl (.mu (splice cs i ((cs.drop o).take m)) ex)) := by
  have h1 : held S 1 (.msl bl o m 1 vl none) = some (m, (cs.drop o).take m) := by
    simp only [held]
    rw [chk_pos trivial, rd_mu hS hl (by omega)]; simp
  unfold appA
  rw [h1]
  simp only [Option.bind_some]
  rw [chk_pos trivial, if_neg hm0, if_pos (by omega)]
  rw [wr_mu hS hl (by rw [List.length_take, List.length_drop]; omega)]
  simp
theorem app_in0 {S : Store} {bl i o vl : Nat} {cs : List AV} {ex : Bool} (hS : S[bl]? = some (.mu cs ex)) (hl : cs.length = vl) (ho : o ≤ vl) :
    appA 1 24 S (.msl bl 0 i 1 vl none) (.msl bl o 0 1 vl none) = some (.msl bl 0 i 1 vl none, S) := by
  have h1 : held S 1 (.msl bl o 0 1 vl none) = some (0, (cs.drop o).take 0) := by
    simp only [held]
    rw [chk_pos trivial, rd_mu hS hl (by omega)]; simp
  unfold appA
  rw [h1]
  simp only [Option.bind_some]
  rw [chk_pos trivial, if_pos trivial]
theorem run_Delete {S : Store} {bl n vl i : Nat} {cs : List AV} {ex : Bool} (hS : S[bl]? = some (.mu cs ex)) (hl : cs.length = vl) (hn : n ≤ vl) (hi : i < n) (hv : vl < 1000000) :
    wpF RT 56 [.msl bl 0 n 1 vl none, .int .i64 (i : Int), .int .i64 ((i + 1 : Nat) : Int)] S fun r S' => r = .msl bl 0 (n - 1) 1 vl none ∧ S'.length = S.length ∧ (∀ b, b ≠ bl → S'[b]? = S[b]?) ∧ ∃ cs', S'[bl]? = some (.mu cs' ex) ∧ cs'.length = vl ∧ cs'.take (n - 1) = (cs.take n).eraseIdx i := by
  have hlt := lt_of_get hS
  have hne : ¬ (i : Int) = (i : Int) + 1 := by omega
  have s1 := slc_lhm (bl := bl) hn (i := i) (j := i + 1) (m := n) (by omega) (by omega) hn
  have s2 := slc_hi (bl := bl) hn (i := i) (by omega)
  have s3 := slc_lo (bl := bl) hn (i := i + 1) (by omega)
  have s4 := slc_lh (bl := bl) (n := n - 1) (i := n - 1) (j := n) (vl := vl) (by omega) (by omega) hn
  have hn1 : n - (n - 1) = 1 := by omega
  rw [hn1] at s4
  have hgoal : ∀ cs2 : List AV, cs2.length = vl → cs2.take (n - 1) = (cs.take n).eraseIdx i →
      (splice cs2 (n - 1) [AV.sl [] 1 true]).length = vl := by
    intro cs2 h1 h2
    unfold splice
    simp; omega
  -- what the appending gives
  obtain ⟨cs2, happ, hc2, ht2⟩ : ∃ cs2, (appA 1 24 S (.msl bl 0 i 1 vl none) (.msl bl (i + 1) (n - (i + 1)) 1 vl none) = some (.msl bl 0 (n - 1) 1 vl none, S.set bl (.mu cs2 ex))) ∧ cs2.length = vl ∧ cs2.take (n - 1) = (cs.take n).eraseIdx i := by
    by_cases h0 : n - (i + 1) = 0
    · refine ⟨cs, ?_, hl, ?_⟩
      · rw [h0, app_in0 hS hl (by omega)]
        have : i = n - 1 := by omega
        have hset : S.set bl (.mu cs ex) = S := by
          apply List.ext_getElem?
          intro b
          by_cases hb : b = bl
          · subst hb; rw [List.getElem?_set_self hlt, hS]
          · rw [List.getElem?_set_ne (by omega)]
        rw [hset, this]
      · have : i = n - 1 := by omega
        rw [this, List.eraseIdx_eq_take_drop_succ, List.take_take, List.drop_of_length_le (by simp; omega)]
        simp
    · refine ⟨splice cs i ((cs.drop (i + 1)).take (n - (i + 1))), ?_, ?_, ?_⟩
      · have e : i + (n - (i + 1)) = n - 1 := by omega
        have := app_in hS hl (i := i) (m := n - (i + 1)) (o := i + 1) (by omega) (by omega) h0
        rw [e] at this
        exact this
      · unfold splice; simp; omega
      · unfold splice
        rw [List.eraseIdx_eq_take_drop_succ, List.take_take, List.drop_take]
        have e1 : (cs.take i).length = i := by rw [List.length_take]; omega
        have e2 : ((cs.drop (i + 1)).take (n - (i + 1))).length = n - (i + 1) := by rw [List.length_take, List.length_drop]; omega
        rw [List.take_append, e1, List.take_append, e2, List.take_of_length_le (l := cs.take i) (by omega), List.take_of_length_le (l := (cs.drop (i + 1)).take (n - (i + 1))) (by omega)]
        have e3 : n - 1 - i - (n - (i + 1)) = 0 := by omega
        rw [e3, List.take_zero, List.append_nil]
        congr 1
        rw [Nat.min_eq_left (by omega)]
  have hS2 : (S.set bl (.mu cs2 ex))[bl]? = some (.mu cs2 ex) := set_get hlt
  have hwr := wr_mu (vs := [AV.sl [] 4 true]) (off := n - 1) hS2 hc2 (by simp; omega)
  rw [List.set_set] at hwr
  refine wpF_of tab_56 rfl ?_
  have hfin : (∀ b, b ≠ bl → (S.set bl (Blk.mu (splice cs2 (n - 1) [AV.sl [] 4 true]) ex))[b]? = S[b]?) := fun b hb => List.getElem?_set_ne (by omega)
  have hlen : (splice cs2 (n - 1) [AV.sl [] 4 true]).length = vl := by unfold splice; simp; omega
  have htk : (splice cs2 (n - 1) [AV.sl [] 4 true]).take (n - 1) = (cs.take n).eraseIdx i := by
    rw [← ht2]; unfold splice
    have e1 : (cs2.take (n - 1)).length = n - 1 := by rw [List.length_take]; omega
    rw [List.take_append, e1, Nat.sub_self, List.take_zero, List.append_nil, List.take_take, Nat.min_self]
  clear hgoal
  simp only [Int.natCast_add, Int.natCast_one] at s1 s3
  have hn2 : n - i - 1 = n - (i + 1) := by omega
  have hclr : opA RT (K.clr 1 [AV.sl [] 4 true]) [AV.msl bl (n - 1) 1 1 vl none] (S.set bl (.mu cs2 ex)) = some (.tup [], S.set bl (Blk.mu (splice cs2 (n - 1) [AV.sl [] 4 true]) ex)) := by
    show chk _ _ = _
    rw [chk_pos ⟨rfl, rfl⟩]
    show Option.bind (wr (S.set bl (.mu cs2 ex)) bl (n - 1) vl [AV.sl [] 4 true]) _ = _
    rw [hwr]; rfl
  simp [f56, enter, hclr, hne, s1, s2, s3, happ, s4, hwr]
  exact ⟨hfin, _, set_get hlt, hlen, htk⟩
def qc (q : Rat) : List AV := Zc q.num ++ Zc (q.den : Int)
theorem qc_nr (q : Rat) : (qc q).all nrc = true := rfl
theorem qc_fz (q : Rat) (S : Store) : (qc q).mapM (fzc S 5) = some (qc q) := rfl
def qcells (l : List Rat) : List AV := l.flatMap qc
theorem QR_qc (q : Rat) : QR q = .agg (qc q) := rfl
theorem qc_len (q : Rat) : (qc q).length = 4 := rfl
theorem qcells_len : ∀ (l : List Rat), (qcells l).length = 4 * l.length
  | [] => rfl
  | q :: l => by
    have := qcells_len l
    unfold qcells at this ⊢
    rw [List.flatMap_cons, List.length_append, this, qc_len, List.length_cons]; omega
theorem qcells_append (a b : List Rat) : qcells (a ++ b) = qcells a ++ qcells b := by
  unfold qcells; rw [List.flatMap_append]
theorem qcells_cons (q : Rat) (l : List Rat) : qcells (q :: l) = qc q ++ qcells l := rfl
theorem qcells_split {l : List Rat} {n : Nat} (h : n < l.length) : qcells l = qcells (l.take n) ++ (qc l[n] ++ qcells (l.drop (n + 1))) := by
  conv => lhs; rw [← List.take_append_drop n l, List.drop_eq_getElem_cons h]
  rw [qcells_append, qcells_cons]
theorem qtake_len {l : List Rat} {n : Nat} (h : n < l.length) : (qcells (l.take n)).length = 4 * n := by
  rw [qcells_len, List.length_take, Nat.min_eq_left (Nat.le_of_lt h)]
theorem rd_q {S : Store} {b : Nat} {l : List Rat} {ex : Bool} {n vl : Nat} (hS : S[b]? = some (.mu (qcells l) ex)) (hl : 4 * l.length = vl) (h : n < l.length) : rd S b (n * 4) vl 4 = some (qc l[n]) := by
  rw [rd_mu hS (by rw [qcells_len]; exact hl) (by omega), qcells_split h]
  congr 1
  have e : n * 4 = (qcells (l.take n)).length := by rw [qtake_len h]; omega
  rw [e, List.drop_left, List.take_append_of_le_length (by rw [qc_len]; exact Nat.le_refl _), List.take_of_length_le (by rw [qc_len]; exact Nat.le_refl _)]
theorem wr_q {S : Store} {b : Nat} {l : List Rat} {ex : Bool} {n vl : Nat} {q : Rat} (hS : S[b]? = some (.mu (qcells l) ex)) (hl : 4 * l.length = vl) (h : n < l.length) : wr S b (n * 4) vl (qc q) = some (S.set b (.mu (qcells (l.set n q)) ex)) := by
  rw [wr_mu hS (by rw [qcells_len]; exact hl) (by rw [qc_len]; omega)]
  congr 3
  have e : n * 4 = (qcells (l.take n)).length := by rw [qtake_len h]; omega
  have e2 : (n + 1) * 4 = (qcells (l.take n ++ [l[n]])).length := by rw [qcells_append, List.length_append, ← e, qcells_cons, List.length_append, qc_len]; simp [qcells]; omega
  unfold splice
  rw [qc_len]
  have e3 : n * 4 + 4 = (n + 1) * 4 := by omega
  rw [e3]
  conv => lhs; rw [qcells_split h]
  have e4 : qcells (l.take n) ++ (qc l[n] ++ qcells (l.drop (n + 1))) = qcells (l.take n ++ [l[n]]) ++ qcells (l.drop (n + 1)) := by
    rw [qcells_append, qcells_cons]; simp [qcells]
  conv => lhs; arg 2; arg 2; rw [e4, e2, List.drop_left]
  conv => lhs; arg 1; rw [e, List.take_left]
  rw [List.set_eq_take_append_cons_drop, if_pos h, qcells_append, qcells_cons]
def lessRow (c : Rat) (p l : List Rat) : List Rat := List.zipWith (fun x y => x - c * y) l p
def partRow (c : Rat) (p l : List Rat) (n : Nat) : List Rat := (lessRow c p l).take n ++ l.drop n
theorem lessRow_len {c : Rat} {p l : List Rat} {n : Nat} (hl : l.length = n) (hp : p.length = n) : (lessRow c p l).length = n := by simp [lessRow, hl, hp]
theorem partRow_len {c : Rat} {p l : List Rat} {m n : Nat} (hl : l.length = m) (hp : p.length = m) (hn : n ≤ m) : (partRow c p l n).length = m := by
  simp [partRow, lessRow_len hl hp, hl]; omega
theorem partRow_get {c : Rat} {p l : List Rat} {m n : Nat} (hl : l.length = m) (hp : p.length = m) (hn : n < m) : (partRow c p l n)[n]'(by rw [partRow_len hl hp (by omega)]; exact hn) = l[n] := by
  unfold partRow
  rw [List.getElem_append_right (by simp [lessRow_len hl hp]; omega)]
  simp [lessRow_len hl hp]
  congr 1; omega
theorem partRow_set {c : Rat} {p l : List Rat} {m n : Nat} (hl : l.length = m) (hp : p.length = m) (hn : n < m) : (partRow c p l n).set n (l[n] - c * p[n]) = partRow c p l (n + 1) := by
  have hL := lessRow_len (c := c) hl hp
  unfold partRow
  have e : ((lessRow c p l).take n).length = n := by rw [List.length_take, hL]; omega
  rw [List.set_append_right _ _ (by omega), e, Nat.sub_self, List.drop_eq_getElem_cons (by omega : n < l.length), List.set_cons_zero]
  rw [List.take_succ_eq_append_getElem (by omega), List.append_assoc]
  simp [lessRow]
theorem partRow_full {c : Rat} {p l : List Rat} {m : Nat} (hl : l.length = m) (hp : p.length = m) : partRow c p l m = lessRow c p l := by
  unfold partRow
  rw [List.take_of_length_le (by rw [lessRow_len hl hp]; exact Nat.le_refl _), List.drop_of_length_le (by omega), List.append_nil]
set_option maxRecDepth 20000 in
theorem ind_row {l p : List Rat} {c : Rat} (hl : l.length = 8) (hp : p.length = 8) {K : Nat} (hRl : ∀ q ∈ l, RB q K) (hRp : ∀ q ∈ p, RB q K) (hRc : RB c (2 * K)) (hK : 64 * K ≤ Lim)
    {S0 : Store} {base lb pb cb : Nat} {exl exp exc : Bool} (hlb : lb < base) (hpb : pb < base) (hcb : cb < base) (hne1 : pb ≠ lb) (hne2 : cb ≠ lb)
    (hSp : S0[pb]? = some (.mu (qcells p) exp)) (hSc : S0[cb]? = some (.mu (qc c) exc)) {v3 v9 v38 v55 v56 v57 : AV} {Q : FQ}
    (h1 : ∀ (tm : List AV) (ht : tm.length = 95) (S' : Store), tm[3] = v3 → tm[9] = v9 → tm[11] = .msl pb 0 8 4 32 none → tm[38] = v38 → tm[55] = v55 → tm[56] = v56 → tm[57] = v57 →
      S'[lb]? = some (.mu (qcells (lessRow c p l)) exl) → (∀ b, b < base → b ≠ lb → S'[b]? = S0[b]?) → Q (.ex 8) ⟨tm, S'⟩) :
    ∀ (m n : Nat), n + m = 8 → ∀ (S : Store), S[lb]? = some (.mu (qcells (partRow c p l n)) exl) → (∀ b, b < base → b ≠ lb → S[b]? = S0[b]?) →
    wpL RT f45_2m base f45_2 ⟨[.any, .any, .any, v3, .any, .any, .any, .any, .any, v9, .any, .msl pb 0 8 4 32 none, .any, .msl lb 0 8 4 32 none, .mptr cb 0 4] ++ List.replicate 23 .any ++ [v38] ++ List.replicate 16 .any ++ [v55, v56, v57] ++ List.replicate 16 .any ++ [.int .i64 8, .int .i64 (n : Int)] ++ List.replicate 19 .any, S⟩ Q := by
  intro m
  induction m with
  | zero =>
    intro n hn S hS hk
    have hn' : n = 8 := by omega
    subst hn'
    rw [partRow_full hl hp] at hS
    rw [wpL_step]
    generalize hK' : loopQ RT f45_2m base f45_2 Q = KK
    simp [f45_2, List.replicate]
    subst hK'
    exact h1 _ rfl S rfl rfl rfl rfl rfl rfl rfl hS hk
  | succ m ih =>
    intro n hn S hS hk
    have hn8 : n < 8 := by omega
    have hlt : (n : Int) < 8 := by omega
    have hw : IntKind.i64.wrap ((n : Int) + 1) = ((n + 1 : Nat) : Int) := wrap_i64 (by omega) (by omega)
    have hpl := partRow_len (c := c) hl hp (n := n) (by omega)
    have r1 := rd_q (n := n) (vl := 32) hS (by omega) (by omega)
    rw [partRow_get hl hp hn8] at r1
    have hSp' : S[pb]? = some (.mu (qcells p) exp) := by rw [hk pb hpb hne1]; exact hSp
    have hSc' : S[cb]? = some (.mu (qc c) exc) := by rw [hk cb hcb hne2]; exact hSc
    have r2 := rd_q (n := n) (vl := 32) hSp' (by omega) (by omega)
    have r3 : rd S cb 0 4 4 = some (qc c) := by rw [rd_mu (vl := 4) hSc' rfl (by omega)]; rfl
    have hRpn := hRp p[n] (List.getElem_mem (by omega))
    have hRln := hRl l[n] (List.getElem_mem (by omega))
    have m1 := run_rMul (a := c) (b := p[n]) (k := 2 * K) hRc (hRpn.mono (by omega)) (by omega)
    have hm := RB.mul hRc (hRpn.mono (l := 2 * K) (by omega))
    have m2 := run_rSub (a := l[n]) (b := c * p[n]) (k := 4 * K) (hRln.mono (by omega)) (hm.mono (by omega)) (by have : Lim = 1099511627776 := rfl; omega)
    have w1 := wr_q (n := n) (vl := 32) (q := l[n] - c * p[n]) hS (by omega) (by omega)
    rw [partRow_set hl hp hn8] at w1
    have hih := ih (n + 1) (by omega)
    rw [QR_qc, QR_qc] at m1 m2
    rw [QR_qc] at m1 m2
    have g1 := qc_nr c
    have g2 := qc_nr p[n]
    have g3 := qc_nr l[n]
    have g4 := qc_nr (c * p[n])
    have f1 := qc_fz c S
    have f2 := qc_fz p[n] S
    have f3 := qc_fz l[n] S
    have f4 := qc_fz (c * p[n]) S
    have q1 := qc_len c
    have q2 := qc_len p[n]
    have q3 := qc_len l[n]
    have q4 := qc_len (l[n] - c * p[n])
    generalize qc (l[n] - c * p[n]) = z at *
    generalize qc (c * p[n]) = y at *
    generalize qc l[n] = x1 at *
    generalize qc p[n] = x2 at *
    generalize qc c = x3 at *
    rw [wpL_step]
    generalize hK' : loopQ RT f45_2m base f45_2 Q = KK
    simp [f45_2, List.replicate, hlt, r1, r2, r3, m1, m2, w1, hw, f1, f2, f3, f4, after_nr, nr1, g1, g2, g3, g4, q1, q2, q3, q4]
    subst hK'
    simp [head, f45_2m, mask]
    have hltS : lb < S.length := lt_of_get hS
    have key : ∀ vs X, (trunc base vs (S.set lb X))[lb]? = some X ∧ ∀ b, b < base → b ≠ lb → (trunc base vs (S.set lb X))[b]? = S0[b]? := fun vs X =>
      ⟨by rw [trunc_get (.inl hlb), set_get hltS], fun b hb hn => by rw [trunc_get (.inl hb), List.getElem?_set_ne (by omega), hk b hb hn]⟩
    generalize hT : trunc base _ (S.set lb _) = S2
    simpa [f45_2m, List.replicate] using hih S2 (by rw [← hT]; exact (key _ _).1) (by rw [← hT]; exact (key _ _).2)
def rowAV (b : Nat) : AV := .msl b 0 8 4 32 none
structure RowsAt (S : Store) (rb : List Nat) (rows : List (List Rat)) : Prop where
  len : rb.length = rows.length
  at' : ∀ (i b : Nat) (l : List Rat), rb[i]? = some b → rows[i]? = some l → S[b]? = some (.mu (qcells l) false)
def clearRow (k : Nat) (p l : List Rat) : List Rat := lessRow (l.getD k 0 / p.getD k 0) p l
def partRows (k : Nat) (p : List Rat) (rows : List (List Rat)) (n : Nat) : List (List Rat) := (rows.map (clearRow k p)).take n ++ rows.drop n
theorem partRows_len {k : Nat} {p : List Rat} {rows : List (List Rat)} {n : Nat} (h : n ≤ rows.length) : (partRows k p rows n).length = rows.length := by
  simp [partRows]; omega
theorem partRows_get {k : Nat} {p : List Rat} {rows : List (List Rat)} {n i : Nat} (h : n ≤ rows.length) : (partRows k p rows n)[i]? = if i < n then (rows[i]?).map (clearRow k p) else rows[i]? := by
  unfold partRows
  have e : ((rows.map (clearRow k p)).take n).length = n := by rw [List.length_take, List.length_map]; omega
  by_cases hi : i < n
  · rw [if_pos hi, List.getElem?_append_left (by omega), List.getElem?_take, if_pos hi, List.getElem?_map]
  · rw [if_neg hi, List.getElem?_append_right (by omega), e, List.getElem?_drop]
    congr 1; omega
theorem rd_rowAV {S : Store} {lb : Nat} {lcs : List AV} {rb : List Nat} {vl i b : Nat} (hS : S[lb]? = some (.mu lcs false)) (hl : lcs.length = vl) (ht : lcs.take rb.length = rb.map rowAV) (hb : rb[i]? = some b) : rd S lb i vl 1 = some [rowAV b] := by
  have hi : i < rb.length := (List.getElem?_eq_some_iff.1 hb).1
  have hn : rb.length ≤ vl := by
    have := congrArg List.length ht
    rw [List.length_take, List.length_map] at this; omega
  have h1 : lcs[i]? = some (rowAV b) := by
    have : (lcs.take rb.length)[i]? = some (rowAV b) := by rw [ht, List.getElem?_map, hb]; rfl
    rw [List.getElem?_take, if_pos hi] at this; exact this
  rw [rd_mu hS hl (by omega)]
  obtain ⟨hlt, h2⟩ := List.getElem?_eq_some_iff.1 h1
  rw [List.drop_eq_getElem_cons hlt, h2]; rfl
set_option maxRecDepth 20000 in
theorem ind_rows {rows : List (List Rat)} {p : List Rat} {k : Nat} (hk8 : k < 8) (hr8 : ∀ l ∈ rows, l.length = 8) (hp : p.length = 8) (hpk : p.getD k 0 ≠ 0) {K : Nat} (hRr : ∀ l ∈ rows, ∀ q ∈ l, RB q K) (hRp : ∀ q ∈ p, RB q K) (hK : 64 * K ≤ Lim) (hK1 : 1 ≤ K)
    {base lb pb kb vl : Nat} {rb : List Nat} {lcs : List AV} {exk : Bool} (hlb : lb < base) (hpb : pb < base) (hkb : kb < base) (hrb : ∀ b ∈ rb, b < base) (hnd : rb.Nodup) (hpn : pb ∉ rb) (hkn : kb ∉ rb) (hln : lb ∉ rb)
    (hlcs : lcs.length = vl) (hlt : lcs.take rb.length = rb.map rowAV) (hlen : rb.length = rows.length) (hrl : rows.length < 1000000) {Q : FQ}
    (h1 : ∀ (tm : List AV) (ht : tm.length = 95) (S' : Store), tm[3] = .msl lb 0 rb.length 1 vl none → tm[38] = .int .i64 (k : Int) →
      S'[lb]? = some (.mu lcs false) → RowsAt S' rb (rows.map (clearRow k p)) → Q (.ex 6) ⟨tm, S'⟩) :
    ∀ (m n : Nat), n + m = rows.length → ∀ (S : Store), S[lb]? = some (.mu lcs false) → S[pb]? = some (.mu (qcells p) false) → S[kb]? = some (.mu [.int .i64 (k : Int)] exk) → RowsAt S rb (partRows k p rows n) →
    wpL RT f45_3m base f45_3 ⟨[.any, .any, .any, .msl lb 0 rb.length 1 vl none, .any, .any, .any, .any, .any, .mptr kb 0 1, .any, .msl pb 0 8 4 32 none] ++ List.replicate 26 .any ++ [.int .i64 (k : Int)] ++ List.replicate 16 .any ++ [.msl lb 0 rb.length 1 vl none, .int .i64 (rows.length : Int), .int .i64 (n : Int)] ++ List.replicate 37 .any, S⟩ Q := by
  intro m
  induction m with
  | zero =>
    intro n hn S hS1 hS2 hS3 hR
    have hn' : n = rows.length := by omega
    subst hn'
    have e : partRows k p rows rows.length = rows.map (clearRow k p) := by
      unfold partRows
      rw [List.take_of_length_le (by simp), List.drop_of_length_le (Nat.le_refl _), List.append_nil]
    rw [e] at hR
    rw [wpL_step]
    generalize hK' : loopQ RT f45_3m base f45_3 Q = KK
    simp [f45_3, List.replicate]
    subst hK'
    exact h1 _ rfl S rfl rfl hS1 hR
  | succ m ih =>
    intro n hn S hS1 hS2 hS3 hR
    have hn1 : n < rows.length := by omega
    have hlt' : (n : Int) < (rows.length : Int) := by omega
    have hw : IntKind.i64.wrap ((n : Int) + 1) = ((n + 1 : Nat) : Int) := wrap_i64 (by omega) (by omega)
    have hvl : rb.length ≤ vl := by
      have := congrArg List.length hlt
      rw [List.length_take, List.length_map] at this; omega
    have hb := List.getElem?_eq_getElem (l := rb) (i := n) (by omega)
    have hbm : rb[n] ∈ rb := List.getElem_mem _
    have hr := List.getElem?_eq_getElem hn1
    have hrm : rows[n] ∈ rows := List.getElem_mem _
    have hrow := hR.at' n rb[n] rows[n] hb (by rw [partRows_get (by omega), if_neg (by omega), hr])
    have hl8 := hr8 _ hrm
    have hRl := hRr _ hrm
    have rd1 := rd_rowAV hS1 hlcs hlt hb
    have hinj : ∀ i, rb[i]? = some rb[n] → i = n := fun i hi => by
      obtain ⟨hi1, hi2⟩ := List.getElem?_eq_some_iff.1 hi
      rcases Nat.lt_trichotomy i n with h | h | h
      · exact absurd hi2 (List.pairwise_iff_getElem.1 hnd i n hi1 (by omega) h)
      · exact h
      · exact absurd hi2.symm (List.pairwise_iff_getElem.1 hnd n i (by omega) hi1 h)
    have hset : ∀ S', S'[rb[n]]? = some (.mu (qcells (clearRow k p rows[n])) false) → (∀ b, b ∈ rb → b ≠ rb[n] → S'[b]? = S[b]?) → RowsAt S' rb (partRows k p rows (n + 1)) := fun S' hs1 hs2 => by
      refine ⟨by rw [partRows_len (by omega)]; exact hlen, fun i b l hib hil => ?_⟩
      rw [partRows_get (by omega)] at hil
      by_cases hi : i = n
      · subst hi
        rw [if_pos (by omega), hr] at hil
        rw [hb] at hib
        cases hib; cases hil; exact hs1
      · have hbn : b ≠ rb[n] := fun hc => hi (hinj i (by rw [hib, hc]))
        rw [hs2 b (List.mem_of_getElem? hib) hbn]
        refine hR.at' i b l hib ?_
        rw [partRows_get (by omega)]
        by_cases hi2 : i < n
        · rw [if_pos hi2]; rw [if_pos (by omega)] at hil; exact hil
        · rw [if_neg hi2]; rw [if_neg (by omega)] at hil; exact hil
    have hbb : rb[n] < base := hrb _ hbm
    have hrS : ∀ b, b ∈ rb → b < S.length := fun b hb => by
      obtain ⟨i, hi, he⟩ := List.getElem_of_mem hb
      have hi2 : i < (partRows k p rows n).length := by rw [← hR.len]; exact hi
      exact lt_of_get (hR.at' i b _ (by rw [← he]; exact List.getElem?_eq_getElem hi) (List.getElem?_eq_getElem hi2))
    have n1 : pb ≠ rb[n] := fun h => hpn (h ▸ hbm)
    have n2 : kb ≠ rb[n] := fun h => hkn (h ▸ hbm)
    have n3 : lb ≠ rb[n] := fun h => hln (h ▸ hbm)
    have hih := ih (n + 1) (by omega)
    clear ih hR hinj hb hbm
    unfold clearRow at hset
    generalize rb[n] = b at *
    generalize rows[n] = l at *
    have hlk : l.getD k 0 = l[k]'(by omega) := by rw [List.getD_eq_getElem?_getD, List.getElem?_eq_getElem (by omega)]; rfl
    have hpk' : p.getD k 0 = p[k]'(by omega) := by rw [List.getD_eq_getElem?_getD, List.getElem?_eq_getElem (by omega)]; rfl
    have hRa : RB (l.getD k 0) K := by rw [hlk]; exact hRl _ (List.getElem_mem _)
    have hRb : RB (p.getD k 0) K := by rw [hpk']; exact hRp _ (List.getElem_mem _)
    have hLim : Lim = 1099511627776 := rfl
    have d1 := run_rDiv hRa hRb (by omega) hpk
    have hRc := RB.div hRa hRb
    have l1 := rd_app (x := .mu [.bool false, .sl [] 1 true, .bool false, .sl [] 1 true] true) (off := 0) (vl := 1) (n := 1) (lt_of_get hS3)
    have l2 := rd_app (x := .mu [.bool false, .sl [] 1 true, .bool false, .sl [] 1 true] true) (off := k * 4) (vl := 32) (n := 4) (lt_of_get hrow)
    have l3 := rd_app (x := .mu [.bool false, .sl [] 1 true, .bool false, .sl [] 1 true] true) (off := k * 4) (vl := 32) (n := 4) (lt_of_get hS2)
    rw [rd_mu (vl := 1) (off := 0) (n := 1) hS3 rfl (by omega)] at l1
    rw [rd_q hrow (by omega) (by omega), ← hlk] at l2
    rw [rd_q hS2 (by omega) (by omega), ← hpk'] at l3
    have hkk : (k : Int) < 8 := by omega
    have row := fun (Q : FQ) => ind_row (Q := Q) (l := l) (p := p) (c := l.getD k 0 / p.getD k 0) hl8 hp hRl hRp hRc hK (S0 := S ++ [.mu (qc (l.getD k 0 / p.getD k 0)) true]) (base := S.length + 1) (lb := b) (pb := pb) (cb := S.length) (exl := false) (exp := false) (exc := true)
      (Nat.lt_succ_of_lt (lt_of_get hrow)) (Nat.lt_succ_of_lt (lt_of_get hS2)) (Nat.lt_succ_self _) n1 (Nat.ne_of_gt (lt_of_get hrow)) (by rw [get_app (lt_of_get hS2)]; exact hS2) get_last
      (v3 := .msl lb 0 rb.length 1 vl none) (v9 := .mptr kb 0 1) (v38 := .int .i64 (k : Int)) (v55 := .msl lb 0 rb.length 1 vl none) (v56 := .int .i64 (rows.length : Int)) (v57 := .int .i64 (n : Int))
    rw [QR_qc, QR_qc, QR_qc] at d1
    have f1 := qc_fz (l.getD k 0) (S ++ [.mu [.bool false, .sl [] 1 true, .bool false, .sl [] 1 true] true])
    have f2 := qc_fz (p.getD k 0) (S ++ [.mu [.bool false, .sl [] 1 true, .bool false, .sl [] 1 true] true])
    have g1 := qc_nr (l.getD k 0)
    have g2 := qc_nr (p.getD k 0)
    have q1 := qc_len (l.getD k 0)
    have q2 := qc_len (p.getD k 0)
    have q3 := qc_len (l.getD k 0 / p.getD k 0)
    generalize l.getD k 0 / p.getD k 0 = c at *
    generalize l.getD k 0 = a at *
    generalize p.getD k 0 = a' at *
    generalize qc c = cc at *
    generalize qc a = ac at *
    generalize qc a' = ac' at *
    have hbS := lt_of_get hrow
    have hpS := lt_of_get hS2
    have hkS := lt_of_get hS3
    have hlS := lt_of_get hS1
    rw [wpL_step]
    generalize hK' : loopQ RT f45_3m base f45_3 Q = KK
    simp [f45_3, List.replicate, hlt', rd1, hlen, rowAV, hkk, l1, l2, l3, d1, f1, f2, after_nr, nr1, g1, g2, q1, q2, q3, chk, splice]
    have hT : ∀ vs, trunc (S.length + 1) vs (S ++ [.mu cc true]) = S ++ [.mu cc true] := fun vs => trunc_len (by simp)
    simp [head, f45_2m, mask, hT]
    rw [hlen] at row
    have r2 := fun Q h => row Q h 8 0 rfl (S ++ [.mu cc true]) (by rw [get_app hbS]; exact hrow) (fun _ _ _ => rfl)
    clear row
    simp only [List.replicate, List.cons_append, List.nil_append, Int.natCast_zero] at r2
    refine r2 _ ?_
    intro tm ht S' t3 t9 t11 t38 t55 t56 t57 hs1 hs2
    simp [ht, t3, t9, t11, t38, t55, t56, t57, hw]
    subst hK'
    simp only [loopQ_nrm, head]
    rw [mask_of (n := 95) (by simp [ht])]
    simp [f45_3m, ht, t3, t9, t11, t38, t55, t56, t57, List.range_succ]
    generalize hT2 : trunc base _ S' = S2
    have k1 : ∀ b0, b0 < base → b0 < S.length → b0 ≠ b → S2[b0]? = S[b0]? := fun b0 h1 h2 h3 => by
      rw [← hT2, trunc_get (.inl h1), hs2 b0 (by omega) h3, get_app h2]
    have k2 : S2[b]? = some (.mu (qcells (lessRow c p l)) false) := by rw [← hT2, trunc_get (.inl hbb), hs1]
    have r3 := hih S2 (by rw [k1 lb hlb hlS n3]; exact hS1) (by rw [k1 pb hpb hpS n1]; exact hS2) (by rw [k1 kb hkb hkS n2]; exact hS3) (hset S2 k2 fun b' h1 h2 => k1 b' (hrb b' h1) (hrS b' h1) h2)
    simpa [f45_3m, List.replicate, hlen] using r3
theorem idxG_eq {α : Type} (p : α → Bool) : ∀ (l : List α) (n : Nat), idxG p l n = match l.findIdx? p with | none => -1 | some i => ((n + i : Nat) : Int)
  | [], n => rfl
  | a :: l, n => by
    rw [idxG, List.findIdx?_cons]
    cases h : p a with
    | true => simp
    | false =>
      rw [if_neg (by simp), idxG_eq p l (n + 1)]
      cases l.findIdx? p with
      | none => simp
      | some i =>
        show ((n + 1 + i : Nat) : Int) = ((n + (i + 1) : Nat) : Int)
        congr 1; omega
def indR : Nat → Nat → List (List Rat) → Bool
  | 0, _, _ => true
  | m + 1, k, rows => match rows.findIdx? (qnz k) with
    | none => false
    | some i => indR m (k + 1) ((rows.eraseIdx i).map (clearRow k (rows.getD i [])))
theorem qcells_fz (S : Store) (f : Nat) : ∀ (l : List Rat), (qcells l).mapM (fzc S f) = some (qcells l)
  | [] => rfl
  | q :: l => by
    rw [qcells_cons, List.mapM_append, qcells_fz S f l]
    have : (qc q).mapM (fzc S f) = some (qc q) := by cases f <;> rfl
    rw [this]; rfl
theorem qcells_chunk : ∀ (l : List Rat), chunk 4 l.length (qcells l) = l.map QR
  | [] => rfl
  | q :: l => by
    rw [List.length_cons, chunk, if_neg (by decide), qcells_cons]
    have h1 : (qc q ++ qcells l).take 4 = qc q := List.take_left' (qc_len q)
    have h2 : (qc q ++ qcells l).drop 4 = qcells l := List.drop_left' (qc_len q)
    rw [h1, h2, qcells_chunk l, List.map_cons, QR_qc]
theorem fz_row {S : Store} {b f : Nat} {l : List Rat} {ex : Bool} (hS : S[b]? = some (.mu (qcells l) ex)) (hl : l.length = 8) : fzc S (f + 1) (rowAV b) = some (QRow l) := by
  have e : (qcells l).length = 32 := by rw [qcells_len, hl]
  unfold rowAV
  rw [fzc, rd_mu hS e (by omega)]
  simp only [Option.bind_some, List.drop_zero]
  rw [List.take_of_length_le (by omega), qcells_fz]
  have := qcells_chunk l
  rw [hl] at this
  simp only [Option.bind_some, this]; rfl
theorem mapM_each {α β : Type} {f : α → Option β} : ∀ {l : List α} {r : List β}, l.length = r.length → (∀ (i : Nat) (a : α) (b : β), l[i]? = some a → r[i]? = some b → f a = some b) → l.mapM f = some r
  | [], [], _, _ => rfl
  | a :: l, b :: r, hl, h => by
    have h0 := h 0 a b rfl rfl
    have := mapM_each (l := l) (r := r) (by simpa using hl) fun i x y hx hy => h (i + 1) x y (by simpa using hx) (by simpa using hy)
    rw [List.mapM_cons, h0, this]; rfl
theorem chunk_one : ∀ (l : List AV), chunk 1 l.length l = l
  | [] => rfl
  | a :: l => by
    rw [List.length_cons, chunk, if_pos rfl]
    simp [chunk_one l]
theorem fz_rows {S : Store} {lb vl : Nat} {lcs : List AV} {rb : List Nat} {rows : List (List Rat)} (hS : S[lb]? = some (.mu lcs false)) (hl : lcs.length = vl) (ht : lcs.take rb.length = rb.map rowAV) (hR : RowsAt S rb rows) (h8 : ∀ l ∈ rows, l.length = 8) :
    fz1 S (.msl lb 0 rb.length 1 vl none) = some (QRows rows) := by
  have hn : rb.length ≤ vl := by
    have := congrArg List.length ht
    rw [List.length_take, List.length_map] at this; omega
  show fzc S 6 _ = _
  rw [fzc, rd_mu hS hl (by omega), List.drop_zero, Nat.mul_one, ht]
  simp only [Option.bind_some]
  rw [mapM_each (r := rows.map QRow) (by simp [hR.len])]
  · simp only [Option.bind_some]
    have e : rb.length = (rows.map QRow).length := by simp [hR.len]
    rw [e, chunk_one]; rfl
  · intro i a b ha hb
    rw [List.getElem?_map] at ha hb
    cases h1 : rb[i]? with
    | none => rw [h1] at ha; cases ha
    | some x =>
      cases h2 : rows[i]? with
      | none => rw [h2] at hb; cases hb
      | some l =>
        rw [h1] at ha; rw [h2] at hb
        cases ha; cases hb
        exact fz_row (hR.at' i x l h1 h2) (h8 l (List.mem_of_getElem? h2))
theorem RowsAt.erase {S : Store} {rb : List Nat} {rows : List (List Rat)} (h : RowsAt S rb rows) (i : Nat) : RowsAt S (rb.eraseIdx i) (rows.eraseIdx i) := by
  refine ⟨by rw [List.length_eraseIdx, List.length_eraseIdx, h.len], fun j b l hb hl => ?_⟩
  rw [List.getElem?_eraseIdx] at hb hl
  split at hb
  · rename_i c; rw [if_pos c] at hl; exact h.at' _ b l hb hl
  · rename_i c; rw [if_neg c] at hl; exact h.at' _ b l hb hl
theorem RowsAt.keep {S S' : Store} {rb : List Nat} {rows : List (List Rat)} (h : RowsAt S rb rows) (hk : ∀ b ∈ rb, S'[b]? = S[b]?) : RowsAt S' rb rows :=
  ⟨h.len, fun i b l hb hl => by rw [hk b (List.mem_of_getElem? hb)]; exact h.at' i b l hb hl⟩
theorem RowsAt.lt {S : Store} {rb : List Nat} {rows : List (List Rat)} (h : RowsAt S rb rows) : ∀ b ∈ rb, b < S.length := fun b hb => by
  obtain ⟨i, hi, he⟩ := List.getElem_of_mem hb
  have hi2 : i < rows.length := by rw [← h.len]; exact hi
  exact lt_of_get (h.at' i b _ (by rw [← he]; exact List.getElem?_eq_getElem hi) (List.getElem?_eq_getElem hi2))
theorem nodup_erase {α : Type} {l : List α} (h : l.Nodup) {i : Nat} (hi : i < l.length) : l[i] ∉ l.eraseIdx i := fun hm => by
  obtain ⟨j, hj, he⟩ := List.getElem_of_mem hm
  rw [List.length_eraseIdx, if_pos hi] at hj
  rw [List.getElem_eraseIdx] at he
  split at he
  · exact List.pairwise_iff_getElem.1 h j i (by omega) hi (by omega) he
  · exact List.pairwise_iff_getElem.1 h i (j + 1) hi (by omega) (by omega) he.symm
theorem RB_less {l p : List Rat} {c : Rat} {K : Nat} (hl : ∀ q ∈ l, RB q K) (hp : ∀ q ∈ p, RB q K) (hc : RB c (2 * K)) : ∀ q ∈ lessRow c p l, RB q (8 * K + 1) := fun q hq => by
  unfold lessRow at hq
  obtain ⟨i, hi, he⟩ := List.getElem_of_mem hq
  rw [List.getElem_zipWith] at he
  rw [List.length_zipWith] at hi
  rw [← he]
  have h1 := hl l[i] (List.getElem_mem _)
  have h2 := hp p[i] (List.getElem_mem _)
  have := RB.sub (h1.mono (l := 4 * K) (by omega)) ((RB.mul hc (h2.mono (l := 2 * K) (by omega))).mono (l := 4 * K) (by omega))
  exact this.mono (by omega)
theorem RB_clear {l p : List Rat} {k K : Nat} (hkl : k < l.length) (hkp : k < p.length) (hl : ∀ q ∈ l, RB q K) (hp : ∀ q ∈ p, RB q K) : ∀ q ∈ clearRow k p l, RB q (8 * K + 1) := by
  refine RB_less hl hp (RB.div ?_ ?_)
  · rw [List.getD_eq_getElem?_getD, List.getElem?_eq_getElem hkl]; exact hl _ (List.getElem_mem _)
  · rw [List.getD_eq_getElem?_getD, List.getElem?_eq_getElem hkp]; exact hp _ (List.getElem_mem _)
theorem map_erase {α β : Type} (f : α → β) : ∀ (l : List α) (i : Nat), (l.map f).eraseIdx i = (l.eraseIdx i).map f
  | [], i => rfl
  | a :: l, 0 => rfl
  | a :: l, i + 1 => by simp [map_erase f l i]
set_option maxRecDepth 20000 in
theorem ind_cols {base lb vl : Nat} (hlb : lb < base) (hvl : vl < 1000000) {Q : FQ} :
    ∀ (m k : Nat), k + m = 8 → ∀ (rows : List (List Rat)) (rb : List Nat) (lcs : List AV) (K : Nat) (S : Store), (∀ l ∈ rows, l.length = 8) → (∀ l ∈ rows, ∀ q ∈ l, RB q K) → 1 ≤ K → 64 * (K * 16 ^ m) ≤ Lim →
    S[lb]? = some (.mu lcs false) → lcs.length = vl → lcs.take rb.length = rb.map rowAV → RowsAt S rb rows → (∀ b ∈ rb, b < base) → rb.Nodup → lb ∉ rb →
    (∀ (tm : List AV) (ht : tm.length = 95) (S' : Store), indR m k rows = true → Q (.ex 4) ⟨tm, S'⟩) →
    (∀ (tm : List AV) (ht : tm.length = 95) (S' : Store), tm[2] = .bool false → indR m k rows = false → Q .ret ⟨tm, S'⟩) →
    wpL RT f45_4m base f45_4 ⟨[.any, .any, .any, .msl lb 0 rb.length 1 vl none] ++ List.replicate 34 .any ++ [.int .i64 (k : Int)] ++ List.replicate 56 .any, S⟩ Q := by
  intro m
  induction m with
  | zero =>
    intro k hk rows rb lcs K S h8 hB hK1 hK hS hl ht hR hrb hnd hln q1 q2
    have hk' : k = 8 := by omega
    subst hk'
    rw [wpL_step]
    generalize hK' : loopQ RT f45_4m base f45_4 Q = KK
    simp [f45_4, List.replicate]
    subst hK'
    exact q1 _ rfl S rfl
  | succ m ih =>
    intro k hk rows rb lcs K S h8 hB hK1 hK hS hl ht hR hrb hnd hln q1 q2
    have hk8 : k < 8 := by omega
    have hlt' : (k : Int) < 8 := by omega
    have hw : IntKind.i64.wrap ((k : Int) + 1) = ((k + 1 : Nat) : Int) := wrap_i64 (by omega) (by omega)
    have hn : rb.length ≤ vl := by
      have := congrArg List.length ht
      rw [List.length_take, List.length_map] at this; omega
    have hlS := lt_of_get hS
    have hlen := hR.len
    have hpow : (16 : Nat) ^ (m + 1) = 16 * 16 ^ m := by rw [Nat.pow_succ]; omega
    have hpos : 1 ≤ (16 : Nat) ^ m := Nat.pow_pos (by omega)
    rw [hpow] at hK
    have hK64 : 64 * K ≤ Lim := by
      have : K * 1 ≤ K * (16 * 16 ^ m) := Nat.mul_le_mul_left K (by omega)
      omega
    have hKn : 64 * ((8 * K + 1) * 16 ^ m) ≤ Lim := by
      have : (8 * K + 1) * 16 ^ m ≤ (K * 16) * 16 ^ m := Nat.mul_le_mul_right _ (by omega)
      rw [Nat.mul_assoc] at this; omega
    -- the store with k's cell
    have hS1 : (S ++ [Blk.mu [.int .i64 (k : Int)] true])[lb]? = some (.mu lcs false) := by rw [get_app hlS]; exact hS
    have hR1 : RowsAt (S ++ [Blk.mu [.int .i64 (k : Int)] true]) rb rows := hR.keep fun b hb => get_app (hR.lt b hb)
    have hz : fzc _ 6 _ = _ := fz_rows hS1 hl ht hR1 h8
    have hzf : fzc (S ++ [Blk.mu [.int .i64 (k : Int)] true]) 5 (.mptr S.length 0 1) = some (.fptr [.int .i64 (k : Int)]) := by
      rw [fzc, rd_last]
      simp [fzc, chk]
    have hpv := run_pivot h8 (by omega) hk8
    rw [idxG_eq] at hpv
    simp only [indR] at q1 q2
    cases hf : rows.findIdx? (qnz k) with
    | none =>
      rw [hf] at hpv q1 q2
      simp only at hpv
      rw [wpL_step]
      generalize hK' : loopQ RT f45_4m base f45_4 Q = KK
      simp [f45_4, List.replicate, hlt', wr_last, chk, splice, hz, hzf, hpv]
      subst hK'
      exact q2 _ rfl _ rfl rfl
    | some i =>
      rw [hf] at hpv q1 q2
      simp only [Nat.zero_add] at hpv q1 q2
      obtain ⟨hi, hpi, _⟩ := List.findIdx?_eq_some_iff_getElem.1 hf
      have hi' : i < rb.length := by omega
      have hget := List.getElem?_eq_getElem hi'
      have rd1 := rd_rowAV hS1 hl ht hget
      have hi0 : ¬ (i : Int) < 0 := by omega
      have hil : (i : Int) < (rb.length : Int) := by omega
      have hw2 : IntKind.i64.wrap ((i : Int) + 1) = ((i + 1 : Nat) : Int) := wrap_i64 (by omega) (by omega)
      have del := run_Delete hS1 hl hn hi' hvl
      rw [wpL_step]
      generalize hK' : loopQ RT f45_4m base f45_4 Q = KK
      simp [f45_4, List.replicate, hlt', wr_last, chk, splice, hz, hzf, hpv, rd1, hi0, hil, hw2]
      refine contQ_sh (wpF_mono del ?_)
      rintro r S2 ⟨rfl, hL, hk2, lcs2, hS2, hl2, ht2⟩
      rw [trunc_len (Nat.le_of_eq hL)]
      have hlL : lb < S2.length := lt_of_get hS2
      have hLen : S2.length = S.length + 1 := by rw [hL]; simp
      have hrl2 : (rb.eraseIdx i).length = rb.length - 1 := by rw [List.length_eraseIdx, if_pos hi']
      have hrows2 : (rows.eraseIdx i).length = rb.length - 1 := by rw [List.length_eraseIdx, if_pos hi, hlen]
      have ht3 : lcs2.take (rb.eraseIdx i).length = (rb.eraseIdx i).map rowAV := by rw [hrl2, ht2, ht, map_erase]
      have hR2 : RowsAt S2 rb rows := hR1.keep fun b hb => hk2 b fun h => hln (h ▸ hb)
      have hR3 := hR2.erase i
      have hp8 := h8 rows[i] (List.getElem_mem _)
      have hpB := hB rows[i] (List.getElem_mem _)
      have hpk : rows[i].getD k 0 ≠ 0 := of_decide_eq_true hpi
      have hge : rows.getD i [] = rows[i] := by rw [List.getD_eq_getElem?_getD, List.getElem?_eq_getElem hi]; rfl
      rw [hge] at q1 q2
      have h8e : ∀ l ∈ rows.eraseIdx i, l.length = 8 := fun l hl => h8 l (List.mem_of_mem_eraseIdx hl)
      have hBe : ∀ l ∈ rows.eraseIdx i, ∀ q ∈ l, RB q K := fun l hl => hB l (List.mem_of_mem_eraseIdx hl)
      have hrbe : ∀ b ∈ rb.eraseIdx i, b ∈ rb := fun b hb => List.mem_of_mem_eraseIdx hb
      have hpS : S2[rb[i]]? = some (.mu (qcells rows[i]) false) := hR2.at' i _ _ hget (List.getElem?_eq_getElem hi)
      have hkS : S2[S.length]? = some (.mu [.int .i64 (k : Int)] true) := by rw [hk2 _ (Nat.ne_of_gt hlS)]; exact get_last
      have cols := fun (Q : FQ) => ind_rows (Q := Q) hk8 h8e hp8 hpk hBe hpB hK64 hK1 (base := S2.length) (lb := lb) (pb := rb[i]) (kb := S.length) (vl := vl) (rb := rb.eraseIdx i) (lcs := lcs2) (exk := true)
        hlL (lt_of_get hpS) (lt_of_get hkS) (fun b hb => hR2.lt b (hrbe b hb)) (hnd.sublist (List.eraseIdx_sublist _ _)) (nodup_erase hnd hi') (fun hm => Nat.lt_irrefl _ (hR.lt _ (hrbe _ hm))) (fun hm => hln (hrbe _ hm)) hl2 ht3 (by rw [hrl2, hrows2]) (by omega)
      have r2 := fun Q h => cols Q h (rb.length - 1) 0 (by rw [hrows2]; omega) S2 hS2 hpS hkS (by unfold partRows; simpa using hR3)
      clear cols
      rw [hrl2, hrows2] at r2
      simp only [List.replicate, List.cons_append, List.nil_append, Int.natCast_zero] at r2
      have hT : ∀ vs, trunc S2.length vs S2 = S2 := fun vs => trunc_len (Nat.le_refl _)
      simp [head, f45_3m, mask, hT]
      unfold rowAV
      refine r2 _ ?_
      intro tm htm S3 t3 t38 hs3 hR4
      simp [htm, t3, t38, hw]
      subst hK'
      simp only [loopQ_nrm, head]
      rw [mask_of (n := 95) (by simp [htm])]
      simp [f45_4m, htm, t3, t38, List.range_succ]
      generalize hT4 : trunc base _ S3 = S4
      have k4 : ∀ b0, b0 < base → S4[b0]? = S3[b0]? := fun b0 h1 => by rw [← hT4, trunc_get (.inl h1)]
      have fin := ih (k + 1) (by omega) ((rows.eraseIdx i).map (clearRow k rows[i])) (rb.eraseIdx i) lcs2 (8 * K + 1) S4
        (fun l hl => by
          obtain ⟨l0, h0, rfl⟩ := List.mem_map.1 hl
          exact lessRow_len (h8e l0 h0) hp8)
        (fun l hl => by
          obtain ⟨l0, h0, rfl⟩ := List.mem_map.1 hl
          exact RB_clear (by rw [h8e l0 h0]; exact hk8) (by rw [hp8]; exact hk8) (hBe l0 h0) hpB)
        (by omega) hKn (by rw [k4 lb hlb]; exact hs3) hl2 ht3 (hR4.keep fun b hb => k4 b (hrb b (hrbe b hb))) (fun b hb => hrb b (hrbe b hb))
        (hnd.sublist (List.eraseIdx_sublist _ _)) (fun hm => hln (hrbe _ hm)) q1 q2
      simpa [f45_4m, List.replicate, hrl2] using fin
theorem app_new {sz bytes : Nat} {S : Store} {x : AV} {xs : List AV} (hx : held S sz x = some (1, xs)) (hr : bytes ≤ 140737488355328) :
    appA sz bytes S (.sl [] sz true) x = some (.msl S.length 0 1 sz (1 * sz) none, S ++ [.mu xs false]) := by
  unfold appA
  rw [hx]
  simp only [Option.bind_some]
  rw [chk_pos trivial, if_neg (by decide), chk_pos ⟨trivial, by unfold room; simpa using hr⟩]
  simp
theorem app_more {sz bytes n b : Nat} {S : Store} {x : AV} {cs xs : List AV} (hsz : 0 < sz) (hx : held S sz x = some (1, xs)) (hr : (n + 1) * bytes ≤ 140737488355328) (hS : S[b]? = some (.mu cs false)) (hl : cs.length = n * sz) :
    appA sz bytes S (.msl b 0 n sz (n * sz) none) x = some (.msl b 0 (n + 1) sz ((n + 1) * sz) none, S.set b (.mu (cs ++ xs) false)) := by
  unfold appA
  rw [hx]
  simp only [Option.bind_some]
  have h1 : ¬ 0 + (n + 1) * sz ≤ n * sz := by rw [Nat.succ_mul]; omega
  rw [chk_pos trivial, if_neg (by decide), if_neg h1, chk_pos (show room (n + 1) bytes from hr), hS]
  simp only
  rw [chk_pos ⟨hl, trivial, Nat.le_refl _⟩, List.take_of_length_le (by omega)]
def toQ (w : List Int) : List Rat := w.map fun (n : Int) => ((n : Int) : Rat)
theorem toQ_len (w : List Int) : (toQ w).length = w.length := by simp [toQ]
set_option maxRecDepth 20000 in
theorem ind_conv {w : List Int} (hw8 : w.length = 8) (hwb : Bd 1000000 w) {S0 : Store} {v3 v17 v18 v19 : AV} {Q : FQ}
    (h1 : ∀ (tm : List AV) (ht : tm.length = 95) (S' : Store), tm[3] = v3 → tm[6] = .msl S0.length 0 8 4 32 none → tm[17] = v17 → tm[18] = v18 → tm[19] = v19 →
      S'[S0.length]? = some (.mu (qcells (toQ w)) false) → (∀ b, b < S0.length → S'[b]? = S0[b]?) → Q (.ex 2) ⟨tm, S'⟩) :
    ∀ (m j : Nat), j + m = 8 → ∀ (S : Store) (v6 : AV), (j = 0 ∧ S = S0 ∧ v6 = .sl [] 4 true) ∨ (v6 = .msl S0.length 0 j 4 (j * 4) none ∧ S[S0.length]? = some (.mu (qcells (toQ (w.take j))) false) ∧ ∀ b, b < S0.length → S[b]? = S0[b]?) →
    wpL RT f45_0m S0.length f45_0 ⟨[.any, .any, .any, v3, .any, .any, v6, .any, .any, .any, .any, .any, .any, .any, .any, .any, .any, v17, v18, v19, .any, .any, .any, R8 w, .int .i64 (j : Int)] ++ List.replicate 70 .any, S⟩ Q := by
  intro m
  induction m with
  | zero =>
    intro j hj S v6 hc
    have hj' : j = 8 := by omega
    subst hj'
    rcases hc with ⟨h, _⟩ | ⟨rfl, hS, hk⟩
    · omega
    rw [List.take_of_length_le (by omega)] at hS
    rw [wpL_step]
    generalize hK' : loopQ RT f45_0m S0.length f45_0 Q = KK
    simp [f45_0, List.replicate]
    subst hK'
    exact h1 _ rfl S rfl rfl rfl rfl rfl hS hk
  | succ m ih =>
    intro j hj S v6 hc
    have hj8 : j < 8 := by omega
    have hlt : (j : Int) < 8 := by omega
    have hw : IntKind.i64.wrap ((j : Int) + 1) = ((j + 1 : Nat) : Int) := wrap_i64 (by omega) (by omega)
    have hget : (nums .i64 w)[j]? = some (.int .i64 (w[j]'(by omega))) := by
      rw [List.getElem?_eq_getElem (by simpa [hw8] using hj8), nums_getElem]
    have hbd := hwb w[j] (List.getElem_mem _)
    have hwh := run_Whole (n := w[j]) (by omega) (by omega)
    have htk : toQ (w.take (j + 1)) = toQ (w.take j) ++ [(w[j] : Rat)] := by
      unfold toQ
      rw [List.take_succ_eq_append_getElem (by omega), List.map_append]; rfl
    have hx : ∀ S, held S 4 (.sl [QR (w[j] : Rat)] 4 true) = some (1, qc (w[j] : Rat)) := fun S => by
      simp only [held]
      rw [chk_pos trivial]
      rw [QR_qc]; simp [AV.cells]
    obtain ⟨S1, ha, hS1, hk1⟩ : ∃ S1, appA 4 64 S v6 (.sl [QR (w[j] : Rat)] 4 true) = some (.msl S0.length 0 (j + 1) 4 ((j + 1) * 4) none, S1) ∧ S1[S0.length]? = some (.mu (qcells (toQ (w.take (j + 1)))) false) ∧ ∀ b, b < S0.length → S1[b]? = S0[b]? := by
      rcases hc with ⟨rfl, rfl, rfl⟩ | ⟨rfl, hS, hk⟩
      · refine ⟨S ++ [.mu (qc (w[0] : Rat)) false], app_new (hx S) (by omega), ?_, fun b hb => get_app hb⟩
        rw [get_last, htk]; simp [toQ, qcells]
      · refine ⟨S.set S0.length (.mu (qcells (toQ (w.take j)) ++ qc (w[j] : Rat)) false), app_more (by omega) (hx S) (by omega) hS (by rw [qcells_len, toQ_len, List.length_take]; omega), ?_, fun b hb => ?_⟩
        · rw [set_get (lt_of_get hS), htk, qcells_append]; simp [qcells]
        · rw [List.getElem?_set_ne (by omega)]; exact hk b hb
    have hih := fun v S h => ih (j + 1) (by omega) S v (.inr h)
    rw [QR_qc] at hwh ha
    have q1 := qc_len (w[j] : Rat)
    have g1 := qc_nr (w[j] : Rat)
    have f1 := fun S => qc_fz (w[j] : Rat) S
    clear hx htk
    generalize qc (w[j] : Rat) = cc at *
    generalize w[j] = x at *
    rw [wpL_step]
    generalize hK' : loopQ RT f45_0m S0.length f45_0 Q = KK
    simp [f45_0, List.replicate, hlt, hget, hw8, hwh, after_nr, opA_litn, fillE, elt, nr1, q1, g1, f1, chk, ha, hw]
    subst hK'
    simp [head, f45_0m, mask]
    generalize hT : trunc S0.length _ S1 = S2
    have k2 : ∀ b, S2[b]? = S1[b]? := fun b => by
      rw [← hT, trunc_get (.inr ⟨.msl S0.length 0 (j + 1) 4 ((j + 1) * 4) none, by simp, by simp [lt1, ltc]⟩)]
    simpa [f45_0m, List.replicate] using hih _ S2 ⟨rfl, by rw [k2, hS1], fun b hb => by rw [k2, hk1 b hb]⟩
def Made45 (o : List (List Int)) (i : Nat) (S : Store) (v : AV) : Prop :=
  (i = 0 ∧ S = [] ∧ v = .sl [] 1 true) ∨ ∃ lb rb, v = .msl lb 0 i 1 i none ∧ S[lb]? = some (.mu (rb.map rowAV) false) ∧ rb.length = i ∧ RowsAt S rb ((o.take i).map toQ) ∧ rb.Nodup ∧ lb ∉ rb ∧ 0 < i
theorem held_row (S : Store) (b : Nat) : held S 1 (.tl [.msl b 0 8 4 32 none] 1) = some (1, [rowAV b]) := by
  simp only [held]
  rw [chk_pos trivial]
  simp [AV.cells, rowAV]
theorem lit_row (R : RunF) (S : Store) (z : AV) (b : Nat) : opA R (.lit 1 z 1 [0]) [.msl b 0 8 4 32 none] S = some (.tl [.msl b 0 8 4 32 none] 1, S) := rfl
set_option maxRecDepth 20000 in
theorem ind_made {o : List (List Int)} (ho : ∀ w ∈ o, w.length = 8 ∧ Bd 1000000 w) (hol : o.length < 1000000) {Q : FQ}
    (h1 : ∀ (tm : List AV) (ht : tm.length = 95) (S' : Store) (v : AV), tm[3] = v → Made45 o o.length S' v → Q (.ex 0) ⟨tm, S'⟩) :
    ∀ (m i : Nat), i + m = o.length → ∀ (S : Store) (v : AV), Made45 o i S v →
    wpL RT f45_1m 0 f45_1 ⟨[.any, .any, .any, v] ++ List.replicate 13 .any ++ [OR o, .int .i64 (o.length : Int), .int .i64 (i : Int)] ++ List.replicate 75 .any, S⟩ Q := by
  intro m
  induction m with
  | zero =>
    intro i hi S v hM
    have hi' : i = o.length := by omega
    subst hi'
    rw [wpL_step]
    generalize hK' : loopQ RT f45_1m 0 f45_1 Q = KK
    simp [f45_1, List.replicate]
    subst hK'
    exact h1 _ rfl S v rfl hM
  | succ m ih =>
    intro i hi S v hM
    have hi1 : i < o.length := by omega
    have hlt : (i : Int) < (o.length : Int) := by omega
    have hget := List.getElem?_eq_getElem hi1
    have hw : IntKind.i64.wrap ((i : Int) + 1) = ((i + 1 : Nat) : Int) := wrap_i64 (by omega) (by omega)
    obtain ⟨hw8, hwb⟩ := ho o[i] (List.getElem_mem _)
    have htk : (o.take (i + 1)).map toQ = (o.take i).map toQ ++ [toQ o[i]] := by
      rw [List.take_succ_eq_append_getElem hi1, List.map_append]; rfl
    have hih := ih (i + 1) (by omega)
    -- what is left to say of the appending
    have happ : ∀ S', S'[S.length + 1]? = some (.mu (qcells (toQ o[i])) false) → (∀ b, b < S.length + 1 → S'[b]? = (S ++ [.mu (nums .i64 o[i]) true])[b]?) →
        ∃ lb rb S2, appA 1 24 S' v (.tl [.msl (S.length + 1) 0 8 4 32 none] 1) = some (.msl lb 0 (i + 1) 1 (i + 1) none, S2) ∧ S2[lb]? = some (.mu (rb.map rowAV) false) ∧ rb.length = i + 1 ∧ RowsAt S2 rb ((o.take (i + 1)).map toQ) ∧ rb.Nodup ∧ lb ∉ rb := by
      intro S' hs1 hs2
      rcases hM with ⟨rfl, rfl, rfl⟩ | ⟨lb, rb, rfl, hS, hl, hR, hnd, hln, h0⟩
      · have hnS := lt_of_get hs1
        refine ⟨S'.length, [1], S' ++ [.mu [rowAV 1] false], app_new (held_row S' _) (by omega), get_last, rfl, ?_, by simp, ?_⟩
        · refine ⟨by rw [htk]; simp, fun j b l hb hl => ?_⟩
          rw [htk] at hl
          match j, hb, hl with
          | 0, hb, hl =>
            simp at hb hl
            subst hb; subst hl
            rw [get_app (by simpa using hnS)]; simpa using hs1
        · simp at hnS ⊢; omega
      · have hnS := lt_of_get hs1
        have hlS := lt_of_get hS
        have hS' : S'[lb]? = some (.mu (rb.map rowAV) false) := by rw [hs2 lb (by omega), get_app hlS, hS]
        have hR' : RowsAt S' rb ((o.take i).map toQ) := hR.keep fun b hb => by rw [hs2 b (by have := hR.lt b hb; omega), get_app (hR.lt b hb)]
        have hap := app_more (sz := 1) (bytes := 24) (n := i) (b := lb) (by omega) (held_row S' (S.length + 1)) (by omega) hS' (by simp [hl])
        simp only [Nat.mul_one] at hap
        refine ⟨lb, rb ++ [S.length + 1], S'.set lb (.mu (rb.map rowAV ++ [rowAV (S.length + 1)]) false), hap, ?_, by simp [hl], ?_, ?_, ?_⟩
        · rw [set_get (lt_of_get hS')]; simp
        · refine ⟨by rw [htk]; simp [hl]; omega, fun j b l hb hll => ?_⟩
          rw [htk] at hll
          have hel : ((o.take i).map toQ).length = i := by simp; omega
          by_cases hj : j < i
          · rw [List.getElem?_append_left (by omega)] at hb hll
            have hbm : b ∈ rb := List.mem_of_getElem? hb
            rw [List.getElem?_set_ne (fun hc => hln (by rw [hc]; exact hbm))]
            exact hR'.at' j b l hb hll
          · rw [List.getElem?_append_right (by omega)] at hb hll
            rw [hl] at hb; rw [hel] at hll
            match hje : j - i, hb, hll with
            | 0, hb, hll =>
              simp at hb hll
              subst hb; subst hll
              rw [List.getElem?_set_ne (by omega)]; exact hs1
        · rw [List.nodup_append]
          refine ⟨hnd, by simp, fun a ha b hb => ?_⟩
          have := hR.lt a ha
          simp at hb; omega
        · intro hm
          rcases List.mem_append.1 hm with h | h
          · exact hln h
          · simp at h; omega
    have conv := fun (Q : FQ) => ind_conv (Q := Q) hw8 hwb (S0 := S ++ [.mu (nums .i64 o[i]) true]) (v3 := v) (v17 := OR o) (v18 := .int .i64 (o.length : Int)) (v19 := .int .i64 (i : Int))
    have r2 := fun Q h => conv Q h 8 0 rfl (S ++ [.mu (nums .i64 o[i]) true]) (.sl [] 4 true) (.inl ⟨rfl, rfl, rfl⟩)
    clear conv htk
    have ht8 : (nums .i64 o[i]).take 8 = nums .i64 o[i] := List.take_of_length_le (by simp [hw8])
    have hlen2 : (S ++ [Blk.mu (nums .i64 o[i]) true]).length = S.length + 1 := by simp
    rw [hlen2] at r2
    simp only [List.replicate, List.cons_append, List.nil_append, Int.natCast_zero] at r2
    generalize o[i] = w at *
    rw [wpL_step]
    generalize hK' : loopQ RT f45_1m 0 f45_1 Q = KK
    have hrs := row_splice (z := List.replicate 8 (.int .i64 0)) hw8 (by simp)
    simp only [List.replicate] at hrs
    simp [f45_1, List.replicate, hlt, hget, hw8, ht8, chk, hrs]
    have hT : ∀ vs, trunc (S.length + 1) vs (S ++ [Blk.mu (nums .i64 w) true]) = S ++ [.mu (nums .i64 w) true] := fun vs => trunc_len (by simp)
    simp [head, f45_0m, mask, hT]
    refine r2 _ ?_
    intro tm ht S' t3 t6 t17 t18 t19 hs1 hs2
    obtain ⟨lb, rb, S2, ha, hS2, hl2, hR2, hnd2, hln2⟩ := happ S' hs1 hs2
    simp [ht, t3, t6, t17, t18, t19, hw, lit_row, ha]
    subst hK'
    simp only [loopQ_nrm, head]
    rw [mask_of (n := 95) (by simp [ht])]
    simp [f45_1m, ht, t3, t17, t18, t19, List.range_succ]
    generalize hT2 : trunc 0 _ S2 = S3
    have k3 : ∀ b, S3[b]? = S2[b]? := fun b => by
      rw [← hT2, trunc_get (.inr ⟨.msl lb 0 (i + 1) 1 (i + 1) none, by simp, by simp [lt1, ltc]⟩)]
    have fin := hih S3 (.msl lb 0 (i + 1) 1 (i + 1) none) (.inr ⟨lb, rb, rfl, by rw [k3, hS2], hl2, hR2.keep fun b _ => k3 b, hnd2, hln2, by omega⟩)
    simpa [f45_1m, List.replicate] using fin
theorem RB_int {n : Int} (h : -1000000 ≤ n ∧ n ≤ 1000000) : RB (n : Rat) 1 := by
  refine ⟨?_, ?_⟩
  · rw [Rat.num_intCast]
    exact size_le (by show n.natAbs < 4294967296 ^ 1; omega)
  · rw [Rat.den_intCast]
    exact size_le (by show 1 < 4294967296 ^ 1; omega)
set_option maxRecDepth 20000 in
theorem run_indep {o : List (List Int)} (ho : ∀ w ∈ o, w.length = 8 ∧ Bd 1000000 w) (hol : o.length < 1000000) : callPure RT 45 [OR o] = some (.bool (indR 8 0 (o.map toQ))) := by
  refine callPure_of (wpF_of tab_45 rfl ?_)
  have mk := fun (Q : FQ) h => ind_made (Q := Q) ho hol h o.length 0 (by simp) [] (.sl [] 1 true) (.inl ⟨rfl, rfl, rfl⟩)
  simp only [List.replicate, List.cons_append, List.nil_append, Int.natCast_zero] at mk
  have hT0 : ∀ vs, trunc 0 vs [] = [] := fun vs => trunc_len (by simp)
  simp [f45, enter]
  simp [head, f45_1m, mask, hT0]
  refine mk _ ?_
  intro tm ht S v t3 hM
  simp [ht]
  have hT : ∀ vs, trunc S.length vs S = S := fun vs => trunc_len (Nat.le_refl _)
  simp only [head, hT]
  rw [mask_of (n := 95) (by simp [ht])]
  simp [f45_4m, ht, t3, List.range_succ]
  rcases hM with ⟨h0, rfl, rfl⟩ | ⟨lb, rb, rfl, hS, hl, hR, hnd, hln, h0⟩
  · have ho0 : o = [] := List.length_eq_zero_iff.1 h0
    subst ho0
    have hpv := run_pivot (o := []) (k := 0) (by simp) (by simp) (by omega)
    simp [QRows, idxG] at hpv
    rw [wpL_step]
    generalize hK' : loopQ _ _ _ f45_4 _ = KK
    have hzf : fzc [Blk.mu [.int .i64 0] true] 5 (.mptr 0 0 1) = some (.fptr [.int .i64 0]) := by simp [fzc, rd, chk]
    simp [f45_4, List.replicate, wr, chk, splice, fzc, hzf, hpv, rd]
    subst hK'
    simp [indR]
  · rw [List.take_of_length_le (Nat.le_refl _)] at hR
    have hLim : Lim = 1099511627776 := rfl
    have fin := fun (Q : FQ) => ind_cols (Q := Q) (base := S.length) (lb := lb) (vl := o.length) (lt_of_get hS) hol 8 0 rfl (o.map toQ) rb (rb.map rowAV) 1 S
      (fun l hl => by obtain ⟨w, hw, rfl⟩ := List.mem_map.1 hl; rw [toQ_len]; exact (ho w hw).1)
      (fun l hl q hq => by
        obtain ⟨w, hw, rfl⟩ := List.mem_map.1 hl
        obtain ⟨n, hn, rfl⟩ := List.mem_map.1 hq
        exact RB_int ((ho w hw).2 n hn))
      (Nat.le_refl _) (by rw [hLim]; decide) hS (by simp [hl]) (by rw [List.take_of_length_le (by simp)]) hR (fun b hb => hR.lt b hb) hnd hln
    rw [hl] at fin
    simp only [List.replicate, List.cons_append, List.nil_append, Int.natCast_zero] at fin
    refine fin _ ?_ ?_
    · intro tm2 ht2 S' he
      simp [ht2, he]
    · intro tm2 ht2 S' t2 he
      simp [ht2, t2, he]
def qdot : List Rat → List Rat → Rat
  | a :: l, x :: xs => a * x + qdot l xs
  | _, _ => 0
theorem qdot_less {c : Rat} : ∀ {l p x : List Rat} {n : Nat}, l.length = n → p.length = n → x.length = n → qdot (lessRow c p l) x = qdot l x - c * qdot p x
  | [], [], [], n, _, _, _ => by simp [lessRow, qdot]; grind
  | a :: l, b :: p, y :: x, n + 1, hl, hp, hx => by
    have := qdot_less (c := c) (l := l) (p := p) (x := x) (n := n) (by simpa using hl) (by simpa using hp) (by simpa using hx)
    unfold lessRow at this
    simp only [lessRow, List.zipWith_cons_cons, qdot, this]
    grind
theorem qdot_set : ∀ {l x : List Rat} {k n : Nat} {v : Rat}, l.length = n → x.length = n → k < n → qdot l (x.set k v) = qdot l x + l.getD k 0 * (v - x.getD k 0)
  | a :: l, y :: x, 0, n + 1, v, _, _, _ => by simp only [List.set_cons_zero, qdot, List.getD_cons_zero]; grind
  | a :: l, y :: x, k + 1, n + 1, v, hl, hx, hk => by
    have := qdot_set (l := l) (x := x) (k := k) (n := n) (v := v) (by simpa using hl) (by simpa using hx) (by omega)
    simp only [List.set_cons_succ, qdot, this, List.getD_cons_succ]; grind
theorem qdot_zero : ∀ {l x : List Rat}, (∀ j, x.getD j 0 = 0) → qdot l x = 0
  | [], _, _ => by simp [qdot]
  | _ :: _, [], _ => by simp [qdot]
  | a :: l, y :: x, h => by
    have h0 := h 0
    have := qdot_zero (l := l) (x := x) fun j => by have := h (j + 1); simpa using this
    simp only [List.getD_cons_zero] at h0
    simp only [qdot, this, h0]; grind
def KerT (k : Nat) (rows : List (List Rat)) : Prop := ∀ x : List Rat, x.length = 8 → (∀ j, j < k → x.getD j 0 = 0) → (∀ l ∈ rows, qdot l x = 0) → ∀ j, x.getD j 0 = 0
theorem mem_erase {α : Type} {rows : List α} {i : Nat} (hi : i < rows.length) {l : α} (h : l ∈ rows) : l = rows[i] ∨ l ∈ rows.eraseIdx i := by
  obtain ⟨j, hj, rfl⟩ := List.getElem_of_mem h
  by_cases e : j = i
  · subst e; exact .inl rfl
  · right
    rw [List.mem_eraseIdx_iff_getElem?]
    exact ⟨j, e, List.getElem?_eq_getElem hj⟩
theorem getD_set {x : List Rat} {k j : Nat} {v : Rat} (hk : k < x.length) : (x.set k v).getD j 0 = if j = k then v else x.getD j 0 := by
  simp only [List.getD_eq_getElem?_getD, List.getElem?_set]
  by_cases h : j = k
  · subst h; simp [hk]
  · rw [if_neg (by omega), if_neg h]
theorem ker_ind : ∀ (m k : Nat), k + m = 8 → ∀ rows : List (List Rat), (∀ l ∈ rows, l.length = 8) → (indR m k rows = true ↔ KerT k rows) := by
  intro m
  induction m with
  | zero =>
    intro k hk rows h8
    simp only [indR, true_iff]
    intro x hx hz _ j
    by_cases hj : j < k
    · exact hz j hj
    · rw [List.getD_eq_getElem?_getD, List.getElem?_eq_none (by omega)]; rfl
  | succ m ih =>
    intro k hk rows h8
    have hk8 : k < 8 := by omega
    simp only [indR]
    cases hf : rows.findIdx? (qnz k) with
    | none =>
      simp only [Bool.false_eq_true, false_iff]
      intro hK
      have hz : ∀ l ∈ rows, l.getD k 0 = 0 := fun l hl => by
        have := List.findIdx?_eq_none_iff.1 hf l hl
        simpa [qnz] using this
      have := hK ((List.replicate 8 0).set k 1) (by simp) (fun j hj => by
        rw [getD_set (by simpa using hk8), if_neg (by omega)]
        simp only [List.getD_eq_getElem?_getD, List.getElem?_replicate]; split <;> rfl) (fun l hl => by
        rw [qdot_set (h8 l hl) (by simp) hk8, hz l hl, qdot_zero fun j => by simp only [List.getD_eq_getElem?_getD, List.getElem?_replicate]; split <;> rfl]
        grind) k
      rw [getD_set (by simpa using hk8), if_pos rfl] at this
      exact absurd this (by decide)
    | some i =>
      obtain ⟨hi, hpi, _⟩ := List.findIdx?_eq_some_iff_getElem.1 hf
      have hge : rows.getD i [] = rows[i] := by rw [List.getD_eq_getElem?_getD, List.getElem?_eq_getElem hi]; rfl
      have hp8 := h8 rows[i] (List.getElem_mem _)
      have hpk : rows[i].getD k 0 ≠ 0 := of_decide_eq_true hpi
      have hpm : rows[i] ∈ rows := List.getElem_mem _
      have hmem := fun l (h : l ∈ rows) => mem_erase hi h
      have h8e : ∀ l ∈ rows.eraseIdx i, l.length = 8 := fun l hl => h8 l (List.mem_of_mem_eraseIdx hl)
      simp only [hge]
      rw [ih (k + 1) (by omega) _ (fun l hl => by
        obtain ⟨l0, h0, rfl⟩ := List.mem_map.1 hl
        exact lessRow_len (h8e l0 h0) hp8)]
      generalize rows[i] = p at *
      constructor
      · intro hK x hx hz hr
        have hx' := hK (x.set k 0) (by simpa using hx) (fun j hj => by
          rw [getD_set (by omega)]
          split
          · rfl
          · exact hz j (by omega)) (fun l hl => by
          obtain ⟨l0, h0, rfl⟩ := List.mem_map.1 hl
          unfold clearRow
          rw [qdot_less (h8e l0 h0) hp8 (by simpa using hx), qdot_set (h8e l0 h0) hx hk8, qdot_set hp8 hx hk8, hr p hpm, hr l0 (List.mem_of_mem_eraseIdx h0)]
          grind)
        have hp0 := hr p hpm
        have e := qdot_set (v := 0) hp8 hx hk8
        rw [qdot_zero hx', hp0] at e
        have hxk : x.getD k 0 = 0 := by grind
        intro j
        by_cases hj : j = k
        · rw [hj]; exact hxk
        · have := hx' j
          rw [getD_set (by omega), if_neg hj] at this
          exact this
      · intro hK x hx hz hr
        have hxk := hz k (by omega)
        have hy := hK (x.set k (-(qdot p x) / p.getD k 0)) (by simpa using hx) (fun j hj => by
          rw [getD_set (by omega), if_neg (by omega)]
          exact hz j (by omega)) (fun l hl => by
          rcases hmem l hl with rfl | hl
          · rw [qdot_set hp8 hx hk8, hxk]; grind
          · have := hr _ (List.mem_map.2 ⟨l, hl, rfl⟩)
            unfold clearRow at this
            rw [qdot_less (h8e l hl) hp8 hx] at this
            rw [qdot_set (h8e l hl) hx hk8, hxk]; grind)
        intro j
        by_cases hj : j = k
        · rw [hj]; exact hxk
        · have := hy j
          rw [getD_set (by omega), if_neg hj] at this
          exact this
theorem few_ind : ∀ (m k : Nat) (rows : List (List Rat)), rows.length < m → indR m k rows = false
  | 0, k, rows, h => by omega
  | m + 1, k, rows, h => by
    simp only [indR]
    cases hf : rows.findIdx? (qnz k) with
    | none => rfl
    | some i =>
      obtain ⟨hi, _⟩ := List.findIdx?_eq_some_iff_getElem.1 hf
      exact few_ind m (k + 1) _ (by rw [List.length_map, List.length_eraseIdx, if_pos hi]; omega)
end Go.AVM
namespace Go.AVM
def elimOk (o : List (List Int)) (m i j : Nat) : Bool := !m.testBit i || (m.testBit j || pairOk i j o)
set_option maxRecDepth 20000 in
theorem elim_inner {o : List (List Int)} (ho : ∀ w ∈ o, w.length = 8) (hol : o.length < 1000000) {m i : Nat} (hi : i < 8) {Q : FQ}
    (h1 : ∀ (tm : List AV) (hl : tm.length = 51) (S : Store), tm[0] = OR o → tm[1] = .int .u8 (m : Int) → tm[8] = .int .i64 (i : Int) → (∀ j, j < 8 → elimOk o m i j = true) → Q (.ex 2) ⟨tm, [.mu [.int .i64 (i : Int)] true]⟩)
    (h2 : ∀ (tm : List AV) (hl : tm.length = 51) (S : Store), tm[4] = .bool false → (∃ j, j < 8 ∧ elimOk o m i j = false) → Q .ret ⟨tm, S⟩) :
    ∀ (n j : Nat), j + n = 8 → (∀ j', j' < j → elimOk o m i j' = true) →
    wpL RT f22_0m 1 f22_0 ⟨[OR o, .int .u8 (m : Int), .any, .any, .any, .mptr 0 0 1, .any, .any, .int .i64 (i : Int), .any, .any, .int .i64 (j : Int)] ++ List.replicate 39 .any, [.mu [.int .i64 (i : Int)] true]⟩ Q := by
  intro n
  induction n with
  | zero =>
    intro j hj hp
    have hj' : j = 8 := by omega
    subst hj'
    rw [wpL_step]
    generalize hK : loopQ RT f22_0m 1 f22_0 Q = K
    simp [f22_0, List.replicate]
    subst hK
    exact h1 _ rfl [] rfl rfl rfl hp
  | succ n ih =>
    intro j hj hp
    have hj8 : j < 8 := by omega
    have hjlt : (j : Int) < 8 := by omega
    have hw : IntKind.i64.wrap ((j : Int) + 1) = ((j + 1 : Nat) : Int) := wrap_i64 (by omega) (by omega)
    have si := shr_u8 m (i := i) (by omega)
    have sj := shr_u8 m (i := j) (by omega)
    have bi := Nat.testBit_eq_decide_div_mod_eq (x := m) (i := i)
    have bj := Nat.testBit_eq_decide_div_mod_eq (x := m) (i := j)
    have hx := run_index ho hol hi hj8
    have go : elimOk o m i j = true → wpL RT f22_0m 1 f22_0 ⟨[OR o, .int .u8 (m : Int), .any, .any, .any, .mptr 0 0 1, .any, .any, .int .i64 (i : Int), .any, .any, .int .i64 ((j + 1 : Nat) : Int)] ++ List.replicate 39 .any, [.mu [.int .i64 (i : Int)] true]⟩ Q := fun h => ih (j + 1) (by omega) fun j' hj' => by
      by_cases e : j' = j
      · rw [e]; exact h
      · exact hp j' (by omega)
    have fin : elimOk o m i j = false → ∃ j, j < 8 ∧ elimOk o m i j = false := fun h => ⟨j, hj8, h⟩
    unfold elimOk at go fin
    generalize m / 2 ^ i = qi at *
    generalize m / 2 ^ j = qj at *
    rw [wpL_step]
    generalize hK : loopQ RT f22_0m 1 f22_0 Q = K
    by_cases c1 : qi % 2 = 1
    · have e1 : ¬ (qi : Int) % 2 = 0 := by omega
      have e1' : (qi : Int) % 2 = 1 := by omega
      by_cases c2 : qj % 2 = 1
      · have e2 : (qj : Int) % 2 = 1 := by omega
        have := go (by rw [bi, bj]; simp [c1, c2])
        simp [-binA_shr, f22_0, List.replicate, hjlt, rd, wr, splice, chk, si, sj, and1_i, e1, e1', e2, hw]
        subst hK
        simp [head, f22_0m, mask, trunc, lt1, ltc, Blk.lt]
        simpa [f22_0m, List.replicate] using this
      · have e2 : (qj : Int) % 2 = 0 := by omega
        rcases idx_pair i j o 0 with ⟨h3, h4⟩ | ⟨q, w, h3, h4, h5⟩
        · rw [h3] at hx
          by_cases c3 : j < i
          · have hf := fin (by rw [bi, bj, h4]; simp [c1, c2, c3])
            have c3' : (j : Int) < (i : Int) := by omega
            simp [-binA_shr, f22_0, List.replicate, hjlt, rd, wr, splice, chk, si, sj, and1_i, e1, e1', e2, hw, fzc, hx, c3, c3']
            subst hK
            exact h2 _ rfl _ rfl hf
          · have hg := go (by rw [bi, bj, h4]; simp [c1, c2]; omega)
            have c3' : ¬ (j : Int) < (i : Int) := by omega
            simp [-binA_shr, f22_0, List.replicate, hjlt, rd, wr, splice, chk, si, sj, and1_i, e1, e1', e2, hw, fzc, hx, c3, c3']
            subst hK
            simp [head, f22_0m, mask, trunc, lt1, ltc, Blk.lt]
            simpa [f22_0m, List.replicate] using hg
        · rw [h3] at hx
          have hqo : q < o.length := (List.getElem?_eq_some_iff.1 h4).1
          have hwl : w.length = 8 := ho w (List.mem_of_getElem? h4)
          have hwj : w[j]? = some (w.getD j 0) := by rw [List.getD_eq_getElem?_getD, List.getElem?_eq_getElem (by omega)]; rfl
          have hq0 : ¬ (q : Int) < 0 := by omega
          have hj1 : 1 ≤ 8 - j := by omega
          have hqi : (q : Int) < (o.length : Int) := by omega
          simp only [Nat.zero_add] at hx
          generalize w.getD j 0 = x at *
          by_cases c3 : x = 0
          · have hg := go (by rw [bi, bj, h5]; simp [c1, c2, c3])
            simp [-binA_shr, f22_0, List.replicate, hjlt, rd, wr, splice, chk, si, sj, and1_i, e1, e1', e2, hw, fzc, hx, hq0, h4, hwl, hwj, hqi, hj1, c3]
            subst hK
            simp [head, f22_0m, mask, trunc, lt1, ltc, Blk.lt]
            simpa [f22_0m, List.replicate] using hg
          · have hf := fin (by rw [bi, bj, h5]; simp [c1, c2, c3])
            simp [-binA_shr, f22_0, List.replicate, hjlt, rd, wr, splice, chk, si, sj, and1_i, e1, e1', e2, hw, fzc, hx, hq0, h4, hwl, hwj, hqi, hj1, c3]
            subst hK
            exact h2 _ rfl _ rfl hf
    · have e1 : (qi : Int) % 2 = 0 := by omega
      have := go (by rw [bi]; simp [c1])
      simp [-binA_shr, f22_0, List.replicate, hjlt, rd, wr, splice, chk, si, sj, and1_i, e1, hw]
      subst hK
      simp [head, f22_0m, mask, trunc, lt1, ltc, Blk.lt]
      simpa [f22_0m, List.replicate] using this
def elimB (o : List (List Int)) (m : Nat) : Prop := ∀ i, i < 8 → ∀ j, j < 8 → elimOk o m i j = true
set_option maxRecDepth 20000 in
theorem elim_outer {o : List (List Int)} (ho : ∀ w ∈ o, w.length = 8) (hol : o.length < 1000000) {m : Nat} {Q : FQ}
    (h1 : ∀ (tm : List AV) (hl : tm.length = 51) (S : Store), elimB o m → Q (.ex 0) ⟨tm, S⟩)
    (h2 : ∀ (tm : List AV) (hl : tm.length = 51) (S : Store), tm[4] = .bool false → ¬ elimB o m → Q .ret ⟨tm, S⟩) :
    ∀ (n i : Nat), i + n = 8 → (∀ i', i' < i → ∀ j, j < 8 → elimOk o m i' j = true) →
    wpL RT f22_1m 0 f22_1 ⟨[OR o, .int .u8 (m : Int), .any, .any, .any, .any, .any, .any, .int .i64 (i : Int)] ++ List.replicate 42 .any, []⟩ Q := by
  intro n
  induction n with
  | zero =>
    intro i hi hp
    have hi' : i = 8 := by omega
    subst hi'
    rw [wpL_step]
    generalize hK : loopQ RT f22_1m 0 f22_1 Q = K
    simp [f22_1, List.replicate]
    subst hK
    exact h1 _ rfl [] hp
  | succ n ih =>
    intro i hi hp
    have hi8 : i < 8 := by omega
    have hilt : (i : Int) < 8 := by omega
    have hw : IntKind.i64.wrap ((i : Int) + 1) = ((i + 1 : Nat) : Int) := wrap_i64 (by omega) (by omega)
    rw [wpL_step]
    generalize hK : loopQ RT f22_1m 0 f22_1 Q = K
    simp [f22_1, List.replicate, hilt, wr, chk, splice]
    simp [head, f22_0m, mask, trunc_len]
    refine elim_inner ho hol hi8 ?_ ?_ 8 0 rfl (fun j' h => by omega)
    · intro tm hl S h0 h1' h8 hall
      simp [hl, h0, h1', h8, hw]
      subst hK
      simp only [loopQ_nrm, head]
      rw [mask_of (n := 51) (by simp [hl])]
      have := ih (i + 1) (by omega) fun i' hi' => by
        by_cases e : i' = i
        · rw [e]; exact hall
        · exact hp i' (by omega)
      simp [f22_1m, hl, h0, h1', List.range_succ, trunc, lt1, ltc, Blk.lt]
      simpa [f22_1m, List.replicate] using this
    · intro tm hl S h4 hex
      simp [hl, h4]
      subst hK
      refine h2 _ (by simp [hl]) _ (by simp [h4]) fun hE => ?_
      obtain ⟨j, hj, hf⟩ := hex
      rw [hE i hi8 j hj] at hf
      cases hf
open Classical in
theorem run_eliminates {o : List (List Int)} (ho : ∀ w ∈ o, w.length = 8) (hol : o.length < 1000000) (m : Nat) : callPure RT 22 [OR o, .int .u8 (m : Int)] = some (.bool (decide (elimB o m))) := by
  refine callPure_of (wpF_of tab_22 rfl ?_)
  simp [f22, enter]
  simp [head, f22_1m, mask, trunc_len]
  refine elim_outer ho hol ?_ ?_ 8 0 rfl (fun i' h => by omega)
  · intro tm hl S h
    simp [hl, h]
  · intro tm hl S h4 h
    simp [hl, h4, h]
end Go.AVM
namespace Go.AVM
end Go.AVM
set_option maxRecDepth 100000
namespace Go.AVM
def rat0 : AV := .agg [.bool false, .sl [] 1 false, .bool false, .sl [.int .u32 1] 1 false]
def rat1 : AV := .agg [.bool false, .sl [.int .u32 1] 1 false, .bool false, .sl [.int .u32 1] 1 false]
def ratM : AV := .agg [.bool true, .sl [.int .u32 1] 1 false, .bool false, .sl [.int .u32 1] 1 false]
theorem ex_s0 : callPure (run tab) 58 [rat0, rat0] = some rat0 := pureIs_run (O := noneE) (n := 30) noneE_sound (by kernel_rfl)
theorem ex_s1 : callPure (run tab) 58 [ratM, rat0] = some ratM := pureIs_run (O := noneE) (n := 30) noneE_sound (by kernel_rfl)
theorem ex_m0 : callPure (run tab) 59 [rat0, rat0] = some rat0 := pureIs_run (O := noneE) (n := 30) noneE_sound (by kernel_rfl)
theorem ex_m1 : callPure (run tab) 59 [rat0, rat1] = some rat0 := pureIs_run (O := noneE) (n := 30) noneE_sound (by kernel_rfl)
theorem ex_m2 : callPure (run tab) 59 [rat0, ratM] = some rat0 := pureIs_run (O := noneE) (n := 30) noneE_sound (by kernel_rfl)
theorem ex_w0 : callPure (run tab) 52 [.int .i64 0] = some rat0 := pureIs_run (O := noneE) (n := 30) noneE_sound (by kernel_rfl)
theorem ex_w1 : callPure (run tab) 52 [.int .i64 1] = some rat1 := pureIs_run (O := noneE) (n := 30) noneE_sound (by kernel_rfl)
theorem ex_w2 : callPure (run tab) 52 [.int .i64 (-1)] = some ratM := pureIs_run (O := noneE) (n := 30) noneE_sound (by kernel_rfl)
theorem ex_g0 : callPure (run tab) 55 [rat0] = some (.int .i64 0) := pureIs_run (O := noneE) (n := 30) noneE_sound (by kernel_rfl)
theorem ex_g1 : callPure (run tab) 55 [rat1] = some (.int .i64 1) := pureIs_run (O := noneE) (n := 30) noneE_sound (by kernel_rfl)
theorem ex_g2 : callPure (run tab) 55 [ratM] = some (.int .i64 (-1)) := pureIs_run (O := noneE) (n := 30) noneE_sound (by kernel_rfl)
theorem ex_d1 : callPure (run tab) 57 [rat0, rat1] = some (.tup [rat0, .int .i64 0]) := pureIs_run (O := noneE) (n := 30) noneE_sound (by kernel_rfl)
theorem ex_d2 : callPure (run tab) 57 [rat0, ratM] = some (.tup [rat0, .int .i64 0]) := pureIs_run (O := noneE) (n := 30) noneE_sound (by kernel_rfl)
def ratKnown : Known := [(58, [rat0, rat0], rat0), (58, [ratM, rat0], ratM), (59, [rat0, rat0], rat0), (59, [rat0, rat1], rat0), (59, [rat0, ratM], rat0), (52, [.int .i64 0], rat0), (52, [.int .i64 1], rat1), (52, [.int .i64 (-1)], ratM),
  (55, [rat0], .int .i64 0), (55, [rat1], .int .i64 1), (55, [ratM], .int .i64 (-1)), (57, [rat0, rat1], .tup [rat0, .int .i64 0]), (57, [rat0, ratM], .tup [rat0, .int .i64 0])]
theorem ratKnown_sound : ∀ f a r, askE ratKnown f a = some r → callPure (run tab) f a = some r := askE_sound fun e he => by
  simp only [ratKnown, List.mem_cons, List.not_mem_nil, or_false] at he
  rcases he with rfl | rfl | rfl | rfl | rfl | rfl | rfl | rfl | rfl | rfl | rfl | rfl | rfl
  · exact ex_s0
  · exact ex_s1
  · exact ex_m0
  · exact ex_m1
  · exact ex_m2
  · exact ex_w0
  · exact ex_w1
  · exact ex_w2
  · exact ex_g0
  · exact ex_g1
  · exact ex_g2
  · exact ex_d1
  · exact ex_d2
def exRow (l : List Int) : AV := .agg (l.map (AV.int .i64))
def exRev : AV := .sl [exRow [1,1,1,1,1,1,1,1], exRow [0,0,0,0,0,0,0,-1], exRow [0,0,0,0,0,0,-1,0], exRow [0,0,0,0,0,-1,0,0], exRow [0,0,0,0,-1,0,0,0], exRow [0,0,0,-1,0,0,0,0], exRow [0,0,-1,0,0,0,0,0], exRow [0,-1,0,0,0,0,0,0]] 8 false
theorem ex_i0 : callPure (run tab) 45 [.sl [] 8 false] = some (.bool false) := pureIs_run (n := 30) ratKnown_sound (by kernel_rfl)
theorem ex_i1 : callPure (run tab) 45 [.sl [exRow [1,1,1,1,1,1,1,1]] 8 false] = some (.bool false) := pureIs_run (n := 30) ratKnown_sound (by kernel_rfl)
theorem ex_i2 : callPure (run tab) 45 [exRev] = some (.bool true) := pureIs_run (n := 30) ratKnown_sound (by kernel_rfl)
def indKnown : Known := [(45, [.sl [] 8 false], .bool false), (45, [.sl [exRow [1,1,1,1,1,1,1,1]] 8 false], .bool false), (45, [exRev], .bool true)]
theorem indKnown_sound : ∀ f a r, askE indKnown f a = some r → callPure (run tab) f a = some r := askE_sound fun e he => by
  simp only [indKnown, List.mem_cons, List.not_mem_nil, or_false] at he
  rcases he with rfl | rfl | rfl
  · exact ex_i0
  · exact ex_i1
  · exact ex_i2
theorem run_examples5 : callPure (run tab) 8 [] = some (.bool true) := pureIs_run (n := 30) indKnown_sound (by kernel_rfl)
end Go.AVM
namespace Go.AVM
theorem monoL_len {x : List Int} (h : x.length = 8) : (monoL x).length = 8 := by simp [monoL, h]
theorem monoL_bd {x : List Int} (h : ∀ n ∈ x, 0 ≤ n ∧ n ≤ 65535) : ∀ n ∈ monoL x, 0 ≤ n ∧ n < 20000 := by
  intro n hn
  obtain ⟨m, hm, rfl⟩ := List.mem_map.1 hn
  have := h m hm
  omega
theorem rows_nil : Rows [] := fun w hw => by cases hw
theorem rows_graded : Rows gradO := by simp [Rows, Bd, gradO]
theorem rows_rev : Rows revO := by simp [Rows, Bd, revO]
theorem elimO_rows (m : Nat) : Rows (elimO m) := by
  intro w hw
  rcases List.mem_cons.1 hw with rfl | hw
  · refine ⟨rfl, ?_⟩
    simp [Bd, onesL]
    omega
  · exact rows_rev w hw
theorem cmpL_anti : ∀ a b : List Int, cmpL b a = -(cmpL a b)
  | [], [] => rfl
  | [], _ :: _ => rfl
  | _ :: _, [] => rfl
  | x :: a, y :: b => by
    simp only [cmpL]
    rcases Int.lt_trichotomy x y with h | h | h
    · rw [if_pos h, if_neg (by omega), if_pos h]; rfl
    · rw [if_neg (by omega), if_neg (by omega), if_neg (by omega), if_neg (by omega), cmpL_anti a b]
    · simp [h, Int.not_lt.2 (Int.le_of_lt h)]
theorem cmpL_vals : ∀ a b : List Int, cmpL a b = -1 ∨ cmpL a b = 0 ∨ cmpL a b = 1
  | [], [] => .inr (.inl rfl)
  | [], _ :: _ => .inr (.inl rfl)
  | _ :: _, [] => .inr (.inl rfl)
  | x :: a, y :: b => by
    simp only [cmpL]
    split
    · exact .inl rfl
    · split
      · exact .inr (.inr rfl)
      · exact cmpL_vals a b
theorem cmpL_eq0 : ∀ {a b : List Int}, a.length = b.length → cmpL a b = 0 → a = b
  | [], [], _, _ => rfl
  | [], _ :: _, h, _ => by simp at h
  | _ :: _, [], h, _ => by simp at h
  | x :: a, y :: b, h, h0 => by
    simp only [cmpL] at h0
    split at h0
    · cases h0
    · split at h0
      · cases h0
      · have := cmpL_eq0 (by simpa using h) h0
        have hxy : x = y := by omega
        rw [hxy, this]
theorem cmpL_trans : ∀ {a b c : List Int}, a.length = b.length → b.length = c.length → 0 ≤ cmpL a b → 0 ≤ cmpL b c → 0 ≤ cmpL a c
  | [], [], [], _, _, _, _ => by simp [cmpL]
  | x :: a, y :: b, z :: c, h1, h2, h3, h4 => by
    simp only [cmpL] at h3 h4 ⊢
    by_cases c1 : x < y
    · rw [if_pos c1] at h3; omega
    · by_cases c2 : y < z
      · rw [if_pos c2] at h4; omega
      · by_cases c3 : y < x
        · rw [if_neg (by omega), if_pos (by omega)]; decide
        · by_cases c4 : z < y
          · rw [if_neg (by omega), if_pos (by omega)]; decide
          · rw [if_neg c1, if_neg c3] at h3
            rw [if_neg c2, if_neg c4] at h4
            rw [if_neg (by omega), if_neg (by omega)]
            exact cmpL_trans (by simpa using h1) (by simpa using h2) h3 h4
  | [], _ :: _, _, h, _, _, _ => by simp at h
  | _ :: _, [], _, h, _, _, _ => by simp at h
  | [], [], _ :: _, _, h, _, _ => by simp at h
  | _ :: _, _ :: _, [], _, h, _, _ => by simp at h
theorem dotL_anti : ∀ w a b : List Int, dotL w b a = -(dotL w a b)
  | [], _, _ => by simp [dotL]
  | _ :: _, [], [] => by simp [dotL]
  | _ :: _, [], _ :: _ => by simp [dotL]
  | _ :: _, _ :: _, [] => by simp [dotL]
  | w :: ws, a :: as, b :: bs => by
    simp only [dotL, dotL_anti ws as bs, Int.mul_sub]; omega
theorem dotL_trans : ∀ {w a b c : List Int}, a.length = b.length → b.length = c.length → dotL w a c = dotL w a b + dotL w b c
  | [], _, _, _, _, _ => by simp [dotL]
  | _ :: _, [], [], [], _, _ => by simp [dotL]
  | w :: ws, a :: as, b :: bs, c :: cs, h1, h2 => by
    simp only [dotL, dotL_trans (w := ws) (a := as) (b := bs) (c := cs) (by simpa using h1) (by simpa using h2), Int.mul_sub]; omega
  | _ :: _, [], _ :: _, _, h, _ => by simp at h
  | _ :: _, _ :: _, [], _, h, _ => by simp at h
  | _ :: _, [], [], _ :: _, _, h => by simp at h
  | _ :: _, _ :: _, _ :: _, [], _, h => by simp at h
theorem ordCmp_anti (o : List (List Int)) (a b : List Int) : ordCmp o b a = -(ordCmp o a b) := by
  induction o with
  | nil => exact cmpL_anti a b
  | cons w o ih =>
    simp only [ordCmp, dotL_anti w a b]
    rcases Int.lt_trichotomy (dotL w a b) 0 with h | h | h
    · rw [if_neg (by omega), if_pos (by omega), if_pos h]; rfl
    · rw [if_neg (by omega), if_neg (by omega), if_neg (by omega), if_neg (by omega), ih]
    · rw [if_pos (by omega), if_neg (by omega), if_pos h]
theorem ordCmp_vals (o : List (List Int)) (a b : List Int) : ordCmp o a b = -1 ∨ ordCmp o a b = 0 ∨ ordCmp o a b = 1 := by
  induction o with
  | nil => exact cmpL_vals a b
  | cons w o ih =>
    simp only [ordCmp]
    split
    · exact .inl rfl
    · split
      · exact .inr (.inr rfl)
      · exact ih
theorem ordCmp_eq0 (o : List (List Int)) {a b : List Int} (h : a.length = b.length) (h0 : ordCmp o a b = 0) : a = b := by
  induction o with
  | nil => exact cmpL_eq0 h h0
  | cons w o ih =>
    simp only [ordCmp] at h0
    split at h0
    · cases h0
    · split at h0
      · cases h0
      · exact ih h0
theorem ordCmp_trans (o : List (List Int)) {a b c : List Int} (h1 : a.length = b.length) (h2 : b.length = c.length) (h3 : 0 ≤ ordCmp o a b) (h4 : 0 ≤ ordCmp o b c) : 0 ≤ ordCmp o a c := by
  induction o with
  | nil => exact cmpL_trans h1 h2 h3 h4
  | cons w o ih =>
    have ht := dotL_trans (w := w) h1 h2
    simp only [ordCmp] at h3 h4 ⊢
    by_cases c1 : dotL w a b < 0
    · rw [if_pos c1] at h3; omega
    · by_cases c2 : dotL w b c < 0
      · rw [if_pos c2] at h4; omega
      · by_cases c3 : 0 < dotL w a b
        · rw [if_neg (by omega), if_pos (by omega)]; decide
        · by_cases c4 : 0 < dotL w b c
          · rw [if_neg (by omega), if_pos (by omega)]; decide
          · rw [if_neg c1, if_neg c3] at h3
            rw [if_neg c2, if_neg c4] at h4
            rw [if_neg (by omega), if_neg (by omega)]
            exact ih h3 h4
@[simp] theorem nr1_fn (f : Nat) (cs : List AV) : nr1 (.fn f cs) = cs.all nrc := rfl
def All8 (L : List (List Int)) : Prop := ∀ r ∈ L, r.length = 8
theorem flat_row : ∀ {L : List (List Int)} {j : Nat} {r : List Int}, All8 L → L[j]? = some r → (L.flatten.drop (j * 8)).take 8 = r
  | [], _, _, _, h => by simp at h
  | x :: L, 0, r, h8, h => by
    simp at h; subst h
    have hx := h8 x (by simp)
    rw [Nat.zero_mul, List.drop_zero, List.flatten_cons, List.take_append_of_le_length (by omega), List.take_of_length_le (by omega)]
  | x :: L, j + 1, r, h8, h => by
    have hx := h8 x (by simp)
    have e : (j + 1) * 8 = x.length + j * 8 := by omega
    rw [e, List.flatten_cons, List.drop_append, List.drop_of_length_le (by omega), List.nil_append]
    have e2 : x.length + j * 8 - x.length = j * 8 := by omega
    rw [e2]
    exact flat_row (fun r hr => h8 r (by simp [hr])) (by simpa using h)
theorem flat_setrow : ∀ {L : List (List Int)} {j : Nat} {r : List Int}, All8 L → r.length = 8 → j < L.length → L.flatten.take (j * 8) ++ (r ++ L.flatten.drop (j * 8 + 8)) = (L.set j r).flatten
  | [], _, _, _, _, h => by simp at h
  | x :: L, 0, r, h8, hr, h => by
    have hx := h8 x (by simp)
    rw [Nat.zero_mul, List.take_zero, List.nil_append, List.set_cons_zero, List.flatten_cons, List.flatten_cons, List.drop_append, List.drop_of_length_le (by omega), List.nil_append]
    have e2 : 0 + 8 - x.length = 0 := by omega
    rw [e2, List.drop_zero]
  | x :: L, j + 1, r, h8, hr, h => by
    have hx := h8 x (by simp)
    have e : (j + 1) * 8 = x.length + j * 8 := by omega
    have ih := flat_setrow (L := L) (j := j) (r := r) (fun r hr => h8 r (by simp [hr])) hr (by simpa using h)
    rw [List.set_cons_succ, List.flatten_cons, List.flatten_cons, e, List.take_append, List.take_of_length_le (by omega), List.drop_append, List.drop_of_length_le (by omega), List.nil_append]
    have e2 : x.length + j * 8 - x.length = j * 8 := by omega
    have e3 : x.length + j * 8 + 8 - x.length = j * 8 + 8 := by omega
    rw [e2, e3, List.append_assoc, ih]
section
variable {S : Store} {b j n : Nat} {ex : Bool} {L : List (List Int)} {r : List Int}
theorem rd_row (h : S[b]? = some (.mu (nums .i64 L.flatten) ex)) (h8 : All8 L) (hn : L.length = n) (hj : L[j]? = some r) : rd S b (j * 8) (8 * n) 8 = some (nums .i64 r) := by
  have hjl := (List.getElem?_eq_some_iff.1 hj).1
  have hl := flat_len h8
  rw [rd_mu h (by simp [hl, hn]) (by omega), nums_drop, nums_take, flat_row h8 hj]
theorem wr_row (h : S[b]? = some (.mu (nums .i64 L.flatten) ex)) (h8 : All8 L) (hn : L.length = n) (hj : j < n) (hr : r.length = 8) : wr S b (j * 8) (8 * n) (nums .i64 r) = some (S.set b (.mu (nums .i64 (L.set j r).flatten) ex)) := by
  have hl := flat_len h8
  rw [wr_mu h (by simp [hl, hn]) (by simp [hr]; omega)]
  congr 3
  unfold splice
  rw [← flat_setrow h8 hr (by omega), nums_length, hr, nums_take, nums_drop, nums_append, nums_append]
end
theorem All8.set {L : List (List Int)} (h : All8 L) {j : Nat} {r : List Int} (hr : r.length = 8) : All8 (L.set j r) := fun x hx => by
  rcases List.mem_or_eq_of_mem_set hx with h' | rfl
  · exact h x h'
  · exact hr
theorem run_less {o : List (List Int)} {x y : List Int} (ho : Rows o) (hol : o.length < 1000000) (hx : x.length = 8) (hy : y.length = 8) (hxB : Bd 200000 x) (hyB : Bd 200000 y) :
    callPure RT 37 [R8 x, R8 y, .fptr [OR o]] = some (.int .i64 (ordCmp o y x)) := by
  have hc := run_Cmp ho hol hy hx hyB hxB
  have htx : (nums .i64 x).take 8 = nums .i64 x := List.take_of_length_le (by simp [hx])
  have hty : (nums .i64 y).take 8 = nums .i64 y := List.take_of_length_le (by simp [hy])
  refine callPure_of (wpF_of tab_37 rfl ?_)
  simp [f37, enter, hx, hy, rd, chk, htx, hty, hc, after_nr]
theorem run_Len {n : Nat} (h : n < 256) : ∃ k : Nat, callPure RT 50 [.int .u64 (n : Int)] = some (.int .i64 (k : Int)) := by
  obtain ⟨b, hb, hb8, _, _⟩ := tab_get h
  have hlen : callPure RT 69 [.int .u64 (n : Int)] = some (.int .i64 (b.toNat : Int)) := by
    refine callPure_of (wpF_of tab_69 rfl ?_)
    have h1 : ¬ (4294967296 : Int) ≤ (n : Int) := by omega
    have h2 : ¬ (65536 : Int) ≤ (n : Int) := by omega
    have h3 : ¬ (256 : Int) ≤ (n : Int) := by omega
    have h4 : IntKind.u8.wrap (n : Int) = n := by rw [wrap_u8]; omega
    have h5 : IntKind.i64.wrap (b.toNat : Int) = b.toNat := wrap_i64 (by omega) (by omega)
    simp [f69, enter, h1, h2, h3, h4, opA, hb, h5, chk]
  refine ⟨b.toNat, callPure_of (wpF_of tab_50 rfl ?_)⟩
  simp [f50, enter, hlen, after_nr]
abbrev Dec (o : List (List Int)) (L : List (List Int)) : Prop := L.Pairwise fun a b => 0 ≤ ordCmp o a b
structure Mono8 (L : List (List Int)) : Prop where
  len : All8 L
  bd : ∀ r ∈ L, Bd 200000 r
theorem swap_rows {pre mid : List (List Int)} {x y : List Int} {j : Nat} (hj : pre.length = j) : ((pre ++ y :: x :: mid).set (j + 1) y).set j x = pre ++ x :: y :: mid := by
  subst hj
  rw [List.set_append_right _ _ (by omega)]
  have e : pre.length + 1 - pre.length = 1 := by omega
  rw [e, List.set_cons_succ, List.set_cons_zero, List.set_append_right _ _ (by omega), Nat.sub_self, List.set_cons_zero]
set_option maxRecDepth 20000 in
theorem ins_inner {o : List (List Int)} (ho : Rows o) (hol : o.length < 1000000) {n : Nat} (hn : n ≤ 1000) {L0 : List (List Int)} (hL0 : L0.length = n) (hM : Mono8 L0) {rest : List (List Int)} {i : Nat} {Q : FQ}
    (hQ : ∀ (tm : List AV) (hl : tm.length = 53) (L : List (List Int)), tm[0] = .msl 1 0 n 8 (8 * n) none → tm[1] = .int .i64 0 → tm[2] = .int .i64 (n : Int) → tm[3] = .fn 37 [.mptr 0 0 1] → tm[8] = .int .i64 (i : Int) → (L ++ rest).Perm L0 → Dec o L → L.length = i + 1 → Q (.ex 2) ⟨tm, [.mu [OR o] true, .mu (nums .i64 (L ++ rest).flatten) false]⟩) :
    ∀ (j : Nat) (pre : List (List Int)) (x : List Int) (mid : List (List Int)), pre.length = j → j + mid.length = i → (pre ++ x :: mid ++ rest).Perm L0 → Dec o (pre ++ mid) → Dec o (x :: mid) →
    wpL RT f60_0m 2 f60_0 ⟨[.msl 1 0 n 8 (8 * n) none, .int .i64 0, .int .i64 (n : Int), .fn 37 [.mptr 0 0 1], .any, .any, .any, .any, .int .i64 (i : Int), .int .i64 (j : Int)] ++ List.replicate 43 .any, [.mu [OR o] true, .mu (nums .i64 (pre ++ x :: mid ++ rest).flatten) false]⟩ Q := by
  intro j
  induction j with
  | zero =>
    intro pre x mid hpl hji hperm hd1 hd2
    have hp : pre = [] := List.eq_nil_of_length_eq_zero hpl
    subst hp
    have e0 : ([] : List (List Int)) ++ x :: mid ++ rest = (x :: mid) ++ rest := rfl
    rw [e0] at hperm ⊢
    have hfin := fun tm hl h0 h1 h2 h3 h8 => hQ tm hl (x :: mid) h0 h1 h2 h3 h8 hperm hd2 (by simp; omega)
    generalize (x :: mid) ++ rest = T at *
    rw [wpL_step]
    generalize hK : loopQ RT f60_0m 2 f60_0 Q = K
    simp [f60_0, List.replicate]
    subst hK
    exact hfin _ rfl rfl rfl rfl rfl rfl
  | succ j ih =>
    intro pre x mid hpl hji hperm hd1 hd2
    have hne : pre ≠ [] := fun h => by rw [h] at hpl; simp at hpl
    obtain ⟨pre', y, rfl⟩ : ∃ p y, pre = p ++ [y] := ⟨pre.dropLast, pre.getLast hne, (List.dropLast_concat_getLast hne).symm⟩
    have hpl' : pre'.length = j := by simp at hpl; exact hpl
    have e1 : pre' ++ [y] ++ x :: mid ++ rest = pre' ++ y :: x :: (mid ++ rest) := by simp
    have hperm1 := hperm
    rw [e1] at hperm1 ⊢
    have hall : Mono8 (pre' ++ y :: x :: (mid ++ rest)) := ⟨fun r hr => hM.len r (hperm1.mem_iff.1 hr), fun r hr => hM.bd r (hperm1.mem_iff.1 hr)⟩
    have hlen : (pre' ++ y :: x :: (mid ++ rest)).length = n := by rw [hperm1.length_eq, hL0]
    have hgy : (pre' ++ y :: x :: (mid ++ rest))[j]? = some y := by rw [List.getElem?_append_right (by omega)]; simp [hpl']
    have hgx : (pre' ++ y :: x :: (mid ++ rest))[j + 1]? = some x := by rw [List.getElem?_append_right (by omega)]; simp [hpl']
    have hy8 := hall.len y (List.mem_of_getElem? hgy)
    have hx8 := hall.len x (List.mem_of_getElem? hgx)
    have hless := run_less ho hol hx8 hy8 (hall.bd x (List.mem_of_getElem? hgx)) (hall.bd y (List.mem_of_getElem? hgy))
    have hjn : j + 1 < n := by rw [← hlen]; exact (List.getElem?_eq_some_iff.1 hgx).1
    have hanti := ordCmp_anti o y x
    have hsw := swap_rows (mid := mid ++ rest) (x := x) (y := y) hpl'
    generalize hT : pre' ++ y :: x :: (mid ++ rest) = T at *
    have rx : rd [.mu [OR o] true, .mu (nums .i64 T.flatten) false] 1 ((j + 1) * 8) (8 * n) 8 = some (nums .i64 x) := rd_row (S := [.mu [OR o] true, .mu (nums .i64 T.flatten) false]) rfl hall.len hlen hgx
    have ry : rd [.mu [OR o] true, .mu (nums .i64 T.flatten) false] 1 (j * 8) (8 * n) 8 = some (nums .i64 y) := rd_row (S := [.mu [OR o] true, .mu (nums .i64 T.flatten) false]) rfl hall.len hlen hgy
    have w1 : wr [.mu [OR o] true, .mu (nums .i64 T.flatten) false] 1 ((j + 1) * 8) (8 * n) (nums .i64 y) = some [.mu [OR o] true, .mu (nums .i64 (T.set (j + 1) y).flatten) false] := wr_row (S := [.mu [OR o] true, .mu (nums .i64 T.flatten) false]) rfl hall.len hlen hjn hy8
    have w2 : wr [.mu [OR o] true, .mu (nums .i64 (T.set (j + 1) y).flatten) false] 1 (j * 8) (8 * n) (nums .i64 x) = some [.mu [OR o] true, .mu (nums .i64 (pre' ++ x :: y :: (mid ++ rest)).flatten) false] := by
      rw [wr_row (S := [.mu [OR o] true, .mu (nums .i64 (T.set (j + 1) y).flatten) false]) rfl (hall.len.set hy8) (by simp [hlen]) (by omega) hx8, hsw]; rfl
    have rb : fz1 [.mu [OR o] true, .mu (nums .i64 T.flatten) false] (.mptr 0 0 1) = some (.fptr [OR o]) := rfl
    have hwj : IntKind.i64.wrap ((j : Int) + 1 - 1) = (j : Int) := by
      rw [wrap_i64 (by omega) (by omega)]; omega
    have hwj' : IntKind.i64.wrap (j : Int) = (j : Int) := wrap_i64 (by omega) (by omega)
    have hj0 : (0 : Int) < (j : Int) + 1 := by omega
    have hjn' : (j : Int) + 1 < (n : Int) := by omega
    have hjn2 : (j : Int) < (n : Int) := by omega
    have htn : ((j : Int) + 1).toNat = j + 1 := by omega
    have hj1 : (0 : Int) ≤ (j : Int) + 1 := by omega
    rw [wpL_step]
    generalize hK : loopQ RT f60_0m 2 f60_0 Q = K
    by_cases c : ordCmp o y x < 0
    · have hdd1 : Dec o (pre' ++ y :: mid) := by
        have e : pre' ++ [y] ++ mid = pre' ++ y :: mid := by simp
        rw [← e]; exact hd1
      have hdd2 : Dec o (x :: y :: mid) := by
        have hd2' := List.pairwise_cons.1 hd2
        refine List.pairwise_cons.2 ⟨fun z hz => ?_, ?_⟩
        · rcases List.mem_cons.1 hz with rfl | hz
          · omega
          · exact hd2'.1 z hz
        · have := (List.pairwise_append.1 hdd1).2.1
          exact this
      have hperm2 : (pre' ++ x :: (y :: mid) ++ rest).Perm L0 := by
        refine List.Perm.trans ?_ hperm1
        rw [← hT]
        have : pre' ++ x :: (y :: mid) ++ rest = pre' ++ x :: y :: (mid ++ rest) := by simp
        rw [this]
        exact List.Perm.append_left _ (List.Perm.swap y x _)
      have := ih pre' x (y :: mid) hpl' (by simp; omega) hperm2 hdd1 hdd2
      have e5 : pre' ++ x :: y :: mid ++ rest = pre' ++ x :: y :: (mid ++ rest) := by simp
      rw [e5] at this
      simp [-List.flatten_append, -List.flatten_cons, f60_0, List.replicate, hj0, hjn', hjn2, htn, hj1, rx, ry, rb, hless, c, hwj, hwj', hy8, hx8, w1, w2, chk]
      generalize pre' ++ x :: y :: (mid ++ rest) = T2 at *
      subst hK
      simp [head, f60_0m, mask, trunc_len]
      simpa [f60_0m, List.replicate] using this
    · have hc : 0 ≤ ordCmp o y x := by omega
      have hdd : Dec o (pre' ++ [y] ++ x :: mid) := by
        have h1 := List.pairwise_append.1 hd1
        have h2 := List.pairwise_cons.1 hd2
        refine List.pairwise_append.2 ⟨h1.1, hd2, fun z hz u hu => ?_⟩
        rcases List.mem_cons.1 hu with rfl | hu
        · rcases List.mem_append.1 hz with hz' | hz'
          · have hzy : 0 ≤ ordCmp o z y := (List.pairwise_append.1 h1.1).2.2 z hz' y (by simp)
            have hz8 : z.length = 8 := hall.len z (by rw [← hT]; simp [hz'])
            exact ordCmp_trans o (by omega) (by omega) hzy hc
          · have : z = y := by simpa using hz'
            rw [this]; exact hc
        · exact h1.2.2 z hz u hu
      have hlen2 : (pre' ++ [y] ++ x :: mid).length = i + 1 := by simp; omega
      have hfin := fun tm hl h0 h1 h2 h3 h8 => hQ tm hl (pre' ++ [y] ++ x :: mid) h0 h1 h2 h3 h8 hperm hdd hlen2
      rw [e1] at hfin
      simp [-List.flatten_append, -List.flatten_cons, f60_0, List.replicate, hj0, hjn', hjn2, htn, hj1, rx, ry, rb, hless, c, hwj, hwj', hy8, hx8, chk]
      subst hK
      exact hfin _ rfl rfl rfl rfl rfl rfl
set_option maxRecDepth 20000 in
theorem ins_outer {o : List (List Int)} (ho : Rows o) (hol : o.length < 1000000) {n : Nat} (hn : n ≤ 1000) {L0 : List (List Int)} (hL0 : L0.length = n) (hM : Mono8 L0) {Q : FQ}
    (hQ : ∀ (tm : List AV) (hl : tm.length = 53) (L : List (List Int)), L.Perm L0 → Dec o L → Q (.ex 0) ⟨tm, [.mu [OR o] true, .mu (nums .i64 L.flatten) false]⟩) :
    ∀ (m i : Nat), i + m = n → 1 ≤ i → ∀ (L rest : List (List Int)), L.length = i → (L ++ rest).Perm L0 → Dec o L →
    wpL RT f60_1m 2 f60_1 ⟨[.msl 1 0 n 8 (8 * n) none, .int .i64 0, .int .i64 (n : Int), .fn 37 [.mptr 0 0 1], .any, .any, .any, .any, .int .i64 (i : Int)] ++ List.replicate 44 .any, [.mu [OR o] true, .mu (nums .i64 (L ++ rest).flatten) false]⟩ Q := by
  intro m
  induction m with
  | zero =>
    intro i hi hi1 L rest hL hperm hd
    have hi' : i = n := by omega
    have hr : rest = [] := by
      have := hperm.length_eq
      rw [List.length_append, hL0] at this
      exact List.eq_nil_of_length_eq_zero (by omega)
    subst hr
    rw [List.append_nil] at hperm ⊢
    subst hi'
    have hfin := fun tm hl => hQ tm hl L hperm hd
    rw [wpL_step]
    generalize hK : loopQ RT f60_1m 2 f60_1 Q = K
    simp [f60_1, List.replicate]
    subst hK
    exact hfin _ rfl
  | succ m ih =>
    intro i hi hi1 L rest hL hperm hd
    have hne : rest ≠ [] := fun h => by
      have := hperm.length_eq
      rw [h, List.append_nil, hL0] at this; omega
    obtain ⟨x, rest', rfl⟩ : ∃ x r, rest = x :: r := by
      cases rest with
      | nil => exact absurd rfl hne
      | cons x r => exact ⟨x, r, rfl⟩
    have hlt : (i : Int) < (n : Int) := by omega
    have hw : IntKind.i64.wrap ((i : Int) + 1) = ((i + 1 : Nat) : Int) := wrap_i64 (by omega) (by omega)
    have e1 : L ++ x :: rest' = L ++ x :: [] ++ rest' := by simp
    have hperm' := hperm
    rw [e1] at hperm' ⊢
    have key := fun (Q' : FQ) hQ' => ins_inner ho hol hn hL0 hM (rest := rest') (i := i) (Q := Q') hQ' i L x [] hL (by simp) hperm' (by rw [List.append_nil]; exact hd) (List.pairwise_singleton _ _)
    generalize L ++ x :: [] ++ rest' = T at *
    rw [wpL_step]
    generalize hK : loopQ RT f60_1m 2 f60_1 Q = K
    simp [f60_1, List.replicate, hlt]
    simp [head, f60_0m, mask, trunc_len]
    refine key _ ?_
    intro tm hl L2 h0 h1 h2 h3 h8 hp2 hd2 hl2
    have hih := ih (i + 1) (by omega) (by omega) L2 rest' hl2 hp2 hd2
    generalize L2 ++ rest' = T2 at *
    simp [hl, h0, h1, h2, h3, h8, hw]
    subst hK
    simp only [loopQ_nrm, head]
    rw [mask_of (n := 53) (by simp [hl])]
    simp [f60_1m, hl, h0, h1, h2, h3, List.range_succ, trunc_len]
    simpa [f60_1m, List.replicate] using hih
theorem run_insertion {o : List (List Int)} (ho : Rows o) (hol : o.length < 1000000) {n : Nat} (hn : n ≤ 1000) (hn1 : 1 ≤ n) {L0 : List (List Int)} (hL0 : L0.length = n) (hM : Mono8 L0) :
    wpF RT 60 [.msl 1 0 n 8 (8 * n) none, .int .i64 0, .int .i64 (n : Int), .fn 37 [.mptr 0 0 1]] [.mu [OR o] true, .mu (nums .i64 L0.flatten) false] fun r S' => r = .tup [] ∧ ∃ L, L.Perm L0 ∧ Dec o L ∧ S' = [.mu [OR o] true, .mu (nums .i64 L.flatten) false] := by
  obtain ⟨x, rest, rfl⟩ : ∃ x r, L0 = x :: r := by
    cases L0 with
    | nil => simp at hL0; omega
    | cons x r => exact ⟨x, r, rfl⟩
  have key := fun (Q' : FQ) hQ' => ins_outer ho hol hn hL0 hM (Q := Q') hQ' (n - 1) 1 (by omega) (Nat.le_refl _) [x] rest rfl (List.Perm.refl _) (List.pairwise_singleton _ _)
  refine wpF_of tab_60 rfl ?_
  have e : [x] ++ rest = x :: rest := rfl
  rw [e] at key
  generalize x :: rest = T at *
  simp [f60, enter]
  simp [head, f60_1m, mask, trunc_len]
  refine key _ ?_
  intro tm hl L hp hd
  simp [hl, resAll]
  exact ⟨L, hp, hd, rfl⟩
set_option maxRecDepth 20000 in
theorem run_pdq {o : List (List Int)} (ho : Rows o) (hol : o.length < 1000000) {n : Nat} (hn : n ≤ 12) (hn1 : 1 ≤ n) {L0 : List (List Int)} (hL0 : L0.length = n) (hM : Mono8 L0) (k : Int) :
    wpF RT 49 [.msl 1 0 n 8 (8 * n) none, .int .i64 0, .int .i64 (n : Int), .int .i64 k, .fn 37 [.mptr 0 0 1]] [.mu [OR o] true, .mu (nums .i64 L0.flatten) false] fun r S' => r = .tup [] ∧ ∃ L, L.Perm L0 ∧ Dec o L ∧ S' = [.mu [OR o] true, .mu (nums .i64 L.flatten) false] := by
  have hins := run_insertion ho hol (by omega) hn1 hL0 hM
  generalize nums .i64 L0.flatten = C at *
  have hw : IntKind.i64.wrap (n : Int) = n := wrap_i64 (by omega) (by omega)
  have h12 : (n : Int) ≤ 12 := by omega
  refine wpF_of tab_49 rfl ?_
  simp [f49, enter]
  simp [head, f49_0m, mask, trunc_len]
  rw [wpL_step]
  generalize hK : loopQ RT _ 2 f49_0 _ = K
  simp [f49_0, hw, h12]
  refine contQ_sh (wpF_mono hins ?_)
  rintro r S' ⟨rfl, L, hp, hd, rfl⟩
  subst hK
  simp [trunc_len, resAll]
  exact ⟨L, hp, hd, rfl⟩
theorem run_sortFunc {o : List (List Int)} (ho : Rows o) (hol : o.length < 1000000) {n : Nat} (hn : n ≤ 12) (hn1 : 1 ≤ n) {L0 : List (List Int)} (hL0 : L0.length = n) (hM : Mono8 L0) :
    wpF RT 36 [.msl 1 0 n 8 (8 * n) none, .fn 37 [.mptr 0 0 1]] [.mu [OR o] true, .mu (nums .i64 L0.flatten) false] fun r S' => r = .tup [] ∧ ∃ L, L.Perm L0 ∧ Dec o L ∧ S' = [.mu [OR o] true, .mu (nums .i64 L.flatten) false] := by
  obtain ⟨k, hk⟩ := run_Len (n := n) (by omega)
  have hp := run_pdq ho hol hn hn1 hL0 hM (k : Int)
  generalize nums .i64 L0.flatten = C at *
  have hw : IntKind.u64.wrap (n : Int) = n := by rw [wrap_u64]; omega
  refine wpF_of tab_36 rfl ?_
  simp [f36, enter, hw, hk, after_nr]
  refine contQ_sh (wpF_mono hp ?_)
  rintro r S' ⟨rfl, L, hp, hd, rfl⟩
  simp [trunc_len, resAll]
  exact ⟨L, hp, hd, rfl⟩
end Go.AVM
