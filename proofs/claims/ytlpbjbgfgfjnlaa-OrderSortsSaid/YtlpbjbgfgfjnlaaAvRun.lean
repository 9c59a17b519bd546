/- What a run of the abstract machine comes to, with no bound on rounds or calls: the limit of its bounded runs; the equations that it satisfies. -/
import Derived.Test.YtlpbjbgfgfjnlaaAvIr
set_option linter.unusedVariables false
set_option linter.unusedSimpArgs false
set_option linter.unusedSectionVars false
namespace Go.AVM

/-! ### Limits -/
open Classical in
noncomputable def lim {α : Type} (g : Nat → Option α) : Option α := if h : ∃ n a, g n = some a then g (Classical.choose h) else none
def Rising {α : Type} (g : Nat → Option α) : Prop := ∀ n a, g n = some a → g (n + 1) = some a
theorem Rising.le {α : Type} {g : Nat → Option α} (h : Rising g) {n m : Nat} (hnm : n ≤ m) {a : α} (ha : g n = some a) : g m = some a := by
  induction hnm with
  | refl => exact ha
  | step _ ih => exact h _ _ ih
theorem lim_some {α : Type} {g : Nat → Option α} (h : Rising g) {a : α} : lim g = some a ↔ ∃ n, g n = some a := by
  unfold lim
  constructor
  · intro e
    split at e
    · exact ⟨_, e⟩
    · cases e
  · rintro ⟨n, hn⟩
    have hex : ∃ n a, g n = some a := ⟨n, a, hn⟩
    rw [dif_pos hex]
    obtain ⟨b, hb⟩ := Classical.choose_spec hex
    rw [hb]
    have h1 := h.le (Nat.le_max_left n (Classical.choose hex)) hn
    have h2 := h.le (Nat.le_max_right n (Classical.choose hex)) hb
    rw [h1] at h2
    exact h2.symm
theorem lim_eq {α : Type} {g g' : Nat → Option α} (h : Rising g) (h' : Rising g') (he : ∀ a, (∃ n, g n = some a) ↔ ∃ n, g' n = some a) : lim g = lim g' := by
  cases e : lim g with
  | some a => exact ((lim_some h').2 ((he a).1 ((lim_some h).1 e))).symm
  | none =>
    cases e' : lim g' with
    | none => rfl
    | some a =>
      have := (lim_some h).2 ((he a).2 ((lim_some h').1 e'))
      rw [e] at this
      cases this

/-! ### Loops -/
def iterN : Nat → Body → Body
  | 0, _, _ => none
  | n + 1, f, s => (f s).bind (afterFlow (iterN n f))
theorem iterN_rising (f : Body) (s : St) : Rising fun n => iterN n f s := by
  intro n
  show ∀ a, iterN n f s = some a → iterN (n + 1) f s = some a
  induction n generalizing s with
  | zero => intro a h; simp [iterN] at h
  | succ n ih =>
    intro a h
    rw [iterN] at h ⊢
    cases hf : f s with
    | none => rw [hf] at h; simp at h
    | some r =>
      rw [hf] at h
      obtain ⟨fl, s'⟩ := r
      cases fl with
      | nrm => exact ih s' a h
      | ex i => exact h
      | ret => exact h
noncomputable def iter : IterF := fun f s => lim fun n => iterN n f s
theorem iter_some {f : Body} {s : St} {x : Flow × St} : iter f s = some x ↔ ∃ n, iterN n f s = some x := lim_some (iterN_rising f s)
theorem iter_eq (f : Body) (s : St) : iter f s = (f s).bind (afterFlow (iter f)) := by
  cases hf : f s with
  | none =>
    cases e : iter f s with
    | none => rfl
    | some x =>
      obtain ⟨n, hn⟩ := iter_some.1 e
      cases n with
      | zero => simp [iterN] at hn
      | succ n => rw [iterN, hf] at hn; simp at hn
  | some r =>
    obtain ⟨fl, s'⟩ := r
    cases fl with
    | nrm =>
      show iter f s = iter f s'
      unfold iter
      refine lim_eq (iterN_rising f s) (iterN_rising f s') fun a => ⟨?_, ?_⟩
      · rintro ⟨n, hn⟩
        cases n with
        | zero => simp [iterN] at hn
        | succ n => rw [iterN, hf] at hn; exact ⟨n, hn⟩
      · rintro ⟨n, hn⟩
        exact ⟨n + 1, by rw [iterN, hf]; exact hn⟩
    | ex i =>
      refine iter_some.2 ⟨1, ?_⟩
      rw [iterN, hf]; rfl
    | ret =>
      refine iter_some.2 ⟨1, ?_⟩
      rw [iterN, hf]; rfl

/-! ### More is known of the calls, more of what calls them -/
def LeR (R R' : RunF) : Prop := ∀ f a S x, R f a S = some x → R' f a S = some x

theorem bind_mono {α β : Type} {x x' : Option α} {k k' : α → Option β} (hx : ∀ a, x = some a → x' = some a) (hk : ∀ a b, k a = some b → k' a = some b) {b : β} (h : x.bind k = some b) : x'.bind k' = some b := by
  cases hxa : x with
  | none => rw [hxa] at h; cases h
  | some a => rw [hx a hxa]; rw [hxa] at h; exact hk a b h

theorem callPure_mono {R R' : RunF} (h : LeR R R') {f : Nat} {as : List AV} {r : AV} (e : callPure R f as = some r) : callPure R' f as = some r :=
  bind_mono (h f as []) (fun _ _ x => x) e
theorem callOwn_mono {R R' : RunF} (h : LeR R R') {i f : Nat} {as : List AV} {r : AV} (e : callOwn R i f as = some r) : callOwn R' i f as = some r :=
  bind_mono (h f as []) (fun _ _ x => x) e
theorem callSh_mono {R R' : RunF} (h : LeR R R') {f : Nat} {as : List AV} {S : Store} {r : AV × Store} (e : callSh R f as S = some r) : callSh R' f as S = some r :=
  bind_mono (h f as S) (fun _ _ x => x) e
theorem doCall_mono {R R' : RunF} (h : LeR R R') {m : CM} {st : Bool} {f : Nat} {as : List AV} {S : Store} {r : AV × Store} (e : doCall R m st f as S = some r) : doCall R' m st f as S = some r := by
  cases m with
  | pure => exact bind_mono (fun _ x => x) (fun a b => bind_mono (fun r => callPure_mono h) (fun _ _ x => x)) e
  | own i => exact bind_mono (fun _ x => x) (fun a b => bind_mono (fun r => callOwn_mono h) (fun _ _ x => x)) e
  | sh => exact callSh_mono h e

def K.calls : K → Bool
  | .call .. | .callv .. => true
  | _ => false
theorem opA_free {k : K} (hk : k.calls = false) (R R' : RunF) (vs : List AV) (S : Store) : opA R k vs S = opA R' k vs S := by
  unfold opA
  split <;> first | rfl | (simp [K.calls] at hk)

theorem opA_mono {R R' : RunF} (h : LeR R R') {k : K} {vs : List AV} {S : Store} {r : AV × Store} (e : opA R k vs S = some r) : opA R' k vs S = some r := by
  cases hk : k.calls with
  | false => rw [← opA_free hk R R']; exact e
  | true =>
    cases k <;> simp [K.calls] at hk
    case call m st f =>
      cases vs <;> exact doCall_mono h e
    case callv m st =>
      cases vs with
      | nil => simp [opA] at e
      | cons v vs =>
        cases v <;> simp only [opA] at e ⊢ <;> first | exact doCall_mono h e | cases e
theorem stepR_mono {R R' : RunF} (h : LeR R R') {o : ROp} {s s' : St} (e : stepR R o s = some s') : stepR R' o s = some s' := by
  unfold stepR at e ⊢
  split at e
  · exact bind_mono (fun _ => opA_mono h) (fun _ _ x => x) e
  · exact e
  · exact e
theorem runOps_mono {R R' : RunF} (h : LeR R R') : ∀ {os : List ROp} {s s' : St}, runOps R os s = some s' → runOps R' os s = some s'
  | [], _, _, e => e
  | o :: os, s, s', e => bind_mono (fun _ => stepR_mono h) (fun _ _ => runOps_mono h) e
theorem afterFlow_mono {k k' : Body} (h : ∀ s x, k s = some x → k' s = some x) {r x : Flow × St} (e : afterFlow k r = some x) : afterFlow k' r = some x := by
  obtain ⟨fl, s⟩ := r
  cases fl with
  | nrm => exact h _ _ e
  | ex i => exact e
  | ret => exact e
theorem iterN_mono {f f' : Body} (h : ∀ s x, f s = some x → f' s = some x) : ∀ (n : Nat) {s : St} {x : Flow × St}, iterN n f s = some x → iterN n f' s = some x
  | 0, _, _, e => e
  | n + 1, s, x, e => bind_mono (h s) (fun _ _ => afterFlow_mono fun _ _ => iterN_mono h n) e
theorem exec_mono {R R' : RunF} (h : LeR R R') : ∀ (c : AC) {s : St} {x : Flow × St}, exec R iter c s = some x → exec R' iter c s = some x
  | .skip, _, _, e => e
  | .reg ops, _, _, e => bind_mono (fun _ => runOps_mono h) (fun _ _ x => x) e
  | .seq a b, _, _, e => bind_mono (fun _ => exec_mono h a) (fun _ _ => afterFlow_mono fun _ _ => exec_mono h b) e
  | .cond c a b, s, x, e => by
    unfold exec at e ⊢
    split at e
    · exact exec_mono h a e
    · exact exec_mono h b e
    · exact e
  | .block id b, _, _, e => bind_mono (fun _ => exec_mono h b) (fun _ _ x => x) e
  | .loop live b, s, x, e => by
    obtain ⟨n, hn⟩ := iter_some.1 e
    exact iter_some.2 ⟨n, iterN_mono (fun s' x => exec_mono h b) n hn⟩
  | .exit id, _, _, e => e
  | .ret, _, _, e => e
theorem runBody_mono {R R' : RunF} (h : LeR R R') {af : AF} {args : List AV} {S : Store} {x : AV × Store} (e : runBody R iter af args S = some x) : runBody R' iter af args S = some x := by
  unfold runBody at e ⊢
  rw [chk_some] at e ⊢
  exact ⟨e.1, bind_mono (fun _ => exec_mono h af.body) (fun _ _ x => x) e.2⟩

/-! ### A run uses finitely much -/
section compact
variable {R : Nat → RunF} (hR : ∀ n, LeR (R n) (R (n + 1)))
include hR
theorem chain_le {n m : Nat} (h : n ≤ m) : LeR (R n) (R m) := by
  induction h with
  | refl => exact fun _ _ _ _ x => x
  | step _ ih => exact fun f a S x e => hR _ f a S x (ih f a S x e)
theorem bind_compact {α β : Type} {x : Option α} {k : α → Option β} {b : β} (x' : Nat → Option α) (k' : Nat → α → Option β)
    (mx : ∀ n m, n ≤ m → ∀ a, x' n = some a → x' m = some a) (mk : ∀ n m, n ≤ m → ∀ a b, k' n a = some b → k' m a = some b)
    (hx : ∀ a, x = some a → ∃ n, x' n = some a) (hk : ∀ a b, k a = some b → ∃ n, k' n a = some b) (h : x.bind k = some b) : ∃ n, (x' n).bind (k' n) = some b := by
  cases hxa : x with
  | none => rw [hxa] at h; cases h
  | some a =>
    rw [hxa] at h
    obtain ⟨n1, h1⟩ := hx a hxa
    obtain ⟨n2, h2⟩ := hk a b h
    refine ⟨max n1 n2, ?_⟩
    rw [mx _ _ (Nat.le_max_left n1 n2) _ h1]
    exact mk _ _ (Nat.le_max_right n1 n2) _ _ h2
noncomputable def limR (R : Nat → RunF) : RunF := fun f a S => lim fun n => R n f a S
theorem limR_some {f : Nat} {a : List AV} {S : Store} {x : AV × Store} : limR R f a S = some x ↔ ∃ n, R n f a S = some x := lim_some fun n x => hR n f a S x
theorem limR_ge (n : Nat) : LeR (R n) (limR R) := fun f a S x e => (limR_some hR).2 ⟨n, e⟩
theorem doCall_compact {m : CM} {st : Bool} {f : Nat} {as : List AV} {S : Store} {r : AV × Store} (e : doCall (limR R) m st f as S = some r) : ∃ n, doCall (R n) m st f as S = some r := by
  have key : ∀ (a : List AV) (S0 : Store) {β : Type} (k : AV × Store → Option β) (b : β), ((limR R f a S0).bind k = some b) → ∃ n, (R n f a S0).bind k = some b := by
    intro a S0 β k b h
    cases hx : limR R f a S0 with
    | none => rw [hx] at h; cases h
    | some x =>
      obtain ⟨n, hn⟩ := (limR_some hR).1 hx
      exact ⟨n, by rw [hn]; rw [hx] at h; exact h⟩
  cases m with
  | pure =>
    simp only [doCall] at e ⊢
    cases ha : as.mapM (fz1 S) with
    | none => rw [ha] at e; cases e
    | some a =>
      rw [ha] at e
      simp only [Option.bind_some, callPure] at e ⊢
      rw [Option.bind_assoc] at e
      obtain ⟨n, hn⟩ := key a [] _ _ e
      exact ⟨n, by rw [Option.bind_assoc]; exact hn⟩
  | own i =>
    simp only [doCall] at e ⊢
    cases ha : as.mapM (fz1 S) with
    | none => rw [ha] at e; cases e
    | some a =>
      rw [ha] at e
      simp only [Option.bind_some, callOwn] at e ⊢
      rw [Option.bind_assoc] at e
      obtain ⟨n, hn⟩ := key a [] _ _ e
      exact ⟨n, by rw [Option.bind_assoc]; exact hn⟩
  | sh => exact key as S _ _ e
theorem opA_compact {k : K} {vs : List AV} {S : Store} {r : AV × Store} (e : opA (limR R) k vs S = some r) : ∃ n, opA (R n) k vs S = some r := by
  cases hk : k.calls with
  | false => exact ⟨0, by rw [opA_free hk (R 0) (limR R)]; exact e⟩
  | true =>
    cases k <;> simp [K.calls] at hk
    case call m st f =>
      cases vs <;> exact doCall_compact hR e
    case callv m st =>
      cases vs with
      | nil => simp [opA] at e
      | cons v vs =>
        cases v <;> simp only [opA] at e ⊢ <;> first | exact doCall_compact hR e | cases e
theorem stepR_compact {o : ROp} {s s' : St} (e : stepR (limR R) o s = some s') : ∃ n, stepR (R n) o s = some s' := by
  unfold stepR at e ⊢
  split at e
  · cases ho : opA (limR R) o.k (o.args.map (·.ev s.tm)) s.st with
    | none => rw [ho] at e; cases e
    | some x =>
      obtain ⟨n, hn⟩ := opA_compact hR ho
      exact ⟨n, by simp only [hn]; rw [ho] at e; exact e⟩
  · exact ⟨0, e⟩
  · exact ⟨0, e⟩
theorem runOps_compact : ∀ {os : List ROp} {s s' : St}, runOps (limR R) os s = some s' → ∃ n, runOps (R n) os s = some s'
  | [], _, _, e => ⟨0, e⟩
  | o :: os, s, s', e => bind_compact hR (fun n => stepR (R n) o s) (fun n => runOps (R n) os) (fun n m h a => stepR_mono (chain_le hR h)) (fun n m h a b => runOps_mono (chain_le hR h))
      (fun a => stepR_compact hR) (fun a b => runOps_compact) e
theorem afterFlow_compact {k : Body} (k' : Nat → Body) (hk : ∀ s x, k s = some x → ∃ n, k' n s = some x) {r x : Flow × St} (e : afterFlow k r = some x) : ∃ n, afterFlow (k' n) r = some x := by
  obtain ⟨fl, s⟩ := r
  cases fl with
  | nrm => exact hk _ _ e
  | ex i => exact ⟨0, e⟩
  | ret => exact ⟨0, e⟩
theorem iterN_compact {f : Body} (f' : Nat → Body) (mf : ∀ n m, n ≤ m → ∀ s x, f' n s = some x → f' m s = some x) (hf : ∀ s x, f s = some x → ∃ n, f' n s = some x) :
    ∀ (k : Nat) {s : St} {x : Flow × St}, iterN k f s = some x → ∃ n, iterN k (f' n) s = some x
  | 0, _, _, e => by simp [iterN] at e
  | k + 1, s, x, e => bind_compact hR (fun n => f' n s) (fun n => afterFlow (iterN k (f' n))) (fun n m h a => mf n m h s a)
      (fun n m h a b => afterFlow_mono fun s x => iterN_mono (mf n m h) k) (hf s)
      (fun a b => afterFlow_compact hR (fun n => iterN k (f' n)) fun s x => iterN_compact f' mf hf k) e
theorem exec_compact : ∀ (c : AC) {s : St} {x : Flow × St}, exec (limR R) iter c s = some x → ∃ n, exec (R n) iter c s = some x
  | .skip, _, _, e => ⟨0, e⟩
  | .reg ops, s, _, e => bind_compact hR (fun n => runOps (R n) ops s) (fun n s => some (Flow.nrm, s)) (fun n m h a => runOps_mono (chain_le hR h)) (fun _ _ _ _ _ x => x)
      (fun a => runOps_compact hR) (fun _ _ x => ⟨0, x⟩) e
  | .seq a b, s, _, e => bind_compact hR (fun n => exec (R n) iter a s) (fun n => afterFlow (exec (R n) iter b)) (fun n m h _ => exec_mono (chain_le hR h) a)
      (fun n m h _ _ => afterFlow_mono fun _ _ => exec_mono (chain_le hR h) b) (fun _ => exec_compact a)
      (fun _ _ => afterFlow_compact hR (fun n => exec (R n) iter b) fun _ _ => exec_compact b) e
  | .cond c a b, s, x, e => by
    unfold exec at e ⊢
    split at e
    · exact exec_compact a e
    · exact exec_compact b e
    · cases e
  | .block id b, s, _, e => bind_compact hR (fun n => exec (R n) iter b s) (fun n r => some (catchEx id r)) (fun n m h _ => exec_mono (chain_le hR h) b) (fun _ _ _ _ _ x => x)
      (fun _ => exec_compact b) (fun _ _ x => ⟨0, x⟩) e
  | .loop live b, s, x, e => by
    obtain ⟨k, hk⟩ := iter_some.1 e
    obtain ⟨n, hn⟩ := iterN_compact hR (fun n s' => exec (R n) iter b (head live s.st.length s')) (fun n m h s x => exec_mono (chain_le hR h) b) (fun s x => exec_compact b) k hk
    exact ⟨n, iter_some.2 ⟨k, hn⟩⟩
  | .exit id, _, _, e => ⟨0, e⟩
  | .ret, _, _, e => ⟨0, e⟩
theorem runBody_compact {af : AF} {args : List AV} {S : Store} {x : AV × Store} (e : runBody (limR R) iter af args S = some x) : ∃ n, runBody (R n) iter af args S = some x := by
  unfold runBody at e
  rw [chk_some] at e
  obtain ⟨h, e⟩ := e
  obtain ⟨n, hn⟩ := bind_compact hR (fun n => exec (R n) iter af.body (enter af args S)) (fun n (r : Flow × St) => match r with | (.ex _, _) => none | (_, s) => (resAll s af.res).bind fun v => some (v, s.st))
    (fun n m h _ => exec_mono (chain_le hR h) af.body) (fun _ _ _ _ _ x => x) (fun _ => exec_compact hR af.body) (fun _ _ x => ⟨0, x⟩) e
  exact ⟨n, by unfold runBody; rw [chk_some]; exact ⟨h, hn⟩⟩
end compact

/-! ### Runs -/
abbrev Prog := Nat → Option AF
noncomputable def runN (P : Prog) : Nat → RunF
  | 0 => fun _ _ _ => none
  | n + 1 => fun f args S => (P f).bind fun af => runBody (runN P n) iter af args S
theorem runN_step (P : Prog) : ∀ n, LeR (runN P n) (runN P (n + 1))
  | 0 => fun _ _ _ _ e => by simp [runN] at e
  | n + 1 => fun f a S x e => bind_mono (fun _ x => x) (fun af y => runBody_mono (runN_step P n)) e
noncomputable def run (P : Prog) : RunF := limR (runN P)
theorem run_some {P : Prog} {f : Nat} {a : List AV} {S : Store} {x : AV × Store} : run P f a S = some x ↔ ∃ n, runN P n f a S = some x := limR_some (runN_step P)
theorem run_eq (P : Prog) (f : Nat) (a : List AV) (S : Store) : run P f a S = (P f).bind fun af => runBody (run P) iter af a S := by
  cases hp : P f with
  | none =>
    cases e : run P f a S with
    | none => rfl
    | some x =>
      obtain ⟨n, hn⟩ := run_some.1 e
      cases n <;> simp [runN, hp] at hn
  | some af =>
    show _ = runBody (run P) iter af a S
    cases e : run P f a S with
    | some x =>
      obtain ⟨n, hn⟩ := run_some.1 e
      cases n with
      | zero => simp [runN] at hn
      | succ n =>
        simp only [runN, hp, Option.bind_some] at hn
        exact (runBody_mono (limR_ge (runN_step P) n) hn).symm
    | none =>
      cases e' : runBody (run P) iter af a S with
      | none => rfl
      | some x =>
        obtain ⟨n, hn⟩ := runBody_compact (runN_step P) e'
        have : run P f a S = some x := run_some.2 ⟨n + 1, by simp only [runN, hp, Option.bind_some]; exact hn⟩
        rw [e] at this
        cases this
end Go.AVM
