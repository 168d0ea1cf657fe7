/- Part of the proof: V8. -/
import Derived.Test.YtonenlplcidihaaDoorV7s
namespace Go.V
open Go Go.RowKit

def resOne (tmps : Array Value) : ResultVar → Sem Value
  | .tmp t => pure (tmps.getD t undef)
  | .cell p t => asAddr (tmps.getD p undef) >>= fun a => loadVar t a

theorem results_eq (fn : Func) (tmps : Array Value) : results fn tmps = (fn.results.mapM (resOne tmps) >>= fun vs => pure (if h : vs.size = 1 then vs[0] else .tuple vs)) := by
  unfold results
  congr 1

theorem vret_sound {P : Program} {n : Nat} {f : Fr} {w : World} {a : Act} (hs : Sat n f a) : ∀ (rs : List ResultVar) (K : List Value → Prop), vret P f w K rs →
    ∃ vs, (rs.mapM (resOne a.tmps)).run P w = .ok vs w ∧ K vs
  | [], K, h => ⟨[], rfl, h⟩
  | .tmp t :: l, K, h => by
    unfold vret at h
    split at h <;> try exact h.elim
    rename_i v hv
    obtain ⟨vs, hr, hk⟩ := vret_sound hs l _ h
    refine ⟨v :: vs, ?_, hk⟩
    simp only [List.mapM_cons, Sem.run_bind, resOne, Sem.run_pure, Result.andThen_ok, getD_of (get_sat hs (holds_nil a) hv), hr]
  | .cell p t :: l, K, h => by
    unfold vret at h
    split at h <;> try exact h.elim
    rename_i ad hv
    obtain ⟨v, hl, h⟩ := vload_sound h
    obtain ⟨vs, hr, hk⟩ := vret_sound hs l _ h
    refine ⟨v :: vs, ?_, hk⟩
    have hp := getD_of (get_sat hs (holds_nil a) hv)
    have hp' : asAddr (a.tmps.getD p undef) = pure ad := by rw [hp]; rfl
    simp only [List.mapM_cons, Sem.run_bind, resOne, Sem.run_pure, Result.andThen_ok, hp', hl, hr]

/-- Every function of the list has a body. -/
def allOk (P : Program) : List (Nat × Rs) → Prop
  | [] => True
  | (f, _) :: l => fnOk P f ∧ allOk P l
theorem allOk_look {P : Program} : ∀ {l : List (Nat × Rs)}, allOk P l → ∀ f rs, lookR f l = some rs → fnOk P f
  | (g, r) :: l, h, f, rs, hl => by
    unfold lookR at hl
    cases hb : Nat.beq g f with
    | true => rw [← Nat.eq_of_beq_eq_true hb]; exact h.1
    | false => rw [hb] at hl; exact allOk_look h.2 f rs hl

/-- A contract at a call. -/
theorem Called.of {P : Program} {f : Nat} {args : Array Value} {w : World} {R K : Value → World → Prop} (h : Ret P f args w R) (hk : ∀ v w', R v w' → K v w') : Called P f args w K :=
  ⟨Calls.mono h fun _ _ ⟨v, he, hr⟩ => ⟨v, he, hk _ _ hr⟩⟩
theorem Ret.mono {P : Program} {f : Nat} {args : Array Value} {w : World} {R K : Value → World → Prop} (h : Ret P f args w R) (hk : ∀ v w', R v w' → K v w') : Ret P f args w K :=
  Calls.mono h fun _ _ ⟨v, he, hr⟩ => ⟨v, he, hk _ _ hr⟩
theorem cond_intro {b : Bool} {p q : Prop} (hp : b = true → p) (hq : b = false → q) : cond b p q := by cases b; exact hq rfl; exact hp rfl
theorem cond_dec {c : Prop} [Decidable c] {p q : Prop} (hp : c → p) (hq : ¬ c → q) : cond (decide c) p q := by
  by_cases h : c
  · simp only [h, decide_true, cond_true]; exact hp h
  · simp only [h, decide_false, cond_false]; exact hq h

theorem look_argFr : ∀ (l : List Value) (k t : Nat) (cs : Cs) (v : Value), look t (argFr l k) = some (cs, v) → cs = [] ∧ k ≤ t ∧ l[t - k]? = some v
  | [], k, t, cs, v, h => by cases h
  | u :: l, k, t, cs, v, h => by
    rw [argFr, look_cons] at h
    by_cases hk : k = t
    · rw [if_pos hk] at h
      cases h
      subst hk
      exact ⟨rfl, Nat.le_refl _, by simp⟩
    · rw [if_neg hk] at h
      obtain ⟨h1, h2, h3⟩ := look_argFr l (k + 1) t cs v h
      refine ⟨h1, by omega, ?_⟩
      rw [show t - k = (t - (k + 1)) + 1 by omega]
      simpa using h3

theorem vfn_sound {E : Env} (hE : E.Ok) {fid : Nat} {fn : Func} {args : List Value} {w : World} {R : Value → World → Prop} (hf : E.P.funcs[fid]? = some fn) (h : vfn E fn args w R) : Ret E.P fid args.toArray w R := by
  unfold vfn at h
  split at h <;> try exact h.elim
  rename_i c hb
  refine calls_of_wp hf hb ?_
  have fin : ∀ (f' : Fr) (a' : Act) (w' : World), vret E.P f' w' (vresult fun v => R v w') fn.results.toList → Sat (args.length + (fn.ntmps - args.length)) f' a' →
      a'.defers = [] ∧ ∃ v, (results fn a'.tmps).run E.P w' = .ok v w' ∧ ∃ v', Ending.returned v = .returned v' ∧ R v' w' := by
    intro f' a' w' hv hs
    obtain ⟨vs, hr, hk⟩ := vret_sound hs _ _ hv
    have e : fn.results = fn.results.toList.toArray := by simp
    refine ⟨hs.defers, if h : vs.toArray.size = 1 then vs.toArray[0] else .tuple vs.toArray, ?_, ?_⟩
    · rw [results_eq, e, List.mapM_toArray, Sem.run_bind]
      have h2 : Sem.run E.P (List.toArray <$> fn.results.toList.mapM (resOne a'.tmps)) w' = .ok vs.toArray w' := by
        rw [map_eq_pure_bind, Sem.run_bind, hr]
        rfl
      rw [h2]
      rfl
    · refine ⟨_, rfl, ?_⟩
      match vs, hk with
      | [v], hk => exact hk
      | [], hk => exact hk
      | v :: u :: l, hk =>
        have : ¬ ((v :: u :: l).toArray.size = 1) := by simp
        rw [dif_neg this]
        exact hk
  refine vcode_sound hE c _ _ _ _ (argFr args 0) w _ _ (fun c a d v w' hp => ?_) h ?_ (fun f' a' w' h1 h2 _ => fin f' a' w' h1 h2) (fun i f' a' w' h1 => h1.elim) fin
  · obtain ⟨_, v', h2, _⟩ := hp
    cases h2
  · refine ⟨rfl, by simp, fun t cs v hl => ?_⟩
    obtain ⟨rfl, _, h3⟩ := look_argFr args 0 t cs v hl
    refine ⟨fun _ => ?_, fun hn => absurd (holds_nil _) hn⟩
    have hlt : t < args.length := (List.getElem?_eq_some_iff.1 h3).1
    show (args.toArray ++ _)[t]? = some v
    rw [Array.getElem?_append_left (by simpa using hlt)]
    simpa using h3
end Go.V
