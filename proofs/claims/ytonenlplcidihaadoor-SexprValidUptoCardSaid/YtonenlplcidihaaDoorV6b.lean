/- Part of the proof: V6b. -/
import Derived.Test.YtonenlplcidihaaDoorV6
namespace Go.V
open Go Go.RowKit

def bindB (e : Edge) : Bool :=
  match e.ground with
  | .textOnly _ => false
  | .gcOnly _ => false
  | _ => true
theorem getD_replicate_false (m j : Nat) : (Array.replicate m false).getD j false = false := by
  rw [Array.getD_eq_getD_getElem?]
  by_cases h : j < m
  · simp [h]
  · simp [h]
theorem bindB_eq (e : Edge) : Region.binds .any e = bindB e := by
  unfold Region.binds bindB
  cases e.ground <;> first | rfl | decide
def memN (t : Nat) : List Nat → Bool
  | [] => false
  | s :: l => cond (Nat.beq s t) true (memN t l)
theorem memN_iff {t : Nat} : ∀ {l : List Nat}, memN t l = true ↔ t ∈ l
  | [] => by simp [memN]
  | s :: l => by
    unfold memN
    cases h : Nat.beq s t with
    | true => simp [Nat.eq_of_beq_eq_true h]
    | false =>
      have hne : s ≠ t := fun he => by subst he; simp at h
      simp only [cond_false, List.mem_cons]
      rw [memN_iff]
      constructor
      · exact .inr
      · rintro (h | h)
        · exact absurd h.symm hne
        · exact h

def edgesOf : List Edge → List Nat
  | [] => []
  | e :: es => cond (bindB e) (e.on :: edgesOf es) (edgesOf es)
theorem edgesOf_mem {i : Nat} : ∀ {es : List Edge}, i ∈ edgesOf es → ∃ e ∈ es, Region.binds .any e = true ∧ e.on = i
  | e :: es, h => by
    unfold edgesOf at h
    cases h1 : bindB e with
    | false =>
      rw [h1] at h
      obtain ⟨e', he, hb⟩ := edgesOf_mem h
      exact ⟨e', List.mem_cons_of_mem _ he, hb⟩
    | true =>
      rw [h1] at h
      rcases List.mem_cons.1 h with rfl | h
      · exact ⟨e, List.mem_cons_self, by rw [bindB_eq, h1], rfl⟩
      · obtain ⟨e', he, hb⟩ := edgesOf_mem h
        exact ⟨e', List.mem_cons_of_mem _ he, hb⟩
def edgesAt (ops : Array Oper) (j : Nat) : List Nat :=
  match ops[j]? with
  | some o => edgesOf o.after.toList
  | none => []
/-- All that comes before, one step behind the other. -/
def ancs (ops : Array Oper) : Nat → List Nat → List Nat → List Nat
  | 0, _, seen => seen
  | _ + 1, [], seen => seen
  | fuel + 1, i :: todo, seen => cond (memN i seen) (ancs ops fuel todo seen) (ancs ops fuel (edgesAt ops i ++ todo) (i :: seen))

def Closed (ops : Array Oper) (listed : Array Bool) : Prop :=
  ∀ k ok, ops[k]? = some ok → listed.getD k false = true → ∀ e ∈ ok.after, Region.binds .any e = true → listed.getD e.on false = true

theorem edgesAt_listed {ops : Array Oper} {listed : Array Bool} (hc : Closed ops listed) {i k : Nat} (hi : listed.getD i false = true) (hk : k ∈ edgesAt ops i) : listed.getD k false = true := by
  unfold edgesAt at hk
  split at hk
  · rename_i o ho
    obtain ⟨e, hm, hb, rfl⟩ := edgesOf_mem hk
    exact hc i o ho hi e (by simpa using hm) hb
  · cases hk

theorem ancs_listed {ops : Array Oper} {listed : Array Bool} (hc : Closed ops listed) : ∀ (fuel : Nat) (todo seen : List Nat), (∀ i ∈ todo, listed.getD i false = true) → (∀ i ∈ seen, listed.getD i false = true) →
    ∀ i ∈ ancs ops fuel todo seen, listed.getD i false = true
  | 0, _, _, _, h2, i, hi => h2 i hi
  | _ + 1, [], _, _, h2, i, hi => h2 i hi
  | fuel + 1, j :: todo, seen, h1, h2, i, hi => by
    unfold ancs at hi
    cases hm : memN j seen with
    | true =>
      rw [hm] at hi
      exact ancs_listed hc fuel todo seen (fun k hk => h1 k (List.mem_cons_of_mem _ hk)) h2 i hi
    | false =>
      rw [hm] at hi
      have hj := h1 j List.mem_cons_self
      refine ancs_listed hc fuel _ _ (fun k hk => ?_) (fun k hk => ?_) i hi
      · rcases List.mem_append.1 hk with hk | hk
        · exact edgesAt_listed hc hj hk
        · exact h1 k (List.mem_cons_of_mem _ hk)
      · rcases List.mem_cons.1 hk with rfl | hk
        · exact hj
        · exact h2 k hk

/-- Is there a load that need not come before? -/
def needL (as : List Nat) (j : Nat) : List Oper → Nat → Bool
  | [], _ => false
  | o :: l, i => cond (isLoad o.op) (cond (Nat.beq i j) (needL as j l (i + 1)) (cond (memN i as) (needL as j l (i + 1)) true)) (needL as j l (i + 1))
def needS (ops : Array Oper) (j : Nat) : Bool := needL (ancs ops 4000 (edgesAt ops j) []) j ops.toList 0
theorem needL_anc {as : List Nat} {j : Nat} : ∀ (l : List Oper) (k : Nat), needL as j l k = false → ∀ (i : Nat) (o : Oper), l[i]? = some o → isLoad o.op = true → k + i ≠ j → k + i ∈ as
  | [], _, _, i, o, ho, _, _ => by simp at ho
  | p :: l, k, h, i, o, ho, hl, hne => by
    unfold needL at h
    cases i with
    | zero =>
      simp at ho
      subst ho
      rw [hl] at h
      have hb : Nat.beq k j = false := by
        cases hb : Nat.beq k j with
        | false => rfl
        | true => exact absurd (Nat.eq_of_beq_eq_true hb) (by omega)
      rw [hb] at h
      cases he : memN k as with
      | true => exact memN_iff.1 he
      | false => rw [he] at h; cases h
    | succ i =>
      have hrec : needL as j l (k + 1) = false := by
        cases h1 : isLoad p.op with
        | false => rw [h1] at h; exact h
        | true =>
          rw [h1] at h
          cases h2 : Nat.beq k j with
          | true => rw [h2] at h; exact h
          | false =>
            rw [h2] at h
            cases h3 : memN k as with
            | true => rw [h3] at h; exact h
            | false => rw [h3] at h; cases h
      have := needL_anc l (k + 1) hrec i o (by simpa using ho) hl (by omega)
      rwa [show k + 1 + i = k + (i + 1) by omega] at this

theorem ready_edges {ops : Array Oper} {listed : Array Bool} {j : Nat} (hj : j ∈ Region.ready .any ops listed) : ∀ i ∈ edgesAt ops j, listed.getD i false = true := by
  intro i hi
  obtain ⟨_, oj, hoj, hall⟩ := mem_ready.1 hj
  unfold edgesAt at hi
  rw [hoj] at hi
  obtain ⟨e, hm, hb, rfl⟩ := edgesOf_mem hi
  exact hall e (by simpa using hm) hb

theorem closed_set {ops : Array Oper} {listed : Array Bool} {j : Nat} (hc : Closed ops listed) (hj : j ∈ Region.ready .any ops listed) : Closed ops (listed.setIfInBounds j true) := by
  intro k ok hk hl e he hb
  refine getD_set_true ?_
  by_cases hjk : j = k
  · subst hjk
    obtain ⟨_, oj, hoj, hall⟩ := mem_ready.1 hj
    rw [hk] at hoj
    cases hoj
    exact hall e he hb
  · rw [getD_set_ne false hjk] at hl
    exact hc k ok hk hl e he hb

theorem unlisted_false {listed : Array Bool} {i : Nat} (h : listed.getD i true = false) : listed.getD i false = false := by
  rw [Array.getD_eq_getD_getElem?] at *
  cases hl : listed[i]? with
  | none => rw [hl] at h; cases h
  | some b => rw [hl] at h; exact h

/-- A load that is still to come need not come before what may come now. -/
theorem needS_of {ops : Array Oper} {listed : Array Bool} {i j : Nat} {oi : Oper} (hc : Closed ops listed) (hj : j ∈ Region.ready .any ops listed) (hi : i ∈ Region.ready .any ops listed) (ho : ops[i]? = some oi) (hl : isLoad oi.op = true) (hne : j ≠ i) : needS ops j = true := by
  cases h : needS ops j with
  | true => rfl
  | false =>
    have he := needL_anc ops.toList 0 h i oi (by simpa using ho) hl (by omega)
    rw [Nat.zero_add] at he
    have h1 := ancs_listed hc _ _ _ (ready_edges hj) (fun k hk => by cases hk) i he
    have h2 := unlisted_false (mem_ready.1 hi).1
    rw [h1] at h2
    cases h2

section
variable {P : Program} {ops : Array Oper} {Q : Exit → Act → World → Prop} {S : World → Prop}

/-- Whatever comes up next; behind what turns the world and some load need not come before, S holds. -/
def wpA (P : Program) (ops : Array Oper) (Q : Exit → Act → World → Prop) (S : World → Prop) : Nat → Array Bool → Act → World → Prop
  | 0, listed, a, w => Region.ready .any ops listed = [] ∧ Q .normal a w
  | m + 1, listed, a, w => (Region.ready .any ops listed = [] → Q .normal a w) ∧
      ∀ i ∈ Region.ready .any ops listed, wpOp P ops Q i (fun a' w' => (w' = w ∨ (needS ops i = true → S w')) ∧ wpA P ops Q S m (listed.setIfInBounds i true) a' w') a w

theorem wpA_any : ∀ (m : Nat) (listed : Array Bool) (a : Act) (w : World), wpA P ops Q S m listed a w → wpAny P .any ops Q m listed a w
  | 0, _, _, _, h => h
  | m + 1, _, _, _, h => ⟨h.1, fun i hi => wpOp_mono (fun a' w' h' => wpA_any m _ a' w' h'.2) (h.2 i hi)⟩

theorem wpA_first {i : Nat} {oi : Oper} {v : Value} {T : World → Prop} (hi : ops[i]? = some oi) (hsel : ∀ (j : Nat) (o : Oper) cs b, ops[j]? = some o → o.op ≠ .select cs b)
    (hQ : ∀ c a w, Q (.panic c) (a.put oi.dst v) w → Q (.panic c) a w) (hT : (∀ w, T w) ∨ (isLoad oi.op = true ∧ ∀ w, S w → T w)) :
    ∀ (m : Nat) (listed : Array Bool) (a : Act) (w : World),
      (∀ j oj, ops[j]? = some oj → j ≠ i → listed.getD j true = false → (∀ e ∈ oj.after, Region.binds .any e = true → e.on ≠ i) → oi.apart ops oj = true) →
      i ∈ Region.ready .any ops listed → Closed ops listed → YieldsIf P ops T oi v a → T w →
      wpA P ops Q S m (listed.setIfInBounds i true) (a.put oi.dst v) w → wpA P ops Q S (m + 1) listed a w := by
  intro m
  induction m with
  | zero =>
    intro listed a w _ hr hcl hy hTw H
    refine ⟨fun h => (by rw [h] at hr; cases hr), fun j hj => ?_⟩
    by_cases hji : j = i
    · subst hji; exact hy.wpOp hi hTw ⟨.inl rfl, H⟩
    · have := ready_mono hj hji
      rw [H.1] at this
      cases this
  | succ m ih =>
    intro listed a w hfree hr hcl hy hTw H
    refine ⟨fun h => (by rw [h] at hr; cases hr), fun j hj => ?_⟩
    by_cases hji : j = i
    · subst hji; exact hy.wpOp hi hTw ⟨.inl rfl, H⟩
    · have h1 := H.2 j (ready_mono hj hji)
      obtain ⟨hjun, oj, hoj, hall⟩ := mem_ready.1 hj
      have hnot : ∀ e ∈ oj.after, Region.binds .any e = true → e.on ≠ i := fun e he hb heq => by
        have h1 := hall e he hb
        have h0 := unlisted_false (mem_ready.1 hr).1
        rw [heq, h0] at h1
        cases h1
      have h2 := wpOp_putIf hoj (hfree j oj hoj hji hjun hnot) (fun cs b => hsel i oi cs b hi) (fun cs b => hsel j oj cs b hoj) hQ hy h1
      have hfree' : ∀ k ok, ops[k]? = some ok → k ≠ i → (listed.setIfInBounds j true).getD k true = false →
          (∀ e ∈ ok.after, Region.binds .any e = true → e.on ≠ i) → oi.apart ops ok = true := fun k ok hk hki hun hno => by
        refine hfree k ok hk hki ?_ hno
        by_cases hjk : j = k
        · subst hjk; exact hjun
        · rw [getD_set_ne true hjk] at hun; exact hun
      refine wpOp_mono (fun a' w' h3 => ⟨h3.2.1, ?_⟩) h2
      have hTw' : T w' := by
        rcases hT with hT | ⟨hl, hT⟩
        · exact hT w'
        · rcases h3.2.1 with rfl | h4
          · exact hTw
          · exact hT w' (h4 (needS_of hcl hj hr hi hl hji))
      refine ih (listed.setIfInBounds j true) a' w' hfree' (ready_mono hr (Ne.symm hji)) (closed_set hcl hj) h3.1 hTw' ?_
      rw [Array.setIfInBounds_comm _ _ hji]
      exact h3.2.2
end

/-! ### the function -/
inductive Sel
  | take (i : Nat)
  | skip (i : Nat)
  | spec (i : Nat) (cs : Cs) (v : Value)
  | split (l : Cs)

def selAt (E : Env) (ops : Array Oper) (kn : Cs) (f : Fr) (i : Nat) : Option Sel :=
  match ops[i]? with
  | none => none
  | some o => match o.guard with
    | none => cond (qk E.P o.op) (some (.take i)) none
    | some (j, want) => match dstOf ops j with
      | none => none
      | some s => cond (csMem s want kn) (cond (qk E.P o.op) (some (.take i)) none) (cond (csMem s (notB want) kn) (some (.skip i))
          (match look s f with
            | some (cs, .bool _) => match vspec f kn ((s, want) :: cs) o with
              | some v => some (.spec i ((s, want) :: cs) v)
              | none => some (.split (revC ((s, want) :: cs) []))
            | _ => none))
def isSplit : Sel → Bool
  | .split _ => true
  | _ => false
def selOf (E : Env) (ops : Array Oper) (kn : Cs) (f : Fr) : List Nat → Option Sel → Option Sel
  | [], acc => acc
  | i :: l, acc => match selAt E ops kn f i with
    | some (.split c) => selOf E ops kn f l (match acc with | none => some (.split c) | a => a)
    | some s => some s
    | none => selOf E ops kn f l acc

def allR (p : Nat → Prop) : List Nat → Prop
  | [] => True
  | [i] => p i
  | i :: l => p i ∧ allR p l

def guardYes (ops : Array Oper) (kn : Cs) (o : Oper) : Bool :=
  match o.guard with
  | none => true
  | some (j, want) => match dstOf ops j with
    | none => false
    | some s => csMem s want kn

def vqp (E : Env) (f : Fr) (kn : Cs) (o : Oper) (w : World) (K : Value → Prop) : Prop :=
  match o.op with
  | .pick (.tmp _) _ _ => someV (vspec f kn [] o) K
  | op => cond (notSelect op) (cond (evAll f kn op.operands.toList) (vq E (rho f kn) o w K) False) False

/-- 'w0': the world in which the region began; 'ok': is it still at hand? -/
def vany (E : Env) (n : Nat) (ops : Array Oper) (w0 : World) (K : Fr → World → Prop) : Nat → Array Bool → Bool → Cs → Fr → World → Prop
  | 0, _, _, _, _, _ => False
  | fuel + 1, listed, ok, kn, f, w =>
    match Region.ready .any ops listed with
    | [] => K f w
    | i0 :: rs => match selOf E ops kn f (i0 :: rs) none with
      | some (.take i) => match ops[i]? with
        | some o => cond (Region.free .any ops listed i) (cond (mayPut n o kn f) (cond (cond (isLoad o.op) ok true)
            (vqp E f kn o w0 fun v => vany E n ops w0 K fuel (listed.setIfInBounds i true) ok kn (push o (some ([], v)) f) w) False) False) False
        | none => False
      | some (.skip i) => match ops[i]? with
        | some o => cond (Region.free .any ops listed i) (cond (mayPut n o kn f) (vany E n ops w0 K fuel (listed.setIfInBounds i true) ok kn (push o none f) w) False) False
        | none => False
      | some (.spec i cs v) => match ops[i]? with
        | some o => cond (Region.free .any ops listed i) (cond (mayPut n o (cs ++ kn) f) (vany E n ops w0 K fuel (listed.setIfInBounds i true) ok kn (push o (some (cs, v)) f) w) False) False
        | none => False
      | some (.split l) => vsplit (fun kn f => vany E n ops w0 K fuel listed ok kn f w) (fun kn f => vany E n ops w0 K fuel listed ok kn f w) l kn f
      | none => allR (fun i => match ops[i]? with
        | some o => cond (guardYes ops kn o) (cond (mayPut n o kn f) (vplain E f kn o w fun v w' =>
            cond (needS ops i) (Below w0.heap.size w0 w' ∧ vany E n ops w0 K fuel (listed.setIfInBounds i true) ok kn (push o (some ([], v)) f) w')
              (vany E n ops w0 K fuel (listed.setIfInBounds i true) false kn (push o (some ([], v)) f) w')) False) False
        | none => False) (i0 :: rs)

theorem selOf_mem {E : Env} {ops : Array Oper} {kn : Cs} {f : Fr} {s : Sel} : ∀ (l : List Nat) (acc : Option Sel), selOf E ops kn f l acc = some s → acc = some s ∨ ∃ i ∈ l, selAt E ops kn f i = some s
  | [], acc, h => .inl h
  | i :: l, acc, h => by
    unfold selOf at h
    cases hs : selAt E ops kn f i with
    | none =>
      rw [hs] at h
      rcases selOf_mem l acc h with h | ⟨j, hj, h⟩
      · exact .inl h
      · exact .inr ⟨j, List.mem_cons_of_mem _ hj, h⟩
    | some x =>
      rw [hs] at h
      cases x with
      | split c =>
        simp only at h
        rcases selOf_mem l _ h with h | ⟨j, hj, h⟩
        · cases acc with
          | none => simp only at h; exact .inr ⟨i, List.mem_cons_self, by rw [hs]; exact h⟩
          | some a => exact .inl h
        · exact .inr ⟨j, List.mem_cons_of_mem _ hj, h⟩
      | take j => exact .inr ⟨i, List.mem_cons_self, by rw [hs]; exact h⟩
      | skip j => exact .inr ⟨i, List.mem_cons_self, by rw [hs]; exact h⟩
      | spec j c v => exact .inr ⟨i, List.mem_cons_self, by rw [hs]; exact h⟩

def cntF : List Bool → Nat
  | [] => 0
  | true :: l => cntF l
  | false :: l => cntF l + 1
theorem cntF_set : ∀ (l : List Bool) (i : Nat), l[i]? = some false → cntF (l.set i true) + 1 = cntF l
  | b :: l, 0, h => by simp at h; subst h; rfl
  | b :: l, i + 1, h => by
    have := cntF_set l i (by simpa using h)
    cases b <;> simp only [List.set_cons_succ, cntF] <;> omega
theorem cntF_ready {ops : Array Oper} {listed : Array Bool} {i m : Nat} (hi : i ∈ Region.ready .any ops listed) (hm : cntF listed.toList = m) :
    ∃ m', m = m' + 1 ∧ cntF (listed.setIfInBounds i true).toList = m' := by
  have h := (mem_ready.1 hi).1
  have h2 : listed.toList[i]? = some false := by
    rw [Array.getD_eq_getD_getElem?] at h
    rw [Array.getElem?_toList]
    cases hl : listed[i]? with
    | none => rw [hl] at h; cases h
    | some b => rw [hl] at h; simp at h; rw [h]
  have h3 := cntF_set _ _ h2
  rw [Array.toList_setIfInBounds]
  exact ⟨cntF (listed.toList.set i true), by omega, rfl⟩

theorem allR_mem {p : Nat → Prop} : ∀ {l : List Nat}, allR p l → ∀ i ∈ l, p i
  | [i], h, j, hj => by
    rcases List.mem_cons.1 hj with rfl | hj
    · exact h
    · cases hj
  | i :: k :: l, h, j, hj => by
    rcases List.mem_cons.1 hj with rfl | hj
    · exact h.1
    · exact allR_mem h.2 j hj

theorem guardYes_wanted {ops : Array Oper} {kn : Cs} {o : Oper} {a : Act} (hk : Holds kn a) (h : guardYes ops kn o = true) : Region.wanted o (yielded ops a.tmps) = true := by
  unfold guardYes at h
  split at h
  · rename_i hg; exact wanted_none hg
  · rename_i j want hg
    split at h
    · cases h
    · rename_i s hd
      exact (wanted_some hg hd).2 (hk _ (csMem_mem h))

theorem dsts_mem {ops : Array Oper} {i : Nat} {o : Oper} (hi : ops[i]? = some o) {d : Nat} (hd : o.dst = some d) : d ∈ dsts ops.toList := by
  have hm : o ∈ ops.toList := by
    have := Array.mem_of_getElem? hi
    simpa using this
  have : ∀ (l : List Oper), o ∈ l → d ∈ dsts l := by
    intro l
    induction l with
    | nil => intro h; cases h
    | cons p l ih =>
      intro h
      rcases List.mem_cons.1 h with rfl | h
      · exact dsts_head hd
      · exact dsts_tail (ih h)
  exact this _ hm

theorem vany_sound {E : Env} (hE : E.Ok) {n : Nat} {ops : Array Oper} {w0 : World} {K : Fr → World → Prop} {Q : Exit → Act → World → Prop} {a0 : Act} (hsel : Region.noSelect ops = true)
    (hQ : ∀ c a d v w, Q (.panic c) (a.put d v) w → Q (.panic c) a w) (hn : ∀ f' a' w', K f' w' → Sat n f' a' → Agree (dsts ops.toList) a0 a' → Q .normal a' w') :
    ∀ (fuel : Nat) (listed : Array Bool) (ok : Bool) (kn : Cs) (f : Fr) (w : World) (a : Act) (m : Nat), vany E n ops w0 K fuel listed ok kn f w → Sat n f a → Holds kn a →
      (ok = true → Below w0.heap.size w0 w) → Closed ops listed → cntF listed.toList = m → Agree (dsts ops.toList) a0 a → wpA E.P ops Q (Below w0.heap.size w0) m listed a w
  | 0, _, _, _, _, _, _, _, h, _, _, _, _, _, _ => h.elim
  | fuel + 1, listed, ok, kn, f, w, a, m, h, hs, hk, hok, hcl, hm, hag => by
    have hsp := Region.noSelect_spec (ops := ops) hsel
    unfold vany at h
    split at h
    · rename_i hr
      cases m with
      | zero => exact ⟨hr, hn f a w h hs hag⟩
      | succ m => exact ⟨fun _ => hn f a w h hs hag, by rw [hr]; simp⟩
    · rename_i i0 rs hr
      split at h
      · -- take
        rename_i i hsl
        split at h <;> try exact h.elim
        rename_i o ho
        obtain ⟨i', hi', hat⟩ := (selOf_mem _ _ hsl).resolve_left (by simp)
        have hii : i' = i ∧ guardYes ops kn o = true := by
          unfold selAt at hat
          split at hat
          · cases hat
          · rename_i p hp
            split at hat
            · rename_i hg
              cases hq : qk E.P p.op with
              | false => rw [hq] at hat; cases hat
              | true =>
                rw [hq] at hat
                cases hat
                rw [ho] at hp; cases hp
                exact ⟨rfl, by unfold guardYes; rw [hg]⟩
            · rename_i j want hg
              split at hat
              · cases hat
              · rename_i s hd
                cases h1 : csMem s want kn with
                | true =>
                  rw [h1] at hat
                  cases hq : qk E.P p.op with
                  | false => rw [hq] at hat; cases hat
                  | true =>
                    rw [hq] at hat
                    cases hat
                    rw [ho] at hp; cases hp
                    exact ⟨rfl, by unfold guardYes; rw [hg]; simp only [hd]; exact h1⟩
                | false =>
                  cases h2 : csMem s (notB want) kn with
                  | true => rw [h1, h2] at hat; cases hat
                  | false =>
                    rw [h1, h2] at hat
                    simp only [cond_false] at hat
                    split at hat
                    · split at hat <;> cases hat
                    · cases hat
        obtain ⟨rfl, hgy⟩ := hii
        have hir : i' ∈ Region.ready .any ops listed := by rw [hr]; exact hi'
        obtain ⟨m', rfl, hm'⟩ := cntF_ready hir hm
        cases hf : Region.free .any ops listed i' with
        | false => rw [hf] at h; exact h.elim
        | true =>
          cases hmp : mayPut n o kn f with
          | false => rw [hf, hmp] at h; exact h.elim
          | true =>
            cases hol : cond (isLoad o.op) ok true with
            | false => rw [hf, hmp, hol] at h; exact h.elim
            | true =>
              rw [hf, hmp, hol] at h
              simp only [cond_true] at h
              have fin : ∀ (T : World → Prop) (v : Value), ((∀ w, T w) ∨ (isLoad o.op = true ∧ ∀ w', Below w0.heap.size w0 w' → T w')) → T w → (∀ w', T w' → (execOp a.eval o).run E.P w' = .ok (.value v) w') →
                  vany E n ops w0 K fuel (listed.setIfInBounds i' true) ok kn (push o (some ([], v)) f) w → wpA E.P ops Q (Below w0.heap.size w0) (m' + 1) listed a w := fun T v hT hTw hrun hv =>
                wpA_first ho hsp (fun c a w => hQ c a _ _ w) hT m' listed a w (Region.free_spec ho hf) hir hcl (.inl ⟨guardYes_wanted hk hgy, hrun⟩) hTw
                  (vany_sound hE hsel hQ hn fuel _ ok kn _ w _ m' hv (hs.put hmp) ((Holds.put fun d hd => (mayPut_lt hmp hd).2.1).2 hk) hok (closed_set hcl hir) hm' (hag.trans (Agree.put fun d hd => dsts_mem ho hd)))
              unfold vqp at h
              split at h
              · unfold someV at h
                split at h <;> try exact h.elim
                rename_i v hv
                exact fin (fun _ => True) v (.inl fun _ => trivial) trivial (fun w' _ => vspec_sound hs hk (holds_nil a) hv) h
              · cases h1 : notSelect o.op with
                | false => rw [h1] at h; exact h.elim
                | true =>
                  cases h2 : evAll f kn o.op.operands.toList with
                  | false => rw [h1, h2] at h; exact h.elim
                  | true =>
                    rw [h1, h2] at h
                    simp only [cond_true] at h
                    obtain ⟨v, hv, hrun⟩ := vq_sound h
                    rw [execOp_rho hs hk h1 h2] at hrun
                    rcases hrun with hrun | ⟨hl, hrun⟩
                    · exact fin (fun _ => True) v (.inl fun _ => trivial) trivial (fun w' _ => hrun w') hv
                    · rw [hl] at hol
                      exact fin (Below w0.heap.size w0) v (.inr ⟨hl, fun w' h => h⟩) (hok hol) hrun hv
      · -- skip
        rename_i i hsl
        split at h <;> try exact h.elim
        rename_i o ho
        obtain ⟨i', hi', hat⟩ := (selOf_mem _ _ hsl).resolve_left (by simp)
        have hii : i' = i ∧ ¬ Region.wanted o (yielded ops a.tmps) = true := by
          unfold selAt at hat
          split at hat
          · cases hat
          · rename_i p hp
            split at hat
            · cases hq : qk E.P p.op with
              | false => rw [hq] at hat; cases hat
              | true => rw [hq] at hat; cases hat
            · rename_i j want hg
              split at hat
              · cases hat
              · rename_i s hd
                cases h1 : csMem s want kn with
                | true =>
                  rw [h1] at hat
                  cases hq : qk E.P p.op with
                  | false => rw [hq] at hat; cases hat
                  | true => rw [hq] at hat; cases hat
                | false =>
                  cases h2 : csMem s (notB want) kn with
                  | true =>
                    rw [h1, h2] at hat
                    cases hat
                    rw [ho] at hp; cases hp
                    refine ⟨rfl, fun hw => ?_⟩
                    have := (wanted_some hg hd).1 hw
                    rw [hk _ (csMem_mem h2)] at this
                    cases want <;> cases this
                  | false =>
                    rw [h1, h2] at hat
                    simp only [cond_false] at hat
                    split at hat
                    · split at hat <;> cases hat
                    · cases hat
        obtain ⟨rfl, hnw⟩ := hii
        have hir : i' ∈ Region.ready .any ops listed := by rw [hr]; exact hi'
        obtain ⟨m', rfl, hm'⟩ := cntF_ready hir hm
        cases hf : Region.free .any ops listed i' with
        | false => rw [hf] at h; exact h.elim
        | true =>
          cases hmp : mayPut n o kn f with
          | false => rw [hf, hmp] at h; exact h.elim
          | true =>
            rw [hf, hmp] at h
            exact wpA_first (T := fun _ => True) ho hsp (fun c a w => hQ c a _ _ w) (.inl fun _ => trivial) m' listed a w (Region.free_spec ho hf) hir hcl (.inr ⟨by simpa using hnw, rfl⟩) trivial
              (vany_sound hE hsel hQ hn fuel _ ok kn _ w _ m' h (hs.putNone hmp) ((Holds.put fun d hd => (mayPut_lt hmp hd).2.1).2 hk) hok (closed_set hcl hir) hm' (hag.trans (Agree.put fun d hd => dsts_mem ho hd)))
      · -- spec
        rename_i i cs v hsl
        split at h <;> try exact h.elim
        rename_i o ho
        obtain ⟨i', hi', hat⟩ := (selOf_mem _ _ hsl).resolve_left (by simp)
        have hii : i' = i ∧ vspec f kn cs o = some v ∧ (Region.wanted o (yielded ops a.tmps) = true ↔ Holds cs a) := by
          unfold selAt at hat
          split at hat
          · cases hat
          · rename_i p hp
            split at hat
            · cases hq : qk E.P p.op with
              | false => rw [hq] at hat; cases hat
              | true => rw [hq] at hat; cases hat
            · rename_i j want hg
              split at hat
              · cases hat
              · rename_i s hd
                cases h1 : csMem s want kn with
                | true =>
                  rw [h1] at hat
                  cases hq : qk E.P p.op with
                  | false => rw [hq] at hat; cases hat
                  | true => rw [hq] at hat; cases hat
                | false =>
                  cases h2 : csMem s (notB want) kn with
                  | true => rw [h1, h2] at hat; cases hat
                  | false =>
                    rw [h1, h2] at hat
                    simp only [cond_false] at hat
                    split at hat
                    · rename_i c0 b hl
                      split at hat
                      · rename_i u hu
                        cases hat
                        rw [ho] at hp; cases hp
                        refine ⟨rfl, hu, ?_⟩
                        have hv := hs.val s c0 _ hl
                        have hwt := wanted_some (ops := ops) (a := a) hg hd
                        constructor
                        · intro hw
                          have h3 := hwt.1 hw
                          by_cases hc : Holds c0 a
                          · exact hc.cons h3
                          · have := hv.2 hc
                            rw [h3] at this
                            exact absurd (Option.some.inj this).symm (undef_ne_bool _)
                        · intro hc
                          exact hwt.2 (hc _ List.mem_cons_self)
                      · cases hat
                    · cases hat
        obtain ⟨rfl, hsp', hiff⟩ := hii
        have hir : i' ∈ Region.ready .any ops listed := by rw [hr]; exact hi'
        obtain ⟨m', rfl, hm'⟩ := cntF_ready hir hm
        cases hf : Region.free .any ops listed i' with
        | false => rw [hf] at h; exact h.elim
        | true =>
          cases hmp : mayPut n o (cs ++ kn) f with
          | false => rw [hf, hmp] at h; exact h.elim
          | true =>
            rw [hf, hmp] at h
            have hkn : ∀ d, o.dst = some d → mentC d kn = false := fun d hd => by
              have h3 := (mayPut_lt hmp hd).2.1
              have : ∀ (c : Cs), mentC d (c ++ kn) = false → mentC d kn = false := by
                intro c
                induction c with
                | nil => exact id
                | cons p l ih =>
                  obtain ⟨t, b⟩ := p
                  intro h
                  have h' : cond (Nat.beq t d) true (mentC d (l ++ kn)) = false := h
                  cases h1 : Nat.beq t d with
                  | true => rw [h1] at h'; cases h'
                  | false => rw [h1] at h'; exact ih h'
              exact this _ h3
            have main : ∀ (b : Bool), (b = true ↔ Holds cs a) → wpA E.P ops Q (Below w0.heap.size w0) (m' + 1) listed a w := fun b hb => by
              have hsat := hs.putIf (v := v) (b := b) hmp hb
              refine wpA_first (T := fun _ => True) (v := if b then v else undef) ho hsp (fun c a w => hQ c a _ _ w) (.inl fun _ => trivial) m' listed a w (Region.free_spec ho hf) hir hcl ?_ trivial
                (vany_sound hE hsel hQ hn fuel _ ok kn _ w _ m' h hsat ((Holds.put hkn).2 hk) hok (closed_set hcl hir) hm' (hag.trans (Agree.put fun d hd => dsts_mem ho hd)))
              cases b with
              | true => exact .inl ⟨hiff.2 (hb.1 rfl), fun w' _ => vspec_sound hs hk (hb.1 rfl) hsp'⟩
              | false =>
                have hnw : Region.wanted o (yielded ops a.tmps) = false := by
                  cases hw : Region.wanted o (yielded ops a.tmps) with
                  | false => rfl
                  | true => have := hb.2 (hiff.1 hw); cases this
                exact .inr ⟨hnw, rfl⟩
            by_cases hc : Holds cs a
            · exact main true ⟨fun _ => hc, fun _ => rfl⟩
            · exact main false ⟨fun h => (by cases h), fun h => absurd h hc⟩
      · -- split
        rename_i l hsl
        rcases vsplit_sound l kn f hs hk h with ⟨kn', f', p, q, _, s'⟩ | ⟨kn', f', p, q, _, s'⟩
        · exact vany_sound hE hsel hQ hn fuel listed ok kn' f' w a m s' p q hok hcl hm hag
        · exact vany_sound hE hsel hQ hn fuel listed ok kn' f' w a m s' p q hok hcl hm hag
      · -- what turns the world
        have hi0 : i0 ∈ Region.ready .any ops listed := by rw [hr]; exact List.mem_cons_self
        obtain ⟨m', rfl, _⟩ := cntF_ready hi0 hm
        refine ⟨fun h0 => (by rw [hr] at h0; cases h0), fun i hi => ?_⟩
        have hi' : i ∈ i0 :: rs := by rw [← hr]; exact hi
        have h1 := allR_mem h i hi'
        split at h1 <;> try exact h1.elim
        rename_i o ho
        cases hgy : guardYes ops kn o with
        | false => rw [hgy] at h1; exact h1.elim
        | true =>
          cases hmp : mayPut n o kn f with
          | false => rw [hgy, hmp] at h1; exact h1.elim
          | true =>
            rw [hgy, hmp] at h1
            simp only [cond_true] at h1
            obtain ⟨m2, he, hm2⟩ := cntF_ready hi hm
            have : m2 = m' := by omega
            subst this
            unfold wpOp
            simp only [ho]
            rw [if_pos (guardYes_wanted hk hgy)]
            refine .inl (vplain_sound hE hs hk (fun v w' hv => ?_) h1)
            have go : ∀ ok', (ok' = true → Below w0.heap.size w0 w') → vany E n ops w0 K fuel (listed.setIfInBounds i true) ok' kn (push o (some ([], v)) f) w' →
                wpA E.P ops Q (Below w0.heap.size w0) m2 (listed.setIfInBounds i true) (a.put o.dst v) w' := fun ok' hok' hv =>
              vany_sound hE hsel hQ hn fuel _ ok' kn _ w' _ m2 hv (hs.put hmp) ((Holds.put fun d hd => (mayPut_lt hmp hd).2.1).2 hk) hok' (closed_set hcl hi) hm2 (hag.trans (Agree.put fun d hd => dsts_mem ho hd))
            cases hne : needS ops i with
            | true =>
              rw [hne] at hv
              exact ⟨.inr fun _ => hv.1, go ok (fun _ => hv.1) hv.2⟩
            | false =>
              rw [hne] at hv
              exact ⟨.inr fun h => (by cases h), go false (fun h => by cases h) hv⟩

theorem vdraw_sound {E : Env} (hE : E.Ok) {n : Nat} {id : Nat} {ops : Array Oper} {K : Fr → World → Prop} {Q : Exit → Act → World → Prop} {a : Act} {f : Fr} {w : World} {fuel : Nat} (hsel : Region.noSelect ops = true)
    (hQ : ∀ c a d v w, Q (.panic c) (a.put d v) w → Q (.panic c) a w) (hn : ∀ f' a' w', K f' w' → Sat n f' a' → Agree (dsts ops.toList) a a' → Q .normal a' w')
    (h : vany E n ops w.drew K fuel (Array.replicate ops.size false) true [] f w.drew) (hs : Sat n f a) : (Code.region id ops true).wp E.P Q a w := by
  refine wp_region_any hE.mixed (wpA_any (S := Below w.drew.heap.size w.drew) _ _ _ _ ?_)
  refine vany_sound hE hsel hQ hn fuel _ true [] f w.drew a ops.size h hs (holds_nil a) (fun _ => Below.refl _ _) (fun k ok hk hl => (by rw [getD_replicate_false] at hl; cases hl)) ?_ (Agree.refl _ _)
  have : ∀ k, cntF (List.replicate k false) = k := by
    intro k
    induction k with
    | zero => rfl
    | succ k ih => rw [List.replicate_succ]; show cntF _ + 1 = _; rw [ih]
  simpa using this ops.size
end Go.V
