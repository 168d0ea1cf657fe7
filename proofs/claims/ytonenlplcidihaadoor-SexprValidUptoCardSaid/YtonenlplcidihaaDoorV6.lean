/- Part of the proof: V6. -/
import Derived.Test.YtonenlplcidihaaDoorV5
import Derived.OrdersHeld
/-! A region that draws its order. -/
namespace Go.V
open Go Go.RowKit

/-- What comes out without a look at the world. -/
def qwp {α : Type} (P : Program) : Sem α → (α → Prop) → Prop
  | .pure a, K => K a
  | .program k, K => qwp P (k P) K
  | _, _ => False
theorem qwp_sound {α : Type} (P : Program) : ∀ (s : Sem α) (K : α → Prop), qwp P s K → ∃ a, K a ∧ ∀ w, s.run P w = .ok a w := by
  intro s
  induction s with
  | pure a => intro K h; exact ⟨a, h, fun _ => rfl⟩
  | program k ih => intro K h; exact ih _ K h
  | load m a k ih => intro K h; exact h.elim
  | store m a v k ih => intro K h; exact h.elim
  | new o k ih => intro K h; exact h.elim
  | shape r k ih => intro K h; exact h.elim
  | freeze a n k ih => intro K h; exact h.elim
  | frozen a k ih => intro K h; exact h.elim
  | getObj r k ih => intro K h; exact h.elim
  | setObj r o k ih => intro K h; exact h.elim
  | choose q k ih => intro K h; exact h.elim
  | sys c k ih => intro K h; exact h.elim
  | mark m k ih => intro K h; exact h.elim
  | halt h' => intro K h; exact h.elim

def vqres (K : Value → Prop) : Next → Prop
  | .value v => K v
  | _ => False
def vqgen (E : Env) (ρ : Operand → Value) (o : Oper) (K : Value → Prop) : Prop := qwp E.P (execOp ρ o) (vqres K)

/-- Does the operation leave the world alone? -/
def qk (P : Program) : Op → Bool
  | .move _ | .assign _ | .pick .. | .load .. | .nilCheck _ | .binOp .. | .unOp .. | .fieldAddr .. | .field .. | .indexAddr .. | .index .. | .slice .. | .extract .. | .makeInterface .. | .makeFunc .. | .build .. => true
  | .convert _ d _ => match P.underlying d with
    | some (.int _) => true
    | _ => false
  | .call c => match c.callee with
    | .builtin .len | .builtin .cap | .builtin .min | .builtin .max => true
    | _ => false
  | _ => false
def isLoad : Op → Bool
  | .load _ _ => true
  | _ => false

def vq (E : Env) (ρ : Operand → Value) (o : Oper) (w : World) (K : Value → Prop) : Prop :=
  match o.op with
  | .load t a => match ρ a with
    | .pointer (some ad) => vload E.P t ad w K
    | _ => False
  | .index t x i => match ρ x, ρ i with
    | .string s, .int _ n => match E.P.underlying t with
      | some .string => (0 ≤ n ∧ n < s.size) ∧ K (.int .u8 (bt s n))
      | _ => False
    | _, _ => vqgen E ρ o K
  | .indexAddr t x i => match ρ x, ρ i with
    | .slice a len _, .int _ n => match E.P.underlying t with
      | some (.slice e) => match E.P.info? e with
        | some i => ∃ ad, a = some ad ∧ (0 ≤ n ∧ n < len) ∧ K (.pointer (some (ad.add (n.toNat * i.size))))
        | none => False
      | _ => False
    | _, _ => vqgen E ρ o K
  | .slice t x lo hi mx => match E.P.underlying t with
    | some .string => match ρ x with
      | .string s => vslice 1 K (.string s) (lo.map ρ) (hi.map ρ) (mx.map ρ)
      | _ => False
    | some (.slice e) => match ρ x, E.P.info? e with
      | .slice a n c, some i => vslice i.size K (.slice a n c) (lo.map ρ) (hi.map ρ) (mx.map ρ)
      | _, _ => False
    | _ => vqgen E ρ o K
  | .binOp op t x y _ => match ρ x, ρ y with
    | .int k a, .int j b => cond (intOp op) (cond (kindB k j) (cond (decide (b = 0)) False
        (match op with
          | .quo => K (.int k (k.wrap (a.tdiv b)))
          | .rem => K (.int k (a.tmod b))
          | _ => False)) False) (vqgen E ρ o K)
    | .string a, .string b => match op with
      | .add => a.size + b.size ≤ 9223372036854775807 ∧ K (.string (a ++ b))
      | _ => vqgen E ρ o K
    | .agg xs, .agg ys => match op with
      | .eql => veq E.P t xs ys fun b => K (.bool b)
      | .neq => veq E.P t xs ys fun b => K (.bool (!b))
      | _ => False
    | _, _ => vqgen E ρ o K
  | _ => vqgen E ρ o K

theorem vslice_mono {z : Nat} {K K' : Value → Prop} (hk : ∀ v, K v → K' v) {x : Value} {lo hi mx : Option Value} (h : vslice z K x lo hi mx) : vslice z K' x lo hi mx := by
  unfold vslice at *
  split at h <;> first | exact h.elim | exact hk _ h | exact ⟨h.1, hk _ h.2⟩

theorem vcells_below {w w' : World} {a : Addr} (hb : Below w.heap.size w w') : ∀ {vs : List Value} {i : Nat}, vcells w a i vs → vcells w' a i vs
  | [], _, _ => trivial
  | v :: vs, i, h => ⟨by rw [hb.cell (World.block_lt_of_cell? w _ h.1)]; exact h.1, vcells_below hb h.2⟩

theorem B.ex_mono : ∀ (b : B) {p q : Value → Prop}, (∀ v, p v → q v) → b.ex p → b.ex q
  | .int _, _, _, hpq, ⟨x, h⟩ => ⟨x, hpq _ h⟩
  | .bool, _, _, hpq, ⟨x, h⟩ => ⟨x, hpq _ h⟩
  | .str, _, _, hpq, ⟨x, h⟩ => ⟨x, hpq _ h⟩
  | .ptr, _, _, hpq, ⟨x, h⟩ => ⟨x, hpq _ h⟩
  | .slice, _, _, hpq, ⟨x, y, z, h⟩ => ⟨x, y, z, hpq _ h⟩
  | .any, _, _, hpq, ⟨x, h⟩ => ⟨x, hpq _ h⟩

/-- A load of what lies there since the region began. -/
theorem vload_held {P : Program} {t : TypeId} {a : Addr} {w : World} {K : Value → Prop} (h : vload P t a w K) : ∃ v, K v ∧ ∀ w', Below w.heap.size w w' → (loadVar t a).run P w' = .ok v w' := by
  unfold vload at h
  cases hd : P.underlying t with
  | none => simp [hd] at h
  | some d =>
    cases hi : P.info? t with
    | none => rw [hd, hi] at h; cases d <;> exact h.elim
    | some i =>
      rw [hd, hi] at h
      by_cases hag : aggD d = true
      · have h' : (match i.zero with
            | some (.agg z) => cond (Nat.beq (B.ofL z.toList).length i.size) (B.exL (B.ofL z.toList) fun vs => vcells w a 0 vs ∧ K (.agg vs.toArray)) False
            | _ => False) := by
          revert hag h; cases d <;> intro h hag <;> first | exact h | cases hag
        cases hz : i.zero with
        | none => rw [hz] at h'; exact h'.elim
        | some z =>
          rw [hz] at h'
          cases z with
          | agg z =>
            cases hb : Nat.beq (B.ofL z.toList).length i.size with
            | false => simp only [hb, cond_false] at h'
            | true =>
              simp only [hb, cond_true] at h'
              obtain ⟨vs, hl, hc, hk⟩ := B.exL_elim _ h'
              exact ⟨_, hk, fun w' hw' => loadVar_agg hd hag hi (hl.trans (Nat.eq_of_beq_eq_true hb)) (vcells_below hw' hc)⟩
          | _ => exact h'.elim
      · have hag' : aggD d = false := by simpa using hag
        clear hag
        have h' : (match i.zero with
            | some (.agg _) => False
            | some z => (B.of z).ex fun v => w.cell? a = some v ∧ K v
            | none => False) := by
          revert hag' h; cases d <;> intro h hag' <;> first | exact h | cases hag'
        cases hz : i.zero with
        | none => rw [hz] at h'; exact h'.elim
        | some z =>
          rw [hz] at h'
          have h'' : (B.of z).ex fun v => w.cell? a = some v ∧ K v := by
            cases z <;> first | exact h' | exact h'.elim
          obtain ⟨v, hc, hk⟩ := B.ex_elim _ h''
          exact ⟨v, hk, fun w' hw' => loadVar_one hd hag' (by rw [hw'.cell (World.block_lt_of_cell? w _ hc)]; exact hc)⟩

theorem vqgen_sound {E : Env} {ρ : Operand → Value} {o : Oper} {K : Value → Prop} (h : vqgen E ρ o K) : ∃ v, K v ∧ ∀ w', (execOp ρ o).run E.P w' = .ok (.value v) w' := by
  obtain ⟨r, hr, he⟩ := qwp_sound E.P _ _ h
  cases r with
  | value v => exact ⟨v, hr, he⟩
  | _ => exact hr.elim

theorem vslice_all {P : Program} {t : TypeId} {x : Value} {lo hi mx : Option Value} {K : Value → Prop} {z : Nat}
    (hr : ∀ (w : World) (K' : Value → Prop), vslice z K' x lo hi mx → ∃ v, (Instr.slice t x lo hi mx).run P w = .ok v w ∧ K' v) (h : vslice z K x lo hi mx) :
    ∃ v, K v ∧ ∀ w, (Instr.slice t x lo hi mx).run P w = .ok v w := by
  -- the value does not hang on the world
  have key : ∃ v, K v ∧ vslice z (fun u => u = v) x lo hi mx := by
    unfold vslice at *
    split at h <;> first | exact h.elim | exact ⟨_, h, rfl⟩ | exact ⟨_, h.2, h.1, rfl⟩
  obtain ⟨v, hv, hs⟩ := key
  exact ⟨v, hv, fun w => let ⟨u, hu, he⟩ := hr w _ hs; by rw [hu, he]⟩

theorem vq_sound {E : Env} {ρ : Operand → Value} {o : Oper} {w : World} {K : Value → Prop} (h : vq E ρ o w K) :
    ∃ v, K v ∧ ((∀ w', (execOp ρ o).run E.P w' = .ok (.value v) w') ∨ (isLoad o.op = true ∧ ∀ w', Below w.heap.size w w' → (execOp ρ o).run E.P w' = .ok (.value v) w')) := by
  unfold vq at h
  split at h
  · rename_i t x ho
    split at h <;> try exact h.elim
    rename_i ad hx
    obtain ⟨v, hv, hr⟩ := vload_held h
    refine ⟨v, hv, .inr ⟨by rw [ho]; rfl, fun w' hw' => ?_⟩⟩
    unfold execOp
    simp [ho, Instr.loadAt, Instr.sureAddr, hx, hr w' hw']
  · rename_i t x y ho
    split at h
    · rename_i s k n hx hy
      split at h <;> try exact h.elim
      rename_i ht
      refine ⟨_, h.2, .inl fun w' => ?_⟩
      unfold execOp
      simp [ho, hx, hy, index_string ht h.1.1 h.1.2]
    · obtain ⟨v, hv, hr⟩ := vqgen_sound h; exact ⟨v, hv, .inl hr⟩
  · rename_i t x y ho
    split at h
    · rename_i b len c k n hx hy
      split at h <;> try exact h.elim
      rename_i e ht
      split at h <;> try exact h.elim
      rename_i i hi
      obtain ⟨ad, rfl, hb, hK⟩ := h
      refine ⟨_, hK, .inl fun w' => ?_⟩
      unfold execOp
      simp [ho, hx, hy, indexAddr_slice ht hi hb.1 hb.2]
    · obtain ⟨v, hv, hr⟩ := vqgen_sound h; exact ⟨v, hv, .inl hr⟩
  · rename_i t x lo hi mx ho
    split at h
    · rename_i ht
      split at h <;> try exact h.elim
      rename_i s hx
      obtain ⟨v, hv, hr⟩ := vslice_all (P := E.P) (t := t) (fun w K' hk => vslice_string (w := w) ht hk) h
      refine ⟨v, hv, .inl fun w' => ?_⟩
      unfold execOp
      simp only [ho, Sem.run_bind, hx, sliceAt_notArray ht (by simp), hr, Result.andThen_ok]
      rfl
    · rename_i e ht
      split at h <;> try exact h.elim
      rename_i b n c i hx hi'
      obtain ⟨v, hv, hr⟩ := vslice_all (P := E.P) (t := t) (fun w K' hk => vslice_slice (w := w) ht hi' hk) h
      refine ⟨v, hv, .inl fun w' => ?_⟩
      unfold execOp
      simp only [ho, Sem.run_bind, hx, sliceAt_notArray ht (by simp), hr, Result.andThen_ok]
      rfl
    · obtain ⟨v, hv, hr⟩ := vqgen_sound h; exact ⟨v, hv, .inl hr⟩
  · rename_i op t x y u ho
    have gen : vqgen E ρ o K → ∃ v, K v ∧ ((∀ w', (execOp ρ o).run E.P w' = .ok (.value v) w') ∨ (isLoad o.op = true ∧ ∀ w', Below w.heap.size w w' → (execOp ρ o).run E.P w' = .ok (.value v) w')) :=
      fun h => by obtain ⟨v, hv, hr⟩ := vqgen_sound h; exact ⟨v, hv, .inl hr⟩
    split at h
    · rename_i k m j b hx hy
      cases hop : intOp op with
      | false => rw [hop] at h; exact gen h
      | true =>
        rw [hop] at h
        cases hkb : kindB k j with
        | false => rw [hkb] at h; exact h.elim
        | true =>
          rw [hkb] at h
          have := kindB_eq hkb
          subst this
          by_cases hb : b = 0
          · simp only [hb, decide_true, cond_true] at h
          · simp only [hb, decide_false, cond_true, cond_false] at h
            cases op <;> simp only [intOp, Bool.false_eq_true] at hop <;> try cases hop
            · refine ⟨_, h, .inl fun w' => ?_⟩
              unfold execOp
              simp [ho, hx, hy, eqGuard, binOp, Op.intDiv, hb]
            · refine ⟨_, h, .inl fun w' => ?_⟩
              unfold execOp
              simp [ho, hx, hy, eqGuard, binOp, Op.intDiv, hb]
    · rename_i b c hx hy
      split at h
      · refine ⟨_, h.2, .inl fun w' => ?_⟩
        unfold execOp
        simp only [ho, hx, hy, Sem.run_bind]
        simp [eqGuard, binOp, Op.stringOp]
        have h1 := h.1
        simp at *
        omega
      · exact gen h
    · rename_i xs ys hx hy
      split at h
      · obtain ⟨b, hb, hr⟩ := veq_sound (x := x) (y := y) h
        refine ⟨_, hb, .inl fun w' => ?_⟩
        unfold execOp
        simp only [ho, hx, hy, Sem.run_bind, (hr w').1, Result.andThen_ok, binOp, (hr w').2.2, Sem.run_pure]
      · obtain ⟨b, hb, hr⟩ := veq_sound (x := x) (y := y) h
        refine ⟨_, hb, .inl fun w' => ?_⟩
        unfold execOp
        simp only [ho, hx, hy, Sem.run_bind, (hr w').2.1, Result.andThen_ok, binOp, (hr w').2.2, Sem.run_pure]
      · exact h.elim
    · exact gen h
  · obtain ⟨v, hv, hr⟩ := vqgen_sound h; exact ⟨v, hv, .inl hr⟩
end Go.V
