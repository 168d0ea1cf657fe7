/- Part of the proof: V3o. -/
import Derived.Test.YtonenlplcidihaaDoorV3s
namespace Go.V
open Go

theorem eqF_sound {P : Program} {w : World} {d : Nat} {xs ys : Array Value} : ∀ (fs : List Field) (i : Nat) (xl yl : List Value) (b : Bool), (∀ j v, xl[j]? = some v → xs[i + j]? = some v) → (∀ j v, yl[j]? = some v → ys[i + j]? = some v) →
    eqF P fs i xl yl = some b → (Op.eqFields (d + 1) xs ys fs).run P w = .ok b w
  | [], i, xl, yl, b, _, _, h => by
    have : b = true := by
      unfold eqF at h
      exact (Option.some.inj h).symm
    subst this
    simp [Op.eqFields]
  | f :: fs, i, x :: xl, y :: yl, b, hx, hy, h => by
    unfold eqF at h
    cases ho : Nat.beq f.offset i with
    | false => rw [ho] at h; cases h
    | true =>
      cases hn : (f.name == "_") with
      | true => rw [ho, hn] at h; cases h
      | false =>
        rw [ho, hn] at h
        simp only [cond_true, cond_false] at h
        have hoff : f.offset = i := Nat.eq_of_beq_eq_true ho
        have hn' : f.name ≠ "_" := by simpa using hn
        have hx0 : xs[i]? = some x := by simpa using hx 0 x rfl
        have hy0 : ys[i]? = some y := by simpa using hy 0 y rfl
        have hx1 : ∀ j v, xl[j]? = some v → xs[i + 1 + j]? = some v := fun j v hj => by have := hx (j + 1) v (by simpa using hj); rwa [show i + (j + 1) = i + 1 + j by omega] at this
        have hy1 : ∀ j v, yl[j]? = some v → ys[i + 1 + j]? = some v := fun j v hj => by have := hy (j + 1) v (by simpa using hj); rwa [show i + (j + 1) = i + 1 + j by omega] at this
        have part : ∀ {dd : TypeDesc}, P.underlying f.type = some dd → aggD dd = false → (part f.type xs f.offset).run P w = .ok x w ∧ (part f.type ys f.offset).run P w = .ok y w := by
          intro dd hd ha
          constructor
          · unfold Go.part; simp only [Sem.run_bind, isAgg_run hd, ha, Result.andThen_ok, hoff, hx0]; rfl
          · unfold Go.part; simp only [Sem.run_bind, isAgg_run hd, ha, Result.andThen_ok, hoff, hy0]; rfl
        have fin : ∀ (e : Bool) {dd : TypeDesc}, P.underlying f.type = some dd → aggD dd = false → (Op.equalIn (d + 1) f.type x y).run P w = .ok e w →
            (match eqF P fs (i + 1) xl yl with | some c => some (and e c) | none => none) = some b → (Op.eqFields (d + 1) xs ys (f :: fs)).run P w = .ok b w := by
          intro e dd hd ha he hm
          obtain ⟨h1, h2⟩ := part hd ha
          split at hm
          · rename_i c hc
            have ih := eqF_sound (w := w) (d := d) fs (i + 1) xl yl c hx1 hy1 hc
            rw [Op.eqFields]
            simp only [if_pos hn', Sem.run_bind, h1, h2, he, Result.andThen_ok]
            cases e with
            | true => simp at hm; subst hm; simpa using ih
            | false => simp at hm; subst hm; simp
          · cases hm
        split at h
        · rename_i k k1 a j b' hd
          cases hk : kindB k1 j with
          | false => rw [hk] at h; cases h
          | true =>
            rw [hk] at h
            have := kindB_eq hk
            subst this
            exact fin (a == b') hd rfl (by unfold Op.equalIn; simp [run_underlying hd]) h
        · rename_i a b' hd
          exact fin (a == b') hd rfl (by unfold Op.equalIn; simp [run_underlying hd]) h
        · rename_i a b' hd
          exact fin (a == b') hd rfl (by unfold Op.equalIn; simp [run_underlying hd]) h
        · cases h

theorem veq_sound {P : Program} {t : TypeId} {x y : Operand} {xs ys : Array Value} {K : Bool → Prop} (h : veq P t xs ys K) :
    ∃ b, K b ∧ ∀ w, (eqGuard .eql t x y (.agg xs) (.agg ys)).run P w = .ok () w ∧ (eqGuard .neq t x y (.agg xs) (.agg ys)).run P w = .ok () w ∧ (Op.equal t (.agg xs) (.agg ys)).run P w = .ok b w := by
  unfold veq at h
  split at h <;> try exact h.elim
  rename_i fs hd
  cases h1 : P.stoodInHeld t with
  | true => rw [h1] at h; exact h.elim
  | false =>
    cases h2 : P.eqGuardType P.depth t with
    | true => rw [h1, h2] at h; exact h.elim
    | false =>
      rw [h1, h2] at h
      simp only [cond_false] at h
      split at h <;> try exact h.elim
      rename_i b hb
      refine ⟨b, h, fun w => ⟨?_, ?_, ?_⟩⟩
      · unfold eqGuard; simp [h2]
      · unfold eqGuard; simp [h2]
      · have hf : P.fieldsOf t = fs := by simp [Program.fieldsOf, hd]
        have he := eqF_sound (P := P) (w := w) (d := 9998) (xs := xs) (ys := ys) fs.toList 0 xs.toList ys.toList b (fun j v hj => by simpa using hj) (fun j v hj => by simpa using hj) hb
        show (Op.equalIn (9998 + 1 + 1) t _ _).run P w = _
        rw [run_equalIn_struct (P := P) w (9998 + 1) t xs ys (by rw [hf]; exact hd) h1, hf]
        exact he

theorem bytesAt_run {P : Program} {src dst e : TypeId} {w : World} {a : Option Addr} {n c : Nat} {bs : List UInt8} (hs : P.underlying src = some (.slice e)) (he : P.underlying e = some (.int .u8)) (hd : P.underlying dst = some .string)
    (h : BytesAt w a n bs) : (convert src dst (.slice a n c)).run P w = .ok (.string ⟨bs.toArray⟩) w := by
  obtain ⟨hl, h⟩ := h
  rcases h with ⟨rfl, rfl⟩ | ⟨ad, rfl, hsp, hc⟩
  · have : bs = [] := List.eq_nil_of_length_eq_zero hl
    subst this
    exact run_convert_bytes_nil (P := P) w src e hs he 0 c dst hd
  · obtain ⟨b, off, sp⟩ := ad
    simp only at hsp hc
    subst hsp
    have := run_convert_bytes_arg (P := P) w src e hs he b off n c (bs.map fun u => (u.toNat : Int)) (by simpa using hl) (fun i hi => by rw [hc i hi]; simp [List.getD, show i < bs.length by omega]) dst hd
    rw [this]
    have hm : List.map (fun n : Int => UInt8.ofNat n.toNat) (List.map (fun u : UInt8 => (u.toNat : Int)) bs) = bs := by
      rw [List.map_map]
      conv => rhs; rw [← List.map_id bs]
      exact List.map_congr_left fun u _ => by simp
    unfold strOfNums
    rw [hm]

theorem upon_value {o : Oper} {P : Program} {a : Act} {next : Act → World → Prop} {Q : Exit → Act → World → Prop} {ρ : Operand → Value} {w w' : World} {v : Value} {K : Value → World → Prop}
    (hk : ∀ v w', K v w' → next (a.put o.dst v) w') (hr : (execOp ρ o).run P w = .ok (.value v) w') (h : K v w') : o.upon P a next Q ((execOp ρ o).run P w) := by
  rw [hr]; exact hk _ _ h

theorem wp_gen {E : Env} {o : Oper} {a : Act} {next : Act → World → Prop} {Q : Exit → Act → World → Prop} {ρ : Operand → Value} {w : World} {K : Value → World → Prop}
    (hk : ∀ v w', K v w' → next (a.put o.dst v) w')
    (h : vgen E ρ o w K) : o.upon E.P a next Q ((execOp ρ o).run E.P w) := by
  obtain ⟨r, w', hr, h⟩ := swp_sound E.P _ w _ h
  rw [hr]
  cases r with
  | value v => exact hk _ _ h
  | skip => exact hk _ _ h
  | _ => exact h.elim

theorem vcall_sound {E : Env} (hE : E.Ok) {o : Oper} {a : Act} {next : Act → World → Prop} {Q : Exit → Act → World → Prop} {w : World} {K : Value → World → Prop} {f : Nat} {args : Array Value}
    (hk : ∀ v w', K v w' → next (a.put o.dst v) w') (h : vcall E f args w K) : o.upon E.P a next Q ((callFunc f args).run E.P w) := by
  unfold vcall at h
  cases hl : lookR f E.okf with
  | none => rw [hl] at h; exact h.elim
  | some rs =>
    rw [hl] at h
    obtain ⟨fn, hf, hn, hb⟩ := hE.fns f rs hl
    have hr : (callFunc f args).run E.P w = .ok (.enter f args) w := by
      have hn' : fn.name ≠ "runtime.NumGoroutine" := by simpa using hn
      have hb' : fn.body ≠ none := by intro h; simp [h] at hb
      unfold callFunc
      simp [hf, hn', hb']
    rw [hr]
    show Calls E.P f args w _
    obtain ⟨h⟩ := h
    refine Calls.mono h fun e w' h' => ?_
    obtain ⟨v, rfl, h'⟩ := h'
    obtain ⟨u, rfl, hK⟩ := Rs.ex_elim rs h'
    exact hk _ _ hK

theorem vop_sound {E : Env} (hE : E.Ok) {ρ : Operand → Value} {o : Oper} {a : Act} {next : Act → World → Prop} {Q : Exit → Act → World → Prop} {w : World} {K : Value → World → Prop}
    (hk : ∀ v w', K v w' → next (a.put o.dst v) w') (h : vop E ρ o w K) : o.upon E.P a next Q ((execOp ρ o).run E.P w) := by
  unfold vop at h
  split at h
  · -- load
    rename_i t x ho
    split at h <;> try exact h.elim
    rename_i ad hx
    obtain ⟨v, hr, hv⟩ := vload_sound h
    refine upon_value hk ?_ hv
    unfold execOp
    simp [ho, Instr.loadAt, Instr.sureAddr, hx, hr]
  · -- store
    rename_i t x y ho
    split at h <;> try exact h.elim
    rename_i ad hx
    obtain ⟨w', hr, hv⟩ := vstore_sound h
    have : (execOp ρ o).run E.P w = .ok .skip w' := by
      unfold execOp
      simp [ho, Instr.storeAt, Instr.sureAddr, hx, hr]
    rw [this]
    exact hk _ _ hv
  · -- index
    rename_i t x y ho
    split at h
    · rename_i s k n hx hy
      split at h <;> try exact h.elim
      rename_i ht
      refine upon_value hk ?_ h.2
      unfold execOp
      simp [ho, hx, hy, index_string ht h.1.1 h.1.2]
    · exact wp_gen hk h
  · -- indexAddr
    rename_i t x y ho
    split at h
    · rename_i b len c k n hx hy
      split at h <;> try exact h.elim
      rename_i e ht
      split at h <;> try exact h.elim
      rename_i i hi
      obtain ⟨ad, rfl, hb, hK⟩ := h
      refine upon_value hk ?_ hK
      unfold execOp
      simp [ho, hx, hy, indexAddr_slice ht hi hb.1 hb.2]
    · exact wp_gen hk h
  · -- slice
    rename_i t x lo hi mx ho
    split at h
    · rename_i ht
      split at h <;> try exact h.elim
      rename_i s hx
      obtain ⟨v, hr, hv⟩ := vslice_string (w := w) ht h
      refine upon_value hk ?_ hv
      unfold execOp
      simp only [ho, Sem.run_bind, hx, sliceAt_notArray ht (by simp), hr, Result.andThen_ok]
      rfl
    · rename_i e ht
      split at h <;> try exact h.elim
      rename_i b n c i hx hi'
      obtain ⟨v, hr, hv⟩ := vslice_slice (w := w) ht hi' h
      refine upon_value hk ?_ hv
      unfold execOp
      simp only [ho, Sem.run_bind, hx, sliceAt_notArray ht (by simp), hr, Result.andThen_ok]
      rfl
    · exact wp_gen hk h
  · -- convert
    rename_i src dst x ho
    split at h
    · rename_i b n c hx
      split at h
      · rename_i e hs hd
        split at h <;> try exact h.elim
        rename_i he
        obtain ⟨bs, hb, hK⟩ := h
        refine upon_value hk ?_ hK
        unfold execOp
        simp only [ho, Sem.run_bind, hx, bytesAt_run hs he hd hb, Result.andThen_ok]
        rfl
      · exact wp_gen hk h
    · rename_i s hx
      split at h
      · rename_i e hs hd
        split at h <;> try exact h.elim
        rename_i he
        have hr := Lib.run_convert_string_bytes (P := E.P) w src dst e s hs hd he
        refine upon_value hk ?_ (h (grownCap w s.size 0 e) (Lib.bytesWorld w e s) ⟨⟨rfl, rfl, rfl, ?_, fun j hj => Lib.bytesWorld_at_old w e s j hj⟩, Lib.bytesWorld_size w e s, fun j hj => Lib.bytesWorld_cell w e s j hj, grownCap_ge w s.size 0 e⟩)
        · unfold execOp
          simp only [ho, Sem.run_bind, hx, hr, Result.andThen_ok]
          rfl
        · rw [Lib.bytesWorld_size]; omega
      · exact wp_gen hk h
    · exact wp_gen hk h
  · -- binOp
    rename_i op t x y u ho
    split at h
    · rename_i k m j b hx hy
      cases hop : intOp op with
      | false => rw [hop] at h; exact wp_gen hk h
      | true =>
        rw [hop] at h
        cases hkb : kindB k j with
        | false => rw [hkb] at h; exact h.elim
        | true =>
          rw [hkb] at h
          have := kindB_eq hkb
          subst this
          by_cases hb : b = 0
          · simp only [hb, decide_true, cond_true] at h
          · simp only [hb, decide_false, cond_true, cond_false] at h
            cases op <;> simp only [intOp, Bool.false_eq_true] at hop <;> try cases hop
            · refine upon_value hk ?_ h
              unfold execOp
              simp [ho, hx, hy, eqGuard, binOp, Op.intDiv, hb]
            · refine upon_value hk ?_ h
              unfold execOp
              simp [ho, hx, hy, eqGuard, binOp, Op.intDiv, hb]
    · rename_i b c hx hy
      split at h
      · refine upon_value hk ?_ h.2
        unfold execOp
        simp only [ho, hx, hy, Sem.run_bind]
        simp [eqGuard, binOp, Op.stringOp]
        have h1 := h.1
        simp at *
        omega
      · exact wp_gen hk h
    · rename_i xs ys hx hy
      split at h
      · obtain ⟨b, hb, hr⟩ := veq_sound (x := x) (y := y) h
        refine upon_value hk ?_ hb
        unfold execOp
        simp only [ho, hx, hy, Sem.run_bind, (hr w).1, Result.andThen_ok, binOp, (hr w).2.2, Sem.run_pure]
      · obtain ⟨b, hb, hr⟩ := veq_sound (x := x) (y := y) h
        refine upon_value hk ?_ hb
        unfold execOp
        simp only [ho, hx, hy, Sem.run_bind, (hr w).2.1, Result.andThen_ok, binOp, (hr w).2.2, Sem.run_pure]
      · exact h.elim
    · exact wp_gen hk h
  · -- makeSlice
    rename_i t l c ho
    split at h <;> try exact h.elim
    rename_i k1 ln k2 cn hx hy
    split at h <;> try exact h.elim
    rename_i e ht
    split at h <;> try exact h.elim
    rename_i i hi
    split at h <;> try exact h.elim
    rename_i z hz
    obtain ⟨⟨h0, h1, h2, h3⟩, hK⟩ := h
    refine upon_value hk ?_ hK
    unfold execOp
    simp [ho, hx, hy, run_make (P := E.P) w t e i z ht hi hz k1 k2 ln cn h0 h1 h2 h3]
  · -- call
    rename_i c ho
    split at h
    · rename_i f hc
      split at h <;> try exact h.elim
      rename_i g first captured hf
      have := vcall_sound hE (o := o) (a := a) (Q := Q) hk h
      have hx : (execOp ρ o).run E.P w = (callFunc g (first ++ c.args.map ρ ++ captured)).run E.P w := by
        unfold execOp
        simp [ho, resolve, hc, hf, Deferred.ofValue, invoke]
      rw [hx]; exact this
    · rename_i hc
      split at h <;> try exact h.elim
      rename_i s x t u hargs htys
      have ha : c.args = #[s, x] := by
        have := congrArg List.toArray hargs
        simpa using this
      have htt : c.argTypes = #[t, u] := by
        have := congrArg List.toArray htys
        simpa using this
      have main : ∀ y, ρ x = y → cond (Nat.beq t u) (vappend E.P t w K (ρ s) y) False → o.upon E.P a next Q ((execOp ρ o).run E.P w) := by
        intro y hy hq
        cases hb : Nat.beq t u with
        | false => rw [hb] at hq; exact hq.elim
        | true =>
          rw [hb] at hq
          have htu := Nat.eq_of_beq_eq_true hb
          rw [← htu] at htt
          obtain ⟨v, w', hr, hv⟩ := vappend_sound (ty := o.type) hq
          refine upon_value hk ?_ hv
          unfold execOp
          simp [ho, resolve, hc, ha, htt, invoke, builtin, hy, hr]
      split at h <;> first | exact h.elim | exact main _ rfl h
    · exact wp_gen hk h
  · exact wp_gen hk h
end Go.V
