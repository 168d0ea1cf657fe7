/- Part of the proof: V3s. -/
import Derived.ArgAppend
import Derived.Test.YtonenlplcidihaaDoorV3
namespace Go.V
open Go

theorem bounds_cells (P : Program) (w : World) (a : Addr) : ∀ (vs : List Value) (i : Nat) (acc : Array Value), vcells w a i vs →
    (loadCellsFrom a i vs.length acc).run P w = .ok (acc ++ vs.toArray) w
  | [], i, acc, _ => by simp [loadCellsFrom]
  | v :: vs, i, acc, h => by
    have ih := bounds_cells P w a vs (i + 1) (acc.push v) h.2
    simp only [List.length_cons, loadCellsFrom, load]
    show Sem.run P (Sem.bind (.load .plain (a.add i) .pure) _) w = _
    simp only [Sem.bind, Sem.run, h.1]
    rw [ih]
    simp

theorem plainCell_one {v : Value} (h : plainCell v = true) : v.oneCell' = true := by cases v <;> first | rfl | cases h
theorem plainCells_one : ∀ {vs : List Value}, plainCells vs = true → ∀ v ∈ vs, v.oneCell' = true
  | [], _, v, hv => by cases hv
  | u :: us, h, v, hv => by
    cases hu : plainCell u with
    | false => simp [plainCells, hu] at h
    | true =>
      simp only [plainCells, hu, cond_true] at h
      rcases List.mem_cons.1 hv with rfl | hv
      · exact plainCell_one hu
      · exact plainCells_one h v hv

def aggD : TypeDesc → Bool
  | .struct _ => true
  | .array _ _ => true
  | _ => false

theorem isAgg_run {P : Program} {t : TypeId} {d : TypeDesc} (h : P.underlying t = some d) (w : World) :
    (isAgg t).run P w = .ok (aggD d) w := by
  unfold isAgg
  simp only [Sem.run_bind, run_underlying h, Result.andThen_ok]
  cases d <;> rfl

theorem typeInfo_run {P : Program} {t : TypeId} {i : TypeInfo} (h : P.info? t = some i) (w : World) : (typeInfo t).run P w = .ok i w := by
  simp [typeInfo, h]
theorem sizeOf_run {P : Program} {t : TypeId} {i : TypeInfo} (h : P.info? t = some i) (w : World) : (sizeOf t).run P w = .ok i.size w := by
  simp [sizeOf, typeInfo, h]

theorem loadVar_agg {P : Program} {t : TypeId} {d : TypeDesc} {i : TypeInfo} {a : Addr} {w : World} (hd : P.underlying t = some d) (hag : (aggD d) = true)
    (hi : P.info? t = some i) {vs : List Value} (hl : vs.length = i.size) (hc : vcells w a 0 vs) : (loadVar t a).run P w = .ok (.agg vs.toArray) w := by
  unfold loadVar
  simp only [Sem.run_bind, isAgg_run hd, hag, Result.andThen_ok, if_true, sizeOf_run hi, loadCells, ← hl]
  rw [bounds_cells P w a vs 0 #[] hc]
  simp

theorem loadVar_one {P : Program} {t : TypeId} {d : TypeDesc} {a : Addr} {w : World} (hd : P.underlying t = some d) (hag : (aggD d) = false)
    {v : Value} (hc : w.cell? a = some v) : (loadVar t a).run P w = .ok v w := by
  unfold loadVar
  simp only [Sem.run_bind, isAgg_run hd, hag, Result.andThen_ok, load]
  simp [Sem.run, hc]

theorem vload_sound {P : Program} {t : TypeId} {a : Addr} {w : World} {K : Value → Prop} (h : vload P t a w K) : ∃ v, (loadVar t a).run P w = .ok v w ∧ K v := by
  unfold vload at h
  cases hd : P.underlying t with
  | none => simp [hd] at h
  | some d =>
    cases hi : P.info? t with
    | none => rw [hd, hi] at h; cases d <;> exact h.elim
    | some i =>
      rw [hd, hi] at h
      by_cases hag : (aggD d) = true
      · have h' : (match i.zero with
            | some (.agg z) => cond (Nat.beq (B.ofL z.toList).length i.size) (B.exL (B.ofL z.toList) fun vs => vcells w a 0 vs ∧ K (.agg vs.toArray)) False
            | _ => False) := by
          revert hag h; cases d <;> intro h hag <;> first | exact h | cases hag
        cases hz : i.zero with
        | none => rw [hz] at h'; exact h'.elim
        | some z =>
          rw [hz] at h'
          cases z with
          | agg z =>
            cases hb : Nat.beq (B.ofL z.toList).length i.size with
            | false => simp only [hb, cond_false] at h'
            | true =>
              simp only [hb, cond_true] at h'
              obtain ⟨vs, hl, hc, hk⟩ := B.exL_elim _ h'
              exact ⟨_, loadVar_agg hd hag hi (hl.trans (Nat.eq_of_beq_eq_true hb)) hc, hk⟩
          | _ => exact h'.elim
      · have hag' : (aggD d) = false := by simpa using hag
        clear hag
        have h' : (match i.zero with
            | some (.agg _) => False
            | some z => (B.of z).ex fun v => w.cell? a = some v ∧ K v
            | none => False) := by
          revert hag' h; cases d <;> intro h hag' <;> first | exact h | cases hag'
        cases hz : i.zero with
        | none => rw [hz] at h'; exact h'.elim
        | some z =>
          rw [hz] at h'
          have h'' : (B.of z).ex fun v => w.cell? a = some v ∧ K v := by
            cases z <;> first | exact h' | exact h'.elim
          obtain ⟨v, hc, hk⟩ := B.ex_elim _ h''
          exact ⟨v, loadVar_one hd hag' hc, hk⟩

theorem add_inj {a : Addr} {i j : Nat} (h : a.add i = a.add j) : i = j := by
  obtain ⟨b, o, s⟩ := a
  unfold Addr.add at h
  split at h <;> split at h <;> simp_all

theorem add_block (a : Addr) (i : Nat) : (a.add i).block = a.block := by unfold Addr.add; split <;> rfl

theorem cell?_setCell_isSome {w : World} {a b : Addr} {v u : Value} (h : w.cell? b = some u) : ∃ u', (w.setCell a v).cell? b = some u' := by
  unfold World.cell? at h ⊢
  simp only [World.setCell, Array.getElem?_modify]
  by_cases hab : a.block = b.block
  · simp only [hab, if_true]
    cases hb : w.heap[b.block]? with
    | none => rw [hb] at h; cases h
    | some o =>
      rw [hb] at h
      cases o with
      | cells c e f =>
        simp only [Option.map_some]
        by_cases hs : b.spot.isSome = true
        · simp [hs] at h
        · have h2 : c[b.off]? = some u := by simpa [hs] using h
          have hlt : b.off < c.size := (Array.getElem?_eq_some_iff.1 h2).1
          by_cases ha : a.spot.isSome = true
          · exact ⟨u, by simp [hs, ha, h2]⟩
          · exact ⟨(c.setIfInBounds a.off v)[b.off]'(by simpa using hlt), by simp [hs, ha, hlt]⟩
      | _ => cases h
  · rw [if_neg hab]
    exact ⟨u, h⟩

theorem frozen?_setCell {w : World} {a b : Addr} {v : Value} : (w.setCell a v).frozen? b = w.frozen? b := by
  unfold World.frozen?
  simp only [World.setCell, Array.getElem?_modify]
  by_cases hab : a.block = b.block
  · simp only [hab, if_true]
    cases hb : w.heap[b.block]? with
    | none => rfl
    | some o => cases o <;> rfl
  · rw [if_neg hab]

theorem run_store1 {P : Program} {w : World} {a : Addr} {v : Value} (hp : plainCell v = true) (hc : ∃ u, w.cell? a = some u) (hf : w.frozen? a = false) :
    (store a v).run P w = .ok () (w.setCell a v) := by
  obtain ⟨u, hu⟩ := hc
  rw [run_store P w a v _ (plainCell_one hp), hu]
  simp [hf]

theorem storeCells_run {P : Program} (a : Addr) : ∀ (vs : List Value) (i : Nat) (w : World), plainCells vs = true →
    (∀ j, i ≤ j → j < i + vs.length → (∃ u, w.cell? (a.add j) = some u) ∧ w.frozen? (a.add j) = false) → (storeCells a vs i).run P w = .ok () (setCells w a i vs)
  | [], i, w, _, _ => rfl
  | v :: vs, i, w, hp, h => by
    cases hv : plainCell v with
    | false => simp [plainCells, hv] at hp
    | true =>
      simp only [plainCells, hv, cond_true] at hp
      have h0 := h i (Nat.le_refl _) (by simp)
      simp only [storeCells, Sem.run_bind, run_store1 hv h0.1 h0.2, Result.andThen_ok, setCells]
      refine storeCells_run a vs (i + 1) _ hp fun j hj hj' => ?_
      have hj2 := h j (by omega) (by simp only [List.length_cons]; omega)
      exact ⟨let ⟨u, hu⟩ := hj2.1; cell?_setCell_isSome hu, by rw [frozen?_setCell]; exact hj2.2⟩

theorem vstore_sound {P : Program} {t : TypeId} {a : Addr} {v : Value} {w : World} {K : World → Prop} (h : vstore P t a v w K) : ∃ w', (storeVar t a v).run P w = .ok () w' ∧ K w' := by
  unfold vstore at h
  cases hi : P.info? t with
  | none => rw [hi] at h; cases v <;> exact h.elim
  | some i =>
    rw [hi] at h
    have one : ∀ v : Value, v.cells = #[v] → (cond (Nat.beq i.size 1) (cond (plainCell v) (((∃ u, w.cell? a = some u) ∧ w.frozen? a = false) ∧ K (w.setCell a v)) False) False) →
        ∃ w', (storeVar t a v).run P w = .ok () w' ∧ K w' := by
      intro v hc h
      cases hb : Nat.beq i.size 1 with
      | false => simp [hb] at h
      | true =>
        cases hp : plainCell v with
        | false => simp [hb, hp] at h
        | true =>
          simp only [hb, hp, cond_true] at h
          have hs := Nat.eq_of_beq_eq_true hb
          refine ⟨_, ?_, h.2⟩
          unfold storeVar
          have h0 : a.add 0 = a := by simp [Addr.add]
          simp only [Sem.run_bind, sizeOf_run hi, Result.andThen_ok, hc, hs]
          have := run_store1 (P := P) hp h.1.1 h.1.2
          simp [storeCells, h0, this]
    cases v with
    | agg cs =>
      simp only at h
      cases hb : Nat.beq cs.toList.length i.size with
      | false => simp only [hb, cond_false] at h
      | true =>
        cases hp : plainCells cs.toList with
        | false => simp only [hb, hp, cond_true, cond_false] at h
        | true =>
          simp only [hb, hp, cond_true] at h
          have hs := Nat.eq_of_beq_eq_true hb
          refine ⟨_, ?_, h.2⟩
          unfold storeVar
          have hs2 : (Value.agg cs).cells.size = i.size := by show cs.size = i.size; simpa using hs
          simp only [Sem.run_bind, sizeOf_run hi, Result.andThen_ok, hs2, ne_eq, not_true_eq_false, if_false]
          exact storeCells_run a cs.toList 0 w hp fun j _ hj => h.1 j (by simp at hj hs; omega)
    | _ => exact one _ rfl h

theorem sliceBound_run {P : Program} {w : World} {k : IntKind} {i : Int} {y : Nat} {code : BoundsCode} (h0 : 0 ≤ i) (h1 : i ≤ y) :
    (Instr.sliceBound (.int k i) y code).run P w = .ok i.toNat w := run_sliceBound (P := P) (w := w) k i y code h0 h1

theorem vslice_string {P : Program} {t : TypeId} {w : World} {s : ByteArray} {lo hi mx : Option Value} {K : Value → Prop} {z : Nat} (ht : P.underlying t = some .string)
    (h : vslice z K (.string s) lo hi mx) : ∃ v, (Instr.slice t (.string s) lo hi mx).run P w = .ok v w ∧ K v := by
  unfold vslice at h
  unfold Instr.slice
  simp only [Sem.run_bind, run_underlying ht, Result.andThen_ok]
  split at h <;> first | (simp_all; done) | skip
  all_goals simp_all [Instr.sliceBounds]
  · obtain ⟨⟨h1, h2⟩, h3⟩ := h; rw [sliceBound_run h1 (by omega)]; simp; exact h3
  · obtain ⟨⟨h1, h2⟩, h3⟩ := h; rw [sliceBound_run h1 (by omega)]; simp; exact h3
  · obtain ⟨⟨h1, h2, h4⟩, h3⟩ := h; rw [sliceBound_run (by omega) (by omega)]; simp; rw [sliceBound_run h1 (by omega)]; simp; exact h3

theorem subA_zero (a : Option Addr) (m size : Nat) : subA a 0 m size = a := by
  unfold subA
  split
  · rfl
  · cases a <;> simp [Addr.add]

theorem vslice_slice {P : Program} {t e : TypeId} {i : TypeInfo} {w : World} {a : Option Addr} {n c : Nat} {lo hi mx : Option Value} {K : Value → Prop} (ht : P.underlying t = some (.slice e)) (hi' : P.info? e = some i)
    (h : vslice i.size K (.slice a n c) lo hi mx) : ∃ v, (Instr.slice t (.slice a n c) lo hi mx).run P w = .ok v w ∧ K v := by
  have z : (if c = 0 then a else a.map (·.add (0 * i.size))) = a := subA_zero a c i.size
  have z' : ∀ m, (if m = 0 then a else a.map (·.add (0 * i.size))) = a := fun m => subA_zero a m i.size
  unfold vslice at h
  unfold Instr.slice
  simp only [Sem.run_bind, run_underlying ht, Result.andThen_ok]
  split at h <;> first | (simp_all; done) | skip
  all_goals simp_all [Instr.sliceBounds, sizeOf, typeInfo]
  · obtain ⟨⟨h1, h2⟩, h3⟩ := h; rw [sliceBound_run h1 (by omega)]; simp; exact h3
  · obtain ⟨⟨h1, h2⟩, h3⟩ := h; rw [sliceBound_run h1 (by omega)]; simp; simpa [Addr.add] using h3
  · obtain ⟨⟨h1, h2, h4⟩, h3⟩ := h; rw [sliceBound_run (by omega) (by omega)]; simp; rw [sliceBound_run h1 (by omega)]; simp; exact h3
  · obtain ⟨⟨h1, h2, h4⟩, h3⟩ := h; rw [sliceBound_run (by omega) (by omega)]; simp; rw [sliceBound_run h1 (by omega)]; simp; simpa [Addr.add] using h3
  · obtain ⟨⟨h1, h2, h4, h5⟩, h3⟩ := h; rw [sliceBound_run (by omega) (by omega)]; simp; rw [sliceBound_run (by omega) (by omega)]; simp; rw [sliceBound_run h1 (by omega)]; simp; exact h3

theorem sliceAt_notArray {P : Program} {t : TypeId} {d : TypeDesc} {w : World} {x : Value} {lo hi mx : Option Value} (ht : P.underlying t = some d) (hd : ∀ n e, d ≠ .array n e) :
    (Instr.sliceAt t x lo hi mx).run P w = (Instr.slice t x lo hi mx).run P w := by
  unfold Instr.sliceAt
  simp only [Sem.run_bind, run_underlying ht, Result.andThen_ok]

theorem index_string {P : Program} {t : TypeId} {w : World} {s : ByteArray} {k : IntKind} {n : Int} (ht : P.underlying t = some .string) (h0 : 0 ≤ n) (h1 : n < s.size) :
    (Instr.index t (.string s) (.int k n)).run P w = .ok (.int .u8 (bt s n)) w := by
  unfold Instr.index
  have hn : n.toNat < s.size := by omega
  have hg : s[n.toNat]? = some (s.data.toList.getD n.toNat 0) := by
    have hlt : n.toNat < s.data.size := hn
    rw [getElem?_pos s n.toNat hn]
    congr 1
    show s.data[n.toNat] = _
    rw [List.getD, Array.getElem?_toList, Array.getElem?_eq_getElem hlt]
    rfl
  simp [asIntOf, run_underlying ht, h0, hg, bt]

theorem indexAddr_slice {P : Program} {t e : TypeId} {i : TypeInfo} {w : World} {a : Addr} {len c : Nat} {k : IntKind} {n : Int} (ht : P.underlying t = some (.slice e)) (hi : P.info? e = some i) (h0 : 0 ≤ n) (h1 : n < len) :
    (Instr.indexAt t (.slice (some a) len c) (.int k n)).run P w = .ok (.pointer (some (a.add (n.toNat * i.size)))) w := by
  unfold Instr.indexAt
  simp [asIntOf, run_underlying ht, h0, h1, sizeOf, typeInfo, hi]

theorem vcells_all {w : World} {ad : Addr} {news : List Value} (hc : vcells w ad 0 news) : ∀ j u, news[j]? = some u → w.cell? (ad.add j) = some u := by
  have gen : ∀ (vs : List Value) (k : Nat), vcells w ad k vs → ∀ j u, vs[j]? = some u → w.cell? (ad.add (k + j)) = some u := by
    intro vs
    induction vs with
    | nil => intro k _ j u h; simp at h
    | cons v vs ih =>
      intro k h j u hj
      cases j with
      | zero => simp at hj; subst hj; exact h.1
      | succ j => have := ih (k + 1) h.2 j u (by simpa using hj); rwa [show k + 1 + j = k + (j + 1) by omega] at this
  intro j u hj
  have := gen news 0 hc j u hj
  simpa using this
theorem vappend_sound {P : Program} {t ty : TypeId} {w : World} {K : Value → World → Prop} {s x : Value} (h : vappend P t w K s x) :
    ∃ v w', (Builtin.append_ #[t, t] ty #[s, x]).run P w = .ok v w' ∧ K v w' := by
  unfold vappend at h
  split at h <;> try exact h.elim
  rename_i a n c xa m xc
  split at h <;> try exact h.elim
  rename_i e ht
  split at h <;> try exact h.elim
  rename_i i hi
  split at h <;> try exact h.elim
  rename_i z hz
  cases hb1 : Nat.beq z.cells.toList.length i.size with
  | false => simp only [hb1, cond_false] at h
  | true =>
    cases hb2 : Nat.ble 1 i.size with
    | false => simp only [hb1, hb2, cond_true, cond_false] at h
    | true =>
      simp only [hb1, hb2, cond_true] at h
      obtain ⟨base, xs, news, ⟨hown0, hl, hx, hp, hm, hby, hbase⟩, hk'⟩ := h
      have hk : ∀ (a' : Option Addr) (c' : Nat) (w' : World), w'.ownsRow base e i.size (.slice a' (n + m) c') (n + m) (xs ++ news) → w.grownBy w' (Value.slice a n c).ownBlock → (a' = none ↔ a = none ∧ m = 0) → K (.slice a' (n + m) c') w' :=
        fun a' c' w' h1 h2 h3 => hk' a' c' w' ⟨h1, h2, h3⟩
      have hzs : z.cells.size = i.size := by have := Nat.eq_of_beq_eq_true hb1; simpa using this
      have hsz : 0 < i.size := Nat.le_of_ble_eq_true hb2
      have hone := plainCells_one hp
      rcases hown0 with hown | ⟨hm0, hcap, hlo, b0, rfl, holds⟩
      case inr =>
        rcases hx with rfl | ⟨ad, rfl, hc⟩
        · exact absurd hm0 (Nat.lt_irrefl 0)
        have hcell : ∀ j u, news[j]? = some u → w.cell? (ad.add j) = some u := vcells_all hc
        obtain ⟨v', w', hr, h2, h3⟩ := run_append_arg_grows (P := P) w t ty e i z i.size i.bytes ht hi hz rfl rfl hzs hsz b0 n c xs hlo holds ad m xc news hl hcell hcap hm hby
        rcases h2.2 with ⟨_, hz0⟩ | ⟨g, cap, cur, rfl, hbg, hg', r⟩
        · omega
        · refine ⟨_, w', hr, hk (some ⟨g, 0, none⟩) cap w' ⟨h2.1, .inr ⟨g, cap, cur, rfl, Nat.le_trans hbase hbg, hg', r⟩⟩ ⟨h3.os, h3.tape, h3.output, h3.size, fun k hk _ => h3.block k hk (by simp)⟩ (by simp)⟩
      have fin : ∀ v' w', w'.ownsRow base e i.size v' (n + m) (xs ++ news) → w.grownBy w' (Value.slice a n c).ownBlock → (v' = .slice none 0 0 ↔ Value.slice a n c = .slice none 0 0 ∧ m = 0) → K v' w' := by
        intro v' w' ho hg hn
        rcases ho.2 with ⟨rfl, hz0⟩ | ⟨g, cap, cur, rfl, hbg, hg', _⟩
        · obtain ⟨he, hm0⟩ := hn.1 rfl
          simp only [Value.slice.injEq] at he
          obtain ⟨rfl, rfl, rfl⟩ := he
          subst hm0
          exact hk none 0 w' ho hg (by simp)
        · refine hk (some ⟨g, 0, none⟩) cap w' ho hg ?_
          constructor
          · intro h; cases h
          · rintro ⟨rfl, rfl⟩
            rcases hown.2 with ⟨h1, _⟩ | ⟨g2, cap2, cur2, h2, _⟩
            · have := hn.2 ⟨h1, rfl⟩
              cases this
            · cases h2
      rcases hx with rfl | ⟨ad, rfl, hc⟩
      · have hnews : news = [] := List.eq_nil_of_length_eq_zero (by simpa using hl)
        subst hnews
        cases xa with
        | some ad =>
          obtain ⟨v', w', hr, h2, h3, h4⟩ := run_append_own (P := P) w base t ty e i z i.size i.bytes ht hi hz rfl rfl hzs hsz (.slice a n c) n xs hown ad 0 xc [] (by simp) (by simp) (by simp) hm hby hbase
          exact ⟨v', w', hr, fin v' w' h2 h3 h4⟩
        | none =>
          refine ⟨.slice a n c, w, ?_, fin _ _ (by simpa using hown) ⟨rfl, rfl, rfl, Nat.le_refl _, fun _ _ _ => rfl⟩ (by simp)⟩
          rcases hown.2 with ⟨h1, h2⟩ | ⟨g, cap, cur, h1, _, _, hnc, _⟩
          · simp only [Value.slice.injEq] at h1
            obtain ⟨rfl, rfl, rfl⟩ := h1
            simp [Builtin.append_, run_underlying ht, sizeOf, typeInfo, hi, Builtin.lenOf, Builtin.firstCells]
          · simp only [Value.slice.injEq, true_and] at h1
            obtain ⟨rfl, rfl⟩ := h1
            simp [Builtin.append_, run_underlying ht, sizeOf, typeInfo, hi, Builtin.lenOf, Builtin.firstCells, hnc, storeCells]
      · have hcell : ∀ j u, news[j]? = some u → w.cell? (ad.add j) = some u := by
          have gen : ∀ (vs : List Value) (k : Nat), vcells w ad k vs → ∀ j u, vs[j]? = some u → w.cell? (ad.add (k + j)) = some u := by
            intro vs
            induction vs with
            | nil => intro k _ j u h; simp at h
            | cons v vs ih =>
              intro k h j u hj
              cases j with
              | zero => simp at hj; subst hj; exact h.1
              | succ j => have := ih (k + 1) h.2 j u (by simpa using hj); rwa [show k + 1 + j = k + (j + 1) by omega] at this
          intro j u hj
          have := gen news 0 hc j u hj
          simpa using this
        obtain ⟨v', w', hr, h2, h3, h4⟩ := run_append_own (P := P) w base t ty e i z i.size i.bytes ht hi hz rfl rfl hzs hsz (.slice a n c) n xs hown ad m xc news hl hcell hone hm hby hbase
        exact ⟨v', w', hr, fin v' w' h2 h3 h4⟩
end Go.V
