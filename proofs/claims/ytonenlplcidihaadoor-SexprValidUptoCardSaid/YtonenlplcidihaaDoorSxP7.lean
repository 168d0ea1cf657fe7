/- Part of the proof: SxP7. -/
import Derived.Test.YtonenlplcidihaaDoorSxP6
/-! The reference's parser. -/
namespace Go.Proofs.Sx
open Go Go.V Go.Proofs Go.RowKit
set_option maxRecDepth 100000

theorem set4 (w : World) (e : Nat) (a0 a1 a2 a3 v0 v1 v2 v3 : Value) :
    setCells (w.alloc (.cells #[a0, a1, a2, a3] e)) ⟨w.heap.size, 0, none⟩ 0 [v0, v1, v2, v3] = w.alloc (.cells #[v0, v1, v2, v3] e) := by
  simp only [setCells, add_eq, Nat.zero_add, setCell_alloc]
  rfl
theorem setCells_ite (w : World) : w.drew.heap = w.heap := rfl

/-- The parser's state. -/
structure Ps (N : Nat) (src : ByteArray) (k : Nat) (outs : List It) (opn : List Nat) (oA : Option Addr) (oC : Nat) (pA : Option Addr) (pC : Nat) (w : World) : Prop where
  base : N ≤ w.heap.size
  out : w.ownsRow N 34 4 (.slice oA outs.length oC) outs.length (itcs outs)
  opens : w.ownsRow N 3 1 (.slice pA opn.length pC) opn.length (nats opn)
  le : k ≤ src.size
  few : outs.length ≤ k
  kids : ∀ x ∈ outs, 0 ≤ x.kids ∧ x.kids ≤ 65536
  klt : KidsLt outs
  mem : ∀ j ∈ opn, j < outs.length
  deep : opn.length ≤ outs.length
theorem Ps.ext {N : Nat} {src : ByteArray} {k : Nat} {outs : List It} {opn : List Nat} {oA : Option Addr} {oC : Nat} {pA : Option Addr} {pC : Nat} {w w' : World} (h : Ps N src k outs opn oA oC pA pC w) (he : Ext w w') :
    Ps N src k outs opn oA oC pA pC w' :=
  { h with base := Nat.le_trans h.base he.size, out := own_ext h.out he, opens := own_ext h.opens he }
theorem Ps.go {N : Nat} {src : ByteArray} {k : Nat} {outs : List It} {opn : List Nat} {oA : Option Addr} {oC : Nat} {pA : Option Addr} {pC : Nat} {w : World} (h : Ps N src k outs opn oA oC pA pC w) {k' : Nat} (h1 : k ≤ k') (h2 : k' ≤ src.size) :
    Ps N src k' outs opn oA oC pA pC w := { h with le := h2, few := Nat.le_trans h.few h1 }

theorem c27 (src : ByteArray) (w : World) : Ret Tryd.prog 27 #[.string src] w fun v w' => ParseRes src w.heap.size v w' ∧ Ext w w' := by
  refine run27 _ _ _ (cond_dec (fun hbig => ⟨?_, Ext.refl _⟩) (fun hbig => ?_))
  · rw [ParseRes, parse_big (by omega)]; rfl
  have hsm : src.size ≤ 65536 := by omega
  have hp0 := parse_small (s := src) (by omega)
  refine ⟨fun vals w' => ∃ k outs opn oA oC pA pC, vals = [.int .i64 (k : Nat), .slice pA (opn : List Nat).length pC, .slice oA (outs : List It).length oC] ∧ Ps w.heap.size src k outs opn oA oC pA pC w' ∧ Ext w w' ∧
    parse src = parseL src.size ⟨rest src k, outs, opn⟩, mu1 src.size, ⟨0, [], [], none, 0, none, 0, rfl,
      ⟨Nat.le_refl _, World.ownsRow_nil _ _ _ _, World.ownsRow_nil _ _ _ _, Nat.zero_le _, Nat.le_refl _, (fun x hx => by cases hx), (fun x hx => by cases hx), (fun x hx => by cases hx), Nat.le_refl _⟩, Ext.refl _, hp0⟩, ?_⟩
  rintro n p k_ k1 p1 k2_ k3 w1 ⟨k, outs, opn, oA, oC, pA, pC, hv, h1, he1, hp1⟩
  obtain ⟨rfl, rfl, rfl, rfl, rfl, rfl, rfl⟩ : n = (k : Int) ∧ p = pA ∧ k_ = opn.length ∧ k1 = pC ∧ p1 = oA ∧ k2_ = outs.length ∧ k3 = oC := by
    cases hv; exact ⟨rfl, rfl, rfl, rfl, rfl, rfl, rfl⟩
  clear hv
  have hkle := h1.le
  have hfew := h1.few
  have hdeep := h1.deep
  refine cond_dec (fun hlt => ?_) (fun hlt => ?fin)
  case fin =>
    have hn : rest src k = [] := rest_nil (by omega)
    rw [parseL_nil hn] at hp1
    refine cond_dec (fun hpos => ⟨?_, he1⟩) (fun hpos => ⟨?_, he1⟩)
    · have hne : opn ≠ [] := fun hn => by rw [hn] at hpos; exact absurd hpos (by decide)
      rw [if_neg hne] at hp1
      rw [ParseRes, hp1]
    · have hne : opn = [] := List.eq_nil_of_length_eq_zero (by omega)
      rw [if_pos hne] at hp1
      rw [ParseRes, hp1]
      exact ⟨p1, k3, rfl, h1.out⟩
  have hlt' : k < src.size := by omega
  have hb : (0 : Int) ≤ k ∧ (k : Int) < src.size := ⟨by omega, hlt⟩
  have hc := rest_cons hlt'
  refine ⟨hb, ?_, ?_⟩
  · intro i hi
    rw [add_eq, Nat.zero_add]
    refine ⟨⟨[Value.int IntKind.i64 0, Value.string { data := #[] }, Value.int IntKind.i64 0, Value.int IntKind.i64 0][i]'hi, ?_⟩, alloc_new_free w1 [Value.int IntKind.i64 0, Value.string { data := #[] }, Value.int IntKind.i64 0, Value.int IntKind.i64 0] 34 i⟩
    exact (alloc_new_cell w1 [Value.int IntKind.i64 0, Value.string { data := #[] }, Value.int IntKind.i64 0, Value.int IntKind.i64 0] 34 i).trans (List.getElem?_eq_getElem hi)
  intro K hK
  rw [set4]
  -- the world with the item's own cells
  have hX := (Ext.refl w1).alloc (Obj.cells #[Value.int IntKind.i64 0, Value.string { data := #[] }, Value.int IntKind.i64 0, Value.int IntKind.i64 k] 34)
  have hXb := heap_alloc_new w1 (Obj.cells #[Value.int IntKind.i64 0, Value.string { data := #[] }, Value.int IntKind.i64 0, Value.int IntKind.i64 k] 34)
  have hN1 : w.heap.size ≤ w1.heap.size := he1.size
  have og : ∀ g, (Value.slice p1 outs.length k3).ownBlock = some g → g < w1.heap.size := fun g hg => (own_lt h1.out g hg).2
  have hst : ∀ {w2 : World}, Ext (w1.alloc (Obj.cells #[Value.int IntKind.i64 0, Value.string { data := #[] }, Value.int IntKind.i64 0, Value.int IntKind.i64 k] 34)) w2 → Ext w1 w2 := fun h => hX.trans h
  -- an item is put behind
  have main : ∀ (k' : Nat) (w2 : World) (kind : Int) (text : ByteArray), k < k' → k' ≤ src.size → Ext w1 w2 → w2.heap[w1.heap.size]? = some (.cells #[.int .i64 kind, .string text, .int .i64 0, .int .i64 k] 34 (0, 0)) →
      stepL src.size ⟨rest src k, outs, opn⟩ = addI src.size ⟨rest src k, outs, opn⟩ kind (bs text) (rest src k') → K [Value.int IntKind.i64 (k' : Nat)] w2 := by
    intro k' w2 kind text hk' hk's he2 hx2 hs
    have h2 := h1.ext he2
    have hB2 := h2.base
    refine hK _ _ (cond_dec (fun hgt => ⟨?_, he1.trans he2⟩) (fun hgt => ?_))
    · have : parse src = .error (k, 6) := by
        rw [hp1]
        refine parseL_err (by rw [hc]; simp) ?_
        rw [hs, addI_big (by show opn.length > 256; omega)]
        show Except.error (src.size - (rest src k).length, _) = _
        rw [pos_eq hkle]
      rw [ParseRes, this]
    have hgt' : ¬ opn.length > 256 := by omega
    rw [addI_ok hgt'] at hs
    have hs' : stepL src.size ⟨rest src k, outs, opn⟩ = .ok ⟨rest src k', outsOf outs opn ⟨kind, text, 0, k⟩, opnOf outs opn kind⟩ := by
      rw [hs]
      show Except.ok (⟨_, outsOf outs opn ⟨kind, mk (bs text), 0, ((src.size - (rest src k).length : Nat) : Int)⟩, _⟩ : St) = _
      rw [pos_eq hkle, mk_bs]
    have hp' := hp1.trans (parseL_ok hs')
    intro K1 hK1
    -- behind the count
    have after : ∀ (w3 : World) (outs1 : List It), outs1.length = outs.length → (match opn.getLast? with | some j => bump outs j | none => outs) = outs1 → Below w.heap.size w w3 → w2.heap.size ≤ w3.heap.size →
        w3.heap[w1.heap.size]? = some (.cells #[.int .i64 kind, .string text, .int .i64 0, .int .i64 k] 34 (0, 0)) →
        w3.ownsRow w.heap.size 34 4 (.slice p1 outs.length k3) outs.length (itcs outs1) → w3.ownsRow w.heap.size 3 1 (.slice p opn.length k1) opn.length (nats opn) → (∀ x ∈ outs1, 0 ≤ x.kids ∧ x.kids ≤ 65536) → K1 [] w3 := by
      intro w3 outs1 hl1 ho1 hb3 hsz3 hx3 hout3 hop3 hk3
      have hB3 : w.heap.size ≤ w3.heap.size := hb3.size
      refine hK1 _ ⟨kind, text, 0, k, ⟨blk_cell hx3, blk_cell (j := 1) hx3, blk_cell (j := 2) hx3, blk_cell (j := 3) hx3, trivial⟩, w.heap.size, itcs outs1, itcs [⟨kind, text, 0, k⟩], AppOk.one hout3 rfl rfl (by unfold maxLen; omega) (by omega) hB3, ?_⟩
      intro p2 k5 w4 r
      have hal := (Ext.refl w3).alloc (.cells #[Value.int IntKind.i64 kind, Value.string text, Value.int IntKind.i64 0, Value.int IntKind.i64 k] 34)
      have hout3' := own_ext hout3 hal
      have hb4 : Below w.heap.size w w4 := r.below hout3' (Below.alloc hb3 hB3 _) (by rw [size_alloc]; exact Nat.le_trans hB3 (Nat.le_succ _)) (Nat.le_refl _)
      have hx4 := grown_blk r.grown (hal.blk hx3) (fun e => Nat.lt_irrefl _ (og _ e))
      have hop4 := own_grown r.grown (own_ext hop3 hal) (own_ne2 (own_ext hop3 hal) hout3' (by decide))
      have hB4 : w.heap.size ≤ w4.heap.size := hb4.size
      have hout4 := r.own
      rw [← itcs_app] at hout4
      have hoo : outsOf outs opn ⟨kind, text, 0, k⟩ = outs1 ++ [⟨kind, text, 0, k⟩] := congrArg (· ++ [(⟨kind, text, 0, k⟩ : It)]) ho1
      have hlo : (outsOf outs opn ⟨kind, text, 0, k⟩).length = outs.length + 1 := by rw [hoo]; simp [hl1]
      have hklt : KidsLt (outsOf outs opn ⟨kind, text, 0, k⟩) := kidsLt_outsOf h1.klt rfl
      have hkk : ∀ x ∈ outsOf outs opn ⟨kind, text, 0, k⟩, 0 ≤ x.kids ∧ x.kids ≤ 65536 := by
        rw [hoo]
        intro x hx
        rcases List.mem_append.1 hx with hx | hx
        · exact hk3 x hx
        · rw [List.mem_singleton.1 hx]; exact ⟨Int.le_refl _, (by decide : (0 : Int) ≤ 65536)⟩
      have hmu : ∀ (l : List Value) (wx : World), mu1 src.size (Value.int IntKind.i64 (k' : Nat) :: l) wx < mu1 src.size [Value.int IntKind.i64 (k : Nat), Value.slice p opn.length k1, Value.slice p1 outs.length k3] w1 := by
        intro l wx
        simp only [mu1, Int.toNat_natCast]; omega
      refine ⟨kind, blk_cell hx4, cond_intro (fun h5 => ?_) (fun h5 => ?_)⟩
      · have h5' : kind = 5 := by simpa using h5
        have hcap := own_cap h1.opens
        refine ⟨⟨by omega, by omega, by omega⟩, ?_⟩
        rw [Int.toNat_natCast]
        have hw : IntKind.i64.wrap (((outs.length + 1 : Nat) : Int) - 1) = ((outs.length : Nat) : Int) := by rw [wrap64_in (by omega) (by omega)]; omega
        rw [hw]
        have ok : AppOk (w4.alloc (Obj.cells #[Value.int IntKind.i64 (outs.length : Nat)] 3)) w.heap.size 3 1 8 p opn.length opn.length (nats opn) (some ⟨w4.heap.size, 0, none⟩) 1 (nats [outs.length]) := by
          rcases hop4.2 with ⟨hv, h0⟩ | ⟨g, cap, cur, hv, hbg, hg, hnc, hm, hs4, ht⟩
          · obtain ⟨rfl, -, -⟩ := Value.slice.inj hv
            refine AppOk.one (L := nats [outs.length]) ?_ rfl rfl (by unfold maxLen; omega) (by omega) hB4
            rw [List.eq_nil_of_length_eq_zero h0]
            exact World.ownsRow_nil _ _ _ _
          · cases hv
            refine AppOk.full (L := nats [outs.length]) hop4.1 ?_ (Nat.lt_succ_self _) rfl rfl (by unfold maxLen; omega) (by omega) hB4
            intro j v hj
            exact World.ownsRow.cells hop4 rfl j v hj
        refine ⟨_, _, _, ok, ?_⟩
        intro p3 k7 w5 r5
        have hal5 := (Ext.refl w4).alloc (.cells #[Value.int IntKind.i64 (outs.length : Nat)] 3)
        have hrow : ∀ g, (Value.slice p opn.length opn.length).ownBlock = some g → w.heap.size ≤ g := fun g hg => (own_lt hop4 g (by cases p with | none => cases hg | some a => exact hg)).1
        have hb5 : Below w.heap.size w w5 := Below.grown (Below.alloc hb4 hB4 _) r5.grown (by rw [size_alloc]; exact Nat.le_trans hB4 (Nat.le_succ _)) hrow
        have hne : ∀ g, (Value.slice p2 (outs.length + 1) k5).ownBlock = some g → (Value.slice p opn.length opn.length).ownBlock ≠ some g := by
          intro g hg hg2
          exact own_ne2 r.own hop4 (by decide) g hg (by cases p with | none => cases hg2 | some a => exact hg2)
        have hout5 := own_grown r5.grown (own_ext hout4 hal5) hne
        have hop5 := r5.own
        refine ⟨⟨k', outsOf outs opn ⟨kind, text, 0, k⟩, opn ++ [outs.length], p2, k5, p3, k7, ?_, ?_, hb5, ?_⟩, hmu _ _⟩
        · rw [hlo, List.length_append]; rfl
        · have e1 : (opn ++ [outs.length]).length = opn.length + 1 := by simp
          have e2 : nats (opn ++ [outs.length]) = nats opn ++ nats [outs.length] := by simp [nats]
          exact
          { base := hb5.size
            out := by rw [hlo, hoo]; exact hout5
            opens := by rw [e1, e2]; exact hop5
            le := hk's
            few := by rw [hlo]; omega
            kids := hkk
            klt := hklt
            mem := by
              rw [hlo]
              intro j hj
              rcases List.mem_append.1 hj with hj | hj
              · have := h1.mem j hj; omega
              · rw [List.mem_singleton.1 hj]; omega
            deep := by rw [e1, hlo]; omega }
        · rw [hp', opnOf, if_pos h5']
      · have h5' : kind ≠ 5 := by simpa using h5
        refine ⟨⟨k', outsOf outs opn ⟨kind, text, 0, k⟩, opn, p2, k5, p, k1, ?_, ?_, hb4, ?_⟩, hmu _ _⟩
        · rw [hlo]
        · exact
          { base := hB4
            out := by rw [hlo, hoo]; exact hout4
            opens := hop4
            le := hk's
            few := by rw [hlo]; omega
            kids := hkk
            klt := hklt
            mem := fun j hj => by have := h1.mem j hj; omega
            deep := by rw [hlo]; omega }
        · rw [hp', opnOf, if_neg h5']
    refine cond_dec (fun hpos => ?_) (fun hpos => ?_)
    · have hne : opn ≠ [] := fun hn => by rw [hn] at hpos; exact absurd hpos (by decide)
      have hl0 : 0 < opn.length := List.length_pos_iff.2 hne
      obtain ⟨j, hj, hj2⟩ := getLast_get hne
      obtain ⟨g', rfl, hg', -, -⟩ := own_some h2.opens hl0
      have hjm : j < outs.length := h1.mem j (List.mem_of_getElem? hj2)
      obtain ⟨g, rfl, hg, -, -⟩ := own_some h2.out (by omega : 0 < outs.length)
      obtain ⟨x, hx⟩ : ∃ x, outs[j]? = some x := ⟨_, List.getElem?_eq_getElem hjm⟩
      have hxk := h1.kids x (List.mem_of_getElem? hx)
      have hxk2 := h1.klt x (List.mem_of_getElem? hx)
      have hgb : g ≠ w1.heap.size := Nat.ne_of_lt (og g rfl)
      have hcell : w2.cell? (((⟨g, 0, none⟩ : Addr).add ((j : Int).toNat * 4)).add 2) = some (.int .i64 x.kids) := by
        rw [add_add _ rfl, Int.toNat_natCast]
        exact World.ownsRow.cells h2.out hg _ _ (itcs_get hx 2 _ rfl)
      have hadr : ((⟨g, 0, none⟩ : Addr).add ((j : Int).toNat * 4)).add 2 = ⟨g, j * 4 + 2, none⟩ := by
        rw [add_add _ rfl, Int.toNat_natCast, add_eq, Nat.zero_add]
      refine ⟨_, rfl, ?_⟩
      rw [wrap_pred (by omega) hl0]
      refine ⟨⟨by omega, by omega⟩, (j : Int), ?_, _, rfl, ⟨by omega, by omega⟩, _, hcell, _, rfl, ⟨by omega, by omega⟩, ⟨⟨_, hcell⟩, ?_⟩, ?_⟩
      · rw [Int.toNat_natCast, Nat.mul_one]
        exact World.ownsRow.cells h2.opens hg' _ _ (by rw [nats, List.getElem?_map, hj2]; rfl)
      · rw [hadr]; exact own_free h2.out hg _
      · rw [hadr, wrap64_in (by omega) (by omega)]
        refine after _ (bump outs j) (bump_len _ _) (by rw [hj]) ?_ ?_ ?_ ?_ ?_ (kids_bump h1.kids (fun y hy => by rw [hx] at hy; cases hy; omega))
        · exact Below.setCell (p := ⟨g, _, none⟩) (he1.trans he2) (own_lt h2.out g rfl).1 _
        · rw [size_setCell]; exact Nat.le_refl _
        · rw [blk_set_ne (fun e => hgb e.symm)]; exact hx2
        · rw [← itcs_bump hx]; exact own_set h2.out hg _
        · exact own_other h2.opens (own_ne2 h2.out h2.opens (by decide) g hg) _
    · have hne : opn = [] := List.eq_nil_of_length_eq_zero (by omega)
      exact after w2 outs rfl (by rw [hne]; rfl) (he1.trans he2) (Nat.le_refl _) hx2 h2.out h2.opens h1.kids
  -- the item's own cells are set
  have xset : ∀ {w2 : World} {v0 v1 v2 v3 : Value} (j : Nat) (v : Value), Ext w1 w2 → w2.heap[w1.heap.size]? = some (.cells #[v0, v1, v2, v3] 34 (0, 0)) → Ext w1 (w2.setCell ⟨w1.heap.size, j, none⟩ v) :=
    fun j v he _ => Below.setCell (p := ⟨w1.heap.size, j, none⟩) he (Nat.le_refl _) v
  have e : ∀ m : Nat, m < 256 → (bt src (k : Int) == (m : Int)) = ((bs src).getD k 0 == UInt8.ofNat m) := fun m hm => by rw [bt_eq]; exact u8_beq _ m hm
  have eb : (bt src (k : Int) == 32 || bt src (k : Int) == 9 || bt src (k : Int) == 13 || bt src (k : Int) == 10) = isBlank ((bs src).getD k 0) := by
    rw [show (bt src (k : Int) == 32) = _ from e 32 (by omega), show (bt src (k : Int) == 9) = _ from e 9 (by omega), show (bt src (k : Int) == 13) = _ from e 13 (by omega), show (bt src (k : Int) == 10) = _ from e 10 (by omega)]
    rfl
  rw [eb, show (bt src (k : Int) == 59) = ((bs src).getD k 0 == 59) from e 59 (by omega), show (bt src (k : Int) == 41) = ((bs src).getD k 0 == 41) from e 41 (by omega), show (bt src (k : Int) == 40) = ((bs src).getD k 0 == 40) from e 40 (by omega),
    show (bt src (k : Int) == 34) = ((bs src).getD k 0 == 34) from e 34 (by omega)]
  have err : stepL src.size ⟨rest src k, outs, opn⟩ = .error (k, 2) → parse src = .error (k, 2) := fun hs => by
    rw [hp1]
    exact parseL_err (by rw [hc]; simp) hs
  refine cond_intro (fun hbl => ?_) (fun hbl => cond_intro (fun h59 => ?_) (fun h59 => cond_intro (fun h41 => ?_) (fun h41 => cond_intro (fun h40 => ?_) (fun h40 => cond_intro (fun h34 => ?_) (fun h34 => ?_)))))
  · rw [wrap_succ (by omega)]
    refine ⟨⟨k + 1, outs, opn, p1, k3, p, k1, rfl, (h1.ext hX).go (by omega) hlt', he1.trans hX, ?_⟩, ?_⟩
    · rw [hp1]
      refine parseL_ok ?_
      rw [stepL, hc]
      simp only [hbl, if_true]
    · simp only [mu1, Int.toNat_natCast]; omega
  · have h59' : (bs src).getD k 0 = 59 := by simpa using h59
    refine ⟨fun vals w' => ∃ j : Nat, vals = [.int .i64 j] ∧ k ≤ j ∧ j ≤ src.size ∧ Ext w1 w' ∧ (rest src k).dropWhile (· != 10) = (rest src j).dropWhile (· != 10), mu1 src.size,
      ⟨k, rfl, Nat.le_refl _, hkle, hX, rfl⟩, ?_⟩
    rintro n8 w6 ⟨j, hv, hj, hjl, he6, hd6⟩
    cases hv
    intro K2 hK2
    have stop : (rest src j).dropWhile (· != 10) = rest src j → K2 [Value.bool false] w6 := by
      intro h4
      have hjk : k < j := by
        rcases Nat.lt_or_ge k j with h5 | h5
        · exact h5
        · have : j = k := by omega
          subst this
          rw [hc, h59', List.dropWhile_cons] at h4
          simp only [show ((59 : UInt8) != 10) = true from by decide, if_true] at h4
          have h6 := congrArg List.length h4
          have h7 := dropWhile_le (· != 10) (rest src (j + 1))
          simp only [List.length_cons] at h6
          omega
      refine hK2 _ ⟨⟨j, outs, opn, p1, k3, p, k1, rfl, (h1.ext he6).go (by omega) hjl, he1.trans he6, ?_⟩, ?_⟩
      · rw [hp1]
        refine parseL_ok ?_
        have e1 : (rest src (k + 1)).dropWhile (· != 10) = rest src j := by
          rw [← h4, ← hd6, hc, h59', List.dropWhile_cons]
          simp
        rw [stepL, hc]
        simp only [h59', if_true, e1]
        rfl
      · simp only [mu1, Int.toNat_natCast]; omega
    refine cond_dec (fun hl => ?_) (fun hl => stop (by rw [rest_nil (by omega)]; rfl))
    have hl' : j < src.size := by omega
    refine ⟨⟨by omega, hl⟩, ?_⟩
    rw [bt_eq, show ((((bs src).getD j 0).toNat : Int) != 10) = ((bs src).getD j 0 != 10) by rw [bne, bne, show ((((bs src).getD j 0).toNat : Int) == 10) = ((bs src).getD j 0 == 10) from u8_beq _ 10 (by omega)]]
    cases h10 : (bs src).getD j 0 != 10 with
    | false =>
      refine stop ?_
      rw [rest_cons hl', List.dropWhile_cons, h10]
      rfl
    | true =>
      refine hK2 _ ?_
      rw [wrap_succ (by omega)]
      refine ⟨⟨j + 1, rfl, by omega, hl', he6, ?_⟩, ?_⟩
      · rw [hd6, rest_cons hl', List.dropWhile_cons, h10, if_pos rfl]
      · simp only [mu1, Int.toNat_natCast]; omega
  · have h41' : (bs src).getD k 0 = 41 := by simpa using h41
    have hs : stepL src.size ⟨rest src k, outs, opn⟩ = (if opn = [] then .error (src.size - (rest src k).length, 2) else .ok ⟨rest src (k + 1), outs, opn.dropLast⟩) := by
      rw [stepL, hc, h41']
      rfl
    rw [pos_eq hkle] at hs
    refine cond_intro (fun h0 => ⟨?_, he1.trans hX⟩) (fun h0 => ?_)
    · have hn : opn = [] := by
        rw [beq_iff_eq] at h0
        exact List.eq_nil_of_length_eq_zero (by omega)
      rw [if_pos hn] at hs
      rw [ParseRes, err hs]
    · have hn : opn ≠ [] := fun hn => by rw [hn] at h0; exact absurd h0 (by decide)
      have hl0 : 0 < opn.length := List.length_pos_iff.2 hn
      have hcap := own_cap h1.opens
      have hdl : opn.dropLast.length = opn.length - 1 := List.length_dropLast
      rw [if_neg hn] at hs
      rw [wrap_pred (by omega) hl0, wrap_succ (by omega), Int.toNat_natCast]
      have h2 := (h1.ext hX).go (k' := k + 1) (by omega) hlt'
      refine ⟨⟨by omega, by omega⟩, ⟨k + 1, outs, opn.dropLast, p1, k3, p, k1, by rw [hdl], ?_, he1.trans hX, hp1.trans (parseL_ok hs)⟩, ?_⟩
      · exact { h2 with
          opens := by
            have h3 := own_cut h2.opens (m := opn.length - 1) (by omega)
            have h4 : (nats opn).take ((opn.length - 1) * 1) = nats opn.dropLast := by
              rw [Nat.mul_one, nats, nats, ← List.map_take, List.dropLast_eq_take]
            rw [h4] at h3
            rw [hdl]
            exact h3
          mem := fun j hj => h1.mem j (List.dropLast_subset _ hj)
          deep := by rw [hdl]; omega }
      · simp only [mu1, Int.toNat_natCast]; omega
  · have h40' : (bs src).getD k 0 = 40 := by simpa using h40
    rw [wrap_succ (by omega)]
    refine ⟨⟨⟨_, blk_cell hXb⟩, blk_free hXb⟩, ?_⟩
    refine main (k + 1) _ 5 { data := #[] } (by omega) hlt' (xset 0 _ hX hXb) (blk_set_eq (j := 0) hXb _) ?_
    rw [stepL, hc, h40']
    rfl
  · have h34' : (bs src).getD k 0 = 34 := by simpa using h34
    have hs : stepL src.size ⟨rest src k, outs, opn⟩ = (match strL (rest src (k + 1)) with
        | none => .error (src.size - (rest src k).length, 2)
        | some (v, r) => addI src.size ⟨rest src k, outs, opn⟩ 4 v r) := by
      rw [stepL, hc, h34']
      rfl
    rw [pos_eq hkle] at hs
    refine Called.of (c41 src (by omega) k hlt' _) ?_
    rintro v w7 ⟨⟨t, en, rfl, hm⟩, rfl⟩
    refine ⟨_, _, rfl, ?_⟩
    cases hst2 : strL (rest src (k + 1)) with
    | none =>
      rw [hst2] at hm hs
      have hm' : en = -1 := hm
      subst hm'
      refine cond_dec (fun _ => ⟨?_, he1.trans hX⟩) (fun h => absurd (by decide) h)
      rw [ParseRes, err hs]
    | some pr =>
      obtain ⟨x, r⟩ := pr
      rw [hst2] at hm hs
      obtain ⟨ht, rfl⟩ := hm
      have hlt2 := strL_lt hst2
      rw [rest_len] at hlt2
      have hr : rest src (src.size - r.length) = r := by
        obtain ⟨m, hm⟩ := strL_drop hst2
        rw [hm, drop_rest, rest_len, drop_rest_end]
      refine cond_dec (fun h => absurd h (by omega)) (fun _ => ?_)
      have hx0 := blk_set_eq (j := 0) hXb (Value.int IntKind.i64 4)
      refine ⟨⟨⟨_, blk_cell hXb⟩, blk_free hXb⟩, ⟨⟨_, blk_cell (j := 1) hx0⟩, blk_free (j := 1) hx0⟩, ?_⟩
      refine main (src.size - r.length) _ 4 t (by omega) (by omega) (xset 1 _ (xset 0 _ hX hXb) hx0) (blk_set_eq (j := 1) hx0 _) ?_
      rw [hs, ht, hr]
  · have hs : stepL src.size ⟨rest src k, outs, opn⟩ = (if kindW ((rest src k).takeWhile isWord) = 0 then .error (src.size - (rest src k).length, 2)
        else addI src.size ⟨rest src k, outs, opn⟩ (kindW ((rest src k).takeWhile isWord)) ((rest src k).takeWhile isWord) ((rest src k).dropWhile isWord)) := by
      have g0 : (bs src).getD k 0 ≠ 59 := by simpa using h59
      have g1 : (bs src).getD k 0 ≠ 41 := by simpa using h41
      have g2 : (bs src).getD k 0 ≠ 40 := by simpa using h40
      have g3 : (bs src).getD k 0 ≠ 34 := by simpa using h34
      rw [stepL, hc]
      simp only [hbl, Bool.false_eq_true, if_false, g0, g1, g2, g3]
      by_cases hw : isWord ((bs src).getD k 0) = true
      · rw [if_pos hw]
      · rw [if_neg hw, List.takeWhile_cons, if_neg hw]
        rfl
    rw [pos_eq hkle] at hs
    rw [bt_eq]
    refine Called.of (c42 _ _) ?_
    rintro v w8 ⟨rfl, rfl⟩
    refine ⟨_, rfl, cond_intro (fun hw => ?_) (fun hw => ⟨?_, he1.trans hX⟩)⟩
    case refine_2 =>
      have : (rest src k).takeWhile isWord = [] := by rw [hc, List.takeWhile_cons, if_neg (by rw [hw]; decide)]
      rw [this, if_pos (show kindW [] = 0 from rfl)] at hs
      rw [ParseRes, err hs]
    refine ⟨fun vals w' => ∃ j : Nat, vals = [.int .i64 j] ∧ k ≤ j ∧ j ≤ src.size ∧ w' = w1.alloc (Obj.cells #[Value.int IntKind.i64 0, Value.string { data := #[] }, Value.int IntKind.i64 0, Value.int IntKind.i64 k] 34) ∧
      (rest src k).takeWhile isWord = (rest src k).take (j - k) ++ (rest src j).takeWhile isWord, mu1 src.size, ⟨k, rfl, Nat.le_refl _, hkle, rfl, by simp⟩, ?_⟩
    rintro n10 w9 ⟨j, hv, hj, hjl, rfl, hw9⟩
    cases hv
    intro K3 hK3
    have stop : (rest src j).takeWhile isWord = [] → K3 [Value.bool false] (w1.alloc (Obj.cells #[Value.int IntKind.i64 0, Value.string { data := #[] }, Value.int IntKind.i64 0, Value.int IntKind.i64 k] 34)) := by
      intro h3
      have hjk : k < j := by
        rcases Nat.lt_or_ge k j with h5 | h5
        · exact h5
        · have : j = k := by omega
          subst this
          rw [hc, List.takeWhile_cons, if_pos hw] at h3
          cases h3
      have hx : bs (src.extract k j) = (rest src k).takeWhile isWord := by rw [extract_bs, hw9, h3, List.append_nil]
      have hxl : ((rest src k).takeWhile isWord).length = j - k := by
        rw [hw9, h3, List.append_nil, List.length_take, rest_len]; omega
      refine hK3 _ _ fun K4 hK4 => ⟨⟨by omega, by omega, by omega⟩, ⟨by omega, by omega, by omega⟩, ?_⟩
      rw [Int.toNat_natCast, Int.toNat_natCast]
      refine Called.of (c43 (src.extract k j) ?_ ?_ _) ?_
      · rw [size_bs, hx, hxl]; omega
      · rw [hx]; intro hn; rw [hn] at hxl; simp only [List.length_nil] at hxl; omega
      rintro v w12 ⟨rfl, he12⟩
      rw [hx]
      have he12' : Ext w1 w12 := hX.trans (((Ext.refl _).drew).trans he12)
      have hxb12 : w12.heap[w1.heap.size]? = _ := he12.blk hXb
      have hx0 := blk_set_eq (j := 0) hxb12 (Value.int IntKind.i64 (kindW ((rest src k).takeWhile isWord)))
      refine ⟨_, rfl, ⟨⟨_, blk_cell hxb12⟩, blk_free hxb12⟩, ⟨⟨_, blk_cell (j := 1) hx0⟩, blk_free (j := 1) hx0⟩, hK4 _ ⟨kindW ((rest src k).takeWhile isWord), ?_, ?_⟩⟩
      · exact blk_cell (blk_set_eq (j := 1) hx0 _)
      · have hex := xset 1 (.string (src.extract k j)) (xset 0 (.int .i64 (kindW ((rest src k).takeWhile isWord))) he12' hxb12) hx0
        refine cond_intro (fun h0 => ⟨?_, he1.trans hex⟩) (fun h0 => ?_)
        · rw [if_pos (by simpa using h0)] at hs
          rw [ParseRes, err hs]
        · rw [if_neg (by simpa using h0)] at hs
          refine main j _ (kindW ((rest src k).takeWhile isWord)) (src.extract k j) hjk hjl hex (blk_set_eq (j := 1) hx0 _) ?_
          rw [hs, hx]
          congr 1
          rw [← dropWhile_drop, hxl, drop_rest]
          congr 1
          omega
    refine cond_dec (fun hl => ?_) (fun hl => stop (by rw [rest_nil (by omega)]; rfl))
    have hl' : j < src.size := by omega
    refine ⟨⟨by omega, hl⟩, ?_⟩
    rw [bt_eq]
    refine Called.of (c42 _ _) ?_
    rintro v w13 ⟨rfl, rfl⟩
    refine ⟨_, rfl, ?_⟩
    cases hcj : isWord ((bs src).getD j 0) with
    | false =>
      refine stop ?_
      rw [rest_cons hl', List.takeWhile_cons, hcj]
      rfl
    | true =>
      refine hK3 _ _ ?_
      rw [wrap_succ (by omega)]
      refine ⟨⟨j + 1, rfl, by omega, hl', rfl, ?_⟩, ?_⟩
      · rw [hw9, rest_cons hl', List.takeWhile_cons, hcj, if_pos rfl, show j + 1 - k = (j - k) + 1 by omega, List.take_add_one, List.append_assoc]
        congr 1
        have : (rest src k)[j - k]? = some ((bs src).getD j 0) := by
          have h5 := rest_cons hl'
          have h6 : rest src j = (rest src k).drop (j - k) := by rw [drop_rest]; congr 1; omega
          rw [h6] at h5
          have h7 : ((rest src k).drop (j - k))[0]? = some ((bs src).getD j 0) := by rw [h5]; rfl
          simpa using h7
        rw [this]; rfl
      · simp only [mu1, Int.toNat_natCast]; omega
end Go.Proofs.Sx
