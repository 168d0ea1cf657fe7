/- Part of the proof: SxP5. -/
import Derived.Test.YtonenlplcidihaaDoorSxP4
import Derived.Test.YtonenlplcidihaaDoorSxB
/-! An item is added. -/
namespace Go.Proofs.Sx
open Go Go.V Go.Proofs Go.RowKit
set_option maxRecDepth 100000

theorem kids_bump {outs : List It} {j : Nat} {N : Int} (h : ∀ x ∈ outs, 0 ≤ x.kids ∧ x.kids ≤ N) (hN : ∀ x, outs[j]? = some x → x.kids + 1 ≤ N) : ∀ x ∈ bump outs j, 0 ≤ x.kids ∧ x.kids ≤ N := by
  intro x hx
  obtain ⟨i, hi⟩ := List.getElem?_of_mem hx
  rw [bump, List.getElem?_modify] at hi
  split at hi
  · rename_i hj
    subst hj
    cases ho : outs[j]? with
    | none => rw [ho] at hi; cases hi
    | some y =>
      rw [ho] at hi
      cases hi
      have h1 := h y (List.mem_of_getElem? ho)
      have h2 := hN y ho
      exact ⟨by show 0 ≤ y.kids + 1; omega, h2⟩
  · exact h x (List.mem_of_getElem? (by simpa using hi))
/-- An item has fewer kids than there are items. -/
def KidsLt (outs : List It) : Prop := ∀ x ∈ outs, x.kids < outs.length

/-- The list around is counted up. -/
theorem RdB.bumped {B rb : Nat} {src : ByteArray} {at' : Nat} {outs : List It} {opn : List Nat} {g oC : Nat} {pA : Option Addr} {pC : Nat} {w : World} (h : RdB B rb src at' outs opn (some ⟨g, 0, none⟩) oC pA pC w)
    {j : Nat} {x : It} (hx : outs[j]? = some x) (hk : x.kids + 1 ≤ 65536) :
    RdB B rb src at' (bump outs j) opn (some ⟨g, 0, none⟩) oC pA pC (w.setCell ⟨g, j * 4 + 2, none⟩ (.int .i64 (x.kids + 1))) := by
  have hne : (g : Nat) ≠ rb := fun e => own_ne h.out h.blk (by decide) (by rw [e]; rfl)
  have hne2 : (Value.slice pA opn.length pC).ownBlock ≠ some g := own_ne2 h.out h.opens (by decide) g rfl
  exact
  { base := h.base
    blk := by rw [bump_len, blk_set_ne (fun e => hne e.symm)]; exact h.blk
    out := by
      rw [bump_len, ← itcs_bump hx]
      exact own_set h.out rfl _
    opens := own_other h.opens hne2 _
    small := h.small
    le := h.le
    few := by rw [bump_len]; exact h.few
    kids := kids_bump h.kids (fun y hy => by rw [hx] at hy; cases hy; exact hk)
    mem := by rw [bump_len]; exact h.mem
    deep := by rw [bump_len]; exact h.deep }

/-- A list is opened. -/
theorem RdB.opened {B rb : Nat} {src : ByteArray} {at' : Nat} {outs : List It} {opn : List Nat} {oA : Option Addr} {oC : Nat} {pA : Option Addr} {pC : Nat} {w w2 : World} (h : RdB B rb src at' outs opn oA oC pA pC w)
    {pA' : Option Addr} {pC' : Nat} {n : Nat} (r : AppRes w w2 B 3 1 pA opn.length pC (nats opn) 1 (nats [n]) pA' pC') :
    w2.heap[rb]? = some (.cells #[.string src, .int .i64 at', .slice oA outs.length oC, .slice pA opn.length pC] 55 (0, 0)) ∧
    (w2.setCell ⟨rb, 3, none⟩ (.slice pA' (opn.length + 1) pC')).heap[rb]? = some (.cells #[.string src, .int .i64 at', .slice oA outs.length oC, .slice pA' (opn ++ [n]).length pC'] 55 (0, 0)) ∧
    (w2.setCell ⟨rb, 3, none⟩ (.slice pA' (opn.length + 1) pC')).ownsRow B 34 4 (.slice oA outs.length oC) outs.length (itcs outs) ∧
    (w2.setCell ⟨rb, 3, none⟩ (.slice pA' (opn.length + 1) pC')).ownsRow B 3 1 (.slice pA' (opn ++ [n]).length pC') (opn ++ [n]).length (nats (opn ++ [n])) := by
  have e1 : (opn ++ [n]).length = opn.length + 1 := by simp
  have e2 : nats (opn ++ [n]) = nats opn ++ nats [n] := by simp [nats]
  have hb := grown_blk r.grown h.blk (own_ne h.opens h.blk (by decide))
  refine ⟨hb, ?_, ?_, ?_⟩
  · rw [e1]; exact blk_set_eq hb _
  · have ho := own_grown r.grown h.out (own_ne2 h.out h.opens (by decide))
    exact own_other ho (own_ne ho hb (by decide)) _
  · rw [e1, e2]; exact own_other r.own (own_ne r.own hb (by decide)) _
/-- An item is put behind. -/
theorem RdB.put {B rb : Nat} {src : ByteArray} {at' : Nat} {outs : List It} {oA : Option Addr} {oC : Nat} {v3 : Value} {w w2 : World}
    (hblk : w.heap[rb]? = some (.cells #[.string src, .int .i64 at', .slice oA outs.length oC, v3] 55 (0, 0))) (hout : w.ownsRow B 34 4 (.slice oA outs.length oC) outs.length (itcs outs))
    {oA' : Option Addr} {oC' : Nat} {x : It} (r : AppRes w w2 B 34 4 oA outs.length oC (itcs outs) 1 (itcs [x]) oA' oC') :
    w2.heap[rb]? = some (.cells #[.string src, .int .i64 at', .slice oA outs.length oC, v3] 55 (0, 0)) ∧
    (w2.setCell ⟨rb, 2, none⟩ (.slice oA' (outs.length + 1) oC')).heap[rb]? = some (.cells #[.string src, .int .i64 at', .slice oA' (outs ++ [x]).length oC', v3] 55 (0, 0)) ∧
    (w2.setCell ⟨rb, 2, none⟩ (.slice oA' (outs.length + 1) oC')).ownsRow B 34 4 (.slice oA' (outs ++ [x]).length oC') (outs ++ [x]).length (itcs (outs ++ [x])) ∧
    ∀ (n : Nat) (pA : Option Addr) (pC : Nat) (xs : List Value), w.ownsRow B 3 1 (.slice pA n pC) n xs → (w2.setCell ⟨rb, 2, none⟩ (.slice oA' (outs.length + 1) oC')).ownsRow B 3 1 (.slice pA n pC) n xs := by
  have e1 : (outs ++ [x]).length = outs.length + 1 := by simp
  have hb := grown_blk r.grown hblk (own_ne hout hblk (by decide))
  refine ⟨hb, ?_, ?_, fun n pA pC xs ho => ?_⟩
  · rw [e1]; exact blk_set_eq hb _
  · rw [e1, itcs_app]; exact own_other r.own (own_ne r.own hb (by decide)) _
  · have ho' := own_grown r.grown ho (own_ne2 ho hout (by decide))
    exact own_other ho' (own_ne ho' hb (by decide)) _

theorem getLast_get {l : List Nat} (h : l ≠ []) : ∃ j, l.getLast? = some j ∧ l[l.length - 1]? = some j := by
  refine ⟨l.getLast h, List.getLast?_eq_some_getLast h, ?_⟩
  rw [← List.getLast?_eq_getElem?, List.getLast?_eq_some_getLast h]
/-- What an item comes to. -/
def outsOf (st : List It) (opn : List Nat) (x : It) : List It := (match opn.getLast? with | some j => bump st j | none => st) ++ [x]
def opnOf (outs : List It) (opn : List Nat) (kind : Int) : List Nat := if kind = 5 then opn ++ [outs.length] else opn

theorem c46 {B rb : Nat} {src : ByteArray} {at' : Nat} {outs : List It} {opn : List Nat} {oA : Option Addr} {oC : Nat} {pA : Option Addr} {pC : Nat} {w : World} (h : RdB B rb src at' outs opn oA oC pA pC w)
    (hk : ∀ x ∈ outs, x.kids < outs.length) (hf : outs.length + 1 ≤ at') (kind : Int) (text : ByteArray) (pos : Int) :
    Ret Tryd.prog 46 #[.pointer (some ⟨rb, 0, none⟩), .int .i64 kind, .string text, .int .i64 pos] w fun v w' => Below B w w' ∧
      (opn.length > 256 ∧ v = .int .i64 6 ∨
       ¬ opn.length > 256 ∧ v = .int .i64 0 ∧ ∃ oA' oC' pA' pC', RdB B rb src at' (outsOf outs opn ⟨kind, text, 0, pos⟩) (opnOf outs opn kind) oA' oC' pA' pC' w') := by
  have hd : ∀ {w2 outs opn oA oC pA pC}, RdB B rb src at' outs opn oA oC pA pC w2 → RdB B rb src at' outs opn oA oC pA pC w2.drew := fun h2 => h2.ext ((Ext.refl _).drew)
  have hsm := h.small
  have hfew := h.few
  have hdeep := h.deep
  have hle := h.le
  have hBw : B ≤ w.heap.size := Nat.le_trans h.base (Nat.le_of_lt h.lt)
  refine run46 _ _ _ _ _ _ ⟨_, _, _, h.c3, cond_dec (fun hgt => ⟨Below.refl _ _, .inl ⟨by omega, rfl⟩⟩) (fun hgt => ?_)⟩
  have hgt' : ¬ opn.length > 256 := by omega
  intro K hK
  -- behind the count
  have main : ∀ w1 outs1, RdB B rb src at' outs1 opn oA oC pA pC w1 → Below B w w1 → outs1.length = outs.length →
      (match opn.getLast? with | some j => bump outs j | none => outs) = outs1 → K [] w1 := by
    intro w1 outs1 h1 hb1 hlen ho
    have hB1 : B ≤ w1.heap.size := Nat.le_trans h1.base (Nat.le_of_lt h1.lt)
    refine hK _ fun K1 hK1 => ?_
    -- behind the opening
    have fin : ∀ w2 opn2 pA2 pC2, Below B w w2 → opn2 = opnOf outs opn kind → opn2.length ≤ outs.length + 1 → (∀ j ∈ opn2, j < outs.length + 1) →
        w2.heap[rb]? = some (.cells #[.string src, .int .i64 at', .slice oA outs1.length oC, .slice pA2 opn2.length pC2] 55 (0, 0)) →
        w2.ownsRow B 34 4 (.slice oA outs1.length oC) outs1.length (itcs outs1) → w2.ownsRow B 3 1 (.slice pA2 opn2.length pC2) opn2.length (nats opn2) → K1 [] w2 := by
      intro w2 opn2 pA2 pC2 hb2 hopn hol hom hblk2 hout2 hop2
      have hB2 : B ≤ w2.heap.size := Nat.le_trans h.base (Nat.le_of_lt (Array.getElem?_eq_some_iff.1 hblk2).1)
      refine hK1 _ ⟨oA, outs1.length, oC, blk_cell hblk2, B, itcs outs1, itcs [⟨kind, text, 0, pos⟩], AppOk.one hout2 rfl rfl (by unfold maxLen; omega) (by omega) hB2, ?_⟩
      intro p2 k5 w3 r
      have hext := (Ext.refl w2).alloc (.cells #[Value.int IntKind.i64 kind, Value.string text, Value.int IntKind.i64 0, Value.int IntKind.i64 pos] 34)
      have hblk2' := hext.blk hblk2
      have hout2' := own_ext hout2 hext
      obtain ⟨q1, q2, q3, q4⟩ := RdB.put (x := ⟨kind, text, 0, pos⟩) hblk2' hout2' r
      have hb3 : Below B w w3 := r.below hout2' (Below.alloc hb2 hB2 _) (by rw [size_alloc]; omega) (Nat.le_refl _)
      refine ⟨⟨⟨_, blk_cell (j := 2) q1⟩, blk_free (j := 2) q1⟩, ?_⟩
      refine ⟨Below.setCell (p := ⟨rb, 2, none⟩) hb3 h.base _, .inr ⟨hgt', rfl, p2, k5, pA2, pC2, ?_⟩⟩
      have hlen1 : (outs1 ++ [(⟨kind, text, 0, pos⟩ : It)]).length = outs.length + 1 := by simp [hlen]
      have hoo : outsOf outs opn ⟨kind, text, 0, pos⟩ = outs1 ++ [⟨kind, text, 0, pos⟩] := by unfold outsOf; rw [ho]
      rw [hoo, ← hopn]
      exact
      { base := h.base
        blk := q2
        out := q3
        opens := q4 _ _ _ _ (own_ext hop2 hext)
        small := hsm
        le := hle
        few := by rw [hlen1]; exact hf
        kids := by
          intro x hx
          rcases List.mem_append.1 hx with hx | hx
          · exact h1.kids x hx
          · rw [List.mem_singleton.1 hx]; exact ⟨Int.le_refl _, (by decide : (0 : Int) ≤ 65536)⟩
        mem := by rw [hlen1]; exact hom
        deep := by rw [hlen1]; exact hol }
    refine cond_intro (fun h5 => ?_) (fun h5 => ?_)
    · have h5' : kind = 5 := by simpa using h5
      intro K2 hK2
      have h1d := hd h1
      refine ⟨_, _, _, h1d.c3, _, _, _, h1d.c2, (Ext.refl _).alloc _, B, nats opn, nats [outs1.length], AppOk.one h1d.opens rfl rfl (by unfold maxLen; omega) (by omega) hB1, ?_⟩
      intro p5 k11 w5 r
      have h1a := h1d.ext ((Ext.refl w1.drew).alloc (.cells #[Value.int IntKind.i64 (outs1.length : Int)] 3))
      obtain ⟨q1, q2, q3, q4⟩ := RdB.opened h1a r
      have hb5 : Below B w w5 := r.below h1a.opens (Below.alloc hb1.drew hB1 _) (by rw [size_alloc]; exact Nat.le_trans hB1 (Nat.le_succ _)) (Nat.le_refl _)
      refine ⟨⟨⟨_, blk_cell (j := 3) q1⟩, blk_free (j := 3) q1⟩, hK2 _ (fin _ (opn ++ [outs1.length]) p5 k11 (Below.setCell (p := ⟨rb, 3, none⟩) hb5 h.base _) ?_ ?_ ?_ q2 q3 q4)⟩
      · rw [opnOf, if_pos h5', hlen]
      · simp only [List.length_append, List.length_cons, List.length_nil]; omega
      · intro j hj
        rcases List.mem_append.1 hj with hj | hj
        · have := h.mem j hj; omega
        · rw [List.mem_singleton.1 hj, hlen]; omega
    · have h5' : kind ≠ 5 := by simpa using h5
      refine fin _ opn pA pC hb1 ?_ (by omega) (fun j hj => by have := h.mem j hj; omega) h1.blk h1.out h1.opens
      rw [opnOf, if_neg h5']
  refine ⟨_, _, _, h.c3, cond_dec (fun hpos => ?_) (fun hpos => ?_)⟩
  · have hne : opn ≠ [] := fun e => by rw [e] at hpos; exact absurd hpos (by decide)
    have hl0 : 0 < opn.length := List.length_pos_iff.2 hne
    obtain ⟨j, hj, hj2⟩ := getLast_get hne
    obtain ⟨g', rfl, hg', -, -⟩ := own_some h.opens hl0
    have hjm : j < outs.length := h.mem j (List.mem_of_getElem? hj2)
    obtain ⟨g, rfl, hg, -, -⟩ := own_some h.out (by omega : 0 < outs.length)
    obtain ⟨x, hx⟩ : ∃ x, outs[j]? = some x := ⟨_, List.getElem?_eq_getElem hjm⟩
    have hxk := h.kids x (List.mem_of_getElem? hx)
    have hxk2 := hk x (List.mem_of_getElem? hx)
    have hcell : w.drew.cell? (((⟨g, 0, none⟩ : Addr).add ((j : Int).toNat * 4)).add 2) = some (.int .i64 x.kids) := by
      rw [add_add _ rfl, Int.toNat_natCast]
      exact World.ownsRow.cells h.out hg _ _ (itcs_get hx 2 _ rfl)
    have hadr : ((⟨g, 0, none⟩ : Addr).add ((j : Int).toNat * 4)).add 2 = ⟨g, j * 4 + 2, none⟩ := by
      rw [add_add _ rfl, Int.toNat_natCast, add_eq, Nat.zero_add]
    refine ⟨_, _, _, (hd h).c2, _, _, _, (hd h).c3, _, rfl, ?_⟩
    rw [wrap_pred (by omega) hl0]
    refine ⟨⟨by omega, by omega⟩, (j : Int), ?_, _, rfl, ⟨by omega, by omega⟩, _, hcell, _, rfl, ⟨by omega, by omega⟩, ⟨⟨_, hcell⟩, ?_⟩, ?_⟩
    · rw [Int.toNat_natCast, Nat.mul_one]
      exact World.ownsRow.cells h.opens hg' _ _ (by rw [nats, List.getElem?_map, hj2]; rfl)
    · rw [hadr]; exact own_free (hd h).out hg _
    · rw [hadr, wrap64_in (by omega) (by omega)]
      refine main _ (bump outs j) ((hd h).bumped hx (by omega)) ?_ (bump_len _ _) (by rw [hj])
      exact Below.setCell (p := ⟨g, _, none⟩) ((Below.refl B w).drew) (own_lt h.out g rfl).1 _
  · have hne : opn = [] := by
      cases opn with
      | nil => rfl
      | cons a l => exact absurd (by simp) hpos
    exact main w outs h (Below.refl _ _) rfl (by rw [hne]; rfl)
theorem kidsLt_outsOf {outs : List It} {opn : List Nat} {x : It} (h : KidsLt outs) (hx : x.kids = 0) : KidsLt (outsOf outs opn x) := by
  unfold KidsLt outsOf
  have e : (match opn.getLast? with | some j => bump outs j | none => outs).length = outs.length := by
    split
    · exact bump_len _ _
    · rfl
  rw [List.length_append, e]
  intro y hy
  rcases List.mem_append.1 hy with hy | hy
  · have : y.kids ≤ outs.length := by
      split at hy
      · rename_i j _
        obtain ⟨i, hi⟩ := List.getElem?_of_mem hy
        rw [bump, List.getElem?_modify] at hi
        split at hi
        · cases ho : outs[i]? with
          | none => rw [ho] at hi; cases hi
          | some z =>
            rw [ho] at hi
            cases hi
            have := h z (List.mem_of_getElem? ho)
            show z.kids + 1 ≤ _
            omega
        · have := h y (List.mem_of_getElem? (by simpa using hi)); omega
      · have := h y hy; omega
    simp only [List.length_cons, List.length_nil]
    omega
  · rw [List.mem_singleton.1 hy, hx]
    simp only [List.length_cons, List.length_nil]
    omega

/-! Strings of the program. -/
theorem RdB.keep {B rb : Nat} {src : ByteArray} {at' : Nat} {outs : List It} {opn : List Nat} {oA : Option Addr} {oC : Nat} {pA : Option Addr} {pC : Nat} {w w' : World} (h : RdB B rb src at' outs opn oA oC pA pC w)
    {N : Nat} (h1 : rb < N) (h2 : ∀ g, (Value.slice oA outs.length oC).ownBlock = some g → g < N) (h3 : ∀ g, (Value.slice pA opn.length pC).ownBlock = some g → g < N) (hb : Below N w w') :
    RdB B rb src at' outs opn oA oC pA pC w' :=
  { h with
    blk := by rw [hb.block rb h1]; exact h.blk
    out := own_keep h.out fun k hk => hb.block k (h2 k hk)
    opens := own_keep h.opens fun k hk => hb.block k (h3 k hk) }
theorem builder_set {T e : Nat} {N b : Nat} {bsv : List Value} {w : World} (h : Lib.IsBuilder T e N b bsv w) {a : Addr} (ha : a.block < N) (v : Value) : Lib.IsBuilder T e N b bsv (w.setCell a v) := by
  rcases h with ⟨hB, u, hb, ho, hne⟩ | ⟨hB, u, hb, ho, hne⟩
  · exact .inl ⟨hB, u, by rw [blk_set_ne (by omega)]; exact hb, ownsRow_setCell_below ho ha v, hne⟩
  · exact .inr ⟨hB, u, by rw [blk_set_ne (by omega)]; exact hb, ownsRow_setCell_below ho ha v, hne⟩

/-- A byte is written. -/
theorem c37 (B b : Nat) (l : List UInt8) (c : UInt8) (w : World) (h : Lib.IsBuilder 62 5 B b (Lib.byteCells l) w) (hlen : l.length + 1 ≤ 140737488355328) (hBw : B ≤ w.heap.size) :
    Ret Tryd.prog 37 #[.pointer (some ⟨b, 0, none⟩), .int .u8 c.toNat] w fun _ w' => Lib.BuilderAt 62 5 B b (.pointer (some ⟨b, 0, none⟩)) (Lib.byteCells (l ++ [c])) w' ∧ Below B w w' := by
  refine run37 _ _ _ _ (Called.of (ret_of (copyCheck B b _ w h)) ?_)
  rintro v w1 ⟨rfl, ⟨hB, u, hb, ho, hne⟩, hb1⟩
  refine ⟨rfl, ?_⟩
  have hlen2 : (Lib.byteCells l).length = l.length := Lib.byteCells_length l
  obtain ⟨p, k, hu⟩ : ∃ p k, u = .slice p (Lib.byteCells l).length k := by
    rcases ho.2 with ⟨rfl, h0⟩ | ⟨g, cap, cur, rfl, _⟩
    · exact ⟨none, 0, by rw [h0]⟩
    · exact ⟨_, _, rfl⟩
  subst hu
  have hc1 : w1.cell? ((⟨b, 0, none⟩ : Addr).add 1) = some (.slice p (Lib.byteCells l).length k) := blk_cell hb
  have hB1 : B ≤ w1.heap.size := Nat.le_trans hBw hb1.size
  refine ⟨p, _, k, hc1, B, Lib.byteCells l, Lib.byteCells [c], AppOk.one ho rfl rfl (by rw [hlen2]; unfold maxLen; omega) (by rw [hlen2]; omega) hB1, ?_⟩
  intro p1 k3 w2 r
  have hext := (Ext.refl w1).alloc (.cells #[Value.int IntKind.u8 c.toNat] 5)
  have hb2 := grown_blk r.grown (hext.blk hb) hne
  have hbel : Below B w w2 := r.below (own_ext ho hext) (Below.alloc hb1 hB1 _) (by rw [size_alloc]; exact Nat.le_trans hB1 (Nat.le_succ _)) (Nat.le_refl _)
  have hne2 : (Value.slice p1 ((Lib.byteCells l).length + 1) k3).ownBlock ≠ some b := own_ne r.own hb2 (by decide)
  refine ⟨⟨⟨_, blk_cell (j := 1) hb2⟩, blk_free (j := 1) hb2⟩, ⟨hB, _, blk_set_eq (j := 1) hb2 _, ?_, hne2⟩, Below.setCell (p := ⟨b, 1, none⟩) hbel hB _⟩
  have e1 : (Lib.byteCells (l ++ [c])).length = (Lib.byteCells l).length + 1 := by rw [Lib.byteCells_length, Lib.byteCells_length]; simp
  have e2 : Lib.byteCells (l ++ [c]) = Lib.byteCells l ++ Lib.byteCells [c] := Lib.byteCells_append _ _
  rw [e1, e2]
  exact own_other r.own hne2 _
theorem c47 {B rb : Nat} {src : ByteArray} {at' : Nat} {outs : List It} {opn : List Nat} {oA : Option Addr} {oC : Nat} {pA : Option Addr} {pC : Nat} {w : World} (h : RdB B rb src at' outs opn oA oC pA pC w) (hat : at' < src.size) :
    Ret Tryd.prog 47 #[.pointer (some ⟨rb, 0, none⟩)] w fun v w' => Below B w w' ∧ match strL (rest src (at' + 1)) with
      | none => ∃ t, v = .tuple #[.string t, .bool false]
      | some (x, r) => ∃ t, v = .tuple #[.string t, .bool true] ∧ bs t = x ∧ RdB B rb src (src.size - r.length) outs opn oA oC pA pC w' := by
  have hsm := h.small
  have hrb := h.lt
  have ho1 : ∀ g, (Value.slice oA outs.length oC).ownBlock = some g → g < w.heap.size := fun g hg => (own_lt h.out g hg).2
  have hp1 : ∀ g, (Value.slice pA opn.length pC).ownBlock = some g → g < w.heap.size := fun g hg => (own_lt h.opens g hg).2
  have hBw : B ≤ w.heap.size := Nat.le_trans h.base (Nat.le_of_lt h.lt)
  have ha := h.ext ((Ext.refl w).alloc (.cells #[.pointer none, .slice none 0 0] 62))
  have hd : ∀ {w2 at' outs opn oA oC pA pC}, RdB B rb src at' outs opn oA oC pA pC w2 → RdB B rb src at' outs opn oA oC pA pC w2.drew := fun h2 => h2.ext ((Ext.refl _).drew)
  have hba : Below B w (w.alloc (.cells #[.pointer none, .slice none 0 0] 62)) := (Below.refl B w).alloc hBw _
  have hbuild : Lib.IsBuilder 62 5 w.heap.size w.heap.size (Lib.byteCells []) (w.alloc (.cells #[.pointer none, .slice none 0 0] 62)) :=
    .inl ⟨Nat.le_refl _, .slice none 0 0, heap_alloc_new w _, World.ownsRow_nil _ _ _ _, by intro e; cases e⟩
  have hgo := ha.go (k := at' + 1) (by omega) hat
  refine run47 _ _ _ ⟨_, ha.c1, ⟨⟨_, ha.c1⟩, ha.fr 1⟩, fun vals w' => vals = [] ∧ ∃ (j : Nat) (acc : List UInt8), acc.length ≤ j ∧ RdB B rb src j outs opn oA oC pA pC w' ∧ Below B w w' ∧
    w.heap.size ≤ w'.heap.size ∧ Lib.IsBuilder 62 5 w.heap.size w.heap.size (Lib.byteCells acc) w' ∧
    strL (rest src (at' + 1)) = (strL (rest src j)).map fun x => (acc ++ x.1, x.2), fun _ w' => mu3 rb src.size w', ?_, ?_⟩
  · rw [wrap_succ (by omega)]
    refine ⟨rfl, at' + 1, [], Nat.zero_le _, hgo, ha.below hba _ _, ?_, builder_set hbuild (by show rb < _; exact hrb) _, ?_⟩
    · rw [size_setCell, size_alloc]; omega
    · cases strL (rest src (at' + 1)) <;> simp
  rintro w1 ⟨-, j, acc, hacc, h1, hb, hsz, hbu, hst⟩
  have hjl := h1.le
  refine ⟨_, (hd h1).c1, _, (hd h1).c0, cond_dec (fun hlt => ?_) (fun hlt => ?_)⟩
  · have hlt' : j < src.size := by omega
    have hc := rest_cons hlt'
    intro K hK
    have next : ∀ (w2 : World) (j2 : Nat) (acc2 : List UInt8), j ≤ j2 → j2 < src.size → acc2.length ≤ j2 + 1 → RdB B rb src j2 outs opn oA oC pA pC w2 → Below B w w2 → w.heap.size ≤ w2.heap.size →
        Lib.IsBuilder 62 5 w.heap.size w.heap.size (Lib.byteCells acc2) w2 → strL (rest src (at' + 1)) = ((strL (rest src (j2 + 1))).map fun x => (acc2 ++ x.1, x.2)) → K [] w2 := by
      intro w2 j2 acc2 hj2 hlt2 hacc2 h2 hb2 hsz2 hbu2 hst2
      refine hK _ ⟨_, h2.c1, ⟨⟨_, h2.c1⟩, h2.fr 1⟩, ?_⟩
      rw [wrap_succ (by omega)]
      refine ⟨⟨rfl, j2 + 1, acc2, hacc2, h2.go (by omega) hlt2, h2.below hb2 _ _, by rw [size_setCell]; exact hsz2, builder_set hbu2 (by show rb < _; exact hrb) _, hst2⟩, ?_⟩
      show mu3 rb _ _ < mu3 rb _ _
      rw [mu3_of h1.c1, mu3_of (h2.go (k := j2 + 1) (by omega) hlt2).c1]; omega
    refine ⟨_, (hd (hd h1)).c0, _, (hd (hd h1)).c1, ⟨by omega, hlt⟩, ?_⟩
    rw [bt_eq]
    refine Called.of (c50 _ _) ?_
    rintro v w3 ⟨rfl, rfl⟩
    refine ⟨_, rfl, cond_intro (fun hp => ?_) (fun hp => ?_)⟩
    · have hp' : isPrint ((bs src).getD j 0) = false := by simpa using hp
      refine ⟨hb.drew.drew, ?_⟩
      rw [hst, hc, strL_bad hp']
      exact ⟨_, rfl⟩
    have hp' : isPrint ((bs src).getD j 0) = true := by simpa using hp
    have hsz1 : w.heap.size ≤ w1.drew.drew.heap.size := hsz
    rw [show ((((bs src).getD j 0).toNat : Int) != 34) = ((bs src).getD j 0 != 34) by rw [bne, bne, show ((((bs src).getD j 0).toNat : Int) == 34) = ((bs src).getD j 0 == 34) from u8_beq _ 34 (by omega)]]
    refine cond_intro (fun h34 => ?_) (fun h34 => ?_)
    · have h34' : (bs src).getD j 0 ≠ 34 := by simpa using h34
      refine Called.of (c37 _ _ acc _ w1.drew.drew hbu (by omega) hsz1) ?_
      rintro v w4 ⟨hbu4, hb4⟩
      refine ⟨_, rfl, next w4 j (acc ++ [(bs src).getD j 0]) (Nat.le_refl _) hlt' (by simp; omega) ((hd (hd h1)).keep hrb ho1 hp1 hb4) (hb.drew.drew.trans (Below.mono hb4 hBw)) (Nat.le_trans hsz1 hb4.size) (.inr hbu4) ?_⟩
      · rw [hst, hc, strL_chr h34' hp', map_map_app]
    have h34' : (bs src).getD j 0 = 34 := by simpa using h34
    intro K1 hK1
    have hddd := hd (hd (hd h1))
    have two : j + 1 < src.size → (bs src).getD (j + 1) 0 = 34 → K1 [Value.bool true] w1.drew.drew.drew := by
      intro hl2 h2
      refine hK1 _ (Called.of (c37 _ _ acc _ w1.drew.drew.drew hbu (by omega) hsz1) ?_)
      rintro v w5 ⟨hbu5, hb5⟩
      have h5 := hddd.keep hrb ho1 hp1 hb5
      refine ⟨_, rfl, _, h5.c1, ⟨⟨_, h5.c1⟩, h5.fr 1⟩, ?_⟩
      rw [wrap_succ (by omega)]
      refine next _ (j + 1) (acc ++ [(bs src).getD j 0]) (by omega) hl2 (by simp; omega) (h5.go (by omega) (by omega)) (h5.below (hb.drew.drew.drew.trans (Below.mono hb5 hBw)) _ _) ?_ ?_ ?_
      · rw [size_setCell]; exact Nat.le_trans hsz1 hb5.size
      · exact builder_set (.inr hbu5) (by show rb < _; exact hrb) _
      · rw [hst, hc, rest_cons hl2, h2, h34', strL_two, map_map_app]
    have one : ¬ (j + 1 < src.size ∧ (bs src).getD (j + 1) 0 = 34) → K1 [Value.bool false] w1.drew.drew.drew := by
      intro hno
      refine hK1 _ ⟨_, hddd.c1, ⟨⟨_, hddd.c1⟩, hddd.fr 1⟩, ?_⟩
      rw [wrap_succ (by omega)]
      have h6 := hddd.go (k := j + 1) (by omega) hlt'
      refine Called.of (ret_of (Tryd.Builder_String_any _ _ acc _ (builder_set (w := w1.drew.drew.drew) hbu (by show rb < _; exact hrb) _) ?_)) ?_
      · rw [size_setCell]; exact hsz1
      rintro v w6 ⟨rfl, hb6⟩
      refine ⟨_, rfl, (hddd.below hb.drew.drew.drew _ _).trans (Below.mono hb6 hBw), ?_⟩
      rw [hst, hc, h34', strL_end (rest_not34 hno)]
      refine ⟨_, rfl, ?_, ?_⟩
      · rw [List.append_nil]; exact bs_mk acc
      · have : src.size - (rest src (j + 1)).length = j + 1 := by rw [rest_len]; omega
        rw [this]
        exact h6.keep hrb ho1 hp1 hb6
    refine ⟨_, hddd.c1, _, hddd.c0, ?_⟩
    rw [wrap_succ (by omega)]
    refine cond_dec (fun hl => ⟨_, hddd.c0, _, hddd.c1, ?_⟩) (fun hl => one (by omega))
    rw [wrap_succ (by omega)]
    refine ⟨⟨by omega, hl⟩, ?_⟩
    rw [bt_eq, show ((((bs src).getD (j + 1) 0).toNat : Int) == 34) = ((bs src).getD (j + 1) 0 == 34) from u8_beq _ 34 (by omega)]
    cases h2 : (bs src).getD (j + 1) 0 == 34 with
    | true => exact two (by omega) (by simpa using h2)
    | false => exact one (fun h => by rw [h.2] at h2; exact absurd h2 (by decide))
  · refine ⟨hb.drew, ?_⟩
    rw [hst, rest_nil (by omega)]
    exact ⟨_, rfl⟩
end Go.Proofs.Sx
