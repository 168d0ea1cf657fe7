/- Part of the proof: SxMW. -/
import Derived.Test.YtonenlplcidihaaDoorSxMC
import Derived.Shelf.Strings.BuilderK
/-! The builder: a byte, a string, what it holds; everything else stands. -/
namespace Go.Proofs
open Go
def Tryd.lays167_ren : Go.Shelf.Ren := ⟨fun | 167 => 37 | 240 => 54 | 276 => 65 | n => n, fun | 0 => 0 | 4 => 4 | 5 => 5 | 9 => 9 | 20 => 20 | 37 => 52 | 70 => 60 | 72 => 62 | 75 => 65 | 80 => 67 | 164 => 90 | n => n, fun | n => n⟩
theorem Tryd.lays167 : Go.Proofs.Lays.n167 Tryd.prog Tryd.lays167_ren := {
  mixed := by kernel_rfl
  f167 := Tryd.func37.trans (congrArg some (by kernel_rfl))
  f240 := Tryd.func54.trans (congrArg some (by kernel_rfl))
  f276 := Tryd.func65.trans (congrArg some (by kernel_rfl))
  t0 := Tryd.underlying0
  a0 := Tryd.isAgg0
  z0 := Tryd.sizeOf0
  v0 := Tryd.zeroValue0
  t4 := Tryd.underlying4
  a4 := Tryd.isAgg4
  z4 := Tryd.sizeOf4
  v4 := Tryd.zeroValue4
  t5 := Tryd.underlying5
  a5 := Tryd.isAgg5
  z5 := Tryd.sizeOf5
  v5 := Tryd.zeroValue5
  t9 := Tryd.underlying9
  a9 := Tryd.isAgg9
  z9 := Tryd.sizeOf9
  v9 := Tryd.zeroValue9
  t20 := Tryd.underlying20
  a20 := Tryd.isAgg20
  z20 := Tryd.sizeOf20
  v20 := Tryd.zeroValue20
  t37 := Tryd.underlying52
  a37 := Tryd.isAgg52
  z37 := Tryd.sizeOf52
  v37 := Tryd.zeroValue52
  t70 := Tryd.underlying60
  a70 := Tryd.isAgg60
  z70 := Tryd.sizeOf60
  v70 := Tryd.zeroValue60
  t72 := Tryd.underlying62
  a72 := Tryd.isAgg62
  z72 := Tryd.sizeOf62
  v72 := Tryd.zeroValue62
  t75 := Tryd.underlying65
  a75 := Tryd.isAgg65
  z75 := Tryd.sizeOf65
  v75 := Tryd.zeroValue65
  t164 := Tryd.underlying90
  a164 := Tryd.isAgg90
  z164 := Tryd.sizeOf90
  v164 := Tryd.zeroValue90 }
theorem Tryd.Builder_Extra_167 : Builder.Extra Tryd.prog Tryd.lays167_ren := {
  sizeBuilder := by kernel_rfl
  liesBuilder := by kernel_rfl
  t5 := Tryd.underlying5
  a5 := Tryd.isAgg5
  z5 := Tryd.sizeOf5
  v5 := Tryd.zeroValue5
  infoByte := by kernel_rfl
  cellsByte := by kernel_rfl
  sizeByte := by kernel_rfl
  neB5 := by decide }
end Go.Proofs
namespace Go.Proofs.Sx
open Go Go.V Go.Proofs Go.RowKit
set_option maxRecDepth 100000

/-- A builder that holds these bytes. -/
abbrev BF (B b : Nat) (l : List UInt8) (w : World) : Prop := Lib.IsBuilderF 62 5 B b (Lib.byteCells l) w
/-- What a writer leaves alone. -/
structure Kept (B b : Nat) (w w' : World) : Prop where
  below : Below B w w'
  others : Lib.OthersKept 5 (some b) w w'
theorem Kept.refl (B b : Nat) (w : World) : Kept B b w w := ⟨Below.refl _ _, Lib.OthersKept.refl _ _ _⟩
theorem Kept.trans {B b : Nat} {a c d : World} (h : Kept B b a c) (k : Kept B b c d) : Kept B b a d := ⟨Below.trans h.below k.below, h.others.trans k.others⟩
theorem Kept.ext {B b : Nat} {a c d : World} (h : Kept B b a c) (k : Ext c d) (hB : B ≤ c.heap.size) : Kept B b a d :=
  h.trans ⟨Below.mono k hB, fun _ _ hi _ _ => k.blk hi⟩
/-- A block of another kind stands. -/
theorem Kept.blk {B b : Nat} {w w' : World} (h : Kept B b w w') {k e : Nat} {c : Array Value} {f : Nat × Nat} (hk : w.heap[k]? = some (.cells c e f)) (he : e ≠ 5) (hb : k ≠ b) : w'.heap[k]? = some (.cells c e f) :=
  h.others k _ hk (fun e => hb (Option.some.inj e)) (fun c' f' e2 => by cases e2; exact he rfl)
theorem Kept.row {B b : Nat} {w w' : World} (h : Kept B b w w') {N e size n : Nat} {v : Value} {xs : List Value} (ho : w.ownsRow N e size v n xs) (he : e ≠ 5) (hb : v.ownBlock ≠ some b) : w'.ownsRow N e size v n xs := by
  refine ⟨ho.1, ?_⟩
  rcases ho.2 with h2 | ⟨g, cap, cur, rfl, hN, hg, r⟩
  · exact .inl h2
  · exact .inr ⟨g, cap, cur, rfl, hN, h.blk hg he (fun e2 => hb (by rw [e2]; rfl)), r⟩
theorem BF.lt {B b : Nat} {l : List UInt8} {w : World} (h : BF B b l w) : b < w.heap.size := by
  rcases h with h | h <;> exact h.lt
theorem BF.ge {B b : Nat} {l : List UInt8} {w : World} (h : BF B b l w) : B ≤ b := by
  rcases h with h | h <;> exact h.1

theorem k37 {B b : Nat} {l : List UInt8} (c : UInt8) {w : World} (h : BF B b l w) (hlen : l.length + 1 ≤ 140737488355328) :
    Ret Tryd.prog 37 #[.pointer (some ⟨b, 0, none⟩), .int .u8 c.toNat] w fun _ w' => BF B b (l ++ [c]) w' ∧ Kept B b w w' := by
  have hB : B ≤ w.heap.size := Nat.le_trans h.ge (Nat.le_of_lt h.lt)
  refine Calls.mono (Any.Builder_WriteByte_k Tryd.lays167 Tryd.Builder_Extra_167 B b (Lib.byteCells l) c.toNat w h (by rw [Lib.byteCells_length]; exact hlen) hB) ?_
  rintro e w' ⟨rfl, h1, h2, h3⟩
  refine ⟨_, rfl, .inr ?_, h2, h3⟩
  rw [Lib.byteCells_append]
  exact h1
theorem k52 {B b : Nat} {l : List UInt8} (s : ByteArray) {w : World} (h : BF B b l w) (hlen : l.length + s.size ≤ 140737488355328) :
    Ret Tryd.prog 52 #[.pointer (some ⟨b, 0, none⟩), .string s] w fun v w' => v = .tuple #[.int .i64 s.size, .nilIface] ∧ BF B b (l ++ bs s) w' ∧ Kept B b w w' := by
  have hB : B ≤ w.heap.size := Nat.le_trans h.ge (Nat.le_of_lt h.lt)
  refine Calls.mono (Any.Builder_WriteString_k { Tryd.lays154 with } Tryd.Builder_Extra_154 B b (Lib.byteCells l) s w h (by rw [Lib.byteCells_length]; exact hlen) hB) ?_
  rintro e w' ⟨rfl, h1, h2, h3⟩
  refine ⟨_, rfl, rfl, .inr ?_, h2, h3⟩
  rw [Lib.byteCells_append]
  exact h1
theorem k38 {B b : Nat} {l : List UInt8} {w : World} (h : BF B b l w) :
    Ret Tryd.prog 38 #[.pointer (some ⟨b, 0, none⟩)] w fun v w' => v = .string (mk l) ∧ Kept B b w w' := by
  have hB : B ≤ w.heap.size := Nat.le_trans h.ge (Nat.le_of_lt h.lt)
  refine Calls.mono (Any.Builder_String_any_k Tryd.lays169 Tryd.Builder_Extra_169 B b l w h hB) ?_
  rintro e w' ⟨rfl, h1, h2, h3⟩
  exact ⟨_, rfl, rfl, h2, h3⟩

/-! ReplaceAll of a quote. -/
theorem index_quote (l : List UInt8) : Lib.index (34 :: l) [34] = 0 := by
  unfold Lib.index
  rw [if_pos (by simp [List.isPrefixOf])]
theorem index_other {c : UInt8} (h : c ≠ 34) {l : List UInt8} {i : Nat} (hi : Lib.index l [34] = i) : Lib.index (c :: l) [34] = ((i + 1 : Nat) : Int) := by
  have hne : ((34 : UInt8) == c) = false := by
    rw [beq_eq_false_iff_ne]; exact fun e => h e.symm
  unfold Lib.index
  rw [if_neg (by simp [List.isPrefixOf, hne]), hi, if_neg (by simp only [beq_iff_eq]; omega)]
  rfl
theorem replaceK_esc : ∀ l : List UInt8, Lib.replaceK [34] [34, 34] (Lib.count l [34]) l = esc l
  | [] => by rw [Lib.count_one]; rfl
  | c :: l => by
    have ih := replaceK_esc l
    by_cases hc : c = 34
    · subst hc
      rw [Lib.count_cons_eq, Nat.add_comm, Lib.replaceK_hit [34] [34, 34] _ _ 0 (index_quote l)]
      show [] ++ [34, 34] ++ Lib.replaceK [34] [34, 34] (Lib.count l [34]) l = _
      rw [ih, esc, if_pos rfl]; rfl
    · rw [Lib.count_cons_ne c 34 l hc, esc, if_neg hc, ← ih]
      cases hk : Lib.count l [34] with
      | zero => rfl
      | succ m =>
        obtain ⟨i, hi⟩ := Lib.index_of_count (s := l) (old := [34]) (by omega)
        rw [Lib.replaceK_hit [34] [34, 34] m l i hi, Lib.replaceK_hit [34] [34, 34] m (c :: l) (i + 1) (index_other hc hi)]
        rw [show (i + 1 + [(34 : UInt8)].length) = (i + [(34 : UInt8)].length) + 1 by simp]
        rfl
theorem replaceAll_esc (l : List UInt8) : Lib.replaceAll l [34] [34, 34] = esc l := by
  have : Lib.replaceNum l [34] (-1) = Lib.count l [34] := by
    unfold Lib.replaceNum
    rw [if_pos (.inl (by decide))]
  unfold Lib.replaceAll Lib.replace
  rw [if_neg (by decide), this, replaceK_esc]
theorem k53 (s : ByteArray) (hs : s.size < 4294967281) {w : World} (hm : ∃ m, w.cell? ⟨0, 0, none⟩ = some (.int .i64 m)) :
    Ret Tryd.prog 53 #[.string s, .string { data := #[34] }, .string { data := #[34, 34] }] w fun v w' => (∃ t, v = .string t ∧ bs t = esc (bs s)) ∧ Ext w w' := by
  obtain ⟨m, hm⟩ := hm
  have hcb := Lib.countB_le { data := #[34] } (by decide) s.size s (Nat.le_refl _)
  refine Calls.mono (Tryd.strings_ReplaceAll s { data := #[34] } { data := #[34, 34] } m w hs hm (by decide) ?_) ?_
  · have : ({ data := #[34, 34] } : ByteArray).size = 2 := rfl
    rw [this]; omega
  · rintro e w' ⟨rfl, hb⟩
    refine ⟨_, rfl, ⟨_, rfl, ?_⟩, hb⟩
    show bs (mk (Lib.replaceAll (bs s) [34] [34, 34])) = _
    rw [bs_mk, replaceAll_esc]
end Go.Proofs.Sx

/-! Format; SexprRoundTrip. -/
namespace Go.Proofs.Sx
open Go Go.V Go.Proofs Go.RowKit
set_option maxRecDepth 100000

theorem BF.ext {B b : Nat} {l : List UInt8} {w w' : World} (h : BF B b l w) (he : Ext w w') : BF B b l w' := by
  have go : ∀ p, Lib.BuilderAtF 62 5 B b p (Lib.byteCells l) w → Lib.BuilderAtF 62 5 B b p (Lib.byteCells l) w' := by
    rintro p ⟨hB, v, hb, ho, hne⟩
    refine ⟨hB, v, he.blk hb, ⟨ho.1, ?_⟩, hne⟩
    rcases ho.2 with h2 | ⟨g, cap, cur, fz, hv, hg, hgg, r⟩
    · exact .inl h2
    · exact .inr ⟨g, cap, cur, fz, hv, hg, he.blk hgg, r⟩
  exact h.imp (go _) (go _)
theorem byte_lit (c : UInt8) : bs { data := #[c] } = [c] := rfl

theorem k36 {A : Option Addr} {C : Nat} {L : List It} (hL : L.length < 4294967296) {w0 : World} (hs0 : SlAt w0 A (itcs L)) (hm0 : ∃ m, w0.cell? ⟨0, 0, none⟩ = some (.int .i64 m)) :
    ∀ (m : Nat) (f : Fo), f.flat.length ≤ m → f.goodV → 0 < f.cnt → ∀ (i : Nat), Here L i f → ∀ (b : Nat) (l : List UInt8) (w : World), Ext w0 w → BF w0.heap.size b l w → l.length + f.htxt.length ≤ 1099511627776 →
    Ret Tryd.prog 36 #[.pointer (some ⟨b, 0, none⟩), .slice A L.length C, .int .i64 i] w fun v w' => v = .tuple #[] ∧ BF w0.heap.size b (l ++ f.htxt) w' ∧ Kept w0.heap.size b w w' := by
  intro m
  induction m with
  | zero => intro f hf _ h0; have := f.cnt_le; omega
  | succ m ih =>
    intro f hf hg h0 i hh b l w he0 hbf hlen
    have hs := hs0.ext he0
    obtain ⟨y, hy, hyf⟩ := hh.get h0
    have hle := hh.le h0
    have hsp := Fo.len_split h0
    have hsub := Fo.hlen_sub h0
    have hlt : i < L.length := (List.getElem?_eq_some_iff.1 hy).1
    have hts : y.text.size ≤ 1048576 := by have := Fo.hd_size hg; rw [← hyf] at this; exact this
    have hk : y.kids = (f.sub.cnt : Int) := by rw [← Fo.hd_kids, ← hyf]; rfl
    have hB := he0.size
    have hblt := hbf.lt
    obtain ⟨ad, rfl, hsp2, hv, -⟩ := sl_item hs hy
    have hb0 : (w.alloc (.cells #[.int .i64 0, .string { data := #[] }, .int .i64 0, .int .i64 0] 34)).heap[w.heap.size]? = some (.cells #[.int .i64 0, .string { data := #[] }, .int .i64 0, .int .i64 0] 34 (0, 0)) := heap_alloc_new w _
    have hea := (Ext.refl w).alloc (.cells #[.int .i64 0, .string { data := #[] }, .int .i64 0, .int .i64 0] 34)
    have hb := set4_blk hb0 (.int .i64 y.kind) (.string y.text) (.int .i64 y.kids) (.int .i64 y.pos)
    have heW : Ext w _ := set4_below hea (Nat.le_refl _) (.int .i64 y.kind) (.string y.text) (.int .i64 y.kids) (.int .i64 y.pos)
    refine run36 _ _ _ _ _ _ _ ⟨ad, rfl, ⟨by omega, by omega⟩, y.kind, y.text, y.kids, y.pos, hv, writable4 hb0, _, blk_cell (j := 0) hb, ?_⟩
    generalize hW : setCells (w.alloc (.cells #[.int .i64 0, .string { data := #[] }, .int .i64 0, .int .i64 0] 34)) ⟨w.heap.size, 0, none⟩ 0 [.int .i64 y.kind, .string y.text, .int .i64 y.kids, .int .i64 y.pos] = W at hb heW ⊢
    have hbW := hbf.ext heW
    have hkW : Kept w0.heap.size b w W := (Kept.refl _ _ _).ext heW hB
    refine cond_intro (fun h5 => ?_) (fun h5 => cond_intro (fun h4 => ?_) (fun h4 => ?_))
    · -- a list
      have h5' : y.kind = 5 := by simpa using h5
      have hx : f.htxt = 40 :: (f.sub.more.tail ++ [41]) := by
        cases f with
        | nil => simp [Fo.cnt] at h0
        | leaf k t r =>
          have e1 : y.kind = k := congrArg It.kind hyf
          have := hg.1
          rw [← e1, h5'] at this
          simp [okLeaf] at this
        | list c r => rfl
      rw [hx] at hlen ⊢
      simp only [List.length_cons, List.length_append, List.length_nil] at hlen
      refine Called.of (k37 40 hbW (by omega)) ?_
      rintro v w1 ⟨hb1, hk1⟩
      have hbox1 := hk1.blk hb (by decide) (by omega : w.heap.size ≠ b)
      refine ⟨v, rfl, _, blk_cell (j := 2) hbox1, fun vals w2 => ∃ (j q : Nat) (g : Fo) (l2 : List UInt8), vals = [.int .i64 j, .int .i64 q] ∧ j + g.cnt = f.sub.cnt ∧ q + g.flat.length = i + f.hlen ∧ Here L q g ∧ g.goodV ∧
          g.flat.length ≤ f.sub.flat.length ∧ BF w0.heap.size b l2 w2 ∧ l2 ++ (if j = 0 then g.more.tail else g.more) = l ++ 40 :: f.sub.more.tail ∧ Kept w0.heap.size b w w2, mu1 f.sub.cnt,
        ⟨0, i + 1, f.sub, l ++ [40], by rw [wrap_succ (by omega)]; rfl, Nat.zero_add _, by rw [hsub]; omega, hh.sub h0, Fo.good_sub hg, Nat.le_refl _, hb1, by simp, hkW.trans hk1⟩, ?_⟩
      rintro n5 n6 w2 ⟨j, q, g, l2, hv2, hjc, hqc, hgh, hgg, hgl, hb2, hl2, hk2⟩
      cases hv2
      have hcl := f.sub.cnt_le
      have hl2l := congrArg List.length hl2
      simp only [List.length_append, List.length_cons] at hl2l
      have he2 : Ext w0 w2 := Below.trans he0 hk2.below
      rw [hk]
      refine cond_dec (fun hlt2 => ?_) (fun hge => ?_)
      · have hg0 : 0 < g.cnt := by omega
        have hglen := Fo.len_split hg0
        have hgs := Fo.hlen_sub hg0
        have hgc := Fo.cnt_next hg0
        intro K hK
        have step : ∀ w3 l3, BF w0.heap.size b l3 w3 → l3 ++ (g.htxt ++ g.next.more) = l ++ 40 :: f.sub.more.tail → Kept w0.heap.size b w w3 → K [] w3 := by
          intro w3 l3 hb3 hl3 hk3
          have hl3l := congrArg List.length hl3
          simp only [List.length_append, List.length_cons] at hl3l
          have he3 : Ext w0 w3 := Below.trans he0 hk3.below
          refine hK _ (Called.of (ih g (by omega) hgg hg0 q hgh b l3 w3 he3 hb3 (by omega)) ?_)
          rintro v w4 ⟨rfl, hb4, hk4⟩
          have hk4' := hk3.trans hk4
          refine ⟨rfl, Called.of (c35 hL hg0 hgh w4 (hs0.ext (Below.trans he0 hk4'.below))) ?_⟩
          rintro v w5 ⟨rfl, rfl⟩
          rw [wrap_succ (by omega)]
          refine ⟨_, rfl, ⟨j + 1, q + g.hlen, g.next, l3 ++ g.htxt, rfl, by omega, by omega, hgh.next hg0, Fo.good_next hgg, by omega, hb4, ?_, hk4'⟩, ?_⟩
          · rw [if_neg (Nat.succ_ne_zero _), List.append_assoc, hl3]
          · simp only [mu1, Int.toNat_natCast]; omega
        rw [Fo.more_step hg0] at hl2
        refine cond_dec (fun hpos => ?_) (fun hz => ?_)
        · rw [if_neg (by omega)] at hl2
          refine Called.of (k37 32 hb2 (by omega)) ?_
          rintro v w6 ⟨hb6, hk6⟩
          refine ⟨v, rfl, step w6 _ hb6 ?_ (hk2.trans hk6)⟩
          rw [← hl2]; simp
        · rw [if_pos (by omega)] at hl2
          exact step w2 _ hb2 hl2 hk2
      · have hg0 : g = .nil := cnt_zero (by omega)
        subst hg0
        have hl2' : l2 = l ++ 40 :: f.sub.more.tail := by rw [← hl2]; simp [Fo.more]
        refine Called.of (k37 41 hb2 (by omega)) ?_
        rintro v w7 ⟨hb7, hk7⟩
        refine ⟨v, rfl, rfl, ?_, hk2.trans hk7⟩
        rw [hl2'] at hb7
        simpa using hb7
    · -- a string
      have h4' : y.kind = 4 := by simpa using h4
      have hx : f.htxt = 34 :: (esc (bs y.text) ++ [34]) := by
        cases f with
        | nil => simp [Fo.cnt] at h0
        | leaf k t r =>
          have e1 : y.kind = k := congrArg It.kind hyf
          have e2 : y.text = t := congrArg It.text hyf
          rw [Fo.htxt, ltxt, if_pos (by omega), e2]
        | list c r =>
          have e1 : y.kind = 5 := congrArg It.kind hyf
          omega
      rw [hx] at hlen ⊢
      simp only [List.length_cons, List.length_append, List.length_nil] at hlen
      obtain ⟨m0, hm0⟩ := hm0
      refine ⟨_, blk_cell (j := 1) hb, Called.of (k53 y.text (by omega) ⟨m0, (Ext.trans he0 heW).cell hm0⟩) ?_⟩
      rintro v w8 ⟨⟨t, rfl, ht⟩, he8⟩
      have htz : t.size = (esc (bs y.text)).length := by rw [size_bs, ht]
      have hz : ({ data := #[34] } ++ t : ByteArray).size = t.size + 1 := by rw [app_size]; show 1 + t.size = _; omega
      have hz2 : ({ data := #[34] } ++ t ++ { data := #[34] } : ByteArray).size = t.size + 2 := by rw [app_size, hz]; rfl
      have hbytes : bs ({ data := #[34] } ++ t ++ { data := #[34] } : ByteArray) = 34 :: (esc (bs y.text) ++ [34]) := by rw [bs_append, bs_append, ht]; rfl
      refine ⟨t, rfl, by omega, by omega, Called.of (k52 _ (hbW.ext he8) (by omega)) ?_⟩
      rintro v w9 ⟨rfl, hb9, hk9⟩
      rw [hbytes] at hb9
      exact ⟨_, _, rfl, rfl, hb9, (hkW.ext he8 (Nat.le_trans hB heW.size)).trans hk9⟩
    · -- a word
      have h4' : y.kind ≠ 4 := by simpa using h4
      have h5' : y.kind ≠ 5 := by simpa using h5
      have hx : f.htxt = bs y.text := by
        cases f with
        | nil => simp [Fo.cnt] at h0
        | leaf k t r =>
          have e1 : y.kind = k := congrArg It.kind hyf
          have e2 : y.text = t := congrArg It.text hyf
          rw [Fo.htxt, ltxt, if_neg (by omega), e2]
        | list c r =>
          have e1 : y.kind = 5 := congrArg It.kind hyf
          omega
      rw [hx] at hlen ⊢
      rw [← size_bs] at hlen
      refine ⟨_, blk_cell (j := 1) hb, Called.of (k52 y.text hbW (by omega)) ?_⟩
      rintro v w10 ⟨rfl, hb10, hk10⟩
      exact ⟨_, _, rfl, rfl, hb10, hkW.trans hk10⟩

theorem k22 (T : TrimOk) {A : Option Addr} {C : Nat} {L : List It} (hL : L.length ≤ 1000) {f : Fo} (hf : L.map strip = f.flat) (hg : f.goodV) (hd : f.edep ≤ 257) (w : World) (hs : SlAt w A (itcs L)) (hm : ∃ m, w.cell? ⟨0, 0, none⟩ = some (.int .i64 m)) :
    Ret Tryd.prog 22 #[.slice A L.length C] w fun v w' => (∃ s, v = .string s ∧ bs s = f.lines) ∧ Ext w w' := by
  have hfl := lines_len hg
  have hlen : L.length = f.flat.length := by rw [← hf, List.length_map]
  have hea := (Ext.refl w).alloc (.cells #[.pointer none, .slice none 0 0] 62)
  have hbf : BF w.heap.size w.heap.size [] (w.alloc (.cells #[.pointer none, .slice none 0 0] 62)) :=
    .inl ⟨Nat.le_refl _, .slice none 0 0, heap_alloc_new w _, ⟨rfl, .inl ⟨rfl, rfl⟩⟩, by simp [Value.ownBlock]⟩
  refine run22 _ _ _ _ _ (Called.of (c20 T (Nat.lt_of_le_of_lt hL (by decide)) hf hg hd _ (hs.ext hea)) ?_)
  rintro v w1 ⟨⟨p, k, rfl, ho⟩, he1⟩
  rw [size_alloc] at ho
  have hsl := starts_len f 0
  have hfc := f.cnt_le
  refine ⟨_, _, _, rfl, fun vals w2 => ∃ (j : Nat) (g : Fo) (q : Nat) (l2 : List UInt8), vals = [.int .i64 j] ∧ j + g.cnt = f.cnt ∧ (starts 0 f).drop j = starts q g ∧ Here L q g ∧ g.goodV ∧ BF w.heap.size w.heap.size l2 w2 ∧ l2 ++ g.lines = f.lines ∧
      Kept w.heap.size w.heap.size w1 w2, mu1 f.cnt,
    ⟨0, f, 0, [], rfl, Nat.zero_add _, rfl, ⟨[], by rw [List.drop_zero, hf, List.append_nil]⟩, hg, hbf.ext he1, rfl, Kept.refl _ _ _⟩, ?_⟩
  rintro n w2 ⟨j, g, q, l2, hv, hjc, hst, hgh, hgg, hb2, hl2, hk2⟩
  cases hv
  have hl2l := congrArg List.length hl2
  rw [List.length_append] at hl2l
  have hew1 : Ext w w1 := hea.trans he1
  have he2 : Ext w w2 := Below.trans hew1 hk2.below
  rw [hsl]
  refine cond_dec (fun hlt2 => ?_) (fun hge => ?_)
  · have hg0 : 0 < g.cnt := by omega
    have hgc := Fo.cnt_next hg0
    have hq : (starts 0 f)[j]? = some q := by
      have h1 : ((starts 0 f).drop j)[0]? = some q := by rw [hst, starts_step hg0]; rfl
      simpa using h1
    have hst2 : (starts 0 f).drop (j + 1) = starts (q + g.hlen) g.next := by
      rw [← List.drop_drop, hst, starts_step hg0]; rfl
    have ho2 := hk2.row ho (by decide) (fun e => by have := (own_lt ho _ e).1; omega)
    obtain ⟨ad2, hA2, hc2⟩ := nats_at ho2 hq
    have hls := Fo.lines_step hg0
    rw [hls] at hl2 hl2l
    simp only [List.length_append, List.length_cons] at hl2l
    refine ⟨ad2, hA2, ⟨by omega, by omega⟩, _, by rw [Int.toNat_natCast]; exact hc2, Called.of (k36 (Nat.lt_of_le_of_lt hL (by decide)) hs hm _ g (Nat.le_refl _) hgg hg0 q hgh _ l2 w2 he2 hb2 (by omega)) ?_⟩
    rintro v w3 ⟨rfl, hb3, hk3⟩
    refine ⟨rfl, Called.of (k37 10 hb3 (by rw [List.length_append]; omega)) ?_⟩
    rintro v w4 ⟨hb4, hk4⟩
    rw [wrap_succ (by omega)]
    refine ⟨v, rfl, ⟨j + 1, g.next, q + g.hlen, _, rfl, by omega, hst2, hgh.next hg0, Fo.good_next hgg, hb4, ?_, (hk2.trans hk3).trans hk4⟩, ?_⟩
    · rw [← hl2]; simp
    · simp only [mu1, Int.toNat_natCast]; omega
  · have hg0 : g = .nil := cnt_zero (by omega)
    subst hg0
    refine Called.of (k38 hb2) ?_
    rintro v w5 ⟨rfl, hk5⟩
    refine ⟨_, rfl, ⟨_, rfl, ?_⟩, Below.trans he2 hk5.below⟩
    rw [bs_mk, ← hl2]; simp [Fo.lines]

theorem c9 (T : TrimOk) {lA : Option Addr} {lN lC : Nat} {l : List Int} {w : World} (hl : l.length = lN) (hc : lN ≤ lC) (h : SlAt w lA (l.map fun n => .int .i64 n)) (hm : ∃ m, w.cell? ⟨0, 0, none⟩ = some (.int .i64 m)) :
    Ret Tryd.prog 9 #[.slice lA lN lC] w fun v w' => v = .bool true ∧ Ext w w' := by
  refine run9 _ _ _ _ _ (Called.of (c14 hl hc h) ?_)
  rintro v w1 ⟨⟨f, A, C, hg, hd, hfl, rfl, ho⟩, he1⟩
  have hed : f.edep ≤ 257 := Nat.le_trans (edep_le f) (by omega)
  obtain ⟨m, hm⟩ := hm
  refine ⟨_, _, _, rfl, Called.of (k22 T (L := f.flat) (by omega) (strip_flat f) (good_V hg) hed w1 (own_row ho) ⟨m, he1.cell hm⟩) ?_⟩
  rintro v w2 ⟨⟨s, rfl, hs⟩, he2⟩
  have hll := lines_len20 hg
  have hsz : s.size ≤ 15972 := by rw [size_bs, hs]; omega
  obtain ⟨out, hp, hout⟩ := parse_lines (good_V hg) hed hs (by omega)
  have hol : out.length = f.flat.length := by rw [← hout, List.length_map]
  refine ⟨s, rfl, Called.of (c16 T s w2) ?_⟩
  rintro v w3 ⟨hr, he3⟩
  rw [ParseRes, hp] at hr
  obtain ⟨A2, C2, rfl, ho2⟩ := hr
  refine ⟨_, _, _, _, _, rfl, fun K hK => cond_intro (fun _ => ?_) (fun h => absurd h (by decide))⟩
  refine Called.of (c17 (la := f.flat) (lb := out) false (own_row (own_ext ho (he2.trans he3))) (own_row ho2) (by omega)) ?_
  rintro v w5 ⟨rfl, he5⟩
  have hsame : sameItems false f.flat out = true := by rw [sameItems, seen_strip, decide_eq_true_eq, strip_flat, hout]
  refine ⟨_, rfl, ?_⟩
  rw [hsame, cond_true]
  refine Called.of (k22 T (L := out) (by omega) hout (good_V hg) hed w5 ((own_row ho2).ext he5) ⟨m, (((he1.trans he2).trans he3).trans he5).cell hm⟩) ?_
  rintro v w6 ⟨⟨s1, rfl, hs1⟩, he6⟩
  refine ⟨s1, rfl, ?_⟩
  rw [beq_bytes, hs1, hs, decide_eq_true rfl, cond_true]
  refine Called.of (c11 T w6) ?_
  rintro v w7 ⟨rfl, he7⟩
  exact ⟨_, rfl, hK _ _ ⟨rfl, ((((he1.trans he2).trans he3).trans he5).trans he6).trans he7⟩⟩
end Go.Proofs.Sx
