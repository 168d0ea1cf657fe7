/- Part of the proof: SxH4. -/
import Derived.Test.YtonenlplcidihaaDoorSxH3
/-! A text is spoiled; SexprSpoiled. -/
namespace Go.Proofs.Sx
open Go Go.V Go.Proofs Go.RowKit
set_option maxRecDepth 100000

theorem ext_size (s : ByteArray) (i j : Nat) : (s.extract i j).size ≤ s.size := by
  rw [size_bs, extract_bs, List.length_take, rest_len]; omega
theorem app_size (s t : ByteArray) : (s ++ t).size = s.size + t.size := by rw [size_bs, bs_append, List.length_append, ← size_bs, ← size_bs]

theorem c15 (s : ByteArray) (hs : s.size < 4294967296) (at' how : Int) (b : UInt8) (w : World) :
    Ret Tryd.prog 15 #[.string s, .int .i64 at', .int .u8 b.toNat, .int .i64 how] w fun v w' => (∃ s' : ByteArray, v = .string s') ∧ Ext w w' := by
  have hb : ∀ w : World, BytesAt (w.alloc (.cells #[.int .u8 b.toNat] 5)) (some ⟨w.heap.size, 0, none⟩) 1 [b] := by
    intro w
    refine ⟨rfl, .inr ⟨_, rfl, rfl, ?_⟩⟩
    intro i hi
    have : i = 0 := by omega
    subst this
    exact alloc_new_cell w [.int .u8 b.toNat] 5 0
  have h1 : ({ data := [b].toArray } : ByteArray).size = 1 := rfl
  refine run15 _ _ _ _ _ _ ?_
  unfold vc15
  rw [wrap_succ (by omega)]
  refine Called.of (c18 at' _ (by omega) (by omega) w) ?_
  rintro v w1 ⟨⟨n, rfl, hn⟩, rfl⟩
  refine ⟨_, rfl, fun K hK => ?_⟩
  have fall : ∀ w2, Ext w1 w2 → K [] w2 := by
    intro w2 he
    refine hK _ fun K1 hK1 => ⟨⟨by omega, by omega⟩, ⟨by omega, by omega⟩, _, hb _, ?_, ?_, hK1 _ _ ⟨⟨_, rfl⟩, (he.drew).alloc _⟩⟩
    · have := ext_size s 0 (n : Int).toNat; rw [h1]; omega
    · have := ext_size s 0 (n : Int).toNat
      have := ext_size s (n : Int).toNat s.size
      rw [app_size, h1]; omega
  refine Called.of (c18 how 3 (by omega) (by omega) w1) ?_
  rintro v w4 ⟨⟨m, rfl, hm⟩, rfl⟩
  refine ⟨_, rfl, cond_intro (fun _ => cond_dec (fun hlt => ?_) (fun _ => fall _ (Ext.refl _))) (fun _ => cond_intro (fun _ => cond_dec (fun hlt => ?_) (fun _ => fall _ (Ext.refl _))) (fun _ => fall _ (Ext.refl _)))⟩
  · intro K2 hK2
    rw [wrap_succ (by omega)]
    refine ⟨⟨by omega, by omega⟩, ⟨by omega, by omega⟩, _, hb _, ?_, ?_, hK2 _ _ ⟨⟨_, rfl⟩, ((Ext.refl _).drew).alloc _⟩⟩
    · have := ext_size s 0 (n : Int).toNat; rw [h1]; omega
    · have := ext_size s 0 (n : Int).toNat
      have := ext_size s ((n + 1 : Nat) : Int).toNat s.size
      rw [app_size, h1]; omega
  · rw [wrap_succ (by omega)]
    refine ⟨⟨by omega, by omega⟩, ⟨by omega, by omega⟩, ?_, ⟨_, rfl⟩, (Ext.refl _).drew⟩
    have := ext_size s 0 (n : Int).toNat
    have := ext_size s ((n + 1 : Nat) : Int).toNat s.size
    omega

theorem strip_flat (f : Fo) : f.flat.map strip = f.flat := by
  induction f with
  | nil => rfl
  | leaf k t r ih => simp only [Fo.flat, List.map_cons, ih]; rfl
  | list c r ih1 ih2 => simp only [Fo.flat, List.map_cons, List.map_append, ih1, ih2]; rfl
/-- FormatItems of a sequence that was drawn. -/
theorem fmtSeq {w0 w : World} {f : Fo} {A : Option Addr} {C : Nat} (hg : f.good) (hd : f.dep ≤ 4) (hl : f.flat.length ≤ 363) {B : Nat} (ho : w.ownsRow B 34 4 (.slice A f.flat.length C) f.flat.length (itcs f.flat)) (he : Ext w0 w) :
    Ret Tryd.prog 13 #[.slice A f.flat.length C] w fun v w' => (∃ s, v = .string s ∧ bs s = f.lines ∧ s.size ≤ 15972) ∧ Ext w0 w' := by
  refine Ret.mono (c13 (L := f.flat) (by omega) (strip_flat f) hg (by omega) w (own_row ho)) ?_
  rintro v w' ⟨⟨s, rfl, hs⟩, he'⟩
  refine ⟨⟨s, rfl, hs, ?_⟩, he.trans he'⟩
  have := lines_len hg
  rw [size_bs, hs]; omega

theorem c4 (T : TrimOk) {lA : Option Addr} {lN lC : Nat} {l : List Int} {w : World} (hl : l.length = lN) (hc : lN ≤ lC) (h : SlAt w lA (l.map fun n => .int .i64 n)) (at' how : Int) (b : UInt8) :
    Ret Tryd.prog 4 #[.slice lA lN lC, .int .i64 at', .int .u8 b.toNat, .int .i64 how] w fun v w' => v = .bool true ∧ Ext w w' := by
  refine run4 _ _ _ _ _ _ _ _ (Called.of (c14 hl hc h) ?_)
  rintro v w1 ⟨⟨f, A, C, hg, hd, hfl, rfl, ho⟩, he1⟩
  refine ⟨_, _, _, rfl, Called.of (fmtSeq hg hd hfl ho he1) ?_⟩
  rintro v w2 ⟨⟨s, rfl, -, hsz⟩, he2⟩
  refine ⟨s, rfl, fun K hK => Called.of (c12 T s w2) ?_⟩
  rintro v w4 ⟨rfl, he4⟩
  refine ⟨_, rfl, Called.of (c15 s (by omega) at' how b w4) ?_⟩
  rintro v w5 ⟨⟨s1, rfl⟩, he5⟩
  refine ⟨_, rfl, Called.of (c12 T s1 w5) ?_⟩
  rintro v w6 ⟨rfl, he6⟩
  refine ⟨_, rfl, ?_⟩
  have hb := b.toNat_lt
  have e : (((b.toNat : Int)).tmod 9) = ((b.toNat % 9 : Nat) : Int) := by rw [Int.tmod_eq_emod_of_nonneg (by omega)]; omega
  have := Nat.mod_lt b.toNat (by omega : 9 > 0)
  show _ ∧ _
  rw [e]
  refine ⟨⟨by omega, by omega⟩, ?_⟩
  rw [bt_eq]
  refine Called.of (c15 s (by omega) at' how _ w6) ?_
  rintro v w7 ⟨⟨s2, rfl⟩, he7⟩
  refine ⟨_, rfl, Called.of (c12 T s2 w7) ?_⟩
  rintro v w8 ⟨rfl, he8⟩
  refine ⟨_, rfl, Called.of (c11 T w8) ?_⟩
  rintro v w9 ⟨rfl, he9⟩
  exact ⟨_, rfl, hK _ _ ⟨rfl, (((((he2.trans he4).trans he5).trans he6).trans he7).trans he8).trans he9⟩⟩
end Go.Proofs.Sx
