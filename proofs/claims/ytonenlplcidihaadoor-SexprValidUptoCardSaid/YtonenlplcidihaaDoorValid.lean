/- The law SexprValid holds for every input of bulk at most 1048576 (the second form): Valid, Format, Roots and Children agree with the reference on every list of at most 30 items, on every drawn list, and on a drawn list of which one item is replaced. No condition but the given card's own. -/
import Derived.Test.YtonenlplcidihaaDoorSxMQ
import Derived.Test.YtonenlplcidihaaDoorSxT
import Derived.Test.YtonenlplcidihaaDoorRows
import Derived.Test.YtonenlplcidihaaDoorTie
import Derived.Test.YtonenlplcidihaaDoorCards
import Derived.ProofKit
import Derived.OpenShut
import Derived.ShutString
import Derived.Below
import Derived.Lay
import Derived.LaidOnce
import Derived.SevenTiedAt
import Derived.ChangeSlices
import Derived.ChangeOld
import Derived.Carry
import Derived.DataReads
import Derived.Deep.DeepHandedRow
namespace Go.Proofs.YtonenlplcidihaaDoor
open Go.ChangeShapes Go.WideShapes Go.ChangeAt Go.RowKit Go.V
open Go.ChangeMaps (open_string shut_string)
set_option linter.unusedVariables false
set_option maxRecDepth 100000
theorem ownK : ownKnob Tryd.prog.godebug = none := by kernel_rfl
theorem laidOutK : laidOutB Tryd.prog = true := by kernel_rfl
theorem spot_none {w : World} {x : Addr} {v : Value} (h : w.cell? x = some v) : x.spot = none := by
  unfold World.cell? at h
  cases hb : w.heap[x.block]? with
  | none => rw [hb] at h; cases h
  | some o =>
    rw [hb] at h
    cases o with
    | cells c e f =>
      cases hsp : x.spot with
      | none => rfl
      | some y => simp [hsp] at h
    | _ => cases h
theorem add_zero (x : Addr) : x.add 0 = x := by unfold Addr.add; simp
theorem sl_ints {w : World} {x : Addr} {len cap : Nat} {zs : List Int} (hz : zs.length = cap) (hl : len ≤ cap) (hc : ∀ i, i < zs.length → w.cell? (x.add i) = some (.int .i64 (zs.getD i 0))) :
    SlAt w (some x) ((zs.take len).map fun n => .int .i64 n) := by
  cases hzs : zs with
  | nil => left; simp
  | cons z zt =>
    right
    have h0 := hc 0 (by rw [hzs]; simp)
    rw [add_zero] at h0
    refine ⟨x, rfl, spot_none h0, fun j v hj => ?_⟩
    rw [← hzs, List.getElem?_map, List.getElem?_take] at hj
    split at hj
    · rename_i hjl
      have hjz : j < zs.length := by omega
      rw [List.getElem?_eq_getElem hjz] at hj
      have := hc j hjz
      rw [List.getD_eq_getElem?_getD, List.getElem?_eq_getElem hjz] at this
      cases hj
      exact this
    · cases hj
/-- Where a cell of a list of items comes from. -/
theorem itcs_inv : ∀ (l : List Sx.It) {j : Nat} {v : Value}, (Sx.itcs l)[j]? = some v → ∃ y, l[j / 4]? = some y ∧ (Sx.itc y)[j % 4]? = some v
  | [], j, v, h => by simp [Sx.itcs] at h
  | y :: l, j, v, h => by
    have e : Sx.itcs (y :: l) = Sx.itc y ++ Sx.itcs l := by simp [Sx.itcs]
    rw [e] at h
    have h4 : (Sx.itc y).length = 4 := rfl
    by_cases hj : j < 4
    · rw [List.getElem?_append_left (by rw [h4]; exact hj)] at h
      exact ⟨y, by rw [Nat.div_eq_of_lt hj]; rfl, by rw [Nat.mod_eq_of_lt hj]; exact h⟩
    · rw [List.getElem?_append_right (by rw [h4]; omega), h4] at h
      obtain ⟨z, hz, hv⟩ := itcs_inv l h
      have e1 : j / 4 = (j - 4) / 4 + 1 := by omega
      have e2 : j % 4 = (j - 4) % 4 := by omega
      exact ⟨z, by rw [e1, List.getElem?_cons_succ]; exact hz, by rw [e2]; exact hv⟩
theorem list_of {α : Type} {P : Nat → α → Prop} : ∀ (n : Nat), (∀ i, i < n → ∃ y, P i y) → ∃ l : List α, l.length = n ∧ ∀ i y, l[i]? = some y → P i y
  | 0, _ => ⟨[], rfl, fun i y h => by simp at h⟩
  | n + 1, h => by
    obtain ⟨l, hl, hp⟩ := list_of n fun i hi => h i (by omega)
    obtain ⟨y, hy⟩ := h n (by omega)
    refine ⟨l ++ [y], by simp [hl], fun i z hz => ?_⟩
    by_cases hi : i < n
    · rw [List.getElem?_append_left (by omega)] at hz
      exact hp i z hz
    · rw [List.getElem?_append_right (by omega)] at hz
      have hi2 : i = n := by
        rcases Nat.lt_or_ge (i - l.length) 1 with h1 | h1
        · omega
        · rw [List.getElem?_eq_none (by simpa using h1)] at hz; cases hz
      subst hi2
      rw [hl, Nat.sub_self] at hz
      cases hz
      exact hy
theorem bulk_part {H : Type} {d : DataW H} {l : List (DataW H)} (h : d ∈ l) : Rows.uptoBulk d ≤ Rows.uptoBulkAll l := by
  induction l with
  | nil => cases h
  | cons x r ih =>
    simp only [Rows.uptoBulkAll]
    rcases List.mem_cons.1 h with e | e
    · subst e; omega
    · have := ih e; omega
theorem open_item {H : Type} {enc : TypeId × Value → H} {W : World} {fuel : Nat} {cs : List Value} {x : DataW H × List MemPlace} (h : DataW.trod enc Tryd.prog W 0 (fun _ => true) true fuel 34 cs = some x) (hb : Rows.uptoBulk x.1 ≤ 1048576) :
    ∃ y : Sx.It, cs = [.int .i64 y.kind, .string y.text, .int .i64 y.kids, .int .i64 y.pos] ∧ y.text.size ≤ 1048576 ∧ y.kids ≤ 9223372036854775807 := by
  obtain ⟨xs, n, _, rfl, hl, hlen, hf⟩ := DataW.trod_struct Tryd.underlying34 h
  have hc : Tryd.prog.cellsOf 34 = 4 := by kernel_rfl
  have h3 : Tryd.prog.cellsOf 3 = 1 := by kernel_rfl
  have h9 : Tryd.prog.cellsOf 9 = 1 := by kernel_rfl
  rw [hc] at hl
  match cs, hl with
  | [c0, c1, c2, c3], _ =>
    match xs, hlen with
    | [x0, x1, x2, x3], _ =>
      have f0 : DataW.trod enc Tryd.prog W 0 (fun _ => true) true n 3 (([c0, c1, c2, c3].drop 0).take (Tryd.prog.cellsOf 3)) = some x0 := hf 0 _ rfl
      have f1 : DataW.trod enc Tryd.prog W 0 (fun _ => true) true n 9 (([c0, c1, c2, c3].drop 1).take (Tryd.prog.cellsOf 9)) = some x1 := hf 1 _ rfl
      have f2 : DataW.trod enc Tryd.prog W 0 (fun _ => true) true n 3 (([c0, c1, c2, c3].drop 2).take (Tryd.prog.cellsOf 3)) = some x2 := hf 2 _ rfl
      have f3 : DataW.trod enc Tryd.prog W 0 (fun _ => true) true n 3 (([c0, c1, c2, c3].drop 3).take (Tryd.prog.cellsOf 3)) = some x3 := hf 3 _ rfl
      rw [h3] at f0 f2 f3
      rw [h9] at f1
      obtain ⟨n0, e0, rfl, w0⟩ := DataW.trod_int Tryd.underlying3 f0
      obtain ⟨s1, e1, rfl, w1⟩ := DataW.trod_string Tryd.underlying9 f1
      obtain ⟨n2, e2, rfl, w2⟩ := DataW.trod_int Tryd.underlying3 f2
      obtain ⟨n3, e3, rfl, w3⟩ := DataW.trod_int Tryd.underlying3 f3
      have e0' : c0 = .int .i64 n0 := (List.cons.inj e0).1
      have e1' : c1 = .string s1 := (List.cons.inj e1).1
      have e2' : c2 = .int .i64 n2 := (List.cons.inj e2).1
      have e3' : c3 = .int .i64 n3 := (List.cons.inj e3).1
      subst e0' e1' e2' e3'
      refine ⟨⟨n0, s1, n2, n3⟩, rfl, ?_, ?_⟩
      · simp only [List.map_cons, List.map_nil, Rows.uptoBulk, Rows.uptoBulkAll, Array.length_toList] at hb
        have : s1.size = s1.data.size := rfl
        show s1.size ≤ _
        omega
      · have h2 : -9223372036854775808 ≤ n2 ∧ n2 ≤ 9223372036854775807 := by simpa [Lit.wf, IntKind.min, IntKind.max, IntKind.signed, IntKind.bits] using w2
        exact h2.2
theorem open_items {H : Type} {enc : TypeId × Value → H} {W : World} {fuel : Nat} {A : Option Addr} {len cap : Nat} {x : DataW H × List MemPlace} (h : DataW.trod enc Tryd.prog W 0 (fun _ => true) true fuel 26 [.slice A len cap] = some x) (hb : Rows.uptoBulk x.1 ≤ 1048576) :
    ∃ L : List Sx.It, L.length = len ∧ len ≤ 9223372036854775807 ∧ SlAt W A (Sx.itcs L) ∧ ∀ y ∈ L, y.text.size ≤ 1048576 ∧ y.kids ≤ 9223372036854775807 := by
  rcases DataW.trod_slice Tryd.underlying26 h with ⟨e, _⟩ | ⟨a, len', cap', elems, rest, n, _, e, rfl, _, hl, hm, hlen, hel, _, _⟩
  · cases e
    exact ⟨[], rfl, Nat.zero_le _, .inl rfl, fun y hy => by cases hy⟩
  · cases e
    have hc : Tryd.prog.cellsOf 34 = 4 := by kernel_rfl
    have each : ∀ i, i < len → ∃ y : Sx.It, (∀ k v, (Sx.itc y)[k]? = some v → W.cell? ((a.add (i * 4)).add k) = some v) ∧ y.text.size ≤ 1048576 ∧ y.kids ≤ 9223372036854775807 := by
      intro i hi
      have h1 := hel i hi
      rw [hc, List.getElem?_eq_getElem (by omega)] at h1
      obtain ⟨cs, h2, h3⟩ := Option.bind_eq_some_iff.1 h1
      have hmem : (elems[i]'(by omega)).1 ∈ elems.map (·.1) := List.mem_map_of_mem (List.getElem_mem _)
      have hp := bulk_part hmem
      simp only [Rows.uptoBulk] at hb
      obtain ⟨y, rfl, hy1, hy2⟩ := open_item h3 (by omega)
      obtain ⟨_, _, h4⟩ := World.cells?_some h2
      refine ⟨y, fun k v hk => ?_, hy1, hy2⟩
      have hk4 : k < 4 := by
        have := (List.getElem?_eq_some_iff.1 hk).1
        exact this
      rw [h4 k hk4]
      exact hk
    obtain ⟨L, hLl, hP⟩ := list_of len each
    refine ⟨L, hLl, by unfold maxLen at hm; omega, ?_, fun y hy => ?_⟩
    · cases hLe : L with
      | nil => exact .inl rfl
      | cons y0 L' =>
        right
        have h00 := (hP 0 y0 (by rw [hLe]; rfl)).1 0 _ rfl
        rw [Nat.zero_mul, add_zero, add_zero] at h00
        have hs := spot_none h00
        refine ⟨a, rfl, hs, fun j v hj => ?_⟩
        rw [← hLe] at hj
        obtain ⟨y, hy, hv⟩ := itcs_inv L hj
        have := (hP (j / 4) y hy).1 (j % 4) v hv
        rw [add_add _ hs] at this
        have e : j / 4 * 4 + j % 4 = j := by omega
        rw [e] at this
        exact this
    · obtain ⟨i, hi⟩ := List.getElem?_of_mem hy
      exact (hP i y hi).2
theorem sexprValidWalk (a0 : Option Addr) (cap0 : Nat) (L : List Sx.It) (hL : L.length ≤ 9223372036854775807) (hI : ∀ y ∈ L, y.text.size ≤ 1048576 ∧ y.kids ≤ 9223372036854775807) (a1 : Option Addr) (len1 cap1 : Nat) (z1 : List Int) (l1 : z1.length = len1) (c1 : len1 ≤ cap1)
    (x : Sx.It) (hx : x.text.size ≤ 1048576 ∧ x.kids ≤ 9223372036854775807) (n3 n4 : Int) (w : World) (q0 : SlAt w a0 (Sx.itcs L)) (q1 : SlAt w a1 (z1.map fun n => .int .i64 n)) (hm : ∃ m, w.cell? ⟨0, 0, none⟩ = some (.int .i64 m)) :
    Calls Tryd.prog 10 #[.slice a0 L.length cap0, .slice a1 len1 cap1, .agg #[.int .i64 x.kind, .string x.text, .int .i64 x.kids, .int .i64 x.pos], .int .i64 n3, .int .i64 n4] w fun e w' => e = .returned (.bool true) ∧ Below w.heap.size w w' :=
  Calls.mono (Sx.run_of_ret (Sx.c10 Sx.trimOk q0 (fun h => ⟨by omega, hI⟩) hL l1 c1 q1 x hx n3 n4 hm)) fun _ _ ⟨_, he, hv, hb⟩ => ⟨by rw [he, hv], hb⟩
theorem contract (H : Type) (enc : TypeId × Value → H) (W : World) (base : Nat) (args : Array Value) (ds gs : List (DataW H)) (before : List MemPlace)
    (hval0 : ∀ (j : Nat) t v, Tryd.f10.params[j]? = some t → args[j]? = some v → Value.okWide Tryd.checked.prog W .any base t v)
    (hW : DataW.Whole enc Tryd.checked.prog Tryd.f10.params.toList Rows.sexprValidSpec.vars false W args.toList ds gs before) (hcond : Rows.uptoSmall H (ds ++ gs) = true) (hsh : W.ShapedOpen Tryd.checked.prog) :
    Calls Tryd.checked.prog 10 args W fun e W' => ∃ v, e = .returned v ∧ Rows.sexprValidSpec.post enc Tryd.checked.prog Tryd.f10 false true false false W args v W' := by
  have hval : ∀ (j : Nat) t v, Tryd.f10.params[j]? = some t → args[j]? = some v → Value.okWide Tryd.prog W .any base t v := hval0
  have hW' := hW
  obtain ⟨p, q, hA0, hV, rfl, _, _⟩ := hW
  have hA : DataW.TrodAll enc Tryd.prog W 0 (fun _ => true) true Tryd.f10.params.toList args.toList ds p := hA0
  rw [Tryd.params10] at hA hval
  obtain ⟨v0, vs0, d0, ds0, p0, q0, hargs, rfl, rfl, h0, r0⟩ := trodAll_cons hA
  obtain ⟨v1, vs1, d1, ds1, p1, q1, rfl, rfl, rfl, h1, r1⟩ := trodAll_cons r0
  obtain ⟨v2, vs2, d2, ds2, p2, q2, rfl, rfl, rfl, h2, r2⟩ := trodAll_cons r1
  obtain ⟨v3, vs3, d3, ds3, p3, q3, rfl, rfl, rfl, h3, r3⟩ := trodAll_cons r2
  obtain ⟨v4, vs4, d4, ds4, p4, q4, rfl, rfl, rfl, h4, r4⟩ := trodAll_cons r3
  obtain ⟨rfl, rfl, rfl⟩ := trodAll_nil r4
  obtain rfl : args = #[v0, v1, v2, v3, v4] := by cases args; simp_all
  obtain ⟨rfl, rfl⟩ := trodVars_none hV
  have hbulk : Rows.uptoBulk d0 ≤ 1048576 ∧ Rows.uptoBulk d2 ≤ 1048576 := by
    have hk := of_decide_eq_true hcond
    simp only [List.cons_append, List.nil_append, Rows.uptoBulkAll] at hk
    omega
  obtain ⟨a0, len0, cap0, rfl⟩ := okWide_slice Tryd.underlying26 (hval 0 26 v0 rfl rfl)
  have k0 := h0
  have lt0 : ∀ x ∈ p0, x.block < W.heap.size := by obtain ⟨m, hm⟩ := k0; exact DataW.trod_lt m _ _ _ hm
  obtain ⟨L, rfl, hLl, hLs, hLi⟩ : ∃ L : List Sx.It, L.length = len0 ∧ len0 ≤ 9223372036854775807 ∧ SlAt W a0 (Sx.itcs L) ∧ ∀ y ∈ L, y.text.size ≤ 1048576 ∧ y.kids ≤ 9223372036854775807 := by
    obtain ⟨fuel, hf⟩ := h0
    exact open_items (x := (d0, p0)) hf hbulk.1
  obtain ⟨a1, len1, cap1, rfl⟩ := okWide_slice Tryd.underlying24 (hval 1 24 v1 rfl rfl)
  have k1 := h1
  have lt1 : ∀ x ∈ p1, x.block < W.heap.size := by obtain ⟨m, hm⟩ := k1; exact DataW.trod_lt m _ _ _ hm
  obtain ⟨z1, l1, c1, s1⟩ : ∃ z : List Int, z.length = len1 ∧ len1 ≤ cap1 ∧ SlAt W a1 (z.map fun n => .int .i64 n) := by
    obtain ⟨fuel, hf⟩ := h1
    rcases open_ints Tryd.underlying24 Tryd.underlying3 (by kernel_rfl) hf with ⟨hcs, _⟩ | ⟨x, l, c, zs, hcs, _, hl, hm, hz, _, hcell, hwz⟩
    · simp [Value.cells] at hcs
      obtain ⟨rfl, rfl, rfl⟩ := hcs
      exact ⟨[], rfl, Nat.le_refl _, .inl rfl⟩
    · simp [Value.cells] at hcs
      obtain ⟨rfl, rfl, rfl⟩ := hcs
      have hz2 : zs.length = cap1 := by simpa using hz
      exact ⟨zs.take len1, by rw [List.length_take]; omega, hl, sl_ints hz2 hl hcell⟩
  obtain ⟨cs2, rfl, _⟩ := okWide_struct Tryd.underlying34 (hval 2 34 v2 rfl rfl)
  have k2 := h2
  have lt2 : ∀ x ∈ p2, x.block < W.heap.size := by obtain ⟨m, hm⟩ := k2; exact DataW.trod_lt m _ _ _ hm
  obtain ⟨x, hx, hxi⟩ : ∃ x : Sx.It, cs2 = #[.int .i64 x.kind, .string x.text, .int .i64 x.kids, .int .i64 x.pos] ∧ x.text.size ≤ 1048576 ∧ x.kids ≤ 9223372036854775807 := by
    obtain ⟨fuel, hf⟩ := h2
    obtain ⟨y, hy, hyi⟩ := open_item (x := (d2, p2)) hf hbulk.2
    exact ⟨y, by cases cs2; simpa [Value.cells] using hy, hyi⟩
  subst hx
  obtain ⟨n3, rfl, rfl, rfl, w3⟩ := open_int Tryd.underlying3 (hval 3 3 v3 rfl rfl) h3
  obtain ⟨n4, rfl, rfl, rfl, w4⟩ := open_int Tryd.underlying3 (hval 4 3 v4 rfl rfl) h4
  refine (sexprValidWalk a0 cap0 L hLl hLi a1 len1 cap1 z1 l1 c1 x hxi n3 n4 W hLs s1 (cell_of_shapedOpen_int (zero := #[.int .i64 0]) (t := 3) hsh (of_decide_eq_true (by kernel_rfl)) (by kernel_rfl) rfl (by kernel_rfl) (by kernel_rfl) Tryd.underlying3)).mono fun e W' ⟨he, hb⟩ => ?_
  subst he
  exact ⟨_, rfl, _, _, _, [], _, [], hW', trodAll_mk1 (shut_bool Tryd.underlying4 _),
    trodAll_cons_mk (Below.trod laidOutK (by kernel_rfl) (of_decide_eq_true (by kernel_rfl)) k0 hb lt0) (trodAll_cons_mk (Below.trod laidOutK (by kernel_rfl) (of_decide_eq_true (by kernel_rfl)) k1 hb lt1)
      (trodAll_cons_mk (Below.trod laidOutK (by kernel_rfl) (of_decide_eq_true (by kernel_rfl)) k2 hb lt2) (trodAll_cons_mk (shut_int Tryd.underlying3 w3) (trodAll_cons_mk (shut_int Tryd.underlying3 w4) trodAll_mk0)))), rfl, hb.frame _, fun h => by cases h⟩
theorem reads (os : Os) {H : Type} (enc : TypeId × Value → H) : ∃ places, DataW.whole enc Tryd.prog ((World.laidAll Tryd.prog os Rows.sexprValidUptoRow.laid).forCall (fun _ _ => 0) ⟨#[], #[.slice none 0 0, .slice none 0 0, .agg #[.int .i64 0, .string ByteArray.empty, .int .i64 0, .int .i64 0], .int .i64 0, .int .i64 0], []⟩).memory Tryd.f10.params.toList Rows.sexprValidSpec.vars false
    #[Value.slice none 0 0, .slice none 0 0, .agg #[.int .i64 0, .string ByteArray.empty, .int .i64 0, .int .i64 0], .int .i64 0, .int .i64 0].toList 8 =
      some ([.nil, .nil, .agg [.lit (.int .i64 0), .lit (.string []), .lit (.int .i64 0), .lit (.int .i64 0)], .lit (.int .i64 0), .lit (.int .i64 0)], [], places) := ⟨[], by kernel_rfl⟩
set_option maxRecDepth 100000 in
theorem liftedUpto (os : Os) (started : os.Started) (H : Type) (enc : TypeId × Value → H) (F : Stop.Interp) :
    ReturnsInHanded {} Tryd.checked os 10 .any ((Rows.OpenSpec.upto Rows.sexprValidSpec).preRow enc Tryd.prog Tryd.f10 Rows.sexprValidUptoRow.domain false Rows.sexprValidUptoRow.laid) (((Rows.OpenSpec.upto Rows.sexprValidSpec).at F).post enc Tryd.prog Tryd.f10 false true false false) := by
  obtain ⟨places, hx⟩ := reads os enc
  have hok : Input.okWideB Tryd.checked.prog ((World.laidAll Tryd.prog os Rows.sexprValidUptoRow.laid).forCall (fun _ _ => 0) ⟨#[], #[.slice none 0 0, .slice none 0 0, .agg #[.int .i64 0, .string ByteArray.empty, .int .i64 0, .int .i64 0], .int .i64 0, .int .i64 0], []⟩) 10
      ⟨#[], #[.slice none 0 0, .slice none 0 0, .agg #[.int .i64 0, .string ByteArray.empty, .int .i64 0, .int .i64 0], .int .i64 0, .int .i64 0], []⟩ = true := by kernel_rfl
  refine returnsInHanded_of_row (C := Tryd.checked) (s := Rows.OpenSpec.upto Rows.sexprValidSpec) ownK started (by kernel_rfl) Tryd.func10
    ⟨World.laidAll Tryd.prog os Rows.sexprValidUptoRow.laid, fun _ _ => 0, ⟨#[], #[.slice none 0 0, .slice none 0 0, .agg #[.int .i64 0, .string ByteArray.empty, .int .i64 0, .int .i64 0], .int .i64 0, .int .i64 0], []⟩, World.laidAll_os _ _ _,
      World.shaped_of_ZipB (by kernel_rfl) (by kernel_rfl), (Input.okWide_of_okWideB (base := 0) hok).1, (Input.okWide_of_okWideB hok).2,
      OpenSpec.preRow_of_cond 8 hx (by kernel_rfl) (fun k hk => by cases hk; kernel_rfl) (by kernel_rfl) (by rw [MakeChecks.laidMetH_plain _ _ _ (by kernel_rfl)]; exact laidMet_laidAll _ (by kernel_rfl) (by kernel_rfl)),
      by
        simp only [Assume.holds]
        exact ⟨by simp, by simp, fun _ => Modest.zero, by simp, by simp⟩⟩ ?_
  intro W base args ds gs before hval hW _ hcond _ _ hsh _
  exact contract H enc W base args ds gs before hval hW (hcond _ rfl) hsh
theorem saidUpto : Rows.SexprValidUptoSaid :=
  OpenClaim.holds_of_cond 10 Tryd.f10 rfl rfl rfl rfl rfl rfl rfl ⟨rfl, rfl, rfl, rfl, rfl⟩ rfl rfl rfl rfl rfl (by kernel_rfl) Tryd.func10 (by kernel_rfl)
    (of_decide_eq_true (by kernel_rfl)) (by unfold Func.isWrapper; first | (rw [if_pos (by decide +kernel)]; kernel_rfl) | (rw [if_neg (by decide +kernel)]; exact ⟨rfl, rfl⟩))
    (fun os started H enc _ F => by rw [OpenClaim.pre_eq_preRow]; exact liftedUpto os started H enc F)
/-- The second form's card of SexprValid. -/
theorem sexprValidUpto_card : Rows.SexprValidUptoCardSaid :=
  Claim7.holds_tied_plain_at .later [] _ _ _ _ saidUpto (fun _ h => by cases h) (by kernel_rfl) (fun _ h => by cases h) sexprValidUpto_row_tie rfl ⟨rfl, rfl⟩ (by kernel_rfl) rfl
    (fun f fn hf hfn => by
      obtain rfl : f = 10 := Option.some.inj ((show Tryd.prog.funcNamed "chcsolver/chcsolverlaw02.SexprValid" = some 10 by kernel_rfl).symm.trans hf) |>.symm
      obtain rfl : fn = Tryd.f10 := (Option.some.inj (Tryd.func10.symm.trans hfn)).symm
      exact ⟨by kernel_rfl, fun j t ht => by
        rw [Tryd.params10] at ht
        have hm : t ∈ [26, 24, 34, 3, 3] := by simpa using Array.mem_of_getElem? ht
        have hall : ([26, 24, 34, 3, 3].all fun u => !Tryd.prog.wantsStandIn u) = true := by kernel_rfl
        exact (show Tryd.prog.wantsStandIn t = false by simpa using List.all_eq_true.1 hall t hm)⟩)
    (by kernel_rfl)
#print axioms sexprValidUpto_card
end Go.Proofs.YtonenlplcidihaaDoor
