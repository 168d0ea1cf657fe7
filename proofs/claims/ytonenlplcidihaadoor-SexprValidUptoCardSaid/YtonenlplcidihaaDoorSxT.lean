/- Part of the proof: SxT. -/
import Derived.Test.YtonenlplcidihaaDoorSxV3
import Derived.Test.YtonenlplcidihaaDoorSxP2
/-! strings.Trim at the ten digits. -/
namespace Go.Proofs.Sx
open Go Go.V Go.Proofs Go.RowKit
set_option maxRecDepth 100000

def tenD : List UInt8 := [48, 49, 50, 51, 52, 53, 54, 55, 56, 57]
theorem tenD_digit (x : UInt8) : tenD.contains x = isDigit x := by
  rw [Bool.eq_iff_iff, List.contains_iff_mem]
  unfold isDigit
  simp only [Bool.and_eq_true, decide_eq_true_eq]
  constructor
  · intro h
    simp only [tenD, List.mem_cons, List.not_mem_nil, or_false] at h
    rcases h with h | h | h | h | h | h | h | h | h | h <;> subst h <;> decide
  · intro h
    have key : ∀ m : Nat, m < 256 → x.toNat = m → x = UInt8.ofNat m := fun m hm hx => by
      apply UInt8.toNat_inj.1
      rw [UInt8.toNat_ofNat']
      omega
    have hx : x.toNat = 48 ∨ x.toNat = 49 ∨ x.toNat = 50 ∨ x.toNat = 51 ∨ x.toNat = 52 ∨ x.toNat = 53 ∨ x.toNat = 54 ∨ x.toNat = 55 ∨ x.toNat = 56 ∨ x.toNat = 57 := by omega
    rcases hx with h | h | h | h | h | h | h | h | h | h <;> rw [key _ (by omega) h] <;> decide

def SetAt (w : World) (b : Nat) : Prop := ∀ x : UInt8, w.cell? ⟨b, x.toNat, none⟩ = some (.bool (isDigit x))
theorem c81 {w : World} {b : Nat} (h : SetAt w b) (x : UInt8) : Ret Tryd.prog 81 #[.pointer (some ⟨b, 0, none⟩), .int .u8 x.toNat] w fun v w' => v = .bool (isDigit x) ∧ w' = w :=
  ret_of (Tryd.asciiSet_contains b x _ w (h x))

theorem c71 (s : ByteArray) (b : Nat) (w : World) (h : SetAt w b) : Ret Tryd.prog 71 #[.string s, .pointer (some ⟨b, 0, none⟩)] w fun v w' => (∃ t : ByteArray, v = .string t ∧ decide (bs t = []) = (bs s).all isDigit) ∧ w' = w := by
  refine run71 _ _ _ _ ⟨fun vals w' => ∃ k : Nat, ∃ t : ByteArray, vals = [.string t] ∧ bs t = rest s k ∧ k ≤ s.size ∧ w' = w ∧ (bs s).all isDigit = (rest s k).all isDigit, mu2, ⟨0, s, rfl, rfl, Nat.zero_le _, rfl, rfl⟩, ?_⟩
  rintro s1 w1 ⟨k, t, hv, ht, hk, rfl, ha⟩
  cases hv
  have hsz : s1.size = s.size - k := by rw [size_bs, ht, rest_len]
  refine cond_dec (fun hp => ⟨⟨by omega, by omega⟩, ?_⟩) (fun hp => ⟨⟨s1, rfl, ?_⟩, rfl⟩)
  · have hlt : k < s.size := by omega
    have hc := rest_cons hlt
    have hb0 : bt s1 0 = (((bs s).getD k 0).toNat : Int) := by rw [bt_zero, ht, hc]; rfl
    rw [hb0]
    refine Called.of (c81 h _) ?_
    rintro v w2 ⟨rfl, rfl⟩
    refine ⟨_, rfl, cond_intro (fun hd => ⟨⟨s1, rfl, ?_⟩, rfl⟩) (fun hd => ?_)⟩
    · have hd' : isDigit ((bs s).getD k 0) = false := by simpa using hd
      rw [ha, ht, hc, List.all_cons, hd']
      simp
    · have hd' : isDigit ((bs s).getD k 0) = true := by simpa using hd
      have hx : bs (s1.extract 1 s1.size) = rest s (k + 1) := by
        rw [extract_bs, rest, ht, drop_rest]
        apply List.take_of_length_le
        rw [rest_len]; omega
      refine ⟨⟨by omega, by omega⟩, ⟨k + 1, _, rfl, hx, hlt, rfl, ?_⟩, ?_⟩
      · rw [ha, hc, List.all_cons, hd', Bool.true_and]
      · have hz : (s1.extract 1 s1.size).size = s.size - (k + 1) := by rw [size_bs, hx, rest_len]
        simp only [mu2]; omega
  · have : rest s k = [] := rest_nil (by omega)
    rw [ha, ht, this]
    rfl

theorem c72 (s : ByteArray) (hs : s.size < 4294967281) (b : Nat) (w : World) (h : SetAt w b) : Ret Tryd.prog 72 #[.string s, .pointer (some ⟨b, 0, none⟩)] w fun v w' => (∃ t : ByteArray, v = .string t ∧ (bs t).all isDigit = (bs s).all isDigit) ∧ w' = w := by
  refine run72 _ _ _ _ ⟨fun vals w' => ∃ t : ByteArray, vals = [.string t] ∧ t.size ≤ s.size ∧ w' = w ∧ (bs t).all isDigit = (bs s).all isDigit, mu2, ⟨s, rfl, Nat.le_refl _, rfl, rfl⟩, ?_⟩
  rintro s1 w1 ⟨t, hv, hk, rfl, ha⟩
  cases hv
  refine cond_dec (fun hp => ?_) (fun hp => ⟨⟨s1, rfl, ha⟩, rfl⟩)
  have hl : 0 < s1.size := by omega
  rw [wrap_pred (by omega) hl]
  refine ⟨⟨by omega, by omega⟩, ?_⟩
  rw [bt_eq]
  refine Called.of (c81 h _) ?_
  rintro v w2 ⟨rfl, rfl⟩
  refine ⟨_, rfl, cond_intro (fun hd => ⟨⟨s1, rfl, ha⟩, rfl⟩) (fun hd => ?_)⟩
  have hd' : isDigit ((bs s1).getD (s1.size - 1) 0) = true := by simpa using hd
  have hx : bs (s1.extract 0 (((s1.size - 1 : Nat) : Int).toNat)) = (bs s1).take (s1.size - 1) := by rw [extract_bs, Int.toNat_natCast, rest_zero]; rfl
  have hsp : bs s1 = (bs s1).take (s1.size - 1) ++ [(bs s1).getD (s1.size - 1) 0] := by
    have h1 := rest_cons (s := s1) (i := s1.size - 1) (by omega)
    rw [rest_nil (i := s1.size - 1 + 1) (by omega)] at h1
    rw [← h1, rest, List.take_append_drop]
  refine ⟨⟨by omega, by omega⟩, ⟨_, rfl, ?_, rfl, ?_⟩, ?_⟩
  · rw [size_bs, hx, List.length_take, ← size_bs]; omega
  · rw [hx, ← ha]
    conv => rhs; rw [hsp]
    rw [List.all_append, List.all_cons, hd']
    simp
  · have hz : (s1.extract 0 (((s1.size - 1 : Nat) : Int).toNat)).size = min (s1.size - 1) s1.size := by rw [size_bs, hx, List.length_take, ← size_bs]
    simp only [mu2]; omega

theorem run_of_ret {P : Program} {f : Nat} {args : Array Value} {w : World} {R : Value → World → Prop} (h : Ret P f args w R) : Calls P f args w fun e w' => ∃ v, e = .returned v ∧ R v w' := h

set_option maxHeartbeats 8000000 in
set_option maxRecDepth 1000000 in
theorem c62_pos (s : ByteArray) (w : World) (hs : s.size < 4294967281) (h0 : bs s ≠ []) : Calls Tryd.prog 62 #[.string s, .string { data := #[48, 49, 50, 51, 52, 53, 54, 55, 56, 57] }] w fun e w' =>
    ∃ v, e = .returned v ∧ (∃ s', v = .string s' ∧ decide (bs s' = []) = (bs s).all isDigit) ∧ Ext w w' := by
  have hM : Calls Tryd.prog 70 #[.string { data := #[48, 49, 50, 51, 52, 53, 54, 55, 56, 57] }] w fun e w' => e = .returned (.tuple #[.agg (Lib.setCells tenD), .bool true]) ∧ w' = w.alloc (.cells (Lib.setCells tenD) 94) := Tryd.strings_makeASCIISet Tryd.zeroValue94 { data := #[48, 49, 50, 51, 52, 53, 54, 55, 56, 57] } w (by decide) (by
    intro j b hj
    have := List.mem_of_getElem? hj
    simp only [List.mem_cons, List.not_mem_nil, or_false] at this
    rcases this with h | h | h | h | h | h | h | h | h | h <;> subst h <;> decide)
  have hemps : s.toList.isEmpty = false := by
    rw [Lib.toList_data]
    cases h : s.data.toList with
    | nil => exact absurd h h0
    | cons _ _ => rfl
  have hsc : (storeCells ⟨w.heap.size + 1, 0, none⟩ (Lib.setCells tenD).toList 0).run Tryd.prog ((w.alloc (.cells (Lib.setCells tenD) 94)).alloc (.cells (Array.replicate 256 (.bool false)) 94)) = .ok () ((w.alloc (.cells (Lib.setCells tenD) 94)).alloc (.cells (Lib.setCells tenD) 94)) := by
    have := run_storeCells_new (P := Tryd.prog) (w.alloc (.cells (Lib.setCells tenD) 94)) 94 (Array.replicate 256 (.bool false)) (Lib.setCells tenD) (by rw [Lib.setCells_size]; kernel_rfl) (by rw [Lib.setCells_size, Array.size_replicate]) (Lib.setCells_one _)
    simpa using this
  have hsz := Lib.setCells_size tenD
  have hcellAt : SetAt ((w.alloc (.cells (Lib.setCells tenD) 94)).alloc (.cells (Lib.setCells tenD) 94)) (w.heap.size + 1) := fun x => by
    rw [World.cell?_alloc_at _ _ _ _ (by simp), Lib.setCells_at, tenD_digit]
  have hE : Ext w ((w.alloc (.cells (Lib.setCells tenD) 94)).alloc (.cells (Lib.setCells tenD) 94)) := ((Ext.refl w).alloc _).alloc _
  have mixed : Tryd.prog.follows .mixedOrders = true := by kernel_rfl
  have t0 := Tryd.underlying0; have a0 := Tryd.isAgg0; have z0 := Tryd.sizeOf0; have v0 := Tryd.zeroValue0; have u0 := run_underlying Tryd.underlying0
  have t3 := Tryd.underlying3; have a3 := Tryd.isAgg3; have z3 := Tryd.sizeOf3; have v3 := Tryd.zeroValue3; have u3 := run_underlying Tryd.underlying3
  have t4 := Tryd.underlying4; have a4 := Tryd.isAgg4; have z4 := Tryd.sizeOf4; have v4 := Tryd.zeroValue4; have u4 := run_underlying Tryd.underlying4
  have t5 := Tryd.underlying5; have a5 := Tryd.isAgg5; have z5 := Tryd.sizeOf5; have v5 := Tryd.zeroValue5; have u5 := run_underlying Tryd.underlying5
  have t9 := Tryd.underlying9; have a9 := Tryd.isAgg9; have z9 := Tryd.sizeOf9; have v9 := Tryd.zeroValue9; have u9 := run_underlying Tryd.underlying9
  have t95 := Tryd.underlying95; have a95 := Tryd.isAgg95; have z95 := Tryd.sizeOf95; have v95 := Tryd.zeroValue95; have u95 := run_underlying Tryd.underlying95
  have t98 := Tryd.underlying98; have a98 := Tryd.isAgg98; have z98 := Tryd.sizeOf98; have v98 := Tryd.zeroValue98; have u98 := run_underlying Tryd.underlying98
  have t94 := Tryd.underlying94
  have e70 : ∀ args w, (callFunc 70 args).run Tryd.prog w = .ok (.enter 70 args) w := enters_of Tryd.func70 (by kernel_rfl) rfl
  have e71 : ∀ args w, (callFunc 71 args).run Tryd.prog w = .ok (.enter 71 args) w := enters_of Tryd.func71 (by kernel_rfl) rfl
  have e72 : ∀ args w, (callFunc 72 args).run Tryd.prog w = .ok (.enter 72 args) w := enters_of Tryd.func72 (by kernel_rfl) rfl
  go_enter Tryd.func62, Tryd.ntmps62
  go_wp2_with (go_at_fn 70; refine hM.mono ?_; rintro e w' ⟨rfl, hw⟩; rw [hw])
  have hz : Tryd.zeroCells94 = Array.replicate 256 (.bool false) := by kernel_rfl
  simp only [hz, Result.andThen, hsc]
  rw [Oper.upon_skip]
  clear hM hsc
  go_wp2_with (go_at_fn 72; refine Calls.mono (run_of_ret (c72 s hs _ _ hcellAt)) ?_)
  rintro e w' ⟨v, rfl, ⟨s1, rfl, h1⟩, hw⟩
  rw [hw]
  go_wp2_with (go_at_fn 71; refine Calls.mono (run_of_ret (c71 s1 _ _ hcellAt)) ?_)
  rintro e w' ⟨v, rfl, ⟨s2, rfl, h2⟩, hw⟩
  rw [hw]
  go_wp2
  go_ret
  exact ⟨_, rfl, ⟨s2, rfl, h2.trans h1⟩, hE⟩

set_option maxHeartbeats 2000000 in
theorem c62_nil (w : World) : Calls Tryd.prog 62 #[.string { data := #[] }, .string { data := #[48, 49, 50, 51, 52, 53, 54, 55, 56, 57] }] w fun e w' =>
    e = .returned (.string { data := #[] }) ∧ w' = w := by
  have mixed : Tryd.prog.follows .mixedOrders = true := by kernel_rfl
  have t0 := Tryd.underlying0; have a0 := Tryd.isAgg0; have z0 := Tryd.sizeOf0; have v0 := Tryd.zeroValue0; have u0 := run_underlying Tryd.underlying0
  have t3 := Tryd.underlying3; have a3 := Tryd.isAgg3; have z3 := Tryd.sizeOf3; have v3 := Tryd.zeroValue3; have u3 := run_underlying Tryd.underlying3
  have t4 := Tryd.underlying4; have a4 := Tryd.isAgg4; have z4 := Tryd.sizeOf4; have v4 := Tryd.zeroValue4; have u4 := run_underlying Tryd.underlying4
  have t5 := Tryd.underlying5; have a5 := Tryd.isAgg5; have z5 := Tryd.sizeOf5; have v5 := Tryd.zeroValue5; have u5 := run_underlying Tryd.underlying5
  have t9 := Tryd.underlying9; have a9 := Tryd.isAgg9; have z9 := Tryd.sizeOf9; have v9 := Tryd.zeroValue9; have u9 := run_underlying Tryd.underlying9
  have t95 := Tryd.underlying95; have a95 := Tryd.isAgg95; have z95 := Tryd.sizeOf95; have v95 := Tryd.zeroValue95; have u95 := run_underlying Tryd.underlying95
  have t98 := Tryd.underlying98; have a98 := Tryd.isAgg98; have z98 := Tryd.sizeOf98; have v98 := Tryd.zeroValue98; have u98 := run_underlying Tryd.underlying98
  go_enter Tryd.func62, Tryd.ntmps62
  go_wp2
  go_ret
  exact ⟨rfl, rfl⟩
theorem trimOk : TrimOk := by
  intro s w hs
  by_cases h : bs s = []
  · have : s = { data := #[] } := bs_inj h
    subst this
    refine Ret.mono (ret_of (c62_nil w)) ?_
    rintro v w' ⟨rfl, rfl⟩
    exact ⟨⟨_, rfl, by rw [h]; rfl⟩, Ext.refl _⟩
  · exact c62_pos s w hs h
end Go.Proofs.Sx
