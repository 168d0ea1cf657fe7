/- Part of the proof: SxV. -/
import Derived.Test.YtonenlplcidihaaDoorSxE
namespace Go.Proofs.Sx
open Go Go.V Go.Proofs
set_option maxRecDepth 100000
set_option linter.unusedVariables false

/-! 3: chcsolver/chcsolverlaw02.SexprParse (764 ms) -/
def vc3 (s : ByteArray) (w : World) (R : Value → World → Prop) : Prop :=
  ∀ (K : List Value → World → Prop),
    (∀ (b : Bool) (w1 : World), R (Value.bool b) w1 → K [Value.bool b] w1) →
      bif decide ((↑s.size : Int) > 300) then
        Called Tryd.prog 11 #[] w fun (v : Value) (w2 : World) =>
          ∃ (b1 : Bool),
            v = Value.bool b1 ∧
              bif b1 then K [Value.bool true] w2
              else
                bif decide ((↑s.size : Int) ≤ 300) then
                  Called Tryd.prog 12 #[Value.string s] w2 fun (v1 : Value) (w3 : World) =>
                    ∃ (b2 : Bool), v1 = Value.bool b2 ∧ bif b2 then Called Tryd.prog 11 #[] w3 fun (v2 : Value) (w4 : World) => ∃ (b3 : Bool), v2 = Value.bool b3 ∧ K [Value.bool b3] w4 else K [Value.bool false] w3
                else K [Value.bool false] w2
      else
        bif decide ((↑s.size : Int) ≤ 300) then
          Called Tryd.prog 12 #[Value.string s] w fun (v3 : Value) (w5 : World) =>
            ∃ (b4 : Bool), v3 = Value.bool b4 ∧ bif b4 then Called Tryd.prog 11 #[] w5 fun (v4 : Value) (w6 : World) => ∃ (b5 : Bool), v4 = Value.bool b5 ∧ K [Value.bool b5] w6 else K [Value.bool false] w5
        else K [Value.bool false] w

theorem run3 (s : ByteArray) (w : World) (R : Value → World → Prop) (h : vc3 s w R) : Ret Tryd.prog 3 #[.string s] w R :=
  vfn_sound sxE_ok (args := [.string s]) Tryd.func3 (Eq.mp (by kernel_rfl : vc3 s w R = vfn sxE Tryd.f3 [.string s] w R) h)

/-! 4: chcsolver/chcsolverlaw02.SexprSpoiled (767 ms) -/
def vc4 (lA : Option Addr) (lN lC : Nat) (at' : Int) (b : Int) (how : Int) (w : World) (R : Value → World → Prop) : Prop :=
  Called Tryd.prog 14 #[Value.slice lA lN lC] w fun (v : Value) (w1 : World) =>
    ∃ (p : Option Addr),
      ∃ (k : Nat),
        ∃ (k1 : Nat),
          v = Value.slice p k k1 ∧
            Called Tryd.prog 13 #[Value.slice p k k1] w1 fun (v1 : Value) (w2 : World) =>
              ∃ (s : ByteArray),
                v1 = Value.string s ∧
                  ∀ (K : List Value → World → Prop),
                    (∀ (b1 : Bool) (w3 : World), R (Value.bool b1) w3 → K [Value.bool b1] w3) →
                      Called Tryd.prog 12 #[Value.string s] w2 fun (v2 : Value) (w4 : World) =>
                        ∃ (b2 : Bool),
                          v2 = Value.bool b2 ∧
                            bif b2 then
                              Called Tryd.prog 15 #[Value.string s, Value.int IntKind.i64 at', Value.int IntKind.u8 b, Value.int IntKind.i64 how] w4 fun (v3 : Value) (w5 : World) =>
                                ∃ (s1 : ByteArray),
                                  v3 = Value.string s1 ∧
                                    Called Tryd.prog 12 #[Value.string s1] w5 fun (v4 : Value) (w6 : World) =>
                                      ∃ (b3 : Bool),
                                        v4 = Value.bool b3 ∧
                                          bif b3 then
                                            ((0 : Int) ≤ b.tmod 9 ∧ b.tmod 9 < 9) ∧
                                              Called Tryd.prog 15 #[Value.string s, Value.int IntKind.i64 at', Value.int IntKind.u8 (bt { data := #[40, 41, 34, 59, 46, 48, 45, 97, 32] : ByteArray } (b.tmod 9)), Value.int IntKind.i64 how] w6
                                                fun (v5 : Value) (w7 : World) =>
                                                ∃ (s2 : ByteArray),
                                                  v5 = Value.string s2 ∧
                                                    Called Tryd.prog 12 #[Value.string s2] w7 fun (v6 : Value) (w8 : World) =>
                                                      ∃ (b4 : Bool),
                                                        v6 = Value.bool b4 ∧ bif b4 then Called Tryd.prog 11 #[] w8 fun (v7 : Value) (w9 : World) => ∃ (b5 : Bool), v7 = Value.bool b5 ∧ K [Value.bool b5] w9 else K [Value.bool false] w8
                                          else K [Value.bool false] w6
                            else K [Value.bool false] w4

theorem run4 (lA : Option Addr) (lN lC : Nat) (at' : Int) (b : Int) (how : Int) (w : World) (R : Value → World → Prop) (h : vc4 lA lN lC at' b how w R) : Ret Tryd.prog 4 #[.slice lA lN lC, .int .i64 at', .int .u8 b, .int .i64 how] w R :=
  vfn_sound sxE_ok (args := [.slice lA lN lC, .int .i64 at', .int .u8 b, .int .i64 how]) Tryd.func4 (Eq.mp (by kernel_rfl : vc4 lA lN lC at' b how w R = vfn sxE Tryd.f4 [.slice lA lN lC, .int .i64 at', .int .u8 b, .int .i64 how] w R) h)

/-! 5: chcsolver/chcsolverlaw02.SexprPositions (31853 ms) -/
def vc5 (s : ByteArray) (lA : Option Addr) (lN lC : Nat) (w : World) (R : Value → World → Prop) : Prop :=
  bif decide ((↑s.size : Int) > 300) then Called Tryd.prog 11 #[] w fun (v : Value) (w1 : World) => ∃ (b : Bool), v = Value.bool b ∧ R (Value.bool b) w1
  else
    Called Tryd.prog 14 #[Value.slice lA lN lC] w fun (v1 : Value) (w2 : World) =>
      ∃ (p : Option Addr),
        ∃ (k : Nat),
          ∃ (k1 : Nat),
            v1 = Value.slice p k k1 ∧
              Called Tryd.prog 13 #[Value.slice p k k1] w2 fun (v2 : Value) (w3 : World) =>
                ∃ (s1 : ByteArray),
                  v2 = Value.string s1 ∧
                    s1.size + s.size ≤ 9223372036854775807 ∧
                      Called Tryd.prog 16 #[Value.string (s1 ++ s)] w3 fun (v3 : Value) (w4 : World) =>
                        ∃ (p1 : Option Addr),
                          ∃ (k2 : Nat),
                            ∃ (k3 : Nat),
                              ∃ (n : Int),
                                ∃ (n1 : Int),
                                  v3 = Value.tuple #[Value.slice p1 k2 k3, Value.int IntKind.i64 n, Value.int IntKind.i64 n1] ∧
                                    bif n1 != 0 then Called Tryd.prog 11 #[] w4 fun (v4 : Value) (w5 : World) => ∃ (b1 : Bool), v4 = Value.bool b1 ∧ R (Value.bool b1) w5
                                    else
                                      ∃ (I : List Value → World → Prop),
                                        ∃ (μ : List Value → World → Nat),
                                          I [Value.int IntKind.i64 0] w4 ∧
                                            ∀ (n2 : Int) (w6 : World),
                                              I [Value.int IntKind.i64 n2] w6 →
                                                bif decide (n2 < (↑k2 : Int)) then
                                                  ∃ (a : Addr),
                                                    p1 = some a ∧
                                                      ((0 : Int) ≤ n2 ∧ n2 < (↑k2 : Int)) ∧
                                                        ∃ (n3 : Int),
                                                          w6.cell? ((a.add (n2.toNat * 4)).add 3) = some (Value.int IntKind.i64 n3) ∧
                                                            ∀ (K : List Value → World → Prop),
                                                              (∀ (b2 : Bool),
                                                                  (bif b2 then R (Value.bool false) w6
                                                                    else
                                                                      ∃ (a1 : Addr),
                                                                        p1 = some a1 ∧
                                                                          ((0 : Int) ≤ n2 ∧ n2 < (↑k2 : Int)) ∧
                                                                            ∃ (s2 : ByteArray),
                                                                              w6.cell? ((a1.add (n2.toNat * 4)).add 1) = some (Value.string s2) ∧
                                                                                ∃ (a2 : Addr),
                                                                                  p1 = some a2 ∧
                                                                                    ((0 : Int) ≤ n2 ∧ n2 < (↑k2 : Int)) ∧
                                                                                      ∃ (n4 : Int),
                                                                                        w6.cell? (a2.add (n2.toNat * 4)) = some (Value.int IntKind.i64 n4) ∧
                                                                                          bif n4 == 5 then
                                                                                            ((0 : Int) ≤ n3 ∧ n3 < (↑(s1 ++ s).size : Int)) ∧
                                                                                              bif bt (s1 ++ s) n3 != 40 then R (Value.bool false) w6
                                                                                              else
                                                                                                I [Value.int IntKind.i64 (IntKind.i64.wrap (n2 + 1))] w6 ∧
                                                                                                  μ [Value.int IntKind.i64 (IntKind.i64.wrap (n2 + 1))] w6 < μ [Value.int IntKind.i64 n2] w6
                                                                                          else
                                                                                            bif n4 == 4 then
                                                                                              ((0 : Int) ≤ n3 ∧ n3 < (↑(s1 ++ s).size : Int)) ∧
                                                                                                bif bt (s1 ++ s) n3 != 34 then R (Value.bool false) w6
                                                                                                else
                                                                                                  I [Value.int IntKind.i64 (IntKind.i64.wrap (n2 + 1))] w6 ∧
                                                                                                    μ [Value.int IntKind.i64 (IntKind.i64.wrap (n2 + 1))] w6 < μ [Value.int IntKind.i64 n2] w6
                                                                                            else
                                                                                              ∀ (K1 : List Value → World → Prop),
                                                                                                (∀ (b3 : Bool),
                                                                                                    (bif b3 then R (Value.bool false) w6.drew
                                                                                                      else
                                                                                                        I [Value.int IntKind.i64 (IntKind.i64.wrap (n2 + 1))] w6.drew ∧
                                                                                                          μ [Value.int IntKind.i64 (IntKind.i64.wrap (n2 + 1))] w6.drew < μ [Value.int IntKind.i64 n2] w6) →
                                                                                                      K1 [Value.bool b3] w6.drew) →
                                                                                                  bif (↑s2.size : Int) == 0 then K1 [Value.bool true] w6.drew
                                                                                                  else
                                                                                                    bif decide ((↑s2.size : Int) > IntKind.i64.wrap ((↑(s1 ++ s).size : Int) - n3)) then K1 [Value.bool true] w6.drew
                                                                                                    else
                                                                                                      ((0 : Int) ≤ n3 ∧ n3 ≤ IntKind.i64.wrap (n3 + (↑s2.size : Int)) ∧ IntKind.i64.wrap (n3 + (↑s2.size : Int)) ≤ (↑(s1 ++ s).size : Int)) ∧
                                                                                                        ∃ (a3 : Addr),
                                                                                                          p1 = some a3 ∧
                                                                                                            ((0 : Int) ≤ n2 ∧ n2 < (↑k2 : Int)) ∧
                                                                                                              ∃ (s3 : ByteArray),
                                                                                                                w6.drew.cell? ((a3.add (n2.toNat * 4)).add 1) = some (Value.string s3) ∧
                                                                                                                  K1 [Value.bool !((s1 ++ s).extract n3.toNat (IntKind.i64.wrap (n3 + (↑s2.size : Int))).toNat).toList == s3.toList] w6.drew) →
                                                                    K [Value.bool b2] w6) →
                                                                bif decide (n3 < 0) then K [Value.bool true] w6
                                                                else
                                                                  bif decide (n3 ≥ (↑(s1 ++ s).size : Int)) then K [Value.bool true] w6
                                                                  else
                                                                    bif decide (n2 > 0) then
                                                                      ∃ (a4 : Addr),
                                                                        p1 = some a4 ∧
                                                                          ((0 : Int) ≤ IntKind.i64.wrap (n2 - 1) ∧ IntKind.i64.wrap (n2 - 1) < (↑k2 : Int)) ∧
                                                                            ∃ (n5 : Int), w6.cell? ((a4.add ((IntKind.i64.wrap (n2 - 1)).toNat * 4)).add 3) = some (Value.int IntKind.i64 n5) ∧ K [Value.bool (decide (n3 ≤ n5))] w6
                                                                    else K [Value.bool false] w6
                                                else Called Tryd.prog 11 #[] w6 fun (v5 : Value) (w7 : World) => ∃ (b4 : Bool), v5 = Value.bool b4 ∧ R (Value.bool b4) w7

theorem run5 (s : ByteArray) (lA : Option Addr) (lN lC : Nat) (w : World) (R : Value → World → Prop) (h : vc5 s lA lN lC w R) : Ret Tryd.prog 5 #[.string s, .slice lA lN lC] w R :=
  vfn_sound sxE_ok (args := [.string s, .slice lA lN lC]) Tryd.func5 (Eq.mp (by kernel_rfl : vc5 s lA lN lC w R = vfn sxE Tryd.f5 [.string s, .slice lA lN lC] w R) h)

/-! 6: chcsolver/chcsolverlaw02.SexprConcat (10300 ms) -/
def vc6 (s : ByteArray) (t : ByteArray) (lA : Option Addr) (lN lC : Nat) (mA : Option Addr) (mN mC : Nat) (w : World) (R : Value → World → Prop) : Prop :=
  ∀ (K : List Value → World → Prop),
    (∀ (b : Bool),
        (bif b then Called Tryd.prog 11 #[] w fun (v : Value) (w1 : World) => ∃ (b1 : Bool), v = Value.bool b1 ∧ R (Value.bool b1) w1
          else
            Called Tryd.prog 16 #[Value.string s] w fun (v1 : Value) (w2 : World) =>
              ∃ (p : Option Addr),
                ∃ (k : Nat),
                  ∃ (k1 : Nat),
                    ∃ (n : Int),
                      ∃ (n1 : Int),
                        v1 = Value.tuple #[Value.slice p k k1, Value.int IntKind.i64 n, Value.int IntKind.i64 n1] ∧
                          Called Tryd.prog 16 #[Value.string t] w2 fun (v2 : Value) (w3 : World) =>
                            ∃ (p1 : Option Addr),
                              ∃ (k2 : Nat),
                                ∃ (k3 : Nat),
                                  ∃ (n2 : Int),
                                    ∃ (n3 : Int),
                                      v2 = Value.tuple #[Value.slice p1 k2 k3, Value.int IntKind.i64 n2, Value.int IntKind.i64 n3] ∧
                                        ∀ (K1 : List Value → World → Prop),
                                          (∀ (p2 : Option Addr) (k4 k5 : Nat) (s1 : ByteArray) (w4 : World),
                                              (∀ (K2 : List Value → World → Prop),
                                                  (∀ (p3 : Option Addr) (k6 k7 : Nat) (s2 : ByteArray) (w5 : World),
                                                      (s1.size + 1 ≤ 9223372036854775807 ∧
                                                          (s1 ++ { data := #[10] : ByteArray }).size + s2.size ≤ 9223372036854775807 ∧
                                                            Called Tryd.prog 16 #[Value.string (s1 ++ { data := #[10] : ByteArray } ++ s2)] w5 fun (v3 : Value) (w6 : World) =>
                                                              ∃ (p4 : Option Addr),
                                                                ∃ (k8 : Nat),
                                                                  ∃ (k9 : Nat),
                                                                    ∃ (n4 : Int),
                                                                      ∃ (n5 : Int),
                                                                        v3 = Value.tuple #[Value.slice p4 k8 k9, Value.int IntKind.i64 n4, Value.int IntKind.i64 n5] ∧
                                                                          ∀ (K3 : List Value → World → Prop),
                                                                            (∀ (b2 : Bool) (w7 : World), R (Value.bool b2) w7 → K3 [Value.bool b2] w7) →
                                                                              bif n5 == 0 then
                                                                                ∃ (k10 : Nat),
                                                                                  ∃ (vs : List Value),
                                                                                    ∃ (vs1 : List Value),
                                                                                      AppOk w6 k10 34 4 40 none 0 0 vs p2 k4 vs1 ∧
                                                                                        ∀ (p5 : Option Addr) (k11 : Nat) (w8 : World),
                                                                                          AppRes w6 w8 k10 34 4 none 0 0 vs k4 vs1 p5 k11 →
                                                                                            ∃ (k12 : Nat),
                                                                                              ∃ (vs2 : List Value),
                                                                                                ∃ (vs3 : List Value),
                                                                                                  AppOk w8 k12 34 4 40 p5 (0 + k4) k11 vs2 p3 k6 vs3 ∧
                                                                                                    ∀ (p6 : Option Addr) (k13 : Nat) (w9 : World),
                                                                                                      AppRes w8 w9 k12 34 4 p5 (0 + k4) k11 vs2 k6 vs3 p6 k13 →
                                                                                                        Called Tryd.prog 17 #[Value.slice p4 k8 k9, Value.slice p6 (0 + k4 + k6) k13, Value.bool false] w9 fun (v4 : Value) (w10 : World) =>
                                                                                                          ∃ (b3 : Bool),
                                                                                                            v4 = Value.bool b3 ∧
                                                                                                              bif b3 then Called Tryd.prog 11 #[] w10 fun (v5 : Value) (w11 : World) => ∃ (b4 : Bool), v5 = Value.bool b4 ∧ K3 [Value.bool b4] w11
                                                                                                              else K3 [Value.bool false] w10
                                                                              else K3 [Value.bool false] w6) →
                                                        K2 [Value.slice p3 k6 k7, Value.string s2] w5) →
                                                    bif n3 != 0 then
                                                      Called Tryd.prog 14 #[Value.slice mA mN mC] w4 fun (v6 : Value) (w12 : World) =>
                                                        ∃ (p7 : Option Addr),
                                                          ∃ (k14 : Nat),
                                                            ∃ (k15 : Nat),
                                                              v6 = Value.slice p7 k14 k15 ∧
                                                                Called Tryd.prog 13 #[Value.slice p7 k14 k15] w12 fun (v7 : Value) (w13 : World) =>
                                                                  ∃ (s3 : ByteArray),
                                                                    v7 = Value.string s3 ∧
                                                                      Called Tryd.prog 16 #[Value.string s3] w13 fun (v8 : Value) (w14 : World) =>
                                                                        ∃ (p8 : Option Addr),
                                                                          ∃ (k16 : Nat),
                                                                            ∃ (k17 : Nat),
                                                                              ∃ (n6 : Int),
                                                                                ∃ (n7 : Int), v8 = Value.tuple #[Value.slice p8 k16 k17, Value.int IntKind.i64 n6, Value.int IntKind.i64 n7] ∧ K2 [Value.slice p8 k16 k17, Value.string s3] w14
                                                    else K2 [Value.slice p1 k2 k3, Value.string t] w4) →
                                                K1 [Value.slice p2 k4 k5, Value.string s1] w4) →
                                            bif n1 != 0 then
                                              Called Tryd.prog 14 #[Value.slice lA lN lC] w3 fun (v9 : Value) (w15 : World) =>
                                                ∃ (p9 : Option Addr),
                                                  ∃ (k18 : Nat),
                                                    ∃ (k19 : Nat),
                                                      v9 = Value.slice p9 k18 k19 ∧
                                                        Called Tryd.prog 13 #[Value.slice p9 k18 k19] w15 fun (v10 : Value) (w16 : World) =>
                                                          ∃ (s4 : ByteArray),
                                                            v10 = Value.string s4 ∧
                                                              Called Tryd.prog 16 #[Value.string s4] w16 fun (v11 : Value) (w17 : World) =>
                                                                ∃ (p10 : Option Addr),
                                                                  ∃ (k20 : Nat),
                                                                    ∃ (k21 : Nat),
                                                                      ∃ (n8 : Int),
                                                                        ∃ (n9 : Int), v11 = Value.tuple #[Value.slice p10 k20 k21, Value.int IntKind.i64 n8, Value.int IntKind.i64 n9] ∧ K1 [Value.slice p10 k20 k21, Value.string s4] w17
                                            else K1 [Value.slice p k k1, Value.string s] w3) →
          K [Value.bool b] w) →
      bif decide ((↑s.size : Int) > 200) then K [Value.bool true] w else K [Value.bool (decide ((↑t.size : Int) > 200))] w

theorem run6 (s : ByteArray) (t : ByteArray) (lA : Option Addr) (lN lC : Nat) (mA : Option Addr) (mN mC : Nat) (w : World) (R : Value → World → Prop) (h : vc6 s t lA lN lC mA mN mC w R) : Ret Tryd.prog 6 #[.string s, .string t, .slice lA lN lC, .slice mA mN mC] w R :=
  vfn_sound sxE_ok (args := [.string s, .string t, .slice lA lN lC, .slice mA mN mC]) Tryd.func6 (Eq.mp (by kernel_rfl : vc6 s t lA lN lC mA mN mC w R = vfn sxE Tryd.f6 [.string s, .string t, .slice lA lN lC, .slice mA mN mC] w R) h)

/-! 7: chcsolver/chcsolverlaw02.SexprDepth (2542 ms) -/
def vc7 (n : Int) (w : World) (R : Value → World → Prop) : Prop :=
  Called Tryd.prog 18 #[Value.int IntKind.i64 n, Value.int IntKind.i64 12] w fun (v : Value) (w1 : World) =>
    ∃ (n1 : Int),
      v = Value.int IntKind.i64 n1 ∧
        ∃ (I : List Value → World → Prop),
          ∃ (μ : List Value → World → Nat),
            I [Value.int IntKind.i64 0, Value.string { data := #[] : ByteArray }, Value.string { data := #[] : ByteArray }] w1 ∧
              ∀ (n2 : Int) (s s1 : ByteArray) (w2 : World),
                I [Value.int IntKind.i64 n2, Value.string s, Value.string s1] w2 →
                  bif decide (n2 < IntKind.i64.wrap (IntKind.i64.wrap (n1 + 256) - 4)) then
                    s1.size + 1 ≤ 9223372036854775807 ∧
                      s.size + 1 ≤ 9223372036854775807 ∧
                        I [Value.int IntKind.i64 (IntKind.i64.wrap (n2 + 1)), Value.string (s ++ { data := #[41] : ByteArray }), Value.string (s1 ++ { data := #[40] : ByteArray })] w2 ∧
                          μ [Value.int IntKind.i64 (IntKind.i64.wrap (n2 + 1)), Value.string (s ++ { data := #[41] : ByteArray }), Value.string (s1 ++ { data := #[40] : ByteArray })] w2 <
                            μ [Value.int IntKind.i64 n2, Value.string s, Value.string s1] w2
                  else
                    s1.size + s.size ≤ 9223372036854775807 ∧
                      Called Tryd.prog 16 #[Value.string (s1 ++ s)] w2 fun (v1 : Value) (w3 : World) =>
                        ∃ (p : Option Addr),
                          ∃ (k : Nat),
                            ∃ (k1 : Nat),
                              ∃ (n3 : Int),
                                ∃ (n4 : Int),
                                  v1 = Value.tuple #[Value.slice p k k1, Value.int IntKind.i64 n3, Value.int IntKind.i64 n4] ∧
                                    bif decide (IntKind.i64.wrap (IntKind.i64.wrap (n1 + 256) - 4) ≤ 257) then
                                      ∀ (K : List Value → World → Prop),
                                        (∀ (b : Bool) (w4 : World), R (Value.bool b) w4 → K [Value.bool b] w4) →
                                          bif n4 == 0 && n3 == 0 then
                                            bif (↑k : Int) == IntKind.i64.wrap (IntKind.i64.wrap (n1 + 256) - 4) then
                                              Called Tryd.prog 19 #[Value.slice p k k1] w3 fun (v2 : Value) (w5 : World) =>
                                                ∃ (b1 : Bool), v2 = Value.bool b1 ∧ bif b1 then Called Tryd.prog 11 #[] w5 fun (v3 : Value) (w6 : World) => ∃ (b2 : Bool), v3 = Value.bool b2 ∧ K [Value.bool b2] w6 else K [Value.bool false] w5
                                            else K [Value.bool false] w3
                                          else K [Value.bool false] w3
                                    else
                                      ∀ (K1 : List Value → World → Prop),
                                        (∀ (b3 : Bool) (w7 : World), R (Value.bool b3) w7 → K1 [Value.bool b3] w7) →
                                          bif n4 == 6 && n3 == 257 then
                                            bif (↑k : Int) == 0 then Called Tryd.prog 11 #[] w3 fun (v4 : Value) (w8 : World) => ∃ (b4 : Bool), v4 = Value.bool b4 ∧ K1 [Value.bool b4] w8 else K1 [Value.bool false] w3
                                          else K1 [Value.bool false] w3

theorem run7 (n : Int) (w : World) (R : Value → World → Prop) (h : vc7 n w R) : Ret Tryd.prog 7 #[.int .i64 n] w R :=
  vfn_sound sxE_ok (args := [.int .i64 n]) Tryd.func7 (Eq.mp (by kernel_rfl : vc7 n w R = vfn sxE Tryd.f7 [.int .i64 n] w R) h)

/-! 8: chcsolver/chcsolverlaw02.SexprStructure (17950 ms) -/
def vc8 (lA : Option Addr) (lN lC : Nat) (w : World) (R : Value → World → Prop) : Prop :=
  Called Tryd.prog 14 #[Value.slice lA lN lC] w fun (v : Value) (w1 : World) =>
    ∃ (p : Option Addr),
      ∃ (k : Nat),
        ∃ (k1 : Nat),
          v = Value.slice p k k1 ∧
            ((0 : Int) ≤ (↑k : Int) ∧ (↑k : Int) ≤ (↑k : Int) ∧ 8 * (↑k : Int) ≤ 281474976710656 ∧ (↑k : Int) ≤ 9223372036854775807) ∧
              Called Tryd.prog 20 #[Value.slice p k k1] (w1.alloc (Obj.cells (madeCells (Value.int IntKind.i64 0).cells ((↑k : Int).toNat * sxE.P.types[3].size)) 3)) fun (v1 : Value) (w2 : World) =>
                ∃ (p1 : Option Addr),
                  ∃ (k2 : Nat),
                    ∃ (k3 : Nat),
                      v1 = Value.slice p1 k2 k3 ∧
                        ∃ (I : List Value → World → Prop),
                          ∃ (μ : List Value → World → Nat),
                            I [Value.int IntKind.i64 (-1)] w2 ∧
                              ∀ (n : Int) (w3 : World),
                                I [Value.int IntKind.i64 n] w3 →
                                  bif decide (n < (↑k : Int)) then
                                    ∀ (K : List Value → World → Prop),
                                      (∀ (p2 : Option Addr) (k4 k5 : Nat) (w4 : World),
                                          (∃ (I1 : List Value → World → Prop),
                                              ∃ (μ1 : List Value → World → Nat),
                                                I1 [Value.int IntKind.i64 0] w4 ∧
                                                  ∀ (n1 : Int) (w5 : World),
                                                    I1 [Value.int IntKind.i64 n1] w5 →
                                                      bif decide (n1 < (↑k4 : Int)) then
                                                        ∀ (K1 : List Value → World → Prop),
                                                          (∀ (b : Bool),
                                                              (bif b then R (Value.bool false) w5
                                                                else
                                                                  ∃ (a : Addr),
                                                                    p2 = some a ∧
                                                                      ((0 : Int) ≤ n1 ∧ n1 < (↑k4 : Int)) ∧
                                                                        ∃ (n2 : Int),
                                                                          w5.cell? (a.add (n1.toNat * 1)) = some (Value.int IntKind.i64 n2) ∧
                                                                            ∃ (a1 : Addr),
                                                                              some { block := w1.heap.size, off := 0 : Addr } = some a1 ∧
                                                                                ((0 : Int) ≤ n2 ∧ n2 < (↑(↑k : Int).toNat : Int)) ∧
                                                                                  ∃ (n3 : Int),
                                                                                    w5.cell? (a1.add (n2.toNat * 1)) = some (Value.int IntKind.i64 n3) ∧
                                                                                      ∃ (a2 : Addr),
                                                                                        some { block := w1.heap.size, off := 0 : Addr } = some a2 ∧
                                                                                          ((0 : Int) ≤ n2 ∧ n2 < (↑(↑k : Int).toNat : Int)) ∧
                                                                                            ((∃ (v2 : Value), w5.cell? (a2.add (n2.toNat * 1)) = some v2) ∧ w5.frozen? (a2.add (n2.toNat * 1)) = false) ∧
                                                                                              I1 [Value.int IntKind.i64 (IntKind.i64.wrap (n1 + 1))] (w5.setCell (a2.add (n2.toNat * 1)) (Value.int IntKind.i64 (IntKind.i64.wrap (n3 + 1)))) ∧
                                                                                                μ1 [Value.int IntKind.i64 (IntKind.i64.wrap (n1 + 1))] (w5.setCell (a2.add (n2.toNat * 1)) (Value.int IntKind.i64 (IntKind.i64.wrap (n3 + 1)))) <
                                                                                                  μ1 [Value.int IntKind.i64 n1] w5) →
                                                                K1 [Value.bool b] w5) →
                                                            ∃ (a3 : Addr),
                                                              p2 = some a3 ∧
                                                                ((0 : Int) ≤ n1 ∧ n1 < (↑k4 : Int)) ∧
                                                                  ∃ (n4 : Int),
                                                                    w5.cell? (a3.add (n1.toNat * 1)) = some (Value.int IntKind.i64 n4) ∧
                                                                      bif decide (n4 ≤ n) then K1 [Value.bool true] w5
                                                                      else
                                                                        ∃ (a4 : Addr),
                                                                          p2 = some a4 ∧
                                                                            ((0 : Int) ≤ n1 ∧ n1 < (↑k4 : Int)) ∧ ∃ (n5 : Int), w5.cell? (a4.add (n1.toNat * 1)) = some (Value.int IntKind.i64 n5) ∧ K1 [Value.bool (decide (n5 ≥ (↑k : Int)))] w5
                                                      else I [Value.int IntKind.i64 (IntKind.i64.wrap (n + 1))] w5 ∧ μ [Value.int IntKind.i64 (IntKind.i64.wrap (n + 1))] w5 < μ [Value.int IntKind.i64 n] w3) →
                                            K [Value.slice p2 k4 k5] w4) →
                                        bif decide (n ≥ 0) then
                                          Called Tryd.prog 21 #[Value.slice p k k1, Value.int IntKind.i64 n] w3 fun (v3 : Value) (w6 : World) =>
                                            ∃ (p3 : Option Addr),
                                              ∃ (k6 : Nat),
                                                ∃ (k7 : Nat),
                                                  v3 = Value.slice p3 k6 k7 ∧
                                                    ∃ (a5 : Addr),
                                                      p = some a5 ∧
                                                        ((0 : Int) ≤ n ∧ n < (↑k : Int)) ∧
                                                          ∃ (n6 : Int), w6.cell? ((a5.add (n.toNat * 4)).add 2) = some (Value.int IntKind.i64 n6) ∧ bif (↑k6 : Int) != n6 then R (Value.bool false) w6 else K [Value.slice p3 k6 k7] w6
                                        else K [Value.slice p1 k2 k3] w3
                                  else
                                    ∃ (I2 : List Value → World → Prop),
                                      ∃ (μ2 : List Value → World → Nat),
                                        I2 [Value.int IntKind.i64 0] w3 ∧
                                          ∀ (n7 : Int) (w7 : World),
                                            I2 [Value.int IntKind.i64 n7] w7 →
                                              bif decide (n7 < (↑k : Int)) then
                                                ∃ (a6 : Addr),
                                                  some { block := w1.heap.size, off := 0 : Addr } = some a6 ∧
                                                    ((0 : Int) ≤ n7 ∧ n7 < (↑(↑k : Int).toNat : Int)) ∧
                                                      ∃ (n8 : Int),
                                                        w7.cell? (a6.add (n7.toNat * 1)) = some (Value.int IntKind.i64 n8) ∧
                                                          bif n8 != 1 then R (Value.bool false) w7
                                                          else I2 [Value.int IntKind.i64 (IntKind.i64.wrap (n7 + 1))] w7 ∧ μ2 [Value.int IntKind.i64 (IntKind.i64.wrap (n7 + 1))] w7 < μ2 [Value.int IntKind.i64 n7] w7
                                              else Called Tryd.prog 11 #[] w7 fun (v4 : Value) (w8 : World) => ∃ (b1 : Bool), v4 = Value.bool b1 ∧ R (Value.bool b1) w8

theorem run8 (lA : Option Addr) (lN lC : Nat) (w : World) (R : Value → World → Prop) (h : vc8 lA lN lC w R) : Ret Tryd.prog 8 #[.slice lA lN lC] w R :=
  vfn_sound sxE_ok (args := [.slice lA lN lC]) Tryd.func8 (Eq.mp (by kernel_rfl : vc8 lA lN lC w R = vfn sxE Tryd.f8 [.slice lA lN lC] w R) h)

/-! 9: chcsolver/chcsolverlaw02.SexprRoundTrip (828 ms) -/
def vc9 (lA : Option Addr) (lN lC : Nat) (w : World) (R : Value → World → Prop) : Prop :=
  Called Tryd.prog 14 #[Value.slice lA lN lC] w fun (v : Value) (w1 : World) =>
    ∃ (p : Option Addr),
      ∃ (k : Nat),
        ∃ (k1 : Nat),
          v = Value.slice p k k1 ∧
            Called Tryd.prog 22 #[Value.slice p k k1] w1 fun (v1 : Value) (w2 : World) =>
              ∃ (s : ByteArray),
                v1 = Value.string s ∧
                  Called Tryd.prog 16 #[Value.string s] w2 fun (v2 : Value) (w3 : World) =>
                    ∃ (p1 : Option Addr),
                      ∃ (k2 : Nat),
                        ∃ (k3 : Nat),
                          ∃ (n : Int),
                            ∃ (n1 : Int),
                              v2 = Value.tuple #[Value.slice p1 k2 k3, Value.int IntKind.i64 n, Value.int IntKind.i64 n1] ∧
                                ∀ (K : List Value → World → Prop),
                                  (∀ (b : Bool) (w4 : World), R (Value.bool b) w4 → K [Value.bool b] w4) →
                                    bif n1 == 0 && n == 0 then
                                      Called Tryd.prog 17 #[Value.slice p k k1, Value.slice p1 k2 k3, Value.bool false] w3 fun (v3 : Value) (w5 : World) =>
                                        ∃ (b1 : Bool),
                                          v3 = Value.bool b1 ∧
                                            bif b1 then
                                              Called Tryd.prog 22 #[Value.slice p1 k2 k3] w5 fun (v4 : Value) (w6 : World) =>
                                                ∃ (s1 : ByteArray),
                                                  v4 = Value.string s1 ∧
                                                    bif s1.toList == s.toList then Called Tryd.prog 11 #[] w6 fun (v5 : Value) (w7 : World) => ∃ (b2 : Bool), v5 = Value.bool b2 ∧ K [Value.bool b2] w7 else K [Value.bool false] w6
                                            else K [Value.bool false] w5
                                    else K [Value.bool false] w3

theorem run9 (lA : Option Addr) (lN lC : Nat) (w : World) (R : Value → World → Prop) (h : vc9 lA lN lC w R) : Ret Tryd.prog 9 #[.slice lA lN lC] w R :=
  vfn_sound sxE_ok (args := [.slice lA lN lC]) Tryd.func9 (Eq.mp (by kernel_rfl : vc9 lA lN lC w R = vfn sxE Tryd.f9 [.slice lA lN lC] w R) h)

/-! 10: chcsolver/chcsolverlaw02.SexprValid (19217 ms) -/
def vc10 (lA : Option Addr) (lN lC : Nat) (mA : Option Addr) (mN mC : Nat) (x_0 : Int) (x_1 : ByteArray) (x_2 : Int) (x_3 : Int) (at' : Int) (i : Int) (w : World) (R : Value → World → Prop) : Prop :=
  bif decide ((↑lN : Int) > 30) then
    Called Tryd.prog 11 #[] (w.alloc (Obj.cells #[Value.int IntKind.i64 x_0, Value.string x_1, Value.int IntKind.i64 x_2, Value.int IntKind.i64 x_3] 34)) fun (v : Value) (w1 : World) => ∃ (b : Bool), v = Value.bool b ∧ R (Value.bool b) w1
  else
    Called Tryd.prog 14 #[Value.slice mA mN mC] (w.alloc (Obj.cells #[Value.int IntKind.i64 x_0, Value.string x_1, Value.int IntKind.i64 x_2, Value.int IntKind.i64 x_3] 34)) fun (v1 : Value) (w2 : World) =>
      ∃ (p : Option Addr),
        ∃ (k : Nat),
          ∃ (k1 : Nat),
            v1 = Value.slice p k k1 ∧
              ∃ (k2 : Nat),
                ∃ (vs : List Value),
                  ∃ (vs1 : List Value),
                    AppOk w2 k2 34 4 40 none 0 0 vs p k vs1 ∧
                      ∀ (p1 : Option Addr) (k3 : Nat) (w3 : World),
                        AppRes w2 w3 k2 34 4 none 0 0 vs k vs1 p1 k3 →
                          ∀ (K : List Value → World → Prop),
                            (∀ (w4 : World),
                                (∃ (I : List Value → World → Prop),
                                    ∃ (μ : List Value → World → Nat),
                                      I [Value.int IntKind.i64 0] (w4.alloc (Obj.cells #[Value.slice lA lN lC, Value.slice p k k1, Value.slice p1 (0 + k) k3] 26)) ∧
                                        ∀ (n : Int) (w5 : World),
                                          I [Value.int IntKind.i64 n] w5 →
                                            bif decide (n < 3) then
                                              ∃ (a : Addr),
                                                some { block := w4.heap.size, off := 0 : Addr } = some a ∧
                                                  ((0 : Int) ≤ n ∧ n < 3) ∧
                                                    ∃ (p2 : Option Addr),
                                                      ∃ (k4 : Nat),
                                                        ∃ (k5 : Nat),
                                                          w5.cell? (a.add (n.toNat * 1)) = some (Value.slice p2 k4 k5) ∧
                                                            ∀ (K1 : List Value → World → Prop),
                                                              (∀ (b1 : Bool) (w6 : World),
                                                                  (bif b1 then R (Value.bool false) w6
                                                                    else I [Value.int IntKind.i64 (IntKind.i64.wrap (n + 1))] w6 ∧ μ [Value.int IntKind.i64 (IntKind.i64.wrap (n + 1))] w6 < μ [Value.int IntKind.i64 n] w5) →
                                                                    K1 [Value.bool b1] w6) →
                                                                Called Tryd.prog 19 #[Value.slice p2 k4 k5] w5 fun (v2 : Value) (w7 : World) =>
                                                                  ∃ (b2 : Bool),
                                                                    v2 = Value.bool b2 ∧
                                                                      Called Tryd.prog 23 #[Value.slice p2 k4 k5] w7 fun (v3 : Value) (w8 : World) =>
                                                                        ∃ (b3 : Bool),
                                                                          v3 = Value.bool b3 ∧
                                                                            bif !b2 == b3 then K1 [Value.bool true] w8
                                                                            else
                                                                              Called Tryd.prog 22 #[Value.slice p2 k4 k5] w8 fun (v4 : Value) (w9 : World) =>
                                                                                ∃ (s : ByteArray),
                                                                                  v4 = Value.string s ∧
                                                                                    Called Tryd.prog 13 #[Value.slice p2 k4 k5] w9 fun (v5 : Value) (w10 : World) =>
                                                                                      ∃ (s1 : ByteArray),
                                                                                        v5 = Value.string s1 ∧
                                                                                          bif !s.toList == s1.toList then K1 [Value.bool true] w10
                                                                                          else
                                                                                            Called Tryd.prog 20 #[Value.slice p2 k4 k5] w10 fun (v6 : Value) (w11 : World) =>
                                                                                              ∃ (p3 : Option Addr),
                                                                                                ∃ (k6 : Nat),
                                                                                                  ∃ (k7 : Nat),
                                                                                                    v6 = Value.slice p3 k6 k7 ∧
                                                                                                      Called Tryd.prog 25 #[Value.slice p2 k4 k5] w11 fun (v7 : Value) (w12 : World) =>
                                                                                                        ∃ (p4 : Option Addr),
                                                                                                          ∃ (k8 : Nat),
                                                                                                            ∃ (k9 : Nat),
                                                                                                              v7 = Value.slice p4 k8 k9 ∧
                                                                                                                Called Tryd.prog 24 #[Value.slice p3 k6 k7, Value.slice p4 k8 k9] w12 fun (v8 : Value) (w13 : World) =>
                                                                                                                  ∃ (b4 : Bool),
                                                                                                                    v8 = Value.bool b4 ∧
                                                                                                                      bif !b4 then K1 [Value.bool true] w13
                                                                                                                      else
                                                                                                                        Called Tryd.prog 21 #[Value.slice p2 k4 k5, Value.int IntKind.i64 i] w13 fun (v9 : Value) (w14 : World) =>
                                                                                                                          ∃ (p5 : Option Addr),
                                                                                                                            ∃ (k10 : Nat),
                                                                                                                              ∃ (k11 : Nat),
                                                                                                                                v9 = Value.slice p5 k10 k11 ∧
                                                                                                                                  Called Tryd.prog 26 #[Value.slice p2 k4 k5, Value.int IntKind.i64 i] w14 fun (v10 : Value) (w15 : World) =>
                                                                                                                                    ∃ (p6 : Option Addr),
                                                                                                                                      ∃ (k12 : Nat),
                                                                                                                                        ∃ (k13 : Nat),
                                                                                                                                          v10 = Value.slice p6 k12 k13 ∧
                                                                                                                                            Called Tryd.prog 24 #[Value.slice p5 k10 k11, Value.slice p6 k12 k13] w15
                                                                                                                                              fun (v11 : Value) (w16 : World) =>
                                                                                                                                              ∃ (b5 : Bool),
                                                                                                                                                v11 = Value.bool b5 ∧
                                                                                                                                                  bif !b5 then K1 [Value.bool true] w16
                                                                                                                                                  else
                                                                                                                                                    Called Tryd.prog 18 #[Value.int IntKind.i64 i, Value.int IntKind.i64 8] w16
                                                                                                                                                      fun (v12 : Value) (w17 : World) =>
                                                                                                                                                      ∃ (n1 : Int),
                                                                                                                                                        v12 = Value.int IntKind.i64 n1 ∧
                                                                                                                                                          Called Tryd.prog 21 #[Value.slice p2 k4 k5, Value.int IntKind.i64 n1] w17
                                                                                                                                                            fun (v13 : Value) (w18 : World) =>
                                                                                                                                                            ∃ (p7 : Option Addr),
                                                                                                                                                              ∃ (k14 : Nat),
                                                                                                                                                                ∃ (k15 : Nat),
                                                                                                                                                                  v13 = Value.slice p7 k14 k15 ∧
                                                                                                                                                                    Called Tryd.prog 18 #[Value.int IntKind.i64 i, Value.int IntKind.i64 8] w18
                                                                                                                                                                      fun (v14 : Value) (w19 : World) =>
                                                                                                                                                                      ∃ (n2 : Int),
                                                                                                                                                                        v14 = Value.int IntKind.i64 n2 ∧
                                                                                                                                                                          Called Tryd.prog 26 #[Value.slice p2 k4 k5, Value.int IntKind.i64 n2]
                                                                                                                                                                            w19 fun (v15 : Value) (w20 : World) =>
                                                                                                                                                                            ∃ (p8 : Option Addr),
                                                                                                                                                                              ∃ (k16 : Nat),
                                                                                                                                                                                ∃ (k17 : Nat),
                                                                                                                                                                                  v15 = Value.slice p8 k16 k17 ∧
                                                                                                                                                                                    Called Tryd.prog 24
                                                                                                                                                                                      #[Value.slice p7 k14 k15, Value.slice p8 k16 k17] w20
                                                                                                                                                                                      fun (v16 : Value) (w21 : World) =>
                                                                                                                                                                                      ∃ (b6 : Bool), v16 = Value.bool b6 ∧ K1 [Value.bool !b6] w21
                                            else Called Tryd.prog 11 #[] w5 fun (v17 : Value) (w22 : World) => ∃ (b7 : Bool), v17 = Value.bool b7 ∧ R (Value.bool b7) w22) →
                                  K [] w4) →
                              bif decide ((↑(0 + k) : Int) > 0) then
                                ∀ (K2 : List Value → World → Prop),
                                  (∀ (w23 : World), K [] w23 → K2 [] w23) →
                                    ∃ (n3 : Int),
                                      ∃ (s2 : ByteArray),
                                        ∃ (n4 : Int),
                                          ∃ (n5 : Int),
                                            vcells w3.drew { block := w.heap.size, off := 0 : Addr } 0 [Value.int IntKind.i64 n3, Value.string s2, Value.int IntKind.i64 n4, Value.int IntKind.i64 n5] ∧
                                              Called Tryd.prog 18 #[Value.int IntKind.i64 at', Value.int IntKind.i64 (↑(0 + k) : Int)] w3.drew fun (v18 : Value) (w24 : World) =>
                                                ∃ (n6 : Int),
                                                  v18 = Value.int IntKind.i64 n6 ∧
                                                    RowKit.Below w3.drew.heap.size w3.drew w24 ∧
                                                      ∃ (a1 : Addr),
                                                        p1 = some a1 ∧
                                                          ((0 : Int) ≤ n6 ∧ n6 < (↑(0 + k) : Int)) ∧
                                                            writable w24 (a1.add (n6.toNat * 4)) 4 ∧
                                                              K2 [] (setCells w24 (a1.add (n6.toNat * 4)) 0 [Value.int IntKind.i64 n3, Value.string s2, Value.int IntKind.i64 n4, Value.int IntKind.i64 n5])
                              else K [] w3

theorem run10 (lA : Option Addr) (lN lC : Nat) (mA : Option Addr) (mN mC : Nat) (x_0 : Int) (x_1 : ByteArray) (x_2 : Int) (x_3 : Int) (at' : Int) (i : Int) (w : World) (R : Value → World → Prop) (h : vc10 lA lN lC mA mN mC x_0 x_1 x_2 x_3 at' i w R) : Ret Tryd.prog 10 #[.slice lA lN lC, .slice mA mN mC, .agg #[.int .i64 x_0, .string x_1, .int .i64 x_2, .int .i64 x_3], .int .i64 at', .int .i64 i] w R :=
  vfn_sound sxE_ok (args := [.slice lA lN lC, .slice mA mN mC, .agg #[.int .i64 x_0, .string x_1, .int .i64 x_2, .int .i64 x_3], .int .i64 at', .int .i64 i]) Tryd.func10 (Eq.mp (by kernel_rfl : vc10 lA lN lC mA mN mC x_0 x_1 x_2 x_3 at' i w R = vfn sxE Tryd.f10 [.slice lA lN lC, .slice mA mN mC, .agg #[.int .i64 x_0, .string x_1, .int .i64 x_2, .int .i64 x_3], .int .i64 at', .int .i64 i] w R) h)

/-! 11: chcsolver/chcsolverlaw02.awake (5240 ms) -/
def vc11  (w : World) (R : Value → World → Prop) : Prop :=
  Called Tryd.prog 16 #[Value.string { data := #[40, 102, 32, 49, 32, 50, 46, 53, 48, 41, 32, 59, 32, 120] : ByteArray }] w fun (v : Value) (w1 : World) =>
    ∃ (p : Option Addr),
      ∃ (k : Nat),
        ∃ (k1 : Nat),
          ∃ (n : Int),
            ∃ (n1 : Int),
              v = Value.tuple #[Value.slice p k k1, Value.int IntKind.i64 n, Value.int IntKind.i64 n1] ∧
                Called Tryd.prog 16 #[Value.string { data := #[40, 97, 41, 41] : ByteArray }] w1 fun (v1 : Value) (w2 : World) =>
                  ∃ (p1 : Option Addr),
                    ∃ (k2 : Nat),
                      ∃ (k3 : Nat),
                        ∃ (n2 : Int),
                          ∃ (n3 : Int),
                            v1 = Value.tuple #[Value.slice p1 k2 k3, Value.int IntKind.i64 n2, Value.int IntKind.i64 n3] ∧
                              ∀ (K : List Value → World → Prop),
                                (∀ (b : Bool), R (Value.bool b) w2 → K [Value.bool b] w2) →
                                  bif n1 == 0 && n == 0 then
                                    bif (↑k : Int) == 4 then
                                      ∃ (a : Addr),
                                        p = some a ∧
                                          ((0 : Int) ≤ 0 ∧ (0 : Int) < (↑k : Int)) ∧
                                            ∃ (n4 : Int),
                                              w2.cell? (a.add 2) = some (Value.int IntKind.i64 n4) ∧
                                                bif n4 == 3 then
                                                  ∃ (a1 : Addr),
                                                    p = some a1 ∧
                                                      ((0 : Int) ≤ 3 ∧ (3 : Int) < (↑k : Int)) ∧
                                                        ∃ (n5 : Int),
                                                          w2.cell? (a1.add 12) = some (Value.int IntKind.i64 n5) ∧
                                                            bif n5 == 3 then
                                                              ∃ (a2 : Addr),
                                                                p = some a2 ∧
                                                                  ((0 : Int) ≤ 3 ∧ (3 : Int) < (↑k : Int)) ∧
                                                                    ∃ (s : ByteArray),
                                                                      w2.cell? ((a2.add 12).add 1) = some (Value.string s) ∧
                                                                        bif s.toList == { data := #[50, 46, 53, 48] : ByteArray }.toList then
                                                                          ∃ (a3 : Addr),
                                                                            p = some a3 ∧
                                                                              ((0 : Int) ≤ 3 ∧ (3 : Int) < (↑k : Int)) ∧
                                                                                ∃ (n6 : Int), w2.cell? ((a3.add 12).add 3) = some (Value.int IntKind.i64 n6) ∧ K [Value.bool (n6 == 5 && n3 == 2 && n2 == 3)] w2
                                                                        else K [Value.bool (false && n3 == 2 && n2 == 3)] w2
                                                            else K [Value.bool (false && n3 == 2 && n2 == 3)] w2
                                                else K [Value.bool (false && n3 == 2 && n2 == 3)] w2
                                    else K [Value.bool (false && n3 == 2 && n2 == 3)] w2
                                  else K [Value.bool (false && n3 == 2 && n2 == 3)] w2

theorem run11  (w : World) (R : Value → World → Prop) (h : vc11 w R) : Ret Tryd.prog 11 #[] w R :=
  vfn_sound sxE_ok (args := []) Tryd.func11 (Eq.mp (by kernel_rfl : vc11 w R = vfn sxE Tryd.f11 [] w R) h)

/-! 12: chcsolver/chcsolverlaw02.parses (390 ms) -/
def vc12 (s : ByteArray) (w : World) (R : Value → World → Prop) : Prop :=
  Called Tryd.prog 16 #[Value.string s] w fun (v : Value) (w1 : World) =>
    ∃ (p : Option Addr),
      ∃ (k : Nat),
        ∃ (k1 : Nat),
          ∃ (n : Int),
            ∃ (n1 : Int),
              v = Value.tuple #[Value.slice p k k1, Value.int IntKind.i64 n, Value.int IntKind.i64 n1] ∧
                Called Tryd.prog 27 #[Value.string s] w1 fun (v1 : Value) (w2 : World) =>
                  ∃ (p1 : Option Addr),
                    ∃ (k2 : Nat),
                      ∃ (k3 : Nat),
                        ∃ (n2 : Int),
                          ∃ (n3 : Int),
                            v1 = Value.tuple #[Value.slice p1 k2 k3, Value.int IntKind.i64 n2, Value.int IntKind.i64 n3] ∧
                              ∀ (K : List Value → World → Prop),
                                (∀ (b : Bool) (w3 : World), R (Value.bool b) w3 → K [Value.bool b] w3) →
                                  bif n1 == n3 && n == n2 then Called Tryd.prog 17 #[Value.slice p k k1, Value.slice p1 k2 k3, Value.bool true] w2 fun (v2 : Value) (w4 : World) => ∃ (b1 : Bool), v2 = Value.bool b1 ∧ K [Value.bool b1] w4
                                  else K [Value.bool false] w2

theorem run12 (s : ByteArray) (w : World) (R : Value → World → Prop) (h : vc12 s w R) : Ret Tryd.prog 12 #[.string s] w R :=
  vfn_sound sxE_ok (args := [.string s]) Tryd.func12 (Eq.mp (by kernel_rfl : vc12 s w R = vfn sxE Tryd.f12 [.string s] w R) h)

/-! 13: chcsolver/chcsolverref01.FormatItems (1031 ms) -/
def vc13 (lA : Option Addr) (lN lC : Nat) (w : World) (R : Value → World → Prop) : Prop :=
  Called Tryd.prog 25 #[Value.slice lA lN lC] w fun (v : Value) (w1 : World) =>
    ∃ (p : Option Addr),
      ∃ (k : Nat),
        ∃ (k1 : Nat),
          v = Value.slice p k k1 ∧
            ∃ (I : List Value → World → Prop),
              ∃ (μ : List Value → World → Nat),
                I [Value.int IntKind.i64 0, Value.string { data := #[] : ByteArray }] w1 ∧
                  ∀ (n : Int) (s : ByteArray) (w2 : World),
                    I [Value.int IntKind.i64 n, Value.string s] w2 →
                      bif decide (n < (↑k : Int)) then
                        ∃ (a : Addr),
                          p = some a ∧
                            ((0 : Int) ≤ n ∧ n < (↑k : Int)) ∧
                              ∃ (n1 : Int),
                                w2.cell? (a.add (n.toNat * 1)) = some (Value.int IntKind.i64 n1) ∧
                                  Called Tryd.prog 28 #[Value.slice lA lN lC, Value.int IntKind.i64 n1] w2 fun (v1 : Value) (w3 : World) =>
                                    ∃ (s1 : ByteArray),
                                      v1 = Value.string s1 ∧
                                        s1.size + 1 ≤ 9223372036854775807 ∧
                                          s.size + (s1 ++ { data := #[10] : ByteArray }).size ≤ 9223372036854775807 ∧
                                            I [Value.int IntKind.i64 (IntKind.i64.wrap (n + 1)), Value.string (s ++ (s1 ++ { data := #[10] : ByteArray }))] w3 ∧
                                              μ [Value.int IntKind.i64 (IntKind.i64.wrap (n + 1)), Value.string (s ++ (s1 ++ { data := #[10] : ByteArray }))] w3 < μ [Value.int IntKind.i64 n, Value.string s] w2
                      else R (Value.string s) w2

theorem run13 (lA : Option Addr) (lN lC : Nat) (w : World) (R : Value → World → Prop) (h : vc13 lA lN lC w R) : Ret Tryd.prog 13 #[.slice lA lN lC] w R :=
  vfn_sound sxE_ok (args := [.slice lA lN lC]) Tryd.func13 (Eq.mp (by kernel_rfl : vc13 lA lN lC w R = vfn sxE Tryd.f13 [.slice lA lN lC] w R) h)

/-! 14: chcsolver/chcsolverlaw02.sequence (432 ms) -/
def vc14 (lA : Option Addr) (lN lC : Nat) (w : World) (R : Value → World → Prop) : Prop :=
  Called Tryd.prog 29 #[Value.slice lA lN lC] w fun (v : Value) (w1 : World) =>
    ∃ (a : Addr),
      v = Value.pointer (some a) ∧
        Called Tryd.prog 30 #[Value.pointer (some a), Value.int IntKind.i64 4] w1 fun (v1 : Value) (w2 : World) =>
          ∃ (n : Int),
            v1 = Value.int IntKind.i64 n ∧
              ∃ (I : List Value → World → Prop),
                ∃ (μ : List Value → World → Nat),
                  I [Value.int IntKind.i64 n, Value.slice none 0 0] w2 ∧
                    ∀ (n1 : Int) (p : Option Addr) (k k1 : Nat) (w3 : World),
                      I [Value.int IntKind.i64 n1, Value.slice p k k1] w3 →
                        bif decide (n1 > 0) then
                          Called Tryd.prog 31 #[Value.pointer (some a), Value.int IntKind.i64 4] w3 fun (v2 : Value) (w4 : World) =>
                            ∃ (p1 : Option Addr),
                              ∃ (k2 : Nat),
                                ∃ (k3 : Nat),
                                  v2 = Value.slice p1 k2 k3 ∧
                                    ∃ (k4 : Nat),
                                      ∃ (vs : List Value),
                                        ∃ (vs1 : List Value),
                                          AppOk w4 k4 34 4 40 p k k1 vs p1 k2 vs1 ∧
                                            ∀ (p2 : Option Addr) (k5 : Nat) (w5 : World),
                                              AppRes w4 w5 k4 34 4 p k k1 vs k2 vs1 p2 k5 →
                                                I [Value.int IntKind.i64 (IntKind.i64.wrap (n1 - 1)), Value.slice p2 (k + k2) k5] w5 ∧
                                                  μ [Value.int IntKind.i64 (IntKind.i64.wrap (n1 - 1)), Value.slice p2 (k + k2) k5] w5 < μ [Value.int IntKind.i64 n1, Value.slice p k k1] w3
                        else R (Value.slice p k k1) w3

theorem run14 (lA : Option Addr) (lN lC : Nat) (w : World) (R : Value → World → Prop) (h : vc14 lA lN lC w R) : Ret Tryd.prog 14 #[.slice lA lN lC] w R :=
  vfn_sound sxE_ok (args := [.slice lA lN lC]) Tryd.func14 (Eq.mp (by kernel_rfl : vc14 lA lN lC w R = vfn sxE Tryd.f14 [.slice lA lN lC] w R) h)

/-! 15: chcsolver/chcsolverlaw02.spoil (3748 ms) -/
def vc15 (s : ByteArray) (at' : Int) (b : Int) (how : Int) (w : World) (R : Value → World → Prop) : Prop :=
  Called Tryd.prog 18 #[Value.int IntKind.i64 at', Value.int IntKind.i64 (IntKind.i64.wrap ((↑s.size : Int) + 1))] w fun (v : Value) (w1 : World) =>
    ∃ (n : Int),
      v = Value.int IntKind.i64 n ∧
        ∀ (K : List Value → World → Prop),
          (∀ (w2 : World),
              (∀ (K1 : List Value → World → Prop),
                  (∀ (s1 : ByteArray) (w3 : World), R (Value.string s1) w3 → K1 [Value.string s1] w3) →
                    ((0 : Int) ≤ n ∧ n ≤ (↑s.size : Int)) ∧
                      ((0 : Int) ≤ n ∧ n ≤ (↑s.size : Int)) ∧
                        ∃ (vs : List UInt8),
                          BytesAt (w2.drew.alloc (Obj.cells #[Value.int IntKind.u8 b] 5)) (some { block := w2.drew.heap.size, off := 0 : Addr }) 1 vs ∧
                            (s.extract 0 n.toNat).size + { data := vs.toArray : ByteArray }.size ≤ 9223372036854775807 ∧
                              (s.extract 0 n.toNat ++ { data := vs.toArray : ByteArray }).size + (s.extract n.toNat s.size).size ≤ 9223372036854775807 ∧
                                K1 [Value.string (s.extract 0 n.toNat ++ { data := vs.toArray : ByteArray } ++ s.extract n.toNat s.size)] (w2.drew.alloc (Obj.cells #[Value.int IntKind.u8 b] 5))) →
                K [] w2) →
            Called Tryd.prog 18 #[Value.int IntKind.i64 how, Value.int IntKind.i64 3] w1 fun (v1 : Value) (w4 : World) =>
              ∃ (n1 : Int),
                v1 = Value.int IntKind.i64 n1 ∧
                  bif n1 == 0 then
                    bif decide (n < (↑s.size : Int)) then
                      ∀ (K2 : List Value → World → Prop),
                        (∀ (s2 : ByteArray) (w5 : World), R (Value.string s2) w5 → K2 [Value.string s2] w5) →
                          ((0 : Int) ≤ n ∧ n ≤ (↑s.size : Int)) ∧
                            ((0 : Int) ≤ IntKind.i64.wrap (n + 1) ∧ IntKind.i64.wrap (n + 1) ≤ (↑s.size : Int)) ∧
                              ∃ (vs1 : List UInt8),
                                BytesAt (w4.drew.alloc (Obj.cells #[Value.int IntKind.u8 b] 5)) (some { block := w4.drew.heap.size, off := 0 : Addr }) 1 vs1 ∧
                                  (s.extract 0 n.toNat).size + { data := vs1.toArray : ByteArray }.size ≤ 9223372036854775807 ∧
                                    (s.extract 0 n.toNat ++ { data := vs1.toArray : ByteArray }).size + (s.extract (IntKind.i64.wrap (n + 1)).toNat s.size).size ≤ 9223372036854775807 ∧
                                      K2 [Value.string (s.extract 0 n.toNat ++ { data := vs1.toArray : ByteArray } ++ s.extract (IntKind.i64.wrap (n + 1)).toNat s.size)] (w4.drew.alloc (Obj.cells #[Value.int IntKind.u8 b] 5))
                    else K [] w4
                  else
                    bif n1 == 1 then
                      bif decide (n < (↑s.size : Int)) then
                        ((0 : Int) ≤ n ∧ n ≤ (↑s.size : Int)) ∧
                          ((0 : Int) ≤ IntKind.i64.wrap (n + 1) ∧ IntKind.i64.wrap (n + 1) ≤ (↑s.size : Int)) ∧
                            (s.extract 0 n.toNat).size + (s.extract (IntKind.i64.wrap (n + 1)).toNat s.size).size ≤ 9223372036854775807 ∧ R (Value.string (s.extract 0 n.toNat ++ s.extract (IntKind.i64.wrap (n + 1)).toNat s.size)) w4.drew
                      else K [] w4
                    else K [] w4

theorem run15 (s : ByteArray) (at' : Int) (b : Int) (how : Int) (w : World) (R : Value → World → Prop) (h : vc15 s at' b how w R) : Ret Tryd.prog 15 #[.string s, .int .i64 at', .int .u8 b, .int .i64 how] w R :=
  vfn_sound sxE_ok (args := [.string s, .int .i64 at', .int .u8 b, .int .i64 how]) Tryd.func15 (Eq.mp (by kernel_rfl : vc15 s at' b how w R = vfn sxE Tryd.f15 [.string s, .int .i64 at', .int .u8 b, .int .i64 how] w R) h)

/-! 16: chcsolver/sexpr.Parse (1605 ms) -/
def vc16 (src : ByteArray) (w : World) (R : Value → World → Prop) : Prop :=
  bif decide ((↑src.size : Int) > 65536) then R (Value.tuple #[Value.slice none 0 0, Value.int IntKind.i64 0, Value.int IntKind.i64 6]) w
  else
    Called Tryd.prog 32 #[Value.pointer (some { block := w.heap.size, off := 0 : Addr })] (w.alloc (Obj.cells #[Value.string src, Value.int IntKind.i64 0, Value.slice none 0 0, Value.slice none 0 0] 55)) fun (v : Value) (w1 : World) =>
      v = Value.tuple #[] ∧
        ∃ (I : List Value → World → Prop),
          ∃ (μ : List Value → World → Nat),
            I [] w1 ∧
              ∀ (w2 : World),
                I [] w2 →
                  ∃ (n : Int),
                    w2.cell? { block := w.heap.size, off := 1 : Addr } = some (Value.int IntKind.i64 n) ∧
                      bif decide (n < (↑src.size : Int)) then
                        ∃ (n1 : Int),
                          w2.cell? { block := w.heap.size, off := 1 : Addr } = some (Value.int IntKind.i64 n1) ∧
                            Called Tryd.prog 33 #[Value.pointer (some { block := w.heap.size, off := 0 : Addr })] w2 fun (v1 : Value) (w3 : World) =>
                              ∃ (n2 : Int),
                                v1 = Value.int IntKind.i64 n2 ∧
                                  bif n2 != 0 then R (Value.tuple #[Value.slice none 0 0, Value.int IntKind.i64 n1, Value.int IntKind.i64 n2]) w3
                                  else Called Tryd.prog 32 #[Value.pointer (some { block := w.heap.size, off := 0 : Addr })] w3 fun (v2 : Value) (w4 : World) => v2 = Value.tuple #[] ∧ I [] w4 ∧ μ [] w4 < μ [] w2
                      else
                        ∃ (p : Option Addr),
                          ∃ (k : Nat),
                            ∃ (k1 : Nat),
                              w2.cell? { block := w.heap.size, off := 3 : Addr } = some (Value.slice p k k1) ∧
                                bif decide ((↑k : Int) > 0) then R (Value.tuple #[Value.slice none 0 0, Value.int IntKind.i64 (↑src.size : Int), Value.int IntKind.i64 2]) w2
                                else
                                  ∃ (p1 : Option Addr),
                                    ∃ (k2 : Nat), ∃ (k3 : Nat), w2.cell? { block := w.heap.size, off := 2 : Addr } = some (Value.slice p1 k2 k3) ∧ R (Value.tuple #[Value.slice p1 k2 k3, Value.int IntKind.i64 0, Value.int IntKind.i64 0]) w2

theorem run16 (src : ByteArray) (w : World) (R : Value → World → Prop) (h : vc16 src w R) : Ret Tryd.prog 16 #[.string src] w R :=
  vfn_sound sxE_ok (args := [.string src]) Tryd.func16 (Eq.mp (by kernel_rfl : vc16 src w R = vfn sxE Tryd.f16 [.string src] w R) h)

/-! 17: chcsolver/chcsolverlaw02.equal (9814 ms) -/
def vc17 (aA : Option Addr) (aN aC : Nat) (bA : Option Addr) (bN bC : Nat) (pos : Bool) (w : World) (R : Value → World → Prop) : Prop :=
  bif (↑aN : Int) != (↑bN : Int) then R (Value.bool false) w
  else
    ∃ (I : List Value → World → Prop),
      ∃ (μ : List Value → World → Nat),
        I [Value.int IntKind.i64 0] w ∧
          ∀ (n : Int) (w1 : World),
            I [Value.int IntKind.i64 n] w1 →
              bif decide (n < (↑aN : Int)) then
                ∀ (K : List Value → World → Prop),
                  (∀ (a a1 : Addr) (w2 : World),
                      (∀ (K1 : List Value → World → Prop),
                          (∀ (w3 : World),
                              (∃ (n1 : Int),
                                  ∃ (s : ByteArray),
                                    ∃ (n2 : Int),
                                      ∃ (n3 : Int),
                                        vcells w3 a 0 [Value.int IntKind.i64 n1, Value.string s, Value.int IntKind.i64 n2, Value.int IntKind.i64 n3] ∧
                                          ∃ (n4 : Int),
                                            ∃ (s1 : ByteArray),
                                              ∃ (n5 : Int),
                                                ∃ (n6 : Int),
                                                  vcells w3 a1 0 [Value.int IntKind.i64 n4, Value.string s1, Value.int IntKind.i64 n5, Value.int IntKind.i64 n6] ∧
                                                    bif !(n1 == n4 && (s == s1 && (n2 == n5 && (n3 == n6 && true)))) then R (Value.bool false) w3
                                                    else I [Value.int IntKind.i64 (IntKind.i64.wrap (n + 1))] w3 ∧ μ [Value.int IntKind.i64 (IntKind.i64.wrap (n + 1))] w3 < μ [Value.int IntKind.i64 n] w1) →
                                K1 [] w3) →
                            bif !pos then
                              ((∃ (v : Value), w2.cell? (a.add 3) = some v) ∧ w2.frozen? (a.add 3) = false) ∧
                                ((∃ (v1 : Value), (w2.setCell (a.add 3) (Value.int IntKind.i64 0)).cell? (a1.add 3) = some v1) ∧ (w2.setCell (a.add 3) (Value.int IntKind.i64 0)).frozen? (a1.add 3) = false) ∧
                                  K1 [] ((w2.setCell (a.add 3) (Value.int IntKind.i64 0)).setCell (a1.add 3) (Value.int IntKind.i64 0))
                            else K1 [] w2) →
                        K [Value.pointer (some a), Value.pointer (some a1)] w2) →
                    ∃ (a2 : Addr),
                      aA = some a2 ∧
                        ((0 : Int) ≤ n ∧ n < (↑aN : Int)) ∧
                          ∃ (n7 : Int),
                            ∃ (s2 : ByteArray),
                              ∃ (n8 : Int),
                                ∃ (n9 : Int),
                                  vcells w1.drew (a2.add (n.toNat * 4)) 0 [Value.int IntKind.i64 n7, Value.string s2, Value.int IntKind.i64 n8, Value.int IntKind.i64 n9] ∧
                                    ∃ (a3 : Addr),
                                      bA = some a3 ∧
                                        ((0 : Int) ≤ n ∧ n < (↑bN : Int)) ∧
                                          ∃ (n10 : Int),
                                            ∃ (s3 : ByteArray),
                                              ∃ (n11 : Int),
                                                ∃ (n12 : Int),
                                                  vcells w1.drew (a3.add (n.toNat * 4)) 0 [Value.int IntKind.i64 n10, Value.string s3, Value.int IntKind.i64 n11, Value.int IntKind.i64 n12] ∧
                                                    (RowKit.Below w1.drew.heap.size w1.drew
                                                          (w1.drew.alloc (Obj.cells #[Value.int IntKind.i64 0, Value.string { data := #[] : ByteArray }, Value.int IntKind.i64 0, Value.int IntKind.i64 0] 34)) ∧
                                                        RowKit.Below w1.drew.heap.size w1.drew
                                                            ((w1.drew.alloc (Obj.cells #[Value.int IntKind.i64 0, Value.string { data := #[] : ByteArray }, Value.int IntKind.i64 0, Value.int IntKind.i64 0] 34)).alloc
                                                              (Obj.cells #[Value.int IntKind.i64 0, Value.string { data := #[] : ByteArray }, Value.int IntKind.i64 0, Value.int IntKind.i64 0] 34)) ∧
                                                          writable
                                                              ((w1.drew.alloc (Obj.cells #[Value.int IntKind.i64 0, Value.string { data := #[] : ByteArray }, Value.int IntKind.i64 0, Value.int IntKind.i64 0] 34)).alloc
                                                                (Obj.cells #[Value.int IntKind.i64 0, Value.string { data := #[] : ByteArray }, Value.int IntKind.i64 0, Value.int IntKind.i64 0] 34))
                                                              { block := w1.drew.heap.size, off := 0 : Addr } 4 ∧
                                                            RowKit.Below w1.drew.heap.size w1.drew
                                                                (setCells
                                                                  ((w1.drew.alloc (Obj.cells #[Value.int IntKind.i64 0, Value.string { data := #[] : ByteArray }, Value.int IntKind.i64 0, Value.int IntKind.i64 0] 34)).alloc
                                                                    (Obj.cells #[Value.int IntKind.i64 0, Value.string { data := #[] : ByteArray }, Value.int IntKind.i64 0, Value.int IntKind.i64 0] 34))
                                                                  { block := w1.drew.heap.size, off := 0 : Addr } 0 [Value.int IntKind.i64 n7, Value.string s2, Value.int IntKind.i64 n8, Value.int IntKind.i64 n9]) ∧
                                                              writable
                                                                  (setCells
                                                                    ((w1.drew.alloc (Obj.cells #[Value.int IntKind.i64 0, Value.string { data := #[] : ByteArray }, Value.int IntKind.i64 0, Value.int IntKind.i64 0] 34)).alloc
                                                                      (Obj.cells #[Value.int IntKind.i64 0, Value.string { data := #[] : ByteArray }, Value.int IntKind.i64 0, Value.int IntKind.i64 0] 34))
                                                                    { block := w1.drew.heap.size, off := 0 : Addr } 0 [Value.int IntKind.i64 n7, Value.string s2, Value.int IntKind.i64 n8, Value.int IntKind.i64 n9])
                                                                  { block := (w1.drew.alloc (Obj.cells #[Value.int IntKind.i64 0, Value.string { data := #[] : ByteArray }, Value.int IntKind.i64 0, Value.int IntKind.i64 0] 34)).heap.size,
                                                                    off := 0 : Addr }
                                                                  4 ∧
                                                                K
                                                                  [Value.pointer (some { block := w1.drew.heap.size, off := 0 : Addr }),
                                                                    Value.pointer
                                                                      (some
                                                                        {
                                                                          block :=
                                                                            (w1.drew.alloc (Obj.cells #[Value.int IntKind.i64 0, Value.string { data := #[] : ByteArray }, Value.int IntKind.i64 0, Value.int IntKind.i64 0] 34)).heap.size,
                                                                          off := 0 : Addr })]
                                                                  (setCells
                                                                    (setCells
                                                                      ((w1.drew.alloc (Obj.cells #[Value.int IntKind.i64 0, Value.string { data := #[] : ByteArray }, Value.int IntKind.i64 0, Value.int IntKind.i64 0] 34)).alloc
                                                                        (Obj.cells #[Value.int IntKind.i64 0, Value.string { data := #[] : ByteArray }, Value.int IntKind.i64 0, Value.int IntKind.i64 0] 34))
                                                                      { block := w1.drew.heap.size, off := 0 : Addr } 0 [Value.int IntKind.i64 n7, Value.string s2, Value.int IntKind.i64 n8, Value.int IntKind.i64 n9])
                                                                    { block := (w1.drew.alloc (Obj.cells #[Value.int IntKind.i64 0, Value.string { data := #[] : ByteArray }, Value.int IntKind.i64 0, Value.int IntKind.i64 0] 34)).heap.size,
                                                                      off := 0 : Addr }
                                                                    0 [Value.int IntKind.i64 n10, Value.string s3, Value.int IntKind.i64 n11, Value.int IntKind.i64 n12])) ∧
                                                      RowKit.Below w1.drew.heap.size w1.drew
                                                          (w1.drew.alloc (Obj.cells #[Value.int IntKind.i64 0, Value.string { data := #[] : ByteArray }, Value.int IntKind.i64 0, Value.int IntKind.i64 0] 34)) ∧
                                                        RowKit.Below w1.drew.heap.size w1.drew
                                                            ((w1.drew.alloc (Obj.cells #[Value.int IntKind.i64 0, Value.string { data := #[] : ByteArray }, Value.int IntKind.i64 0, Value.int IntKind.i64 0] 34)).alloc
                                                              (Obj.cells #[Value.int IntKind.i64 0, Value.string { data := #[] : ByteArray }, Value.int IntKind.i64 0, Value.int IntKind.i64 0] 34)) ∧
                                                          writable
                                                              ((w1.drew.alloc (Obj.cells #[Value.int IntKind.i64 0, Value.string { data := #[] : ByteArray }, Value.int IntKind.i64 0, Value.int IntKind.i64 0] 34)).alloc
                                                                (Obj.cells #[Value.int IntKind.i64 0, Value.string { data := #[] : ByteArray }, Value.int IntKind.i64 0, Value.int IntKind.i64 0] 34))
                                                              { block := (w1.drew.alloc (Obj.cells #[Value.int IntKind.i64 0, Value.string { data := #[] : ByteArray }, Value.int IntKind.i64 0, Value.int IntKind.i64 0] 34)).heap.size,
                                                                off := 0 : Addr }
                                                              4 ∧
                                                            RowKit.Below w1.drew.heap.size w1.drew
                                                                (setCells
                                                                  ((w1.drew.alloc (Obj.cells #[Value.int IntKind.i64 0, Value.string { data := #[] : ByteArray }, Value.int IntKind.i64 0, Value.int IntKind.i64 0] 34)).alloc
                                                                    (Obj.cells #[Value.int IntKind.i64 0, Value.string { data := #[] : ByteArray }, Value.int IntKind.i64 0, Value.int IntKind.i64 0] 34))
                                                                  { block := (w1.drew.alloc (Obj.cells #[Value.int IntKind.i64 0, Value.string { data := #[] : ByteArray }, Value.int IntKind.i64 0, Value.int IntKind.i64 0] 34)).heap.size,
                                                                    off := 0 : Addr }
                                                                  0 [Value.int IntKind.i64 n7, Value.string s2, Value.int IntKind.i64 n8, Value.int IntKind.i64 n9]) ∧
                                                              writable
                                                                  (setCells
                                                                    ((w1.drew.alloc (Obj.cells #[Value.int IntKind.i64 0, Value.string { data := #[] : ByteArray }, Value.int IntKind.i64 0, Value.int IntKind.i64 0] 34)).alloc
                                                                      (Obj.cells #[Value.int IntKind.i64 0, Value.string { data := #[] : ByteArray }, Value.int IntKind.i64 0, Value.int IntKind.i64 0] 34))
                                                                    { block := (w1.drew.alloc (Obj.cells #[Value.int IntKind.i64 0, Value.string { data := #[] : ByteArray }, Value.int IntKind.i64 0, Value.int IntKind.i64 0] 34)).heap.size,
                                                                      off := 0 : Addr }
                                                                    0 [Value.int IntKind.i64 n7, Value.string s2, Value.int IntKind.i64 n8, Value.int IntKind.i64 n9])
                                                                  { block := w1.drew.heap.size, off := 0 : Addr } 4 ∧
                                                                K
                                                                  [Value.pointer
                                                                      (some
                                                                        {
                                                                          block :=
                                                                            (w1.drew.alloc (Obj.cells #[Value.int IntKind.i64 0, Value.string { data := #[] : ByteArray }, Value.int IntKind.i64 0, Value.int IntKind.i64 0] 34)).heap.size,
                                                                          off := 0 : Addr }),
                                                                    Value.pointer (some { block := w1.drew.heap.size, off := 0 : Addr })]
                                                                  (setCells
                                                                    (setCells
                                                                      ((w1.drew.alloc (Obj.cells #[Value.int IntKind.i64 0, Value.string { data := #[] : ByteArray }, Value.int IntKind.i64 0, Value.int IntKind.i64 0] 34)).alloc
                                                                        (Obj.cells #[Value.int IntKind.i64 0, Value.string { data := #[] : ByteArray }, Value.int IntKind.i64 0, Value.int IntKind.i64 0] 34))
                                                                      { block := (w1.drew.alloc (Obj.cells #[Value.int IntKind.i64 0, Value.string { data := #[] : ByteArray }, Value.int IntKind.i64 0, Value.int IntKind.i64 0] 34)).heap.size,
                                                                        off := 0 : Addr }
                                                                      0 [Value.int IntKind.i64 n7, Value.string s2, Value.int IntKind.i64 n8, Value.int IntKind.i64 n9])
                                                                    { block := w1.drew.heap.size, off := 0 : Addr } 0 [Value.int IntKind.i64 n10, Value.string s3, Value.int IntKind.i64 n11, Value.int IntKind.i64 n12])
              else R (Value.bool true) w1

theorem run17 (aA : Option Addr) (aN aC : Nat) (bA : Option Addr) (bN bC : Nat) (pos : Bool) (w : World) (R : Value → World → Prop) (h : vc17 aA aN aC bA bN bC pos w R) : Ret Tryd.prog 17 #[.slice aA aN aC, .slice bA bN bC, .bool pos] w R :=
  vfn_sound sxE_ok (args := [.slice aA aN aC, .slice bA bN bC, .bool pos]) Tryd.func17 (Eq.mp (by kernel_rfl : vc17 aA aN aC bA bN bC pos w R = vfn sxE Tryd.f17 [.slice aA aN aC, .slice bA bN bC, .bool pos] w R) h)

/-! 18: chcsolver/chcsolvergen.Mod (205 ms) -/
def vc18 (v : Int) (n : Int) (w : World) (R : Value → World → Prop) : Prop :=
  bif decide (IntKind.u64.wrap n = 0) then False else R (Value.int IntKind.i64 (IntKind.i64.wrap ((IntKind.u64.wrap v).tmod (IntKind.u64.wrap n)))) w

theorem run18 (v : Int) (n : Int) (w : World) (R : Value → World → Prop) (h : vc18 v n w R) : Ret Tryd.prog 18 #[.int .i64 v, .int .i64 n] w R :=
  vfn_sound sxE_ok (args := [.int .i64 v, .int .i64 n]) Tryd.func18 (Eq.mp (by kernel_rfl : vc18 v n w R = vfn sxE Tryd.f18 [.int .i64 v, .int .i64 n] w R) h)

/-! 19: chcsolver/sexpr.Valid (14422 ms) -/
def vc19 (lA : Option Addr) (lN lC : Nat) (w : World) (R : Value → World → Prop) : Prop :=
  ∃ (I : List Value → World → Prop),
    ∃ (μ : List Value → World → Nat),
      I [Value.int IntKind.i64 0, Value.slice none 0 0] w ∧
        ∀ (n : Int) (p : Option Addr) (k k1 : Nat) (w1 : World),
          I [Value.int IntKind.i64 n, Value.slice p k k1] w1 →
            bif decide (n < (↑lN : Int)) then
              ∃ (a : Addr),
                lA = some a ∧
                  ((0 : Int) ≤ n ∧ n < (↑lN : Int)) ∧
                    ∃ (n1 : Int),
                      ∃ (s : ByteArray),
                        ∃ (n2 : Int),
                          ∃ (n3 : Int),
                            vcells w1 (a.add (n.toNat * 4)) 0 [Value.int IntKind.i64 n1, Value.string s, Value.int IntKind.i64 n2, Value.int IntKind.i64 n3] ∧
                              writable (w1.alloc (Obj.cells #[Value.int IntKind.i64 0, Value.string { data := #[] : ByteArray }, Value.int IntKind.i64 0, Value.int IntKind.i64 0] 34)) { block := w1.heap.size, off := 0 : Addr } 4 ∧
                                ∃ (I1 : List Value → World → Prop),
                                  ∃ (μ1 : List Value → World → Nat),
                                    I1 [Value.slice p k k1]
                                        (setCells (w1.alloc (Obj.cells #[Value.int IntKind.i64 0, Value.string { data := #[] : ByteArray }, Value.int IntKind.i64 0, Value.int IntKind.i64 0] 34)) { block := w1.heap.size, off := 0 : Addr } 0
                                          [Value.int IntKind.i64 n1, Value.string s, Value.int IntKind.i64 n2, Value.int IntKind.i64 n3]) ∧
                                      ∀ (p1 : Option Addr) (k2 k3 : Nat) (w2 : World),
                                        I1 [Value.slice p1 k2 k3] w2 →
                                          ∀ (K : List Value → World → Prop),
                                            (∀ (b : Bool),
                                                (bif b then
                                                    ((0 : Int) ≤ IntKind.i64.wrap ((↑k2 : Int) - 1) ∧ IntKind.i64.wrap ((↑k2 : Int) - 1) ≤ (↑k3 : Int)) ∧
                                                      I1 [Value.slice p1 (IntKind.i64.wrap ((↑k2 : Int) - 1)).toNat k3] w2 ∧ μ1 [Value.slice p1 (IntKind.i64.wrap ((↑k2 : Int) - 1)).toNat k3] w2 < μ1 [Value.slice p1 k2 k3] w2
                                                  else
                                                    ∀ (K1 : List Value → World → Prop),
                                                      (∀ (b1 : Bool) (w3 : World),
                                                          (bif b1 then R (Value.bool false) w3
                                                            else
                                                              ∀ (K2 : List Value → World → Prop),
                                                                (∀ (w4 : World),
                                                                    (∃ (n4 : Int),
                                                                        w4.cell? { block := w1.heap.size, off := 0 : Addr } = some (Value.int IntKind.i64 n4) ∧
                                                                          bif n4 == 5 then
                                                                            ∃ (n5 : Int),
                                                                              w4.cell? { block := w1.heap.size, off := 2 : Addr } = some (Value.int IntKind.i64 n5) ∧
                                                                                ∃ (k4 : Nat),
                                                                                  ∃ (vs : List Value),
                                                                                    ∃ (vs1 : List Value),
                                                                                      AppOk (w4.alloc (Obj.cells #[Value.int IntKind.i64 n5] 3)) k4 3 1 8 p1 k2 k3 vs (some { block := w4.heap.size, off := 0 : Addr }) 1 vs1 ∧
                                                                                        ∀ (p2 : Option Addr) (k5 : Nat) (w5 : World),
                                                                                          AppRes (w4.alloc (Obj.cells #[Value.int IntKind.i64 n5] 3)) w5 k4 3 1 p1 k2 k3 vs 1 vs1 p2 k5 →
                                                                                            I [Value.int IntKind.i64 (IntKind.i64.wrap (n + 1)), Value.slice p2 (k2 + 1) k5] w5 ∧
                                                                                              μ [Value.int IntKind.i64 (IntKind.i64.wrap (n + 1)), Value.slice p2 (k2 + 1) k5] w5 < μ [Value.int IntKind.i64 n, Value.slice p k k1] w1
                                                                          else
                                                                            I [Value.int IntKind.i64 (IntKind.i64.wrap (n + 1)), Value.slice p1 k2 k3] w4 ∧
                                                                              μ [Value.int IntKind.i64 (IntKind.i64.wrap (n + 1)), Value.slice p1 k2 k3] w4 < μ [Value.int IntKind.i64 n, Value.slice p k k1] w1) →
                                                                      K2 [] w4) →
                                                                  bif decide ((↑k2 : Int) > 0) then
                                                                    ∃ (a1 : Addr),
                                                                      p1 = some a1 ∧
                                                                        ((0 : Int) ≤ IntKind.i64.wrap ((↑k2 : Int) - 1) ∧ IntKind.i64.wrap ((↑k2 : Int) - 1) < (↑k2 : Int)) ∧
                                                                          ∃ (n6 : Int),
                                                                            w3.cell? (a1.add ((IntKind.i64.wrap ((↑k2 : Int) - 1)).toNat * 1)) = some (Value.int IntKind.i64 n6) ∧
                                                                              ∃ (a2 : Addr),
                                                                                p1 = some a2 ∧
                                                                                  ((0 : Int) ≤ IntKind.i64.wrap ((↑k2 : Int) - 1) ∧ IntKind.i64.wrap ((↑k2 : Int) - 1) < (↑k2 : Int)) ∧
                                                                                    ((∃ (v : Value), w3.cell? (a2.add ((IntKind.i64.wrap ((↑k2 : Int) - 1)).toNat * 1)) = some v) ∧
                                                                                        w3.frozen? (a2.add ((IntKind.i64.wrap ((↑k2 : Int) - 1)).toNat * 1)) = false) ∧
                                                                                      K2 [] (w3.setCell (a2.add ((IntKind.i64.wrap ((↑k2 : Int) - 1)).toNat * 1)) (Value.int IntKind.i64 (IntKind.i64.wrap (n6 - 1))))
                                                                  else K2 [] w3) →
                                                            K1 [Value.bool b1] w3) →
                                                        bif decide ((↑k2 : Int) > 256) then K1 [Value.bool true] w2
                                                        else
                                                          ∃ (n7 : Int),
                                                            ∃ (s1 : ByteArray),
                                                              ∃ (n8 : Int),
                                                                ∃ (n9 : Int),
                                                                  vcells w2 { block := w1.heap.size, off := 0 : Addr } 0 [Value.int IntKind.i64 n7, Value.string s1, Value.int IntKind.i64 n8, Value.int IntKind.i64 n9] ∧
                                                                    Called Tryd.prog 34 #[Value.agg #[Value.int IntKind.i64 n7, Value.string s1, Value.int IntKind.i64 n8, Value.int IntKind.i64 n9]] w2 fun (v1 : Value) (w6 : World) =>
                                                                      ∃ (b2 : Bool), v1 = Value.bool b2 ∧ K1 [Value.bool !b2] w6) →
                                                  K [Value.bool b] w2) →
                                              bif decide ((↑k2 : Int) > 0) then
                                                ∃ (a3 : Addr),
                                                  p1 = some a3 ∧
                                                    ((0 : Int) ≤ IntKind.i64.wrap ((↑k2 : Int) - 1) ∧ IntKind.i64.wrap ((↑k2 : Int) - 1) < (↑k2 : Int)) ∧
                                                      ∃ (n10 : Int), w2.cell? (a3.add ((IntKind.i64.wrap ((↑k2 : Int) - 1)).toNat * 1)) = some (Value.int IntKind.i64 n10) ∧ K [Value.bool (n10 == 0)] w2
                                              else K [Value.bool false] w2
            else
              ∃ (I2 : List Value → World → Prop),
                ∃ (μ2 : List Value → World → Nat),
                  I2 [Value.int IntKind.i64 0] w1 ∧
                    ∀ (n11 : Int) (w7 : World),
                      I2 [Value.int IntKind.i64 n11] w7 →
                        bif decide (n11 < (↑k : Int)) then
                          ∃ (a4 : Addr),
                            p = some a4 ∧
                              ((0 : Int) ≤ n11 ∧ n11 < (↑k : Int)) ∧
                                ∃ (n12 : Int),
                                  w7.cell? (a4.add (n11.toNat * 1)) = some (Value.int IntKind.i64 n12) ∧
                                    bif decide (n12 > 0) then R (Value.bool false) w7
                                    else I2 [Value.int IntKind.i64 (IntKind.i64.wrap (n11 + 1))] w7 ∧ μ2 [Value.int IntKind.i64 (IntKind.i64.wrap (n11 + 1))] w7 < μ2 [Value.int IntKind.i64 n11] w7
                        else R (Value.bool true) w7

theorem run19 (lA : Option Addr) (lN lC : Nat) (w : World) (R : Value → World → Prop) (h : vc19 lA lN lC w R) : Ret Tryd.prog 19 #[.slice lA lN lC] w R :=
  vfn_sound sxE_ok (args := [.slice lA lN lC]) Tryd.func19 (Eq.mp (by kernel_rfl : vc19 lA lN lC w R = vfn sxE Tryd.f19 [.slice lA lN lC] w R) h)

/-! 20: chcsolver/sexpr.Roots (451 ms) -/
def vc20 (lA : Option Addr) (lN lC : Nat) (w : World) (R : Value → World → Prop) : Prop :=
  Called Tryd.prog 19 #[Value.slice lA lN lC] w fun (v : Value) (w1 : World) =>
    ∃ (b : Bool),
      v = Value.bool b ∧
        bif !b then R (Value.slice none 0 0) w1
        else
          ∃ (I : List Value → World → Prop),
            ∃ (μ : List Value → World → Nat),
              I [Value.int IntKind.i64 0, Value.slice none 0 0] w1 ∧
                ∀ (n : Int) (p : Option Addr) (k k1 : Nat) (w2 : World),
                  I [Value.int IntKind.i64 n, Value.slice p k k1] w2 →
                    bif decide (n < (↑lN : Int)) then
                      ∃ (k2 : Nat),
                        ∃ (vs : List Value),
                          ∃ (vs1 : List Value),
                            AppOk (w2.alloc (Obj.cells #[Value.int IntKind.i64 n] 3)) k2 3 1 8 p k k1 vs (some { block := w2.heap.size, off := 0 : Addr }) 1 vs1 ∧
                              ∀ (p1 : Option Addr) (k3 : Nat) (w3 : World),
                                AppRes (w2.alloc (Obj.cells #[Value.int IntKind.i64 n] 3)) w3 k2 3 1 p k k1 vs 1 vs1 p1 k3 →
                                  Called Tryd.prog 35 #[Value.slice lA lN lC, Value.int IntKind.i64 n] w3 fun (v1 : Value) (w4 : World) =>
                                    ∃ (n1 : Int),
                                      v1 = Value.int IntKind.i64 n1 ∧ I [Value.int IntKind.i64 n1, Value.slice p1 (k + 1) k3] w4 ∧ μ [Value.int IntKind.i64 n1, Value.slice p1 (k + 1) k3] w4 < μ [Value.int IntKind.i64 n, Value.slice p k k1] w2
                    else R (Value.slice p k k1) w2

theorem run20 (lA : Option Addr) (lN lC : Nat) (w : World) (R : Value → World → Prop) (h : vc20 lA lN lC w R) : Ret Tryd.prog 20 #[.slice lA lN lC] w R :=
  vfn_sound sxE_ok (args := [.slice lA lN lC]) Tryd.func20 (Eq.mp (by kernel_rfl : vc20 lA lN lC w R = vfn sxE Tryd.f20 [.slice lA lN lC] w R) h)

/-! 21: chcsolver/sexpr.Children (2098 ms) -/
def vc21 (lA : Option Addr) (lN lC : Nat) (i : Int) (w : World) (R : Value → World → Prop) : Prop :=
  ∀ (K : List Value → World → Prop),
    (∀ (b : Bool) (w1 : World),
        (bif b then R (Value.slice none 0 0) w1
          else
            ∃ (a : Addr),
              lA = some a ∧
                ((0 : Int) ≤ i ∧ i < (↑lN : Int)) ∧
                  ∃ (n : Int),
                    w1.cell? ((a.add (i.toNat * 4)).add 2) = some (Value.int IntKind.i64 n) ∧
                      ∃ (I : List Value → World → Prop),
                        ∃ (μ : List Value → World → Nat),
                          I [Value.int IntKind.i64 0, Value.int IntKind.i64 (IntKind.i64.wrap (i + 1)), Value.slice none 0 0] w1 ∧
                            ∀ (n1 n2 : Int) (p : Option Addr) (k k1 : Nat) (w2 : World),
                              I [Value.int IntKind.i64 n1, Value.int IntKind.i64 n2, Value.slice p k k1] w2 →
                                bif decide (n1 < n) then
                                  ∃ (k2 : Nat),
                                    ∃ (vs : List Value),
                                      ∃ (vs1 : List Value),
                                        AppOk (w2.alloc (Obj.cells #[Value.int IntKind.i64 n2] 3)) k2 3 1 8 p k k1 vs (some { block := w2.heap.size, off := 0 : Addr }) 1 vs1 ∧
                                          ∀ (p1 : Option Addr) (k3 : Nat) (w3 : World),
                                            AppRes (w2.alloc (Obj.cells #[Value.int IntKind.i64 n2] 3)) w3 k2 3 1 p k k1 vs 1 vs1 p1 k3 →
                                              Called Tryd.prog 35 #[Value.slice lA lN lC, Value.int IntKind.i64 n2] w3 fun (v : Value) (w4 : World) =>
                                                ∃ (n3 : Int),
                                                  v = Value.int IntKind.i64 n3 ∧
                                                    I [Value.int IntKind.i64 (IntKind.i64.wrap (n1 + 1)), Value.int IntKind.i64 n3, Value.slice p1 (k + 1) k3] w4 ∧
                                                      μ [Value.int IntKind.i64 (IntKind.i64.wrap (n1 + 1)), Value.int IntKind.i64 n3, Value.slice p1 (k + 1) k3] w4 <
                                                        μ [Value.int IntKind.i64 n1, Value.int IntKind.i64 n2, Value.slice p k k1] w2
                                else R (Value.slice p k k1) w2) →
          K [Value.bool b] w1) →
      Called Tryd.prog 19 #[Value.slice lA lN lC] w fun (v1 : Value) (w5 : World) => ∃ (b1 : Bool), v1 = Value.bool b1 ∧ bif !b1 || decide (i < 0) then K [Value.bool true] w5 else K [Value.bool (decide (i ≥ (↑lN : Int)))] w5

theorem run21 (lA : Option Addr) (lN lC : Nat) (i : Int) (w : World) (R : Value → World → Prop) (h : vc21 lA lN lC i w R) : Ret Tryd.prog 21 #[.slice lA lN lC, .int .i64 i] w R :=
  vfn_sound sxE_ok (args := [.slice lA lN lC, .int .i64 i]) Tryd.func21 (Eq.mp (by kernel_rfl : vc21 lA lN lC i w R = vfn sxE Tryd.f21 [.slice lA lN lC, .int .i64 i] w R) h)

/-! 22: chcsolver/sexpr.Format (1318 ms) -/
def vc22 (lA : Option Addr) (lN lC : Nat) (w : World) (R : Value → World → Prop) : Prop :=
  Called Tryd.prog 20 #[Value.slice lA lN lC] (w.alloc (Obj.cells #[Value.pointer none, Value.slice none 0 0] 62)) fun (v : Value) (w1 : World) =>
    ∃ (p : Option Addr),
      ∃ (k : Nat),
        ∃ (k1 : Nat),
          v = Value.slice p k k1 ∧
            ∃ (I : List Value → World → Prop),
              ∃ (μ : List Value → World → Nat),
                I [Value.int IntKind.i64 0] w1 ∧
                  ∀ (n : Int) (w2 : World),
                    I [Value.int IntKind.i64 n] w2 →
                      bif decide (n < (↑k : Int)) then
                        ∃ (a : Addr),
                          p = some a ∧
                            ((0 : Int) ≤ n ∧ n < (↑k : Int)) ∧
                              ∃ (n1 : Int),
                                w2.cell? (a.add (n.toNat * 1)) = some (Value.int IntKind.i64 n1) ∧
                                  Called Tryd.prog 36 #[Value.pointer (some { block := w.heap.size, off := 0 : Addr }), Value.slice lA lN lC, Value.int IntKind.i64 n1] w2 fun (v1 : Value) (w3 : World) =>
                                    v1 = Value.tuple #[] ∧
                                      Called Tryd.prog 37 #[Value.pointer (some { block := w.heap.size, off := 0 : Addr }), Value.int IntKind.u8 10] w3 fun (v2 : Value) (w4 : World) =>
                                        ∃ (v3 : Value), v2 = v3 ∧ I [Value.int IntKind.i64 (IntKind.i64.wrap (n + 1))] w4 ∧ μ [Value.int IntKind.i64 (IntKind.i64.wrap (n + 1))] w4 < μ [Value.int IntKind.i64 n] w2
                      else Called Tryd.prog 38 #[Value.pointer (some { block := w.heap.size, off := 0 : Addr })] w2 fun (v4 : Value) (w5 : World) => ∃ (s : ByteArray), v4 = Value.string s ∧ R (Value.string s) w5

theorem run22 (lA : Option Addr) (lN lC : Nat) (w : World) (R : Value → World → Prop) (h : vc22 lA lN lC w R) : Ret Tryd.prog 22 #[.slice lA lN lC] w R :=
  vfn_sound sxE_ok (args := [.slice lA lN lC]) Tryd.func22 (Eq.mp (by kernel_rfl : vc22 lA lN lC w R = vfn sxE Tryd.f22 [.slice lA lN lC] w R) h)

/-! 23: chcsolver/chcsolverref01.ValidItems (199 ms) -/
def vc23 (lA : Option Addr) (lN lC : Nat) (w : World) (R : Value → World → Prop) : Prop :=
  ∃ (I : List Value → World → Prop),
    ∃ (μ : List Value → World → Nat),
      I [Value.int IntKind.i64 0] w ∧
        ∀ (n : Int) (w1 : World),
          I [Value.int IntKind.i64 n] w1 →
            bif decide (n < (↑lN : Int)) then
              Called Tryd.prog 39 #[Value.slice lA lN lC, Value.int IntKind.i64 n, Value.int IntKind.i64 0] w1 fun (v : Value) (w2 : World) =>
                ∃ (n1 : Int), v = Value.int IntKind.i64 n1 ∧ bif decide (n1 < 0) then R (Value.bool false) w2 else I [Value.int IntKind.i64 n1] w2 ∧ μ [Value.int IntKind.i64 n1] w2 < μ [Value.int IntKind.i64 n] w1
            else R (Value.bool true) w1

theorem run23 (lA : Option Addr) (lN lC : Nat) (w : World) (R : Value → World → Prop) (h : vc23 lA lN lC w R) : Ret Tryd.prog 23 #[.slice lA lN lC] w R :=
  vfn_sound sxE_ok (args := [.slice lA lN lC]) Tryd.func23 (Eq.mp (by kernel_rfl : vc23 lA lN lC w R = vfn sxE Tryd.f23 [.slice lA lN lC] w R) h)

/-! 24: chcsolver/chcsolverlaw02.ints (1755 ms) -/
def vc24 (aA : Option Addr) (aN aC : Nat) (bA : Option Addr) (bN bC : Nat) (w : World) (R : Value → World → Prop) : Prop :=
  bif (↑aN : Int) != (↑bN : Int) then R (Value.bool false) w
  else
    ∃ (I : List Value → World → Prop),
      ∃ (μ : List Value → World → Nat),
        I [Value.int IntKind.i64 0] w ∧
          ∀ (n : Int) (w1 : World),
            I [Value.int IntKind.i64 n] w1 →
              bif decide (n < (↑aN : Int)) then
                ∃ (a : Addr),
                  aA = some a ∧
                    ((0 : Int) ≤ n ∧ n < (↑aN : Int)) ∧
                      ∃ (n1 : Int),
                        w1.drew.cell? (a.add (n.toNat * 1)) = some (Value.int IntKind.i64 n1) ∧
                          ∃ (a1 : Addr),
                            bA = some a1 ∧
                              ((0 : Int) ≤ n ∧ n < (↑bN : Int)) ∧
                                ∃ (n2 : Int),
                                  w1.drew.cell? (a1.add (n.toNat * 1)) = some (Value.int IntKind.i64 n2) ∧
                                    bif n1 != n2 then R (Value.bool false) w1.drew
                                    else I [Value.int IntKind.i64 (IntKind.i64.wrap (n + 1))] w1.drew ∧ μ [Value.int IntKind.i64 (IntKind.i64.wrap (n + 1))] w1.drew < μ [Value.int IntKind.i64 n] w1
              else R (Value.bool true) w1

theorem run24 (aA : Option Addr) (aN aC : Nat) (bA : Option Addr) (bN bC : Nat) (w : World) (R : Value → World → Prop) (h : vc24 aA aN aC bA bN bC w R) : Ret Tryd.prog 24 #[.slice aA aN aC, .slice bA bN bC] w R :=
  vfn_sound sxE_ok (args := [.slice aA aN aC, .slice bA bN bC]) Tryd.func24 (Eq.mp (by kernel_rfl : vc24 aA aN aC bA bN bC w R = vfn sxE Tryd.f24 [.slice aA aN aC, .slice bA bN bC] w R) h)

/-! 25: chcsolver/chcsolverref01.Roots (521 ms) -/
def vc25 (lA : Option Addr) (lN lC : Nat) (w : World) (R : Value → World → Prop) : Prop :=
  Called Tryd.prog 23 #[Value.slice lA lN lC] w fun (v : Value) (w1 : World) =>
    ∃ (b : Bool),
      v = Value.bool b ∧
        bif !b then R (Value.slice none 0 0) w1
        else
          ∃ (I : List Value → World → Prop),
            ∃ (μ : List Value → World → Nat),
              I [Value.int IntKind.i64 0, Value.slice none 0 0] w1 ∧
                ∀ (n : Int) (p : Option Addr) (k k1 : Nat) (w2 : World),
                  I [Value.int IntKind.i64 n, Value.slice p k k1] w2 →
                    bif decide (n < (↑lN : Int)) then
                      ∃ (k2 : Nat),
                        ∃ (vs : List Value),
                          ∃ (vs1 : List Value),
                            AppOk (w2.alloc (Obj.cells #[Value.int IntKind.i64 n] 3)) k2 3 1 8 p k k1 vs (some { block := w2.heap.size, off := 0 : Addr }) 1 vs1 ∧
                              ∀ (p1 : Option Addr) (k3 : Nat) (w3 : World),
                                AppRes (w2.alloc (Obj.cells #[Value.int IntKind.i64 n] 3)) w3 k2 3 1 p k k1 vs 1 vs1 p1 k3 →
                                  Called Tryd.prog 39 #[Value.slice lA lN lC, Value.int IntKind.i64 n, Value.int IntKind.i64 0] w3 fun (v1 : Value) (w4 : World) =>
                                    ∃ (n1 : Int),
                                      v1 = Value.int IntKind.i64 n1 ∧ I [Value.int IntKind.i64 n1, Value.slice p1 (k + 1) k3] w4 ∧ μ [Value.int IntKind.i64 n1, Value.slice p1 (k + 1) k3] w4 < μ [Value.int IntKind.i64 n, Value.slice p k k1] w2
                    else R (Value.slice p k k1) w2

theorem run25 (lA : Option Addr) (lN lC : Nat) (w : World) (R : Value → World → Prop) (h : vc25 lA lN lC w R) : Ret Tryd.prog 25 #[.slice lA lN lC] w R :=
  vfn_sound sxE_ok (args := [.slice lA lN lC]) Tryd.func25 (Eq.mp (by kernel_rfl : vc25 lA lN lC w R = vfn sxE Tryd.f25 [.slice lA lN lC] w R) h)

/-! 26: chcsolver/chcsolverref01.ChildItems (736 ms) -/
def vc26 (lA : Option Addr) (lN lC : Nat) (i : Int) (w : World) (R : Value → World → Prop) : Prop :=
  ∀ (K : List Value → World → Prop),
    (∀ (b : Bool) (w1 : World),
        (bif b then R (Value.slice none 0 0) w1
          else Called Tryd.prog 40 #[Value.slice lA lN lC, Value.int IntKind.i64 i] w1 fun (v : Value) (w2 : World) => ∃ (p : Option Addr), ∃ (k : Nat), ∃ (k1 : Nat), v = Value.slice p k k1 ∧ R (Value.slice p k k1) w2) →
          K [Value.bool b] w1) →
      bif decide (i < 0) then K [Value.bool true] w
      else bif decide (i ≥ (↑lN : Int)) then K [Value.bool true] w else Called Tryd.prog 23 #[Value.slice lA lN lC] w fun (v1 : Value) (w3 : World) => ∃ (b1 : Bool), v1 = Value.bool b1 ∧ K [Value.bool !b1] w3

theorem run26 (lA : Option Addr) (lN lC : Nat) (i : Int) (w : World) (R : Value → World → Prop) (h : vc26 lA lN lC i w R) : Ret Tryd.prog 26 #[.slice lA lN lC, .int .i64 i] w R :=
  vfn_sound sxE_ok (args := [.slice lA lN lC, .int .i64 i]) Tryd.func26 (Eq.mp (by kernel_rfl : vc26 lA lN lC i w R = vfn sxE Tryd.f26 [.slice lA lN lC, .int .i64 i] w R) h)

/-! 27: chcsolver/chcsolverref01.ParseItems (76721 ms) -/
def vc27 (src : ByteArray) (w : World) (R : Value → World → Prop) : Prop :=
  bif decide ((↑src.size : Int) > 65536) then R (Value.tuple #[Value.slice none 0 0, Value.int IntKind.i64 0, Value.int IntKind.i64 6]) w
  else
    ∃ (I : List Value → World → Prop),
      ∃ (μ : List Value → World → Nat),
        I [Value.int IntKind.i64 0, Value.slice none 0 0, Value.slice none 0 0] w ∧
          ∀ (n : Int) (p : Option Addr) (k k1 : Nat) (p1 : Option Addr) (k2 k3 : Nat) (w1 : World),
            I [Value.int IntKind.i64 n, Value.slice p k k1, Value.slice p1 k2 k3] w1 →
              bif decide (n < (↑src.size : Int)) then
                ((0 : Int) ≤ n ∧ n < (↑src.size : Int)) ∧
                  writable (w1.alloc (Obj.cells #[Value.int IntKind.i64 0, Value.string { data := #[] : ByteArray }, Value.int IntKind.i64 0, Value.int IntKind.i64 0] 34)) { block := w1.heap.size, off := 0 : Addr } 4 ∧
                    ∀ (K : List Value → World → Prop),
                      (∀ (n1 : Int) (w2 : World),
                          (bif decide ((↑k : Int) > 256) then R (Value.tuple #[Value.slice none 0 0, Value.int IntKind.i64 n, Value.int IntKind.i64 6]) w2
                            else
                              ∀ (K1 : List Value → World → Prop),
                                (∀ (w3 : World),
                                    (∃ (n2 : Int),
                                        ∃ (s : ByteArray),
                                          ∃ (n3 : Int),
                                            ∃ (n4 : Int),
                                              vcells w3 { block := w1.heap.size, off := 0 : Addr } 0 [Value.int IntKind.i64 n2, Value.string s, Value.int IntKind.i64 n3, Value.int IntKind.i64 n4] ∧
                                                ∃ (k4 : Nat),
                                                  ∃ (vs : List Value),
                                                    ∃ (vs1 : List Value),
                                                      AppOk (w3.alloc (Obj.cells #[Value.int IntKind.i64 n2, Value.string s, Value.int IntKind.i64 n3, Value.int IntKind.i64 n4] 34)) k4 34 4 40 p1 k2 k3 vs
                                                          (some { block := w3.heap.size, off := 0 : Addr }) 1 vs1 ∧
                                                        ∀ (p2 : Option Addr) (k5 : Nat) (w4 : World),
                                                          AppRes (w3.alloc (Obj.cells #[Value.int IntKind.i64 n2, Value.string s, Value.int IntKind.i64 n3, Value.int IntKind.i64 n4] 34)) w4 k4 34 4 p1 k2 k3 vs 1 vs1 p2 k5 →
                                                            ∃ (n5 : Int),
                                                              w4.cell? { block := w1.heap.size, off := 0 : Addr } = some (Value.int IntKind.i64 n5) ∧
                                                                bif n5 == 5 then
                                                                  ((0 : Int) ≤ (↑k : Int) ∧ (↑k : Int) ≤ (↑k : Int) ∧ (↑k : Int) ≤ (↑k1 : Int)) ∧
                                                                    ∃ (k6 : Nat),
                                                                      ∃ (vs2 : List Value),
                                                                        ∃ (vs3 : List Value),
                                                                          AppOk (w4.alloc (Obj.cells #[Value.int IntKind.i64 (IntKind.i64.wrap ((↑(k2 + 1) : Int) - 1))] 3)) k6 3 1 8 p (↑k : Int).toNat (↑k : Int).toNat vs2
                                                                              (some { block := w4.heap.size, off := 0 : Addr }) 1 vs3 ∧
                                                                            ∀ (p3 : Option Addr) (k7 : Nat) (w5 : World),
                                                                              AppRes (w4.alloc (Obj.cells #[Value.int IntKind.i64 (IntKind.i64.wrap ((↑(k2 + 1) : Int) - 1))] 3)) w5 k6 3 1 p (↑k : Int).toNat (↑k : Int).toNat vs2 1 vs3 p3 k7 →
                                                                                I [Value.int IntKind.i64 n1, Value.slice p3 ((↑k : Int).toNat + 1) k7, Value.slice p2 (k2 + 1) k5] w5 ∧
                                                                                  μ [Value.int IntKind.i64 n1, Value.slice p3 ((↑k : Int).toNat + 1) k7, Value.slice p2 (k2 + 1) k5] w5 <
                                                                                    μ [Value.int IntKind.i64 n, Value.slice p k k1, Value.slice p1 k2 k3] w1
                                                                else
                                                                  I [Value.int IntKind.i64 n1, Value.slice p k k1, Value.slice p2 (k2 + 1) k5] w4 ∧
                                                                    μ [Value.int IntKind.i64 n1, Value.slice p k k1, Value.slice p2 (k2 + 1) k5] w4 < μ [Value.int IntKind.i64 n, Value.slice p k k1, Value.slice p1 k2 k3] w1) →
                                      K1 [] w3) →
                                  bif decide ((↑k : Int) > 0) then
                                    ∃ (a : Addr),
                                      p = some a ∧
                                        ((0 : Int) ≤ IntKind.i64.wrap ((↑k : Int) - 1) ∧ IntKind.i64.wrap ((↑k : Int) - 1) < (↑k : Int)) ∧
                                          ∃ (n6 : Int),
                                            w2.cell? (a.add ((IntKind.i64.wrap ((↑k : Int) - 1)).toNat * 1)) = some (Value.int IntKind.i64 n6) ∧
                                              ∃ (a1 : Addr),
                                                p1 = some a1 ∧
                                                  ((0 : Int) ≤ n6 ∧ n6 < (↑k2 : Int)) ∧
                                                    ∃ (n7 : Int),
                                                      w2.cell? ((a1.add (n6.toNat * 4)).add 2) = some (Value.int IntKind.i64 n7) ∧
                                                        ∃ (a2 : Addr),
                                                          p1 = some a2 ∧
                                                            ((0 : Int) ≤ n6 ∧ n6 < (↑k2 : Int)) ∧
                                                              ((∃ (v : Value), w2.cell? ((a2.add (n6.toNat * 4)).add 2) = some v) ∧ w2.frozen? ((a2.add (n6.toNat * 4)).add 2) = false) ∧
                                                                K1 [] (w2.setCell ((a2.add (n6.toNat * 4)).add 2) (Value.int IntKind.i64 (IntKind.i64.wrap (n7 + 1))))
                                  else K1 [] w2) →
                            K [Value.int IntKind.i64 n1] w2) →
                        bif bt src n == 32 || bt src n == 9 || bt src n == 13 || bt src n == 10 then
                          I [Value.int IntKind.i64 (IntKind.i64.wrap (n + 1)), Value.slice p k k1, Value.slice p1 k2 k3]
                              (setCells (w1.alloc (Obj.cells #[Value.int IntKind.i64 0, Value.string { data := #[] : ByteArray }, Value.int IntKind.i64 0, Value.int IntKind.i64 0] 34)) { block := w1.heap.size, off := 0 : Addr } 0
                                [Value.int IntKind.i64 0, Value.string { data := #[] : ByteArray }, Value.int IntKind.i64 0, Value.int IntKind.i64 n]) ∧
                            μ [Value.int IntKind.i64 (IntKind.i64.wrap (n + 1)), Value.slice p k k1, Value.slice p1 k2 k3]
                                (setCells (w1.alloc (Obj.cells #[Value.int IntKind.i64 0, Value.string { data := #[] : ByteArray }, Value.int IntKind.i64 0, Value.int IntKind.i64 0] 34)) { block := w1.heap.size, off := 0 : Addr } 0
                                  [Value.int IntKind.i64 0, Value.string { data := #[] : ByteArray }, Value.int IntKind.i64 0, Value.int IntKind.i64 n]) <
                              μ [Value.int IntKind.i64 n, Value.slice p k k1, Value.slice p1 k2 k3] w1
                        else
                          bif bt src n == 59 then
                            ∃ (I1 : List Value → World → Prop),
                              ∃ (μ1 : List Value → World → Nat),
                                I1 [Value.int IntKind.i64 n]
                                    (setCells (w1.alloc (Obj.cells #[Value.int IntKind.i64 0, Value.string { data := #[] : ByteArray }, Value.int IntKind.i64 0, Value.int IntKind.i64 0] 34)) { block := w1.heap.size, off := 0 : Addr } 0
                                      [Value.int IntKind.i64 0, Value.string { data := #[] : ByteArray }, Value.int IntKind.i64 0, Value.int IntKind.i64 n]) ∧
                                  ∀ (n8 : Int) (w6 : World),
                                    I1 [Value.int IntKind.i64 n8] w6 →
                                      ∀ (K2 : List Value → World → Prop),
                                        (∀ (b : Bool),
                                            (bif b then I1 [Value.int IntKind.i64 (IntKind.i64.wrap (n8 + 1))] w6 ∧ μ1 [Value.int IntKind.i64 (IntKind.i64.wrap (n8 + 1))] w6 < μ1 [Value.int IntKind.i64 n8] w6
                                              else
                                                I [Value.int IntKind.i64 n8, Value.slice p k k1, Value.slice p1 k2 k3] w6 ∧
                                                  μ [Value.int IntKind.i64 n8, Value.slice p k k1, Value.slice p1 k2 k3] w6 < μ [Value.int IntKind.i64 n, Value.slice p k k1, Value.slice p1 k2 k3] w1) →
                                              K2 [Value.bool b] w6) →
                                          bif decide (n8 < (↑src.size : Int)) then ((0 : Int) ≤ n8 ∧ n8 < (↑src.size : Int)) ∧ K2 [Value.bool (bt src n8 != 10)] w6 else K2 [Value.bool false] w6
                          else
                            bif bt src n == 41 then
                              bif (↑k : Int) == 0 then
                                R (Value.tuple #[Value.slice none 0 0, Value.int IntKind.i64 n, Value.int IntKind.i64 2])
                                  (setCells (w1.alloc (Obj.cells #[Value.int IntKind.i64 0, Value.string { data := #[] : ByteArray }, Value.int IntKind.i64 0, Value.int IntKind.i64 0] 34)) { block := w1.heap.size, off := 0 : Addr } 0
                                    [Value.int IntKind.i64 0, Value.string { data := #[] : ByteArray }, Value.int IntKind.i64 0, Value.int IntKind.i64 n])
                              else
                                ((0 : Int) ≤ IntKind.i64.wrap ((↑k : Int) - 1) ∧ IntKind.i64.wrap ((↑k : Int) - 1) ≤ (↑k1 : Int)) ∧
                                  I [Value.int IntKind.i64 (IntKind.i64.wrap (n + 1)), Value.slice p (IntKind.i64.wrap ((↑k : Int) - 1)).toNat k1, Value.slice p1 k2 k3]
                                      (setCells (w1.alloc (Obj.cells #[Value.int IntKind.i64 0, Value.string { data := #[] : ByteArray }, Value.int IntKind.i64 0, Value.int IntKind.i64 0] 34)) { block := w1.heap.size, off := 0 : Addr } 0
                                        [Value.int IntKind.i64 0, Value.string { data := #[] : ByteArray }, Value.int IntKind.i64 0, Value.int IntKind.i64 n]) ∧
                                    μ [Value.int IntKind.i64 (IntKind.i64.wrap (n + 1)), Value.slice p (IntKind.i64.wrap ((↑k : Int) - 1)).toNat k1, Value.slice p1 k2 k3]
                                        (setCells (w1.alloc (Obj.cells #[Value.int IntKind.i64 0, Value.string { data := #[] : ByteArray }, Value.int IntKind.i64 0, Value.int IntKind.i64 0] 34)) { block := w1.heap.size, off := 0 : Addr } 0
                                          [Value.int IntKind.i64 0, Value.string { data := #[] : ByteArray }, Value.int IntKind.i64 0, Value.int IntKind.i64 n]) <
                                      μ [Value.int IntKind.i64 n, Value.slice p k k1, Value.slice p1 k2 k3] w1
                            else
                              bif bt src n == 40 then
                                ((∃ (v1 : Value),
                                      (setCells (w1.alloc (Obj.cells #[Value.int IntKind.i64 0, Value.string { data := #[] : ByteArray }, Value.int IntKind.i64 0, Value.int IntKind.i64 0] 34)) { block := w1.heap.size, off := 0 : Addr } 0
                                              [Value.int IntKind.i64 0, Value.string { data := #[] : ByteArray }, Value.int IntKind.i64 0, Value.int IntKind.i64 n]).cell?
                                          { block := w1.heap.size, off := 0 : Addr } =
                                        some v1) ∧
                                    (setCells (w1.alloc (Obj.cells #[Value.int IntKind.i64 0, Value.string { data := #[] : ByteArray }, Value.int IntKind.i64 0, Value.int IntKind.i64 0] 34)) { block := w1.heap.size, off := 0 : Addr } 0
                                            [Value.int IntKind.i64 0, Value.string { data := #[] : ByteArray }, Value.int IntKind.i64 0, Value.int IntKind.i64 n]).frozen?
                                        { block := w1.heap.size, off := 0 : Addr } =
                                      false) ∧
                                  K [Value.int IntKind.i64 (IntKind.i64.wrap (n + 1))]
                                    ((setCells (w1.alloc (Obj.cells #[Value.int IntKind.i64 0, Value.string { data := #[] : ByteArray }, Value.int IntKind.i64 0, Value.int IntKind.i64 0] 34)) { block := w1.heap.size, off := 0 : Addr } 0
                                          [Value.int IntKind.i64 0, Value.string { data := #[] : ByteArray }, Value.int IntKind.i64 0, Value.int IntKind.i64 n]).setCell
                                      { block := w1.heap.size, off := 0 : Addr } (Value.int IntKind.i64 5))
                              else
                                bif bt src n == 34 then
                                  Called Tryd.prog 41 #[Value.string src, Value.int IntKind.i64 n]
                                    (setCells (w1.alloc (Obj.cells #[Value.int IntKind.i64 0, Value.string { data := #[] : ByteArray }, Value.int IntKind.i64 0, Value.int IntKind.i64 0] 34)) { block := w1.heap.size, off := 0 : Addr } 0
                                      [Value.int IntKind.i64 0, Value.string { data := #[] : ByteArray }, Value.int IntKind.i64 0, Value.int IntKind.i64 n])
                                    fun (v2 : Value) (w7 : World) =>
                                    ∃ (s1 : ByteArray),
                                      ∃ (n9 : Int),
                                        v2 = Value.tuple #[Value.string s1, Value.int IntKind.i64 n9] ∧
                                          bif decide (n9 < 0) then R (Value.tuple #[Value.slice none 0 0, Value.int IntKind.i64 n, Value.int IntKind.i64 2]) w7
                                          else
                                            ((∃ (v3 : Value), w7.cell? { block := w1.heap.size, off := 0 : Addr } = some v3) ∧ w7.frozen? { block := w1.heap.size, off := 0 : Addr } = false) ∧
                                              ((∃ (v4 : Value), (w7.setCell { block := w1.heap.size, off := 0 : Addr } (Value.int IntKind.i64 4)).cell? { block := w1.heap.size, off := 1 : Addr } = some v4) ∧
                                                  (w7.setCell { block := w1.heap.size, off := 0 : Addr } (Value.int IntKind.i64 4)).frozen? { block := w1.heap.size, off := 1 : Addr } = false) ∧
                                                K [Value.int IntKind.i64 n9] ((w7.setCell { block := w1.heap.size, off := 0 : Addr } (Value.int IntKind.i64 4)).setCell { block := w1.heap.size, off := 1 : Addr } (Value.string s1))
                                else
                                  Called Tryd.prog 42 #[Value.int IntKind.u8 (bt src n)]
                                    (setCells (w1.alloc (Obj.cells #[Value.int IntKind.i64 0, Value.string { data := #[] : ByteArray }, Value.int IntKind.i64 0, Value.int IntKind.i64 0] 34)) { block := w1.heap.size, off := 0 : Addr } 0
                                      [Value.int IntKind.i64 0, Value.string { data := #[] : ByteArray }, Value.int IntKind.i64 0, Value.int IntKind.i64 n])
                                    fun (v5 : Value) (w8 : World) =>
                                    ∃ (b1 : Bool),
                                      v5 = Value.bool b1 ∧
                                        bif b1 then
                                          ∃ (I2 : List Value → World → Prop),
                                            ∃ (μ2 : List Value → World → Nat),
                                              I2 [Value.int IntKind.i64 n] w8 ∧
                                                ∀ (n10 : Int) (w9 : World),
                                                  I2 [Value.int IntKind.i64 n10] w9 →
                                                    ∀ (K3 : List Value → World → Prop),
                                                      (∀ (b2 : Bool) (w10 : World),
                                                          (bif b2 then I2 [Value.int IntKind.i64 (IntKind.i64.wrap (n10 + 1))] w10 ∧ μ2 [Value.int IntKind.i64 (IntKind.i64.wrap (n10 + 1))] w10 < μ2 [Value.int IntKind.i64 n10] w9
                                                            else
                                                              ∀ (K4 : List Value → World → Prop),
                                                                (∀ (w11 : World),
                                                                    (∃ (n11 : Int),
                                                                        w11.cell? { block := w1.heap.size, off := 0 : Addr } = some (Value.int IntKind.i64 n11) ∧
                                                                          bif n11 == 0 then R (Value.tuple #[Value.slice none 0 0, Value.int IntKind.i64 n, Value.int IntKind.i64 2]) w11 else K [Value.int IntKind.i64 n10] w11) →
                                                                      K4 [] w11) →
                                                                  ((0 : Int) ≤ n ∧ n ≤ n10 ∧ n10 ≤ (↑src.size : Int)) ∧
                                                                    ((0 : Int) ≤ n ∧ n ≤ n10 ∧ n10 ≤ (↑src.size : Int)) ∧
                                                                      Called Tryd.prog 43 #[Value.string (src.extract n.toNat n10.toNat)] w10.drew fun (v6 : Value) (w12 : World) =>
                                                                        ∃ (n12 : Int),
                                                                          v6 = Value.int IntKind.i64 n12 ∧
                                                                            ((∃ (v7 : Value), w12.cell? { block := w1.heap.size, off := 0 : Addr } = some v7) ∧ w12.frozen? { block := w1.heap.size, off := 0 : Addr } = false) ∧
                                                                              ((∃ (v8 : Value), (w12.setCell { block := w1.heap.size, off := 0 : Addr } (Value.int IntKind.i64 n12)).cell? { block := w1.heap.size, off := 1 : Addr } = some v8) ∧
                                                                                  (w12.setCell { block := w1.heap.size, off := 0 : Addr } (Value.int IntKind.i64 n12)).frozen? { block := w1.heap.size, off := 1 : Addr } = false) ∧
                                                                                K4 []
                                                                                  ((w12.setCell { block := w1.heap.size, off := 0 : Addr } (Value.int IntKind.i64 n12)).setCell { block := w1.heap.size, off := 1 : Addr }
                                                                                    (Value.string (src.extract n.toNat n10.toNat)))) →
                                                            K3 [Value.bool b2] w10) →
                                                        bif decide (n10 < (↑src.size : Int)) then
                                                          ((0 : Int) ≤ n10 ∧ n10 < (↑src.size : Int)) ∧
                                                            Called Tryd.prog 42 #[Value.int IntKind.u8 (bt src n10)] w9 fun (v9 : Value) (w13 : World) => ∃ (b3 : Bool), v9 = Value.bool b3 ∧ K3 [Value.bool b3] w13
                                                        else K3 [Value.bool false] w9
                                        else R (Value.tuple #[Value.slice none 0 0, Value.int IntKind.i64 n, Value.int IntKind.i64 2]) w8
              else
                bif decide ((↑k : Int) > 0) then R (Value.tuple #[Value.slice none 0 0, Value.int IntKind.i64 (↑src.size : Int), Value.int IntKind.i64 2]) w1
                else R (Value.tuple #[Value.slice p1 k2 k3, Value.int IntKind.i64 0, Value.int IntKind.i64 0]) w1

theorem run27 (src : ByteArray) (w : World) (R : Value → World → Prop) (h : vc27 src w R) : Ret Tryd.prog 27 #[.string src] w R :=
  vfn_sound sxE_ok (args := [.string src]) Tryd.func27 (Eq.mp (by kernel_rfl : vc27 src w R = vfn sxE Tryd.f27 [.string src] w R) h)

/-! 28: chcsolver/chcsolverref01.formatItem (7348 ms) -/
def vc28 (lA : Option Addr) (lN lC : Nat) (i : Int) (w : World) (R : Value → World → Prop) : Prop :=
  ∃ (a : Addr),
    lA = some a ∧
      ((0 : Int) ≤ i ∧ i < (↑lN : Int)) ∧
        ∃ (n : Int),
          ∃ (s : ByteArray),
            ∃ (n1 : Int),
              ∃ (n2 : Int),
                vcells w (a.add (i.toNat * 4)) 0 [Value.int IntKind.i64 n, Value.string s, Value.int IntKind.i64 n1, Value.int IntKind.i64 n2] ∧
                  writable (w.alloc (Obj.cells #[Value.int IntKind.i64 0, Value.string { data := #[] : ByteArray }, Value.int IntKind.i64 0, Value.int IntKind.i64 0] 34)) { block := w.heap.size, off := 0 : Addr } 4 ∧
                    ∃ (n3 : Int),
                      (setCells (w.alloc (Obj.cells #[Value.int IntKind.i64 0, Value.string { data := #[] : ByteArray }, Value.int IntKind.i64 0, Value.int IntKind.i64 0] 34)) { block := w.heap.size, off := 0 : Addr } 0
                                [Value.int IntKind.i64 n, Value.string s, Value.int IntKind.i64 n1, Value.int IntKind.i64 n2]).cell?
                            { block := w.heap.size, off := 0 : Addr } =
                          some (Value.int IntKind.i64 n3) ∧
                        bif n3 == 4 then
                          ∃ (I : List Value → World → Prop),
                            ∃ (μ : List Value → World → Nat),
                              I [Value.int IntKind.i64 0, Value.string { data := #[] : ByteArray }]
                                  (setCells (w.alloc (Obj.cells #[Value.int IntKind.i64 0, Value.string { data := #[] : ByteArray }, Value.int IntKind.i64 0, Value.int IntKind.i64 0] 34)) { block := w.heap.size, off := 0 : Addr } 0
                                    [Value.int IntKind.i64 n, Value.string s, Value.int IntKind.i64 n1, Value.int IntKind.i64 n2]) ∧
                                ∀ (n4 : Int) (s1 : ByteArray) (w1 : World),
                                  I [Value.int IntKind.i64 n4, Value.string s1] w1 →
                                    ∃ (s2 : ByteArray),
                                      w1.cell? { block := w.heap.size, off := 1 : Addr } = some (Value.string s2) ∧
                                        bif decide (n4 < (↑s2.size : Int)) then
                                          ∃ (s3 : ByteArray),
                                            w1.cell? { block := w.heap.size, off := 1 : Addr } = some (Value.string s3) ∧
                                              ((0 : Int) ≤ n4 ∧ n4 ≤ IntKind.i64.wrap (n4 + 1) ∧ IntKind.i64.wrap (n4 + 1) ≤ (↑s3.size : Int)) ∧
                                                s1.size + (s3.extract n4.toNat (IntKind.i64.wrap (n4 + 1)).toNat).size ≤ 9223372036854775807 ∧
                                                  ∃ (s4 : ByteArray),
                                                    w1.cell? { block := w.heap.size, off := 1 : Addr } = some (Value.string s4) ∧
                                                      ((0 : Int) ≤ n4 ∧ n4 < (↑s4.size : Int)) ∧
                                                        bif bt s4 n4 == 34 then
                                                          (s1 ++ s3.extract n4.toNat (IntKind.i64.wrap (n4 + 1)).toNat).size + 1 ≤ 9223372036854775807 ∧
                                                            I [Value.int IntKind.i64 (IntKind.i64.wrap (n4 + 1)), Value.string (s1 ++ s3.extract n4.toNat (IntKind.i64.wrap (n4 + 1)).toNat ++ { data := #[34] : ByteArray })] w1 ∧
                                                              μ [Value.int IntKind.i64 (IntKind.i64.wrap (n4 + 1)), Value.string (s1 ++ s3.extract n4.toNat (IntKind.i64.wrap (n4 + 1)).toNat ++ { data := #[34] : ByteArray })] w1 <
                                                                μ [Value.int IntKind.i64 n4, Value.string s1] w1
                                                        else
                                                          I [Value.int IntKind.i64 (IntKind.i64.wrap (n4 + 1)), Value.string (s1 ++ s3.extract n4.toNat (IntKind.i64.wrap (n4 + 1)).toNat)] w1 ∧
                                                            μ [Value.int IntKind.i64 (IntKind.i64.wrap (n4 + 1)), Value.string (s1 ++ s3.extract n4.toNat (IntKind.i64.wrap (n4 + 1)).toNat)] w1 <
                                                              μ [Value.int IntKind.i64 n4, Value.string s1] w1
                                        else 1 + s1.size ≤ 9223372036854775807 ∧ ({ data := #[34] : ByteArray } ++ s1).size + 1 ≤ 9223372036854775807 ∧ R (Value.string ({ data := #[34] : ByteArray } ++ s1 ++ { data := #[34] : ByteArray })) w1
                        else
                          bif n3 == 5 then
                            Called Tryd.prog 40 #[Value.slice lA lN lC, Value.int IntKind.i64 i]
                              (setCells (w.alloc (Obj.cells #[Value.int IntKind.i64 0, Value.string { data := #[] : ByteArray }, Value.int IntKind.i64 0, Value.int IntKind.i64 0] 34)) { block := w.heap.size, off := 0 : Addr } 0
                                [Value.int IntKind.i64 n, Value.string s, Value.int IntKind.i64 n1, Value.int IntKind.i64 n2])
                              fun (v : Value) (w2 : World) =>
                              ∃ (p : Option Addr),
                                ∃ (k : Nat),
                                  ∃ (k1 : Nat),
                                    v = Value.slice p k k1 ∧
                                      ∃ (I1 : List Value → World → Prop),
                                        ∃ (μ1 : List Value → World → Nat),
                                          I1 [Value.int IntKind.i64 0, Value.string { data := #[] : ByteArray }] w2 ∧
                                            ∀ (n5 : Int) (s5 : ByteArray) (w3 : World),
                                              I1 [Value.int IntKind.i64 n5, Value.string s5] w3 →
                                                bif decide (n5 < (↑k : Int)) then
                                                  ∀ (K : List Value → World → Prop),
                                                    (∀ (s6 : ByteArray),
                                                        (∃ (a1 : Addr),
                                                            p = some a1 ∧
                                                              ((0 : Int) ≤ n5 ∧ n5 < (↑k : Int)) ∧
                                                                ∃ (n6 : Int),
                                                                  w3.cell? (a1.add (n5.toNat * 1)) = some (Value.int IntKind.i64 n6) ∧
                                                                    Called Tryd.prog 28 #[Value.slice lA lN lC, Value.int IntKind.i64 n6] w3 fun (v1 : Value) (w4 : World) =>
                                                                      ∃ (s7 : ByteArray),
                                                                        v1 = Value.string s7 ∧
                                                                          s6.size + s7.size ≤ 9223372036854775807 ∧
                                                                            I1 [Value.int IntKind.i64 (IntKind.i64.wrap (n5 + 1)), Value.string (s6 ++ s7)] w4 ∧
                                                                              μ1 [Value.int IntKind.i64 (IntKind.i64.wrap (n5 + 1)), Value.string (s6 ++ s7)] w4 < μ1 [Value.int IntKind.i64 n5, Value.string s5] w3) →
                                                          K [Value.string s6] w3) →
                                                      bif decide (n5 > 0) then s5.size + 1 ≤ 9223372036854775807 ∧ K [Value.string (s5 ++ { data := #[32] : ByteArray })] w3 else K [Value.string s5] w3
                                                else
                                                  1 + s5.size ≤ 9223372036854775807 ∧
                                                    ({ data := #[40] : ByteArray } ++ s5).size + 1 ≤ 9223372036854775807 ∧ R (Value.string ({ data := #[40] : ByteArray } ++ s5 ++ { data := #[41] : ByteArray })) w3
                          else
                            ∃ (s8 : ByteArray),
                              (setCells (w.alloc (Obj.cells #[Value.int IntKind.i64 0, Value.string { data := #[] : ByteArray }, Value.int IntKind.i64 0, Value.int IntKind.i64 0] 34)) { block := w.heap.size, off := 0 : Addr } 0
                                        [Value.int IntKind.i64 n, Value.string s, Value.int IntKind.i64 n1, Value.int IntKind.i64 n2]).cell?
                                    { block := w.heap.size, off := 1 : Addr } =
                                  some (Value.string s8) ∧
                                R (Value.string s8)
                                  (setCells (w.alloc (Obj.cells #[Value.int IntKind.i64 0, Value.string { data := #[] : ByteArray }, Value.int IntKind.i64 0, Value.int IntKind.i64 0] 34)) { block := w.heap.size, off := 0 : Addr } 0
                                    [Value.int IntKind.i64 n, Value.string s, Value.int IntKind.i64 n1, Value.int IntKind.i64 n2])

theorem run28 (lA : Option Addr) (lN lC : Nat) (i : Int) (w : World) (R : Value → World → Prop) (h : vc28 lA lN lC i w R) : Ret Tryd.prog 28 #[.slice lA lN lC, .int .i64 i] w R :=
  vfn_sound sxE_ok (args := [.slice lA lN lC, .int .i64 i]) Tryd.func28 (Eq.mp (by kernel_rfl : vc28 lA lN lC i w R = vfn sxE Tryd.f28 [.slice lA lN lC, .int .i64 i] w R) h)

/-! 29: chcsolver/chcsolvergen.New (209 ms) -/
def vc29 (lA : Option Addr) (lN lC : Nat) (w : World) (R : Value → World → Prop) : Prop :=
  (((0 : Int) ≤ if 400 < (↑lN : Int) then 400 else (↑lN : Int)) ∧ (if 400 < (↑lN : Int) then 400 else (↑lN : Int)) ≤ (↑lC : Int)) ∧
    R (Value.pointer (some { block := w.heap.size, off := 0 : Addr })) (w.alloc (Obj.cells #[Value.slice lA (if 400 < (↑lN : Int) then 400 else (↑lN : Int)).toNat lC, Value.int IntKind.i64 0] 74))

theorem run29 (lA : Option Addr) (lN lC : Nat) (w : World) (R : Value → World → Prop) (h : vc29 lA lN lC w R) : Ret Tryd.prog 29 #[.slice lA lN lC] w R :=
  vfn_sound sxE_ok (args := [.slice lA lN lC]) Tryd.func29 (Eq.mp (by kernel_rfl : vc29 lA lN lC w R = vfn sxE Tryd.f29 [.slice lA lN lC] w R) h)

/-! 30: (*chcsolver/chcsolvergen.Choices).Next (6489 ms) -/
def vc30 (c : Addr) (n : Int) (w : World) (R : Value → World → Prop) : Prop :=
  ∃ (n1 : Int),
    w.drew.cell? (c.add 1) = some (Value.int IntKind.i64 n1) ∧
      ∃ (p : Option Addr),
        ∃ (k : Nat),
          ∃ (k1 : Nat),
            w.drew.cell? c = some (Value.slice p k k1) ∧
              bif decide (n1 ≥ (↑k : Int)) then R (Value.int IntKind.i64 0) w.drew
              else
                ∃ (n2 : Int),
                  w.drew.cell? (c.add 1) = some (Value.int IntKind.i64 n2) ∧
                    ((∃ (v : Value), w.drew.cell? (c.add 1) = some v) ∧ w.drew.frozen? (c.add 1) = false) ∧
                      ∃ (p1 : Option Addr),
                        ∃ (k2 : Nat),
                          ∃ (k3 : Nat),
                            (w.drew.setCell (c.add 1) (Value.int IntKind.i64 (IntKind.i64.wrap (n2 + 1)))).drew.cell? c = some (Value.slice p1 k2 k3) ∧
                              ∃ (n3 : Int),
                                (w.drew.setCell (c.add 1) (Value.int IntKind.i64 (IntKind.i64.wrap (n2 + 1)))).drew.cell? (c.add 1) = some (Value.int IntKind.i64 n3) ∧
                                  ∃ (a : Addr),
                                    p1 = some a ∧
                                      ((0 : Int) ≤ IntKind.i64.wrap (n3 - 1) ∧ IntKind.i64.wrap (n3 - 1) < (↑k2 : Int)) ∧
                                        ∃ (n4 : Int),
                                          (w.drew.setCell (c.add 1) (Value.int IntKind.i64 (IntKind.i64.wrap (n2 + 1)))).drew.cell? (a.add ((IntKind.i64.wrap (n3 - 1)).toNat * 1)) = some (Value.int IntKind.i64 n4) ∧
                                            Called Tryd.prog 18 #[Value.int IntKind.i64 n4, Value.int IntKind.i64 n] (w.drew.setCell (c.add 1) (Value.int IntKind.i64 (IntKind.i64.wrap (n2 + 1)))).drew fun (v1 : Value) (w1 : World) =>
                                              ∃ (n5 : Int), v1 = Value.int IntKind.i64 n5 ∧ R (Value.int IntKind.i64 n5) w1

theorem run30 (c : Addr) (n : Int) (w : World) (R : Value → World → Prop) (h : vc30 c n w R) : Ret Tryd.prog 30 #[.pointer (some c), .int .i64 n] w R :=
  vfn_sound sxE_ok (args := [.pointer (some c), .int .i64 n]) Tryd.func30 (Eq.mp (by kernel_rfl : vc30 c n w R = vfn sxE Tryd.f30 [.pointer (some c), .int .i64 n] w R) h)

/-! 31: chcsolver/chcsolverlaw02.items (5796 ms) -/
def vc31 (c : Addr) (depth : Int) (w : World) (R : Value → World → Prop) : Prop :=
  Called Tryd.prog 30 #[Value.pointer (some c), Value.int IntKind.i64 8] w fun (v : Value) (w1 : World) =>
    ∃ (n : Int),
      v = Value.int IntKind.i64 n ∧
        bif decide (n < 3) && decide (depth > 0) then
          Called Tryd.prog 30 #[Value.pointer (some c), Value.int IntKind.i64 4] (w1.alloc (Obj.cells #[Value.int IntKind.i64 5, Value.string { data := #[] : ByteArray }, Value.int IntKind.i64 0, Value.int IntKind.i64 0] 34))
            fun (v1 : Value) (w2 : World) =>
            ∃ (n1 : Int),
              v1 = Value.int IntKind.i64 n1 ∧
                ∃ (I : List Value → World → Prop),
                  ∃ (μ : List Value → World → Nat),
                    I [Value.int IntKind.i64 n1, Value.slice (some { block := w1.heap.size, off := 0 : Addr }) 1 1] w2 ∧
                      ∀ (n2 : Int) (p : Option Addr) (k k1 : Nat) (w3 : World),
                        I [Value.int IntKind.i64 n2, Value.slice p k k1] w3 →
                          bif decide (n2 > 0) then
                            Called Tryd.prog 31 #[Value.pointer (some c), Value.int IntKind.i64 (IntKind.i64.wrap (depth - 1))] w3 fun (v2 : Value) (w4 : World) =>
                              ∃ (p1 : Option Addr),
                                ∃ (k2 : Nat),
                                  ∃ (k3 : Nat),
                                    v2 = Value.slice p1 k2 k3 ∧
                                      ∃ (k4 : Nat),
                                        ∃ (vs : List Value),
                                          ∃ (vs1 : List Value),
                                            AppOk w4 k4 34 4 40 p k k1 vs p1 k2 vs1 ∧
                                              ∀ (p2 : Option Addr) (k5 : Nat) (w5 : World),
                                                AppRes w4 w5 k4 34 4 p k k1 vs k2 vs1 p2 k5 →
                                                  ∃ (a : Addr),
                                                    p2 = some a ∧
                                                      ((0 : Int) ≤ 0 ∧ (0 : Int) < (↑(k + k2) : Int)) ∧
                                                        ∃ (n3 : Int),
                                                          w5.cell? (a.add 2) = some (Value.int IntKind.i64 n3) ∧
                                                            ∃ (a1 : Addr),
                                                              p2 = some a1 ∧
                                                                ((0 : Int) ≤ 0 ∧ (0 : Int) < (↑(k + k2) : Int)) ∧
                                                                  ((∃ (v3 : Value), w5.cell? (a1.add 2) = some v3) ∧ w5.frozen? (a1.add 2) = false) ∧
                                                                    I [Value.int IntKind.i64 (IntKind.i64.wrap (n2 - 1)), Value.slice p2 (k + k2) k5] (w5.setCell (a1.add 2) (Value.int IntKind.i64 (IntKind.i64.wrap (n3 + 1)))) ∧
                                                                      μ [Value.int IntKind.i64 (IntKind.i64.wrap (n2 - 1)), Value.slice p2 (k + k2) k5] (w5.setCell (a1.add 2) (Value.int IntKind.i64 (IntKind.i64.wrap (n3 + 1)))) <
                                                                        μ [Value.int IntKind.i64 n2, Value.slice p k k1] w3
                          else R (Value.slice p k k1) w3
        else
          bif n == 3 then
            Called Tryd.prog 30 #[Value.pointer (some c), Value.int IntKind.i64 1048576] w1 fun (v4 : Value) (w6 : World) =>
              ∃ (n4 : Int),
                v4 = Value.int IntKind.i64 n4 ∧
                  Called Tryd.prog 44 #[Value.int IntKind.i64 n4] w6 fun (v5 : Value) (w7 : World) =>
                    ∃ (s : ByteArray),
                      v5 = Value.string s ∧ R (Value.slice (some { block := w7.heap.size, off := 0 : Addr }) 1 1) (w7.alloc (Obj.cells #[Value.int IntKind.i64 2, Value.string s, Value.int IntKind.i64 0, Value.int IntKind.i64 0] 34))
          else
            bif n == 4 then
              Called Tryd.prog 30 #[Value.pointer (some c), Value.int IntKind.i64 50] w1 fun (v6 : Value) (w8 : World) =>
                ∃ (n5 : Int),
                  v6 = Value.int IntKind.i64 n5 ∧
                    Called Tryd.prog 44 #[Value.int IntKind.i64 n5] w8 fun (v7 : Value) (w9 : World) =>
                      ∃ (s1 : ByteArray),
                        v7 = Value.string s1 ∧
                          s1.size + 1 ≤ 9223372036854775807 ∧
                            Called Tryd.prog 30 #[Value.pointer (some c), Value.int IntKind.i64 100] w9 fun (v8 : Value) (w10 : World) =>
                              ∃ (n6 : Int),
                                v8 = Value.int IntKind.i64 n6 ∧
                                  Called Tryd.prog 44 #[Value.int IntKind.i64 n6] w10 fun (v9 : Value) (w11 : World) =>
                                    ∃ (s2 : ByteArray),
                                      v9 = Value.string s2 ∧
                                        (s1 ++ { data := #[46] : ByteArray }).size + s2.size ≤ 9223372036854775807 ∧
                                          R (Value.slice (some { block := w11.heap.size, off := 0 : Addr }) 1 1)
                                            (w11.alloc (Obj.cells #[Value.int IntKind.i64 3, Value.string (s1 ++ { data := #[46] : ByteArray } ++ s2), Value.int IntKind.i64 0, Value.int IntKind.i64 0] 34))
            else
              bif n == 5 then
                Called Tryd.prog 30 #[Value.pointer (some c), Value.int IntKind.i64 5]
                  (w1.alloc
                    (Obj.cells
                      #[Value.string { data := #[] : ByteArray }, Value.string { data := #[120, 32, 121] : ByteArray }, Value.string { data := #[34] : ByteArray }, Value.string { data := #[97, 34, 34, 98] : ByteArray },
                        Value.string { data := #[40, 59, 41] : ByteArray }]
                      9))
                  fun (v10 : Value) (w12 : World) =>
                  ∃ (n7 : Int),
                    v10 = Value.int IntKind.i64 n7 ∧
                      ∃ (a2 : Addr),
                        some { block := w1.heap.size, off := 0 : Addr } = some a2 ∧
                          ((0 : Int) ≤ n7 ∧ n7 < 5) ∧
                            ∃ (s3 : ByteArray),
                              w12.cell? (a2.add (n7.toNat * 1)) = some (Value.string s3) ∧
                                R (Value.slice (some { block := w12.heap.size, off := 0 : Addr }) 1 1) (w12.alloc (Obj.cells #[Value.int IntKind.i64 4, Value.string s3, Value.int IntKind.i64 0, Value.int IntKind.i64 0] 34))
              else
                Called Tryd.prog 30 #[Value.pointer (some c), Value.int IntKind.i64 11]
                  (w1.alloc
                    (Obj.cells
                      #[Value.string { data := #[97] : ByteArray }, Value.string { data := #[61, 62] : ByteArray }, Value.string { data := #[60, 61] : ByteArray }, Value.string { data := #[43] : ByteArray },
                        Value.string { data := #[45] : ByteArray }, Value.string { data := #[102, 46, 49] : ByteArray }, Value.string { data := #[120, 33, 50] : ByteArray }, Value.string { data := #[63] : ByteArray },
                        Value.string { data := #[58, 107] : ByteArray }, Value.string { data := #[126] : ByteArray }, Value.string { data := #[95, 65, 57] : ByteArray }]
                      9))
                  fun (v11 : Value) (w13 : World) =>
                  ∃ (n8 : Int),
                    v11 = Value.int IntKind.i64 n8 ∧
                      ∃ (a3 : Addr),
                        some { block := w1.heap.size, off := 0 : Addr } = some a3 ∧
                          ((0 : Int) ≤ n8 ∧ n8 < 11) ∧
                            ∃ (s4 : ByteArray),
                              w13.cell? (a3.add (n8.toNat * 1)) = some (Value.string s4) ∧
                                R (Value.slice (some { block := w13.heap.size, off := 0 : Addr }) 1 1) (w13.alloc (Obj.cells #[Value.int IntKind.i64 1, Value.string s4, Value.int IntKind.i64 0, Value.int IntKind.i64 0] 34))

theorem run31 (c : Addr) (depth : Int) (w : World) (R : Value → World → Prop) (h : vc31 c depth w R) : Ret Tryd.prog 31 #[.pointer (some c), .int .i64 depth] w R :=
  vfn_sound sxE_ok (args := [.pointer (some c), .int .i64 depth]) Tryd.func31 (Eq.mp (by kernel_rfl : vc31 c depth w R = vfn sxE Tryd.f31 [.pointer (some c), .int .i64 depth] w R) h)

/-! 32: (*chcsolver/sexpr.reader).skip (13783 ms) -/
def vc32 (r : Addr) (w : World) (R : Value → World → Prop) : Prop :=
  ∃ (I : List Value → World → Prop),
    ∃ (μ : List Value → World → Nat),
      I [] w ∧
        ∀ (w1 : World),
          I [] w1 →
            ∃ (n : Int),
              w1.drew.cell? (r.add 1) = some (Value.int IntKind.i64 n) ∧
                ∃ (s : ByteArray),
                  w1.drew.cell? r = some (Value.string s) ∧
                    bif decide (n < (↑s.size : Int)) then
                      ∃ (s1 : ByteArray),
                        w1.drew.drew.cell? r = some (Value.string s1) ∧
                          ∃ (n1 : Int),
                            w1.drew.drew.cell? (r.add 1) = some (Value.int IntKind.i64 n1) ∧
                              ((0 : Int) ≤ n1 ∧ n1 < (↑s1.size : Int)) ∧
                                Called Tryd.prog 45 #[Value.int IntKind.u8 (bt s1 n1)] w1.drew.drew fun (v : Value) (w2 : World) =>
                                  ∃ (b : Bool),
                                    v = Value.bool b ∧
                                      bif b then
                                        ∃ (n2 : Int),
                                          w2.cell? (r.add 1) = some (Value.int IntKind.i64 n2) ∧
                                            ((∃ (v1 : Value), w2.cell? (r.add 1) = some v1) ∧ w2.frozen? (r.add 1) = false) ∧
                                              I [] (w2.setCell (r.add 1) (Value.int IntKind.i64 (IntKind.i64.wrap (n2 + 1)))) ∧ μ [] (w2.setCell (r.add 1) (Value.int IntKind.i64 (IntKind.i64.wrap (n2 + 1)))) < μ [] w1
                                      else
                                        bif bt s1 n1 == 59 then
                                          ∃ (I1 : List Value → World → Prop),
                                            ∃ (μ1 : List Value → World → Nat),
                                              I1 [] w2 ∧
                                                ∀ (w3 : World),
                                                  I1 [] w3 →
                                                    ∀ (K : List Value → World → Prop),
                                                      (∀ (b1 : Bool),
                                                          (bif b1 then
                                                              ∃ (n3 : Int),
                                                                w3.drew.cell? (r.add 1) = some (Value.int IntKind.i64 n3) ∧
                                                                  ((∃ (v2 : Value), w3.drew.cell? (r.add 1) = some v2) ∧ w3.drew.frozen? (r.add 1) = false) ∧
                                                                    I1 [] (w3.drew.setCell (r.add 1) (Value.int IntKind.i64 (IntKind.i64.wrap (n3 + 1)))) ∧
                                                                      μ1 [] (w3.drew.setCell (r.add 1) (Value.int IntKind.i64 (IntKind.i64.wrap (n3 + 1)))) < μ1 [] w3
                                                            else I [] w3.drew ∧ μ [] w3.drew < μ [] w1) →
                                                            K [Value.bool b1] w3.drew) →
                                                        ∃ (n4 : Int),
                                                          w3.drew.cell? (r.add 1) = some (Value.int IntKind.i64 n4) ∧
                                                            ∃ (s2 : ByteArray),
                                                              w3.drew.cell? r = some (Value.string s2) ∧
                                                                bif decide (n4 < (↑s2.size : Int)) then
                                                                  ∃ (s3 : ByteArray),
                                                                    w3.drew.cell? r = some (Value.string s3) ∧
                                                                      ∃ (n5 : Int), w3.drew.cell? (r.add 1) = some (Value.int IntKind.i64 n5) ∧ ((0 : Int) ≤ n5 ∧ n5 < (↑s3.size : Int)) ∧ K [Value.bool (bt s3 n5 != 10)] w3.drew
                                                                else K [Value.bool false] w3.drew
                                        else R (Value.tuple #[]) w2
                    else R (Value.tuple #[]) w1.drew

theorem run32 (r : Addr) (w : World) (R : Value → World → Prop) (h : vc32 r w R) : Ret Tryd.prog 32 #[.pointer (some r)] w R :=
  vfn_sound sxE_ok (args := [.pointer (some r)]) Tryd.func32 (Eq.mp (by kernel_rfl : vc32 r w R = vfn sxE Tryd.f32 [.pointer (some r)] w R) h)

/-! 33: (*chcsolver/sexpr.reader).item (10696 ms) -/
def vc33 (r : Addr) (w : World) (R : Value → World → Prop) : Prop :=
  ∃ (n : Int),
    w.cell? (r.add 1) = some (Value.int IntKind.i64 n) ∧
      ∃ (s : ByteArray),
        w.cell? r = some (Value.string s) ∧
          ((0 : Int) ≤ n ∧ n < (↑s.size : Int)) ∧
            bif bt s n == 40 then
              ∃ (n1 : Int),
                w.cell? (r.add 1) = some (Value.int IntKind.i64 n1) ∧
                  ((∃ (v : Value), w.cell? (r.add 1) = some v) ∧ w.frozen? (r.add 1) = false) ∧
                    Called Tryd.prog 46 #[Value.pointer (some r), Value.int IntKind.i64 5, Value.string { data := #[] : ByteArray }, Value.int IntKind.i64 n] (w.setCell (r.add 1) (Value.int IntKind.i64 (IntKind.i64.wrap (n1 + 1))))
                      fun (v1 : Value) (w1 : World) => ∃ (n2 : Int), v1 = Value.int IntKind.i64 n2 ∧ R (Value.int IntKind.i64 n2) w1
            else
              bif bt s n == 41 then
                ∃ (p : Option Addr),
                  ∃ (k : Nat),
                    ∃ (k1 : Nat),
                      w.cell? (r.add 3) = some (Value.slice p k k1) ∧
                        bif (↑k : Int) == 0 then R (Value.int IntKind.i64 2) w
                        else
                          ∃ (n3 : Int),
                            w.cell? (r.add 1) = some (Value.int IntKind.i64 n3) ∧
                              ((∃ (v2 : Value), w.cell? (r.add 1) = some v2) ∧ w.frozen? (r.add 1) = false) ∧
                                ∃ (p1 : Option Addr),
                                  ∃ (k2 : Nat),
                                    ∃ (k3 : Nat),
                                      (w.setCell (r.add 1) (Value.int IntKind.i64 (IntKind.i64.wrap (n3 + 1)))).drew.cell? (r.add 3) = some (Value.slice p1 k2 k3) ∧
                                        ∃ (p2 : Option Addr),
                                          ∃ (k4 : Nat),
                                            ∃ (k5 : Nat),
                                              (w.setCell (r.add 1) (Value.int IntKind.i64 (IntKind.i64.wrap (n3 + 1)))).drew.cell? (r.add 3) = some (Value.slice p2 k4 k5) ∧
                                                ((0 : Int) ≤ IntKind.i64.wrap ((↑k4 : Int) - 1) ∧ IntKind.i64.wrap ((↑k4 : Int) - 1) ≤ (↑k3 : Int)) ∧
                                                  ((∃ (v3 : Value), (w.setCell (r.add 1) (Value.int IntKind.i64 (IntKind.i64.wrap (n3 + 1)))).drew.cell? (r.add 3) = some v3) ∧
                                                      (w.setCell (r.add 1) (Value.int IntKind.i64 (IntKind.i64.wrap (n3 + 1)))).drew.frozen? (r.add 3) = false) ∧
                                                    R (Value.int IntKind.i64 0) ((w.setCell (r.add 1) (Value.int IntKind.i64 (IntKind.i64.wrap (n3 + 1)))).drew.setCell (r.add 3) (Value.slice p1 (IntKind.i64.wrap ((↑k4 : Int) - 1)).toNat k3))
              else
                bif bt s n == 34 then
                  Called Tryd.prog 47 #[Value.pointer (some r)] w fun (v4 : Value) (w2 : World) =>
                    ∃ (s1 : ByteArray),
                      ∃ (b : Bool),
                        v4 = Value.tuple #[Value.string s1, Value.bool b] ∧
                          bif !b then R (Value.int IntKind.i64 2) w2
                          else
                            Called Tryd.prog 46 #[Value.pointer (some r), Value.int IntKind.i64 4, Value.string s1, Value.int IntKind.i64 n] w2 fun (v5 : Value) (w3 : World) =>
                              ∃ (n4 : Int), v5 = Value.int IntKind.i64 n4 ∧ R (Value.int IntKind.i64 n4) w3
                else
                  Called Tryd.prog 48 #[Value.pointer (some r)] w fun (v6 : Value) (w4 : World) =>
                    ∃ (s2 : ByteArray),
                      v6 = Value.string s2 ∧
                        Called Tryd.prog 49 #[Value.string s2] w4 fun (v7 : Value) (w5 : World) =>
                          ∃ (n5 : Int),
                            v7 = Value.int IntKind.i64 n5 ∧
                              bif n5 == 0 then R (Value.int IntKind.i64 2) w5
                              else
                                Called Tryd.prog 46 #[Value.pointer (some r), Value.int IntKind.i64 n5, Value.string s2, Value.int IntKind.i64 n] w5 fun (v8 : Value) (w6 : World) =>
                                  ∃ (n6 : Int), v8 = Value.int IntKind.i64 n6 ∧ R (Value.int IntKind.i64 n6) w6

theorem run33 (r : Addr) (w : World) (R : Value → World → Prop) (h : vc33 r w R) : Ret Tryd.prog 33 #[.pointer (some r)] w R :=
  vfn_sound sxE_ok (args := [.pointer (some r)]) Tryd.func33 (Eq.mp (by kernel_rfl : vc33 r w R = vfn sxE Tryd.f33 [.pointer (some r)] w R) h)

/-! 34: chcsolver/sexpr.permitted (5442 ms) -/
def vc34 (x_0 : Int) (x_1 : ByteArray) (x_2 : Int) (x_3 : Int) (w : World) (R : Value → World → Prop) : Prop :=
  ∃ (n : Int),
    (w.alloc (Obj.cells #[Value.int IntKind.i64 x_0, Value.string x_1, Value.int IntKind.i64 x_2, Value.int IntKind.i64 x_3] 34)).cell? { block := w.heap.size, off := 0 : Addr } = some (Value.int IntKind.i64 n) ∧
      bif n == 5 then
        ∀ (K : List Value → World → Prop),
          (∀ (b : Bool),
              R (Value.bool b) (w.alloc (Obj.cells #[Value.int IntKind.i64 x_0, Value.string x_1, Value.int IntKind.i64 x_2, Value.int IntKind.i64 x_3] 34)) →
                K [Value.bool b] (w.alloc (Obj.cells #[Value.int IntKind.i64 x_0, Value.string x_1, Value.int IntKind.i64 x_2, Value.int IntKind.i64 x_3] 34))) →
            ∃ (s : ByteArray),
              (w.alloc (Obj.cells #[Value.int IntKind.i64 x_0, Value.string x_1, Value.int IntKind.i64 x_2, Value.int IntKind.i64 x_3] 34)).cell? { block := w.heap.size, off := 1 : Addr } = some (Value.string s) ∧
                bif s.toList == { data := #[] : ByteArray }.toList then
                  ∃ (n1 : Int),
                    (w.alloc (Obj.cells #[Value.int IntKind.i64 x_0, Value.string x_1, Value.int IntKind.i64 x_2, Value.int IntKind.i64 x_3] 34)).cell? { block := w.heap.size, off := 2 : Addr } = some (Value.int IntKind.i64 n1) ∧
                      K [Value.bool (decide (n1 ≥ 0))] (w.alloc (Obj.cells #[Value.int IntKind.i64 x_0, Value.string x_1, Value.int IntKind.i64 x_2, Value.int IntKind.i64 x_3] 34))
                else K [Value.bool false] (w.alloc (Obj.cells #[Value.int IntKind.i64 x_0, Value.string x_1, Value.int IntKind.i64 x_2, Value.int IntKind.i64 x_3] 34))
      else
        bif n == 4 then
          ∃ (s1 : ByteArray),
            (w.alloc (Obj.cells #[Value.int IntKind.i64 x_0, Value.string x_1, Value.int IntKind.i64 x_2, Value.int IntKind.i64 x_3] 34)).cell? { block := w.heap.size, off := 1 : Addr } = some (Value.string s1) ∧
              ∃ (I : List Value → World → Prop),
                ∃ (μ : List Value → World → Nat),
                  I [Value.int IntKind.i64 0] (w.alloc (Obj.cells #[Value.int IntKind.i64 x_0, Value.string x_1, Value.int IntKind.i64 x_2, Value.int IntKind.i64 x_3] 34)) ∧
                    ∀ (n2 : Int) (w1 : World),
                      I [Value.int IntKind.i64 n2] w1 →
                        bif decide (n2 < (↑s1.size : Int)) then
                          ∃ (s2 : ByteArray),
                            w1.cell? { block := w.heap.size, off := 1 : Addr } = some (Value.string s2) ∧
                              ((0 : Int) ≤ n2 ∧ n2 < (↑s2.size : Int)) ∧
                                Called Tryd.prog 50 #[Value.int IntKind.u8 (bt s2 n2)] w1 fun (v : Value) (w2 : World) =>
                                  ∃ (b1 : Bool),
                                    v = Value.bool b1 ∧
                                      bif !b1 then R (Value.bool false) w2 else I [Value.int IntKind.i64 (IntKind.i64.wrap (n2 + 1))] w2 ∧ μ [Value.int IntKind.i64 (IntKind.i64.wrap (n2 + 1))] w2 < μ [Value.int IntKind.i64 n2] w1
                        else ∃ (n3 : Int), w1.cell? { block := w.heap.size, off := 2 : Addr } = some (Value.int IntKind.i64 n3) ∧ R (Value.bool (n3 == 0)) w1
        else
          ∀ (K1 : List Value → World → Prop),
            (∀ (b2 : Bool),
                (bif b2 then
                    ∃ (s3 : ByteArray),
                      (w.alloc (Obj.cells #[Value.int IntKind.i64 x_0, Value.string x_1, Value.int IntKind.i64 x_2, Value.int IntKind.i64 x_3] 34)).cell? { block := w.heap.size, off := 1 : Addr } = some (Value.string s3) ∧
                        ∃ (I1 : List Value → World → Prop),
                          ∃ (μ1 : List Value → World → Nat),
                            I1 [Value.int IntKind.i64 0] (w.alloc (Obj.cells #[Value.int IntKind.i64 x_0, Value.string x_1, Value.int IntKind.i64 x_2, Value.int IntKind.i64 x_3] 34)) ∧
                              ∀ (n4 : Int) (w3 : World),
                                I1 [Value.int IntKind.i64 n4] w3 →
                                  bif decide (n4 < (↑s3.size : Int)) then
                                    ∃ (s4 : ByteArray),
                                      w3.cell? { block := w.heap.size, off := 1 : Addr } = some (Value.string s4) ∧
                                        ((0 : Int) ≤ n4 ∧ n4 < (↑s4.size : Int)) ∧
                                          Called Tryd.prog 51 #[Value.int IntKind.u8 (bt s4 n4)] w3 fun (v1 : Value) (w4 : World) =>
                                            ∃ (b3 : Bool),
                                              v1 = Value.bool b3 ∧
                                                bif !b3 then R (Value.bool false) w4 else I1 [Value.int IntKind.i64 (IntKind.i64.wrap (n4 + 1))] w4 ∧ μ1 [Value.int IntKind.i64 (IntKind.i64.wrap (n4 + 1))] w4 < μ1 [Value.int IntKind.i64 n4] w3
                                  else
                                    ∀ (K2 : List Value → World → Prop),
                                      (∀ (b4 : Bool) (w5 : World), R (Value.bool b4) w5 → K2 [Value.bool b4] w5) →
                                        ∃ (n5 : Int),
                                          w3.drew.cell? { block := w.heap.size, off := 2 : Addr } = some (Value.int IntKind.i64 n5) ∧
                                            bif n5 == 0 then
                                              ∃ (s5 : ByteArray),
                                                w3.drew.cell? { block := w.heap.size, off := 1 : Addr } = some (Value.string s5) ∧
                                                  ∃ (n6 : Int),
                                                    w3.drew.cell? { block := w.heap.size, off := 0 : Addr } = some (Value.int IntKind.i64 n6) ∧
                                                      Called Tryd.prog 49 #[Value.string s5] w3.drew fun (v2 : Value) (w6 : World) =>
                                                        ∃ (n7 : Int), v2 = Value.int IntKind.i64 n7 ∧ RowKit.Below w3.drew.heap.size w3.drew w6 ∧ K2 [Value.bool (n7 == n6)] w6
                                            else K2 [Value.bool false] w3.drew
                  else R (Value.bool false) (w.alloc (Obj.cells #[Value.int IntKind.i64 x_0, Value.string x_1, Value.int IntKind.i64 x_2, Value.int IntKind.i64 x_3] 34))) →
                  K1 [Value.bool b2] (w.alloc (Obj.cells #[Value.int IntKind.i64 x_0, Value.string x_1, Value.int IntKind.i64 x_2, Value.int IntKind.i64 x_3] 34))) →
              bif n == 1 then K1 [Value.bool true] (w.alloc (Obj.cells #[Value.int IntKind.i64 x_0, Value.string x_1, Value.int IntKind.i64 x_2, Value.int IntKind.i64 x_3] 34))
              else
                bif n == 2 then K1 [Value.bool true] (w.alloc (Obj.cells #[Value.int IntKind.i64 x_0, Value.string x_1, Value.int IntKind.i64 x_2, Value.int IntKind.i64 x_3] 34))
                else K1 [Value.bool (n == 3)] (w.alloc (Obj.cells #[Value.int IntKind.i64 x_0, Value.string x_1, Value.int IntKind.i64 x_2, Value.int IntKind.i64 x_3] 34))

theorem run34 (x_0 : Int) (x_1 : ByteArray) (x_2 : Int) (x_3 : Int) (w : World) (R : Value → World → Prop) (h : vc34 x_0 x_1 x_2 x_3 w R) : Ret Tryd.prog 34 #[.agg #[.int .i64 x_0, .string x_1, .int .i64 x_2, .int .i64 x_3]] w R :=
  vfn_sound sxE_ok (args := [.agg #[.int .i64 x_0, .string x_1, .int .i64 x_2, .int .i64 x_3]]) Tryd.func34 (Eq.mp (by kernel_rfl : vc34 x_0 x_1 x_2 x_3 w R = vfn sxE Tryd.f34 [.agg #[.int .i64 x_0, .string x_1, .int .i64 x_2, .int .i64 x_3]] w R) h)

/-! 35: chcsolver/sexpr.end (724 ms) -/
def vc35 (lA : Option Addr) (lN lC : Nat) (i : Int) (w : World) (R : Value → World → Prop) : Prop :=
  ∃ (I : List Value → World → Prop),
    ∃ (μ : List Value → World → Nat),
      I [Value.int IntKind.i64 1, Value.int IntKind.i64 i] w ∧
        ∀ (n n1 : Int) (w1 : World),
          I [Value.int IntKind.i64 n, Value.int IntKind.i64 n1] w1 →
            bif decide (n > 0) then
              ∃ (a : Addr),
                lA = some a ∧
                  ((0 : Int) ≤ n1 ∧ n1 < (↑lN : Int)) ∧
                    ∃ (n2 : Int),
                      w1.cell? ((a.add (n1.toNat * 4)).add 2) = some (Value.int IntKind.i64 n2) ∧
                        I [Value.int IntKind.i64 (IntKind.i64.wrap (n + IntKind.i64.wrap (n2 - 1))), Value.int IntKind.i64 (IntKind.i64.wrap (n1 + 1))] w1 ∧
                          μ [Value.int IntKind.i64 (IntKind.i64.wrap (n + IntKind.i64.wrap (n2 - 1))), Value.int IntKind.i64 (IntKind.i64.wrap (n1 + 1))] w1 < μ [Value.int IntKind.i64 n, Value.int IntKind.i64 n1] w1
            else R (Value.int IntKind.i64 n1) w1

theorem run35 (lA : Option Addr) (lN lC : Nat) (i : Int) (w : World) (R : Value → World → Prop) (h : vc35 lA lN lC i w R) : Ret Tryd.prog 35 #[.slice lA lN lC, .int .i64 i] w R :=
  vfn_sound sxE_ok (args := [.slice lA lN lC, .int .i64 i]) Tryd.func35 (Eq.mp (by kernel_rfl : vc35 lA lN lC i w R = vfn sxE Tryd.f35 [.slice lA lN lC, .int .i64 i] w R) h)

/-! 36: chcsolver/sexpr.write (3101 ms) -/
def vc36 (b : Addr) (lA : Option Addr) (lN lC : Nat) (i : Int) (w : World) (R : Value → World → Prop) : Prop :=
  ∃ (a : Addr),
    lA = some a ∧
      ((0 : Int) ≤ i ∧ i < (↑lN : Int)) ∧
        ∃ (n : Int),
          ∃ (s : ByteArray),
            ∃ (n1 : Int),
              ∃ (n2 : Int),
                vcells w (a.add (i.toNat * 4)) 0 [Value.int IntKind.i64 n, Value.string s, Value.int IntKind.i64 n1, Value.int IntKind.i64 n2] ∧
                  writable (w.alloc (Obj.cells #[Value.int IntKind.i64 0, Value.string { data := #[] : ByteArray }, Value.int IntKind.i64 0, Value.int IntKind.i64 0] 34)) { block := w.heap.size, off := 0 : Addr } 4 ∧
                    ∃ (n3 : Int),
                      (setCells (w.alloc (Obj.cells #[Value.int IntKind.i64 0, Value.string { data := #[] : ByteArray }, Value.int IntKind.i64 0, Value.int IntKind.i64 0] 34)) { block := w.heap.size, off := 0 : Addr } 0
                                [Value.int IntKind.i64 n, Value.string s, Value.int IntKind.i64 n1, Value.int IntKind.i64 n2]).cell?
                            { block := w.heap.size, off := 0 : Addr } =
                          some (Value.int IntKind.i64 n3) ∧
                        bif n3 == 5 then
                          Called Tryd.prog 37 #[Value.pointer (some b), Value.int IntKind.u8 40]
                            (setCells (w.alloc (Obj.cells #[Value.int IntKind.i64 0, Value.string { data := #[] : ByteArray }, Value.int IntKind.i64 0, Value.int IntKind.i64 0] 34)) { block := w.heap.size, off := 0 : Addr } 0
                              [Value.int IntKind.i64 n, Value.string s, Value.int IntKind.i64 n1, Value.int IntKind.i64 n2])
                            fun (v : Value) (w1 : World) =>
                            ∃ (v1 : Value),
                              v = v1 ∧
                                ∃ (n4 : Int),
                                  w1.cell? { block := w.heap.size, off := 2 : Addr } = some (Value.int IntKind.i64 n4) ∧
                                    ∃ (I : List Value → World → Prop),
                                      ∃ (μ : List Value → World → Nat),
                                        I [Value.int IntKind.i64 0, Value.int IntKind.i64 (IntKind.i64.wrap (i + 1))] w1 ∧
                                          ∀ (n5 n6 : Int) (w2 : World),
                                            I [Value.int IntKind.i64 n5, Value.int IntKind.i64 n6] w2 →
                                              bif decide (n5 < n4) then
                                                ∀ (K : List Value → World → Prop),
                                                  (∀ (w3 : World),
                                                      (Called Tryd.prog 36 #[Value.pointer (some b), Value.slice lA lN lC, Value.int IntKind.i64 n6] w3 fun (v2 : Value) (w4 : World) =>
                                                          v2 = Value.tuple #[] ∧
                                                            Called Tryd.prog 35 #[Value.slice lA lN lC, Value.int IntKind.i64 n6] w4 fun (v3 : Value) (w5 : World) =>
                                                              ∃ (n7 : Int),
                                                                v3 = Value.int IntKind.i64 n7 ∧
                                                                  I [Value.int IntKind.i64 (IntKind.i64.wrap (n5 + 1)), Value.int IntKind.i64 n7] w5 ∧
                                                                    μ [Value.int IntKind.i64 (IntKind.i64.wrap (n5 + 1)), Value.int IntKind.i64 n7] w5 < μ [Value.int IntKind.i64 n5, Value.int IntKind.i64 n6] w2) →
                                                        K [] w3) →
                                                    bif decide (n5 > 0) then Called Tryd.prog 37 #[Value.pointer (some b), Value.int IntKind.u8 32] w2 fun (v4 : Value) (w6 : World) => ∃ (v5 : Value), v4 = v5 ∧ K [] w6 else K [] w2
                                              else Called Tryd.prog 37 #[Value.pointer (some b), Value.int IntKind.u8 41] w2 fun (v6 : Value) (w7 : World) => ∃ (v7 : Value), v6 = v7 ∧ R (Value.tuple #[]) w7
                        else
                          bif n3 == 4 then
                            ∃ (s1 : ByteArray),
                              (setCells (w.alloc (Obj.cells #[Value.int IntKind.i64 0, Value.string { data := #[] : ByteArray }, Value.int IntKind.i64 0, Value.int IntKind.i64 0] 34)) { block := w.heap.size, off := 0 : Addr } 0
                                        [Value.int IntKind.i64 n, Value.string s, Value.int IntKind.i64 n1, Value.int IntKind.i64 n2]).cell?
                                    { block := w.heap.size, off := 1 : Addr } =
                                  some (Value.string s1) ∧
                                Called Tryd.prog 53 #[Value.string s1, Value.string { data := #[34] : ByteArray }, Value.string { data := #[34, 34] : ByteArray }]
                                  (setCells (w.alloc (Obj.cells #[Value.int IntKind.i64 0, Value.string { data := #[] : ByteArray }, Value.int IntKind.i64 0, Value.int IntKind.i64 0] 34)) { block := w.heap.size, off := 0 : Addr } 0
                                    [Value.int IntKind.i64 n, Value.string s, Value.int IntKind.i64 n1, Value.int IntKind.i64 n2])
                                  fun (v8 : Value) (w8 : World) =>
                                  ∃ (s2 : ByteArray),
                                    v8 = Value.string s2 ∧
                                      1 + s2.size ≤ 9223372036854775807 ∧
                                        ({ data := #[34] : ByteArray } ++ s2).size + 1 ≤ 9223372036854775807 ∧
                                          Called Tryd.prog 52 #[Value.pointer (some b), Value.string ({ data := #[34] : ByteArray } ++ s2 ++ { data := #[34] : ByteArray })] w8 fun (v9 : Value) (w9 : World) =>
                                            ∃ (n8 : Int), ∃ (v10 : Value), v9 = Value.tuple #[Value.int IntKind.i64 n8, v10] ∧ R (Value.tuple #[]) w9
                          else
                            ∃ (s3 : ByteArray),
                              (setCells (w.alloc (Obj.cells #[Value.int IntKind.i64 0, Value.string { data := #[] : ByteArray }, Value.int IntKind.i64 0, Value.int IntKind.i64 0] 34)) { block := w.heap.size, off := 0 : Addr } 0
                                        [Value.int IntKind.i64 n, Value.string s, Value.int IntKind.i64 n1, Value.int IntKind.i64 n2]).cell?
                                    { block := w.heap.size, off := 1 : Addr } =
                                  some (Value.string s3) ∧
                                Called Tryd.prog 52 #[Value.pointer (some b), Value.string s3]
                                  (setCells (w.alloc (Obj.cells #[Value.int IntKind.i64 0, Value.string { data := #[] : ByteArray }, Value.int IntKind.i64 0, Value.int IntKind.i64 0] 34)) { block := w.heap.size, off := 0 : Addr } 0
                                    [Value.int IntKind.i64 n, Value.string s, Value.int IntKind.i64 n1, Value.int IntKind.i64 n2])
                                  fun (v11 : Value) (w10 : World) => ∃ (n9 : Int), ∃ (v12 : Value), v11 = Value.tuple #[Value.int IntKind.i64 n9, v12] ∧ R (Value.tuple #[]) w10

theorem run36 (b : Addr) (lA : Option Addr) (lN lC : Nat) (i : Int) (w : World) (R : Value → World → Prop) (h : vc36 b lA lN lC i w R) : Ret Tryd.prog 36 #[.pointer (some b), .slice lA lN lC, .int .i64 i] w R :=
  vfn_sound sxE_ok (args := [.pointer (some b), .slice lA lN lC, .int .i64 i]) Tryd.func36 (Eq.mp (by kernel_rfl : vc36 b lA lN lC i w R = vfn sxE Tryd.f36 [.pointer (some b), .slice lA lN lC, .int .i64 i] w R) h)

/-! 39: chcsolver/chcsolverref01.itemEnd (3421 ms) -/
def vc39 (lA : Option Addr) (lN lC : Nat) (i : Int) (depth : Int) (w : World) (R : Value → World → Prop) : Prop :=
  ∀ (K : List Value → World → Prop),
    (∀ (b : Bool) (w1 : World),
        (bif b then R (Value.int IntKind.i64 (-1)) w1
          else
            ∃ (I : List Value → World → Prop),
              ∃ (μ : List Value → World → Nat),
                I [Value.int IntKind.i64 0, Value.int IntKind.i64 (IntKind.i64.wrap (i + 1))] w1 ∧
                  ∀ (n n1 : Int) (w2 : World),
                    I [Value.int IntKind.i64 n, Value.int IntKind.i64 n1] w2 →
                      ∃ (a : Addr),
                        lA = some a ∧
                          ((0 : Int) ≤ i ∧ i < (↑lN : Int)) ∧
                            ∃ (n2 : Int),
                              w2.cell? ((a.add (i.toNat * 4)).add 2) = some (Value.int IntKind.i64 n2) ∧
                                bif decide (n < n2) then
                                  Called Tryd.prog 39 #[Value.slice lA lN lC, Value.int IntKind.i64 n1, Value.int IntKind.i64 (IntKind.i64.wrap (depth + 1))] w2 fun (v : Value) (w3 : World) =>
                                    ∃ (n3 : Int),
                                      v = Value.int IntKind.i64 n3 ∧
                                        bif decide (n3 < 0) then R (Value.int IntKind.i64 (-1)) w3
                                        else
                                          I [Value.int IntKind.i64 (IntKind.i64.wrap (n + 1)), Value.int IntKind.i64 n3] w3 ∧
                                            μ [Value.int IntKind.i64 (IntKind.i64.wrap (n + 1)), Value.int IntKind.i64 n3] w3 < μ [Value.int IntKind.i64 n, Value.int IntKind.i64 n1] w2
                                else R (Value.int IntKind.i64 n1) w2) →
          K [Value.bool b] w1) →
      bif decide (i ≥ (↑lN : Int)) || decide (depth > 256) then K [Value.bool true] w
      else
        ∃ (a1 : Addr),
          lA = some a1 ∧
            ((0 : Int) ≤ i ∧ i < (↑lN : Int)) ∧
              ∃ (n4 : Int),
                ∃ (s : ByteArray),
                  ∃ (n5 : Int),
                    ∃ (n6 : Int),
                      vcells w (a1.add (i.toNat * 4)) 0 [Value.int IntKind.i64 n4, Value.string s, Value.int IntKind.i64 n5, Value.int IntKind.i64 n6] ∧
                        Called Tryd.prog 55 #[Value.agg #[Value.int IntKind.i64 n4, Value.string s, Value.int IntKind.i64 n5, Value.int IntKind.i64 n6]] w fun (v1 : Value) (w4 : World) =>
                          ∃ (b1 : Bool),
                            v1 = Value.bool b1 ∧
                              bif !b1 then K [Value.bool true] w4
                              else ∃ (a2 : Addr), lA = some a2 ∧ ((0 : Int) ≤ i ∧ i < (↑lN : Int)) ∧ ∃ (n7 : Int), w4.cell? ((a2.add (i.toNat * 4)).add 2) = some (Value.int IntKind.i64 n7) ∧ K [Value.bool (decide (n7 > (↑lN : Int)))] w4

theorem run39 (lA : Option Addr) (lN lC : Nat) (i : Int) (depth : Int) (w : World) (R : Value → World → Prop) (h : vc39 lA lN lC i depth w R) : Ret Tryd.prog 39 #[.slice lA lN lC, .int .i64 i, .int .i64 depth] w R :=
  vfn_sound sxE_ok (args := [.slice lA lN lC, .int .i64 i, .int .i64 depth]) Tryd.func39 (Eq.mp (by kernel_rfl : vc39 lA lN lC i depth w R = vfn sxE Tryd.f39 [.slice lA lN lC, .int .i64 i, .int .i64 depth] w R) h)

/-! 40: chcsolver/chcsolverref01.kids (1429 ms) -/
def vc40 (lA : Option Addr) (lN lC : Nat) (i : Int) (w : World) (R : Value → World → Prop) : Prop :=
  ∃ (I : List Value → World → Prop),
    ∃ (μ : List Value → World → Nat),
      I [Value.int IntKind.i64 0, Value.int IntKind.i64 (IntKind.i64.wrap (i + 1)), Value.slice none 0 0] w ∧
        ∀ (n n1 : Int) (p : Option Addr) (k k1 : Nat) (w1 : World),
          I [Value.int IntKind.i64 n, Value.int IntKind.i64 n1, Value.slice p k k1] w1 →
            ∃ (a : Addr),
              lA = some a ∧
                ((0 : Int) ≤ i ∧ i < (↑lN : Int)) ∧
                  ∃ (n2 : Int),
                    w1.cell? ((a.add (i.toNat * 4)).add 2) = some (Value.int IntKind.i64 n2) ∧
                      bif decide (n < n2) then
                        ∃ (k2 : Nat),
                          ∃ (vs : List Value),
                            ∃ (vs1 : List Value),
                              AppOk (w1.alloc (Obj.cells #[Value.int IntKind.i64 n1] 3)) k2 3 1 8 p k k1 vs (some { block := w1.heap.size, off := 0 : Addr }) 1 vs1 ∧
                                ∀ (p1 : Option Addr) (k3 : Nat) (w2 : World),
                                  AppRes (w1.alloc (Obj.cells #[Value.int IntKind.i64 n1] 3)) w2 k2 3 1 p k k1 vs 1 vs1 p1 k3 →
                                    Called Tryd.prog 39 #[Value.slice lA lN lC, Value.int IntKind.i64 n1, Value.int IntKind.i64 0] w2 fun (v : Value) (w3 : World) =>
                                      ∃ (n3 : Int),
                                        v = Value.int IntKind.i64 n3 ∧
                                          I [Value.int IntKind.i64 (IntKind.i64.wrap (n + 1)), Value.int IntKind.i64 n3, Value.slice p1 (k + 1) k3] w3 ∧
                                            μ [Value.int IntKind.i64 (IntKind.i64.wrap (n + 1)), Value.int IntKind.i64 n3, Value.slice p1 (k + 1) k3] w3 < μ [Value.int IntKind.i64 n, Value.int IntKind.i64 n1, Value.slice p k k1] w1
                      else R (Value.slice p k k1) w1

theorem run40 (lA : Option Addr) (lN lC : Nat) (i : Int) (w : World) (R : Value → World → Prop) (h : vc40 lA lN lC i w R) : Ret Tryd.prog 40 #[.slice lA lN lC, .int .i64 i] w R :=
  vfn_sound sxE_ok (args := [.slice lA lN lC, .int .i64 i]) Tryd.func40 (Eq.mp (by kernel_rfl : vc40 lA lN lC i w R = vfn sxE Tryd.f40 [.slice lA lN lC, .int .i64 i] w R) h)

/-! 41: chcsolver/chcsolverref01.textAt (7376 ms) -/
def vc41 (s : ByteArray) (i : Int) (w : World) (R : Value → World → Prop) : Prop :=
  ∃ (I : List Value → World → Prop),
    ∃ (μ : List Value → World → Nat),
      I [Value.int IntKind.i64 (IntKind.i64.wrap (i + 1)), Value.string { data := #[] : ByteArray }] w ∧
        ∀ (n : Int) (s1 : ByteArray) (w1 : World),
          I [Value.int IntKind.i64 n, Value.string s1] w1 →
            bif decide (n < (↑s.size : Int)) then
              ∀ (K : List Value → World → Prop),
                (∀ (b : Bool),
                    (bif b then
                        s1.size + 1 ≤ 9223372036854775807 ∧
                          I [Value.int IntKind.i64 (IntKind.i64.wrap (IntKind.i64.wrap (n + 1) + 1)), Value.string (s1 ++ { data := #[34] : ByteArray })] w1 ∧
                            μ [Value.int IntKind.i64 (IntKind.i64.wrap (IntKind.i64.wrap (n + 1) + 1)), Value.string (s1 ++ { data := #[34] : ByteArray })] w1 < μ [Value.int IntKind.i64 n, Value.string s1] w1
                      else
                        ((0 : Int) ≤ n ∧ n < (↑s.size : Int)) ∧
                          bif bt s n == 34 then R (Value.tuple #[Value.string s1, Value.int IntKind.i64 (IntKind.i64.wrap (n + 1))]) w1
                          else
                            ∀ (K1 : List Value → World → Prop),
                              (∀ (b1 : Bool),
                                  (bif b1 then R (Value.tuple #[Value.string { data := #[] : ByteArray }, Value.int IntKind.i64 (-1)]) w1
                                    else
                                      ((0 : Int) ≤ n ∧ n ≤ IntKind.i64.wrap (n + 1) ∧ IntKind.i64.wrap (n + 1) ≤ (↑s.size : Int)) ∧
                                        s1.size + (s.extract n.toNat (IntKind.i64.wrap (n + 1)).toNat).size ≤ 9223372036854775807 ∧
                                          I [Value.int IntKind.i64 (IntKind.i64.wrap (n + 1)), Value.string (s1 ++ s.extract n.toNat (IntKind.i64.wrap (n + 1)).toNat)] w1 ∧
                                            μ [Value.int IntKind.i64 (IntKind.i64.wrap (n + 1)), Value.string (s1 ++ s.extract n.toNat (IntKind.i64.wrap (n + 1)).toNat)] w1 < μ [Value.int IntKind.i64 n, Value.string s1] w1) →
                                    K1 [Value.bool b1] w1) →
                                ((0 : Int) ≤ n ∧ n < (↑s.size : Int)) ∧ bif decide (bt s n < 32) then K1 [Value.bool true] w1 else ((0 : Int) ≤ n ∧ n < (↑s.size : Int)) ∧ K1 [Value.bool (decide (bt s n > 126))] w1) →
                      K [Value.bool b] w1) →
                  ((0 : Int) ≤ n ∧ n < (↑s.size : Int)) ∧
                    bif bt s n == 34 then
                      bif decide (IntKind.i64.wrap (n + 1) < (↑s.size : Int)) then ((0 : Int) ≤ IntKind.i64.wrap (n + 1) ∧ IntKind.i64.wrap (n + 1) < (↑s.size : Int)) ∧ K [Value.bool (bt s (IntKind.i64.wrap (n + 1)) == 34)] w1
                      else K [Value.bool false] w1
                    else K [Value.bool false] w1
            else R (Value.tuple #[Value.string { data := #[] : ByteArray }, Value.int IntKind.i64 (-1)]) w1

theorem run41 (s : ByteArray) (i : Int) (w : World) (R : Value → World → Prop) (h : vc41 s i w R) : Ret Tryd.prog 41 #[.string s, .int .i64 i] w R :=
  vfn_sound sxE_ok (args := [.string s, .int .i64 i]) Tryd.func41 (Eq.mp (by kernel_rfl : vc41 s i w R = vfn sxE Tryd.f41 [.string s, .int .i64 i] w R) h)

/-! 42: chcsolver/chcsolverref01.wordByte (2902 ms) -/
def vc42 (c : Int) (w : World) (R : Value → World → Prop) : Prop :=
  Called Tryd.prog 56 #[Value.int IntKind.u8 c] w fun (v : Value) (w1 : World) =>
    ∃ (b : Bool),
      v = Value.bool b ∧
        bif b || decide (c ≥ 48) && decide (c ≤ 57) then R (Value.bool true) w1
        else
          bif c == 126 then R (Value.bool true) w1
          else
            bif c == 33 then R (Value.bool true) w1
            else
              bif c == 64 then R (Value.bool true) w1
              else
                bif c == 36 then R (Value.bool true) w1
                else
                  bif c == 37 then R (Value.bool true) w1
                  else
                    bif c == 94 then R (Value.bool true) w1
                    else
                      bif c == 38 then R (Value.bool true) w1
                      else
                        bif c == 42 then R (Value.bool true) w1
                        else
                          bif c == 95 then R (Value.bool true) w1
                          else
                            bif c == 45 then R (Value.bool true) w1
                            else
                              bif c == 43 then R (Value.bool true) w1
                              else
                                bif c == 61 then R (Value.bool true) w1
                                else
                                  bif c == 60 then R (Value.bool true) w1
                                  else
                                    bif c == 62 then R (Value.bool true) w1
                                    else
                                      bif c == 46 then R (Value.bool true) w1 else bif c == 63 then R (Value.bool true) w1 else bif c == 47 then R (Value.bool true) w1 else bif c == 58 then R (Value.bool true) w1 else R (Value.bool false) w1

theorem run42 (c : Int) (w : World) (R : Value → World → Prop) (h : vc42 c w R) : Ret Tryd.prog 42 #[.int .u8 c] w R :=
  vfn_sound sxE_ok (args := [.int .u8 c]) Tryd.func42 (Eq.mp (by kernel_rfl : vc42 c w R = vfn sxE Tryd.f42 [.int .u8 c] w R) h)

/-! 43: chcsolver/chcsolverref01.kindOfWord (9246 ms) -/
def vc43 (s : ByteArray) (w : World) (R : Value → World → Prop) : Prop :=
  ∀ (K : List Value → World → Prop),
    (∀ (b : Bool),
        (bif b then R (Value.int IntKind.i64 1) w
          else
            ∃ (I : List Value → World → Prop),
              ∃ (μ : List Value → World → Nat),
                I [Value.int IntKind.i64 0] w ∧
                  ∀ (n : Int) (w1 : World),
                    I [Value.int IntKind.i64 n] w1 →
                      bif decide (n < (↑s.size : Int)) then
                        ((0 : Int) ≤ n ∧ n < (↑s.size : Int)) ∧
                          bif bt s n == 46 then
                            ∀ (K1 : List Value → World → Prop),
                              (∀ (b1 : Bool) (w2 : World), (bif b1 then R (Value.int IntKind.i64 3) w2 else R (Value.int IntKind.i64 0) w2) → K1 [Value.bool b1] w2) →
                                ((0 : Int) ≤ n ∧ n ≤ (↑s.size : Int)) ∧
                                  Called Tryd.prog 57 #[Value.string (s.extract 0 n.toNat)] w1.drew fun (v : Value) (w3 : World) =>
                                    ∃ (b2 : Bool),
                                      v = Value.bool b2 ∧
                                        bif b2 then
                                          ((0 : Int) ≤ n ∧ n ≤ (↑s.size : Int)) ∧
                                            ((0 : Int) ≤ n ∧ n ≤ (↑s.size : Int)) ∧
                                              Called Tryd.prog 58 #[Value.string (s.extract 0 n.toNat)] w3 fun (v1 : Value) (w4 : World) =>
                                                ∃ (s1 : ByteArray),
                                                  v1 = Value.string s1 ∧
                                                    bif s1.toList == (s.extract 0 n.toNat).toList then
                                                      ((0 : Int) ≤ IntKind.i64.wrap (n + 1) ∧ IntKind.i64.wrap (n + 1) ≤ (↑s.size : Int)) ∧
                                                        Called Tryd.prog 57 #[Value.string (s.extract (IntKind.i64.wrap (n + 1)).toNat s.size)] w4 fun (v2 : Value) (w5 : World) => ∃ (b3 : Bool), v2 = Value.bool b3 ∧ K1 [Value.bool b3] w5
                                                    else K1 [Value.bool false] w4
                                        else K1 [Value.bool false] w3
                          else I [Value.int IntKind.i64 (IntKind.i64.wrap (n + 1))] w1 ∧ μ [Value.int IntKind.i64 (IntKind.i64.wrap (n + 1))] w1 < μ [Value.int IntKind.i64 n] w1
                      else
                        ∀ (K2 : List Value → World → Prop),
                          (∀ (b4 : Bool) (w6 : World), (bif b4 then R (Value.int IntKind.i64 2) w6 else R (Value.int IntKind.i64 0) w6) → K2 [Value.bool b4] w6) →
                            Called Tryd.prog 57 #[Value.string s] w1 fun (v3 : Value) (w7 : World) =>
                              ∃ (b5 : Bool),
                                v3 = Value.bool b5 ∧
                                  bif b5 then Called Tryd.prog 58 #[Value.string s] w7 fun (v4 : Value) (w8 : World) => ∃ (s2 : ByteArray), v4 = Value.string s2 ∧ K2 [Value.bool (s2.toList == s.toList)] w8 else K2 [Value.bool false] w7) →
          K [Value.bool b] w) →
      ((0 : Int) ≤ 0 ∧ (0 : Int) < (↑s.size : Int)) ∧ bif decide (bt s 0 < 48) then K [Value.bool true] w else ((0 : Int) ≤ 0 ∧ (0 : Int) < (↑s.size : Int)) ∧ K [Value.bool (decide (bt s 0 > 57))] w

theorem run43 (s : ByteArray) (w : World) (R : Value → World → Prop) (h : vc43 s w R) : Ret Tryd.prog 43 #[.string s] w R :=
  vfn_sound sxE_ok (args := [.string s]) Tryd.func43 (Eq.mp (by kernel_rfl : vc43 s w R = vfn sxE Tryd.f43 [.string s] w R) h)

/-! 44: chcsolver/chcsolverref01.FromInt (1615 ms) -/
def vc44 (n : Int) (w : World) (R : Value → World → Prop) : Prop :=
  ∃ (I : List Value → World → Prop),
    ∃ (μ : List Value → World → Nat),
      I [Value.int IntKind.i64 n, Value.string { data := #[] : ByteArray }] w ∧
        ∀ (n1 : Int) (s : ByteArray) (w1 : World),
          I [Value.int IntKind.i64 n1, Value.string s] w1 →
            bif n1 != 0 || s.toList == { data := #[] : ByteArray }.toList then
              ∀ (K : List Value → World → Prop),
                (∀ (n2 : Int),
                    (∃ (vs : List UInt8),
                        BytesAt (w1.alloc (Obj.cells #[Value.int IntKind.u8 (IntKind.u8.wrap (IntKind.i64.wrap (48 + n2)))] 5)) (some { block := w1.heap.size, off := 0 : Addr }) 1 vs ∧
                          { data := vs.toArray : ByteArray }.size + s.size ≤ 9223372036854775807 ∧
                            I [Value.int IntKind.i64 (IntKind.i64.wrap (n1.tdiv 10)), Value.string ({ data := vs.toArray : ByteArray } ++ s)] (w1.alloc (Obj.cells #[Value.int IntKind.u8 (IntKind.u8.wrap (IntKind.i64.wrap (48 + n2)))] 5)) ∧
                              μ [Value.int IntKind.i64 (IntKind.i64.wrap (n1.tdiv 10)), Value.string ({ data := vs.toArray : ByteArray } ++ s)] (w1.alloc (Obj.cells #[Value.int IntKind.u8 (IntKind.u8.wrap (IntKind.i64.wrap (48 + n2)))] 5)) <
                                μ [Value.int IntKind.i64 n1, Value.string s] w1) →
                      K [Value.int IntKind.i64 n2] w1) →
                  bif decide (n1.tmod 10 < 0) then K [Value.int IntKind.i64 (IntKind.i64.wrap (0 - n1.tmod 10))] w1 else K [Value.int IntKind.i64 (n1.tmod 10)] w1
            else bif decide (n < 0) then 1 + s.size ≤ 9223372036854775807 ∧ R (Value.string ({ data := #[45] : ByteArray } ++ s)) w1 else R (Value.string s) w1

theorem run44 (n : Int) (w : World) (R : Value → World → Prop) (h : vc44 n w R) : Ret Tryd.prog 44 #[.int .i64 n] w R :=
  vfn_sound sxE_ok (args := [.int .i64 n]) Tryd.func44 (Eq.mp (by kernel_rfl : vc44 n w R = vfn sxE Tryd.f44 [.int .i64 n] w R) h)

/-! 45: chcsolver/sexpr.blank (146 ms) -/
def vc45 (c : Int) (w : World) (R : Value → World → Prop) : Prop :=
  R (Value.bool (c == 32 || c == 9 || c == 13 || c == 10)) w

theorem run45 (c : Int) (w : World) (R : Value → World → Prop) (h : vc45 c w R) : Ret Tryd.prog 45 #[.int .u8 c] w R :=
  vfn_sound sxE_ok (args := [.int .u8 c]) Tryd.func45 (Eq.mp (by kernel_rfl : vc45 c w R = vfn sxE Tryd.f45 [.int .u8 c] w R) h)

/-! 46: (*chcsolver/sexpr.reader).add (15413 ms) -/
def vc46 (r : Addr) (kind : Int) (text : ByteArray) (pos : Int) (w : World) (R : Value → World → Prop) : Prop :=
  ∃ (p : Option Addr),
    ∃ (k : Nat),
      ∃ (k1 : Nat),
        w.cell? (r.add 3) = some (Value.slice p k k1) ∧
          bif decide ((↑k : Int) > 256) then R (Value.int IntKind.i64 6) w
          else
            ∀ (K : List Value → World → Prop),
              (∀ (w1 : World),
                  (∀ (K1 : List Value → World → Prop),
                      (∀ (w2 : World),
                          (∃ (p1 : Option Addr),
                              ∃ (k2 : Nat),
                                ∃ (k3 : Nat),
                                  w2.cell? (r.add 2) = some (Value.slice p1 k2 k3) ∧
                                    ∃ (k4 : Nat),
                                      ∃ (vs : List Value),
                                        ∃ (vs1 : List Value),
                                          AppOk (w2.alloc (Obj.cells #[Value.int IntKind.i64 kind, Value.string text, Value.int IntKind.i64 0, Value.int IntKind.i64 pos] 34)) k4 34 4 40 p1 k2 k3 vs
                                              (some { block := w2.heap.size, off := 0 : Addr }) 1 vs1 ∧
                                            ∀ (p2 : Option Addr) (k5 : Nat) (w3 : World),
                                              AppRes (w2.alloc (Obj.cells #[Value.int IntKind.i64 kind, Value.string text, Value.int IntKind.i64 0, Value.int IntKind.i64 pos] 34)) w3 k4 34 4 p1 k2 k3 vs 1 vs1 p2 k5 →
                                                ((∃ (v : Value), w3.cell? (r.add 2) = some v) ∧ w3.frozen? (r.add 2) = false) ∧ R (Value.int IntKind.i64 0) (w3.setCell (r.add 2) (Value.slice p2 (k2 + 1) k5))) →
                            K1 [] w2) →
                        bif kind == 5 then
                          ∀ (K2 : List Value → World → Prop),
                            (∀ (w4 : World), K1 [] w4 → K2 [] w4) →
                              ∃ (p3 : Option Addr),
                                ∃ (k6 : Nat),
                                  ∃ (k7 : Nat),
                                    w1.drew.cell? (r.add 3) = some (Value.slice p3 k6 k7) ∧
                                      ∃ (p4 : Option Addr),
                                        ∃ (k8 : Nat),
                                          ∃ (k9 : Nat),
                                            w1.drew.cell? (r.add 2) = some (Value.slice p4 k8 k9) ∧
                                              RowKit.Below w1.drew.heap.size w1.drew (w1.drew.alloc (Obj.cells #[Value.int IntKind.i64 (↑k8 : Int)] 3)) ∧
                                                ∃ (k10 : Nat),
                                                  ∃ (vs2 : List Value),
                                                    ∃ (vs3 : List Value),
                                                      AppOk (w1.drew.alloc (Obj.cells #[Value.int IntKind.i64 (↑k8 : Int)] 3)) k10 3 1 8 p3 k6 k7 vs2 (some { block := w1.drew.heap.size, off := 0 : Addr }) 1 vs3 ∧
                                                        ∀ (p5 : Option Addr) (k11 : Nat) (w5 : World),
                                                          AppRes (w1.drew.alloc (Obj.cells #[Value.int IntKind.i64 (↑k8 : Int)] 3)) w5 k10 3 1 p3 k6 k7 vs2 1 vs3 p5 k11 →
                                                            ((∃ (v1 : Value), w5.cell? (r.add 3) = some v1) ∧ w5.frozen? (r.add 3) = false) ∧ K2 [] (w5.setCell (r.add 3) (Value.slice p5 (k6 + 1) k11))
                        else K1 [] w1) →
                    K [] w1) →
                ∃ (p6 : Option Addr),
                  ∃ (k12 : Nat),
                    ∃ (k13 : Nat),
                      w.cell? (r.add 3) = some (Value.slice p6 k12 k13) ∧
                        bif decide ((↑k12 : Int) > 0) then
                          ∃ (p7 : Option Addr),
                            ∃ (k14 : Nat),
                              ∃ (k15 : Nat),
                                w.drew.cell? (r.add 2) = some (Value.slice p7 k14 k15) ∧
                                  ∃ (p8 : Option Addr),
                                    ∃ (k16 : Nat),
                                      ∃ (k17 : Nat),
                                        w.drew.cell? (r.add 3) = some (Value.slice p8 k16 k17) ∧
                                          ∃ (a : Addr),
                                            p8 = some a ∧
                                              ((0 : Int) ≤ IntKind.i64.wrap ((↑k12 : Int) - 1) ∧ IntKind.i64.wrap ((↑k12 : Int) - 1) < (↑k16 : Int)) ∧
                                                ∃ (n : Int),
                                                  w.drew.cell? (a.add ((IntKind.i64.wrap ((↑k12 : Int) - 1)).toNat * 1)) = some (Value.int IntKind.i64 n) ∧
                                                    ∃ (a1 : Addr),
                                                      p7 = some a1 ∧
                                                        ((0 : Int) ≤ n ∧ n < (↑k14 : Int)) ∧
                                                          ∃ (n1 : Int),
                                                            w.drew.cell? ((a1.add (n.toNat * 4)).add 2) = some (Value.int IntKind.i64 n1) ∧
                                                              ∃ (a2 : Addr),
                                                                p7 = some a2 ∧
                                                                  ((0 : Int) ≤ n ∧ n < (↑k14 : Int)) ∧
                                                                    ((∃ (v2 : Value), w.drew.cell? ((a2.add (n.toNat * 4)).add 2) = some v2) ∧ w.drew.frozen? ((a2.add (n.toNat * 4)).add 2) = false) ∧
                                                                      K [] (w.drew.setCell ((a2.add (n.toNat * 4)).add 2) (Value.int IntKind.i64 (IntKind.i64.wrap (n1 + 1))))
                        else K [] w

theorem run46 (r : Addr) (kind : Int) (text : ByteArray) (pos : Int) (w : World) (R : Value → World → Prop) (h : vc46 r kind text pos w R) : Ret Tryd.prog 46 #[.pointer (some r), .int .i64 kind, .string text, .int .i64 pos] w R :=
  vfn_sound sxE_ok (args := [.pointer (some r), .int .i64 kind, .string text, .int .i64 pos]) Tryd.func46 (Eq.mp (by kernel_rfl : vc46 r kind text pos w R = vfn sxE Tryd.f46 [.pointer (some r), .int .i64 kind, .string text, .int .i64 pos] w R) h)

/-! 47: (*chcsolver/sexpr.reader).quoted (21309 ms) -/
def vc47 (r : Addr) (w : World) (R : Value → World → Prop) : Prop :=
  ∃ (n : Int),
    (w.alloc (Obj.cells #[Value.pointer none, Value.slice none 0 0] 62)).cell? (r.add 1) = some (Value.int IntKind.i64 n) ∧
      ((∃ (v : Value), (w.alloc (Obj.cells #[Value.pointer none, Value.slice none 0 0] 62)).cell? (r.add 1) = some v) ∧ (w.alloc (Obj.cells #[Value.pointer none, Value.slice none 0 0] 62)).frozen? (r.add 1) = false) ∧
        ∃ (I : List Value → World → Prop),
          ∃ (μ : List Value → World → Nat),
            I [] ((w.alloc (Obj.cells #[Value.pointer none, Value.slice none 0 0] 62)).setCell (r.add 1) (Value.int IntKind.i64 (IntKind.i64.wrap (n + 1)))) ∧
              ∀ (w1 : World),
                I [] w1 →
                  ∃ (n1 : Int),
                    w1.drew.cell? (r.add 1) = some (Value.int IntKind.i64 n1) ∧
                      ∃ (s : ByteArray),
                        w1.drew.cell? r = some (Value.string s) ∧
                          bif decide (n1 < (↑s.size : Int)) then
                            ∀ (K : List Value → World → Prop),
                              (∀ (w2 : World),
                                  (∃ (n2 : Int),
                                      w2.cell? (r.add 1) = some (Value.int IntKind.i64 n2) ∧
                                        ((∃ (v1 : Value), w2.cell? (r.add 1) = some v1) ∧ w2.frozen? (r.add 1) = false) ∧
                                          I [] (w2.setCell (r.add 1) (Value.int IntKind.i64 (IntKind.i64.wrap (n2 + 1)))) ∧ μ [] (w2.setCell (r.add 1) (Value.int IntKind.i64 (IntKind.i64.wrap (n2 + 1)))) < μ [] w1) →
                                    K [] w2) →
                                ∃ (s1 : ByteArray),
                                  w1.drew.drew.cell? r = some (Value.string s1) ∧
                                    ∃ (n3 : Int),
                                      w1.drew.drew.cell? (r.add 1) = some (Value.int IntKind.i64 n3) ∧
                                        ((0 : Int) ≤ n3 ∧ n3 < (↑s1.size : Int)) ∧
                                          Called Tryd.prog 50 #[Value.int IntKind.u8 (bt s1 n3)] w1.drew.drew fun (v2 : Value) (w3 : World) =>
                                            ∃ (b : Bool),
                                              v2 = Value.bool b ∧
                                                bif !b then R (Value.tuple #[Value.string { data := #[] : ByteArray }, Value.bool false]) w3
                                                else
                                                  bif bt s1 n3 != 34 then
                                                    Called Tryd.prog 37 #[Value.pointer (some { block := w.heap.size, off := 0 : Addr }), Value.int IntKind.u8 (bt s1 n3)] w3 fun (v3 : Value) (w4 : World) => ∃ (v4 : Value), v3 = v4 ∧ K [] w4
                                                  else
                                                    ∀ (K1 : List Value → World → Prop),
                                                      (∀ (b1 : Bool),
                                                          (bif b1 then
                                                              Called Tryd.prog 37 #[Value.pointer (some { block := w.heap.size, off := 0 : Addr }), Value.int IntKind.u8 (bt s1 n3)] w3.drew fun (v5 : Value) (w5 : World) =>
                                                                ∃ (v6 : Value),
                                                                  v5 = v6 ∧
                                                                    ∃ (n4 : Int),
                                                                      w5.cell? (r.add 1) = some (Value.int IntKind.i64 n4) ∧
                                                                        ((∃ (v7 : Value), w5.cell? (r.add 1) = some v7) ∧ w5.frozen? (r.add 1) = false) ∧ K [] (w5.setCell (r.add 1) (Value.int IntKind.i64 (IntKind.i64.wrap (n4 + 1))))
                                                            else
                                                              ∃ (n5 : Int),
                                                                w3.drew.cell? (r.add 1) = some (Value.int IntKind.i64 n5) ∧
                                                                  ((∃ (v8 : Value), w3.drew.cell? (r.add 1) = some v8) ∧ w3.drew.frozen? (r.add 1) = false) ∧
                                                                    Called Tryd.prog 38 #[Value.pointer (some { block := w.heap.size, off := 0 : Addr })] (w3.drew.setCell (r.add 1) (Value.int IntKind.i64 (IntKind.i64.wrap (n5 + 1))))
                                                                      fun (v9 : Value) (w6 : World) => ∃ (s2 : ByteArray), v9 = Value.string s2 ∧ R (Value.tuple #[Value.string s2, Value.bool true]) w6) →
                                                            K1 [Value.bool b1] w3.drew) →
                                                        ∃ (n6 : Int),
                                                          w3.drew.cell? (r.add 1) = some (Value.int IntKind.i64 n6) ∧
                                                            ∃ (s3 : ByteArray),
                                                              w3.drew.cell? r = some (Value.string s3) ∧
                                                                bif decide (IntKind.i64.wrap (n6 + 1) < (↑s3.size : Int)) then
                                                                  ∃ (s4 : ByteArray),
                                                                    w3.drew.cell? r = some (Value.string s4) ∧
                                                                      ∃ (n7 : Int),
                                                                        w3.drew.cell? (r.add 1) = some (Value.int IntKind.i64 n7) ∧
                                                                          ((0 : Int) ≤ IntKind.i64.wrap (n7 + 1) ∧ IntKind.i64.wrap (n7 + 1) < (↑s4.size : Int)) ∧ K1 [Value.bool (bt s4 (IntKind.i64.wrap (n7 + 1)) == 34)] w3.drew
                                                                else K1 [Value.bool false] w3.drew
                          else R (Value.tuple #[Value.string { data := #[] : ByteArray }, Value.bool false]) w1.drew

theorem run47 (r : Addr) (w : World) (R : Value → World → Prop) (h : vc47 r w R) : Ret Tryd.prog 47 #[.pointer (some r)] w R :=
  vfn_sound sxE_ok (args := [.pointer (some r)]) Tryd.func47 (Eq.mp (by kernel_rfl : vc47 r w R = vfn sxE Tryd.f47 [.pointer (some r)] w R) h)

/-! 48: (*chcsolver/sexpr.reader).word (9322 ms) -/
def vc48 (r : Addr) (w : World) (R : Value → World → Prop) : Prop :=
  ∃ (n : Int),
    w.cell? (r.add 1) = some (Value.int IntKind.i64 n) ∧
      ∃ (I : List Value → World → Prop),
        ∃ (μ : List Value → World → Nat),
          I [] w ∧
            ∀ (w1 : World),
              I [] w1 →
                ∀ (K : List Value → World → Prop),
                  (∀ (b : Bool) (w2 : World),
                      (bif b then
                          ∃ (n1 : Int),
                            w2.cell? (r.add 1) = some (Value.int IntKind.i64 n1) ∧
                              ((∃ (v : Value), w2.cell? (r.add 1) = some v) ∧ w2.frozen? (r.add 1) = false) ∧
                                I [] (w2.setCell (r.add 1) (Value.int IntKind.i64 (IntKind.i64.wrap (n1 + 1)))) ∧ μ [] (w2.setCell (r.add 1) (Value.int IntKind.i64 (IntKind.i64.wrap (n1 + 1)))) < μ [] w1
                        else
                          ∃ (s : ByteArray),
                            w2.drew.cell? r = some (Value.string s) ∧
                              ∃ (n2 : Int), w2.drew.cell? (r.add 1) = some (Value.int IntKind.i64 n2) ∧ ((0 : Int) ≤ n ∧ n ≤ n2 ∧ n2 ≤ (↑s.size : Int)) ∧ R (Value.string (s.extract n.toNat n2.toNat)) w2.drew) →
                        K [Value.bool b] w2) →
                    ∃ (n3 : Int),
                      w1.drew.cell? (r.add 1) = some (Value.int IntKind.i64 n3) ∧
                        ∃ (s1 : ByteArray),
                          w1.drew.cell? r = some (Value.string s1) ∧
                            bif decide (n3 < (↑s1.size : Int)) then
                              ∃ (s2 : ByteArray),
                                w1.drew.cell? r = some (Value.string s2) ∧
                                  ∃ (n4 : Int),
                                    w1.drew.cell? (r.add 1) = some (Value.int IntKind.i64 n4) ∧
                                      ((0 : Int) ≤ n4 ∧ n4 < (↑s2.size : Int)) ∧ Called Tryd.prog 51 #[Value.int IntKind.u8 (bt s2 n4)] w1.drew fun (v1 : Value) (w3 : World) => ∃ (b1 : Bool), v1 = Value.bool b1 ∧ K [Value.bool b1] w3
                            else K [Value.bool false] w1.drew

theorem run48 (r : Addr) (w : World) (R : Value → World → Prop) (h : vc48 r w R) : Ret Tryd.prog 48 #[.pointer (some r)] w R :=
  vfn_sound sxE_ok (args := [.pointer (some r)]) Tryd.func48 (Eq.mp (by kernel_rfl : vc48 r w R = vfn sxE Tryd.f48 [.pointer (some r)] w R) h)

/-! 49: chcsolver/sexpr.kindOf (1109 ms) -/
def vc49 (s : ByteArray) (w : World) (R : Value → World → Prop) : Prop :=
  Called Tryd.prog 59 #[Value.string s, Value.string { data := #[46] : ByteArray }] w fun (v : Value) (w1 : World) =>
    ∃ (s1 : ByteArray),
      ∃ (s2 : ByteArray),
        ∃ (b : Bool),
          v = Value.tuple #[Value.string s1, Value.string s2, Value.bool b] ∧
            bif s.toList == { data := #[] : ByteArray }.toList then R (Value.int IntKind.i64 0) w1
            else
              ((0 : Int) ≤ 0 ∧ (0 : Int) < (↑s.size : Int)) ∧
                Called Tryd.prog 60 #[Value.int IntKind.u8 (bt s 0)] w1 fun (v1 : Value) (w2 : World) =>
                  ∃ (b1 : Bool),
                    v1 = Value.bool b1 ∧
                      bif !b1 then R (Value.int IntKind.i64 1) w2
                      else
                        Called Tryd.prog 61 #[Value.string s1] w2 fun (v2 : Value) (w3 : World) =>
                          ∃ (b2 : Bool),
                            v2 = Value.bool b2 ∧
                              bif !b2 then R (Value.int IntKind.i64 0) w3
                              else
                                bif !b then R (Value.int IntKind.i64 2) w3
                                else
                                  ∀ (K : List Value → World → Prop),
                                    (∀ (b3 : Bool) (w4 : World), (bif b3 then R (Value.int IntKind.i64 3) w4 else R (Value.int IntKind.i64 0) w4) → K [Value.bool b3] w4) →
                                      bif !s2.toList == { data := #[] : ByteArray }.toList then
                                        Called Tryd.prog 62 #[Value.string s2, Value.string { data := #[48, 49, 50, 51, 52, 53, 54, 55, 56, 57] : ByteArray }] w3 fun (v3 : Value) (w5 : World) =>
                                          ∃ (s3 : ByteArray), v3 = Value.string s3 ∧ K [Value.bool (s3.toList == { data := #[] : ByteArray }.toList)] w5
                                      else K [Value.bool false] w3

theorem run49 (s : ByteArray) (w : World) (R : Value → World → Prop) (h : vc49 s w R) : Ret Tryd.prog 49 #[.string s] w R :=
  vfn_sound sxE_ok (args := [.string s]) Tryd.func49 (Eq.mp (by kernel_rfl : vc49 s w R = vfn sxE Tryd.f49 [.string s] w R) h)

/-! 50: chcsolver/sexpr.printable (104 ms) -/
def vc50 (c : Int) (w : World) (R : Value → World → Prop) : Prop :=
  R (Value.bool (decide (c ≥ 32) && decide (c ≤ 126))) w

theorem run50 (c : Int) (w : World) (R : Value → World → Prop) (h : vc50 c w R) : Ret Tryd.prog 50 #[.int .u8 c] w R :=
  vfn_sound sxE_ok (args := [.int .u8 c]) Tryd.func50 (Eq.mp (by kernel_rfl : vc50 c w R = vfn sxE Tryd.f50 [.int .u8 c] w R) h)

/-! 51: chcsolver/sexpr.wordly (660 ms) -/
def vc51 (c : Int) (w : World) (R : Value → World → Prop) : Prop :=
  ∀ (K : List Value → World → Prop),
    (∀ (b : Bool) (w1 : World), R (Value.bool b) w1 → K [Value.bool b] w1) →
      bif decide (c ≥ 97) && decide (c ≤ 122) || decide (c ≥ 65) && decide (c ≤ 90) then K [Value.bool true] w
      else
        Called Tryd.prog 60 #[Value.int IntKind.u8 c] w fun (v : Value) (w2 : World) =>
          ∃ (b1 : Bool),
            v = Value.bool b1 ∧
              bif b1 then K [Value.bool true] w2
              else
                Called Tryd.prog 63 #[Value.string { data := #[126, 33, 64, 36, 37, 94, 38, 42, 95, 45, 43, 61, 60, 62, 46, 63, 47, 58] : ByteArray }, Value.int IntKind.u8 c] w2 fun (v1 : Value) (w3 : World) =>
                  ∃ (n : Int), v1 = Value.int IntKind.i64 n ∧ K [Value.bool (decide (n ≥ 0))] w3

theorem run51 (c : Int) (w : World) (R : Value → World → Prop) (h : vc51 c w R) : Ret Tryd.prog 51 #[.int .u8 c] w R :=
  vfn_sound sxE_ok (args := [.int .u8 c]) Tryd.func51 (Eq.mp (by kernel_rfl : vc51 c w R = vfn sxE Tryd.f51 [.int .u8 c] w R) h)

/-! 55: chcsolver/chcsolverref01.validItem (8515 ms) -/
def vc55 (x_0 : Int) (x_1 : ByteArray) (x_2 : Int) (x_3 : Int) (w : World) (R : Value → World → Prop) : Prop :=
  ∀ (K : List Value → World → Prop),
    (∀ (b : Bool),
        (bif b then R (Value.bool false) (w.alloc (Obj.cells #[Value.int IntKind.i64 x_0, Value.string x_1, Value.int IntKind.i64 x_2, Value.int IntKind.i64 x_3] 34))
          else
            ∃ (n : Int),
              (w.alloc (Obj.cells #[Value.int IntKind.i64 x_0, Value.string x_1, Value.int IntKind.i64 x_2, Value.int IntKind.i64 x_3] 34)).cell? { block := w.heap.size, off := 0 : Addr } = some (Value.int IntKind.i64 n) ∧
                bif n == 5 then
                  ∃ (s : ByteArray),
                    (w.alloc (Obj.cells #[Value.int IntKind.i64 x_0, Value.string x_1, Value.int IntKind.i64 x_2, Value.int IntKind.i64 x_3] 34)).cell? { block := w.heap.size, off := 1 : Addr } = some (Value.string s) ∧
                      R (Value.bool (s.toList == { data := #[] : ByteArray }.toList)) (w.alloc (Obj.cells #[Value.int IntKind.i64 x_0, Value.string x_1, Value.int IntKind.i64 x_2, Value.int IntKind.i64 x_3] 34))
                else
                  ∀ (K1 : List Value → World → Prop),
                    (∀ (b1 : Bool),
                        (bif b1 then
                            ∀ (K2 : List Value → World → Prop),
                              (∀ (b2 : Bool) (w1 : World), R (Value.bool b2) w1 → K2 [Value.bool b2] w1) →
                                ∃ (s1 : ByteArray),
                                  (w.alloc (Obj.cells #[Value.int IntKind.i64 x_0, Value.string x_1, Value.int IntKind.i64 x_2, Value.int IntKind.i64 x_3] 34)).drew.cell? { block := w.heap.size, off := 1 : Addr } = some (Value.string s1) ∧
                                    Called Tryd.prog 66 #[Value.string s1] (w.alloc (Obj.cells #[Value.int IntKind.i64 x_0, Value.string x_1, Value.int IntKind.i64 x_2, Value.int IntKind.i64 x_3] 34)).drew fun (v : Value) (w2 : World) =>
                                      ∃ (b3 : Bool),
                                        v = Value.bool b3 ∧
                                          RowKit.Below (w.alloc (Obj.cells #[Value.int IntKind.i64 x_0, Value.string x_1, Value.int IntKind.i64 x_2, Value.int IntKind.i64 x_3] 34)).drew.heap.size
                                              (w.alloc (Obj.cells #[Value.int IntKind.i64 x_0, Value.string x_1, Value.int IntKind.i64 x_2, Value.int IntKind.i64 x_3] 34)).drew w2 ∧
                                            bif b3 then
                                              ∃ (s2 : ByteArray),
                                                (w.alloc (Obj.cells #[Value.int IntKind.i64 x_0, Value.string x_1, Value.int IntKind.i64 x_2, Value.int IntKind.i64 x_3] 34)).drew.cell? { block := w.heap.size, off := 1 : Addr } =
                                                    some (Value.string s2) ∧
                                                  ∃ (n1 : Int),
                                                    (w.alloc (Obj.cells #[Value.int IntKind.i64 x_0, Value.string x_1, Value.int IntKind.i64 x_2, Value.int IntKind.i64 x_3] 34)).drew.cell? { block := w.heap.size, off := 0 : Addr } =
                                                        some (Value.int IntKind.i64 n1) ∧
                                                      Called Tryd.prog 43 #[Value.string s2] w2 fun (v1 : Value) (w3 : World) =>
                                                        ∃ (n2 : Int),
                                                          v1 = Value.int IntKind.i64 n2 ∧
                                                            RowKit.Below (w.alloc (Obj.cells #[Value.int IntKind.i64 x_0, Value.string x_1, Value.int IntKind.i64 x_2, Value.int IntKind.i64 x_3] 34)).drew.heap.size
                                                                (w.alloc (Obj.cells #[Value.int IntKind.i64 x_0, Value.string x_1, Value.int IntKind.i64 x_2, Value.int IntKind.i64 x_3] 34)).drew w3 ∧
                                                              K2 [Value.bool (n2 == n1)] w3
                                            else K2 [Value.bool false] w2
                          else
                            bif n == 4 then
                              ∃ (I : List Value → World → Prop),
                                ∃ (μ : List Value → World → Nat),
                                  I [Value.int IntKind.i64 0] (w.alloc (Obj.cells #[Value.int IntKind.i64 x_0, Value.string x_1, Value.int IntKind.i64 x_2, Value.int IntKind.i64 x_3] 34)) ∧
                                    ∀ (n3 : Int) (w4 : World),
                                      I [Value.int IntKind.i64 n3] w4 →
                                        ∃ (s3 : ByteArray),
                                          w4.cell? { block := w.heap.size, off := 1 : Addr } = some (Value.string s3) ∧
                                            bif decide (n3 < (↑s3.size : Int)) then
                                              ∀ (K3 : List Value → World → Prop),
                                                (∀ (b4 : Bool),
                                                    (bif b4 then R (Value.bool false) w4
                                                      else I [Value.int IntKind.i64 (IntKind.i64.wrap (n3 + 1))] w4 ∧ μ [Value.int IntKind.i64 (IntKind.i64.wrap (n3 + 1))] w4 < μ [Value.int IntKind.i64 n3] w4) →
                                                      K3 [Value.bool b4] w4) →
                                                  ∃ (s4 : ByteArray),
                                                    w4.cell? { block := w.heap.size, off := 1 : Addr } = some (Value.string s4) ∧
                                                      ((0 : Int) ≤ n3 ∧ n3 < (↑s4.size : Int)) ∧
                                                        bif decide (bt s4 n3 < 32) then K3 [Value.bool true] w4
                                                        else
                                                          ∃ (s5 : ByteArray),
                                                            w4.cell? { block := w.heap.size, off := 1 : Addr } = some (Value.string s5) ∧ ((0 : Int) ≤ n3 ∧ n3 < (↑s5.size : Int)) ∧ K3 [Value.bool (decide (bt s5 n3 > 126))] w4
                                            else R (Value.bool true) w4
                            else R (Value.bool false) (w.alloc (Obj.cells #[Value.int IntKind.i64 x_0, Value.string x_1, Value.int IntKind.i64 x_2, Value.int IntKind.i64 x_3] 34))) →
                          K1 [Value.bool b1] (w.alloc (Obj.cells #[Value.int IntKind.i64 x_0, Value.string x_1, Value.int IntKind.i64 x_2, Value.int IntKind.i64 x_3] 34))) →
                      bif n == 1 then K1 [Value.bool true] (w.alloc (Obj.cells #[Value.int IntKind.i64 x_0, Value.string x_1, Value.int IntKind.i64 x_2, Value.int IntKind.i64 x_3] 34))
                      else
                        bif n == 2 then K1 [Value.bool true] (w.alloc (Obj.cells #[Value.int IntKind.i64 x_0, Value.string x_1, Value.int IntKind.i64 x_2, Value.int IntKind.i64 x_3] 34))
                        else K1 [Value.bool (n == 3)] (w.alloc (Obj.cells #[Value.int IntKind.i64 x_0, Value.string x_1, Value.int IntKind.i64 x_2, Value.int IntKind.i64 x_3] 34))) →
          K [Value.bool b] (w.alloc (Obj.cells #[Value.int IntKind.i64 x_0, Value.string x_1, Value.int IntKind.i64 x_2, Value.int IntKind.i64 x_3] 34))) →
      ∃ (n4 : Int),
        (w.alloc (Obj.cells #[Value.int IntKind.i64 x_0, Value.string x_1, Value.int IntKind.i64 x_2, Value.int IntKind.i64 x_3] 34)).cell? { block := w.heap.size, off := 0 : Addr } = some (Value.int IntKind.i64 n4) ∧
          bif n4 != 5 then
            ∃ (n5 : Int),
              (w.alloc (Obj.cells #[Value.int IntKind.i64 x_0, Value.string x_1, Value.int IntKind.i64 x_2, Value.int IntKind.i64 x_3] 34)).cell? { block := w.heap.size, off := 2 : Addr } = some (Value.int IntKind.i64 n5) ∧
                bif n5 != 0 then K [Value.bool true] (w.alloc (Obj.cells #[Value.int IntKind.i64 x_0, Value.string x_1, Value.int IntKind.i64 x_2, Value.int IntKind.i64 x_3] 34))
                else
                  ∃ (n6 : Int),
                    (w.alloc (Obj.cells #[Value.int IntKind.i64 x_0, Value.string x_1, Value.int IntKind.i64 x_2, Value.int IntKind.i64 x_3] 34)).cell? { block := w.heap.size, off := 2 : Addr } = some (Value.int IntKind.i64 n6) ∧
                      K [Value.bool (decide (n6 < 0))] (w.alloc (Obj.cells #[Value.int IntKind.i64 x_0, Value.string x_1, Value.int IntKind.i64 x_2, Value.int IntKind.i64 x_3] 34))
          else
            ∃ (n7 : Int),
              (w.alloc (Obj.cells #[Value.int IntKind.i64 x_0, Value.string x_1, Value.int IntKind.i64 x_2, Value.int IntKind.i64 x_3] 34)).cell? { block := w.heap.size, off := 2 : Addr } = some (Value.int IntKind.i64 n7) ∧
                K [Value.bool (decide (n7 < 0))] (w.alloc (Obj.cells #[Value.int IntKind.i64 x_0, Value.string x_1, Value.int IntKind.i64 x_2, Value.int IntKind.i64 x_3] 34))

theorem run55 (x_0 : Int) (x_1 : ByteArray) (x_2 : Int) (x_3 : Int) (w : World) (R : Value → World → Prop) (h : vc55 x_0 x_1 x_2 x_3 w R) : Ret Tryd.prog 55 #[.agg #[.int .i64 x_0, .string x_1, .int .i64 x_2, .int .i64 x_3]] w R :=
  vfn_sound sxE_ok (args := [.agg #[.int .i64 x_0, .string x_1, .int .i64 x_2, .int .i64 x_3]]) Tryd.func55 (Eq.mp (by kernel_rfl : vc55 x_0 x_1 x_2 x_3 w R = vfn sxE Tryd.f55 [.agg #[.int .i64 x_0, .string x_1, .int .i64 x_2, .int .i64 x_3]] w R) h)

/-! 56: chcsolver/chcsolverref01.letter (107 ms) -/
def vc56 (c : Int) (w : World) (R : Value → World → Prop) : Prop :=
  R (Value.bool (decide (c ≥ 97) && decide (c ≤ 122) || decide (c ≥ 65) && decide (c ≤ 90))) w

theorem run56 (c : Int) (w : World) (R : Value → World → Prop) (h : vc56 c w R) : Ret Tryd.prog 56 #[.int .u8 c] w R :=
  vfn_sound sxE_ok (args := [.int .u8 c]) Tryd.func56 (Eq.mp (by kernel_rfl : vc56 c w R = vfn sxE Tryd.f56 [.int .u8 c] w R) h)

/-! 57: chcsolver/chcsolverref01.digits (603 ms) -/
def vc57 (s : ByteArray) (w : World) (R : Value → World → Prop) : Prop :=
  ∃ (I : List Value → World → Prop),
    ∃ (μ : List Value → World → Nat),
      I [Value.int IntKind.i64 0] w ∧
        ∀ (n : Int) (w1 : World),
          I [Value.int IntKind.i64 n] w1 →
            bif decide (n < (↑s.size : Int)) then
              ∀ (K : List Value → World → Prop),
                (∀ (b : Bool),
                    (bif b then R (Value.bool false) w1 else I [Value.int IntKind.i64 (IntKind.i64.wrap (n + 1))] w1 ∧ μ [Value.int IntKind.i64 (IntKind.i64.wrap (n + 1))] w1 < μ [Value.int IntKind.i64 n] w1) → K [Value.bool b] w1) →
                  ((0 : Int) ≤ n ∧ n < (↑s.size : Int)) ∧ bif decide (bt s n < 48) then K [Value.bool true] w1 else ((0 : Int) ≤ n ∧ n < (↑s.size : Int)) ∧ K [Value.bool (decide (bt s n > 57))] w1
            else R (Value.bool !s.toList == { data := #[] : ByteArray }.toList) w1

theorem run57 (s : ByteArray) (w : World) (R : Value → World → Prop) (h : vc57 s w R) : Ret Tryd.prog 57 #[.string s] w R :=
  vfn_sound sxE_ok (args := [.string s]) Tryd.func57 (Eq.mp (by kernel_rfl : vc57 s w R = vfn sxE Tryd.f57 [.string s] w R) h)

/-! 58: chcsolver/chcsolverref01.trim (509 ms) -/
def vc58 (s : ByteArray) (w : World) (R : Value → World → Prop) : Prop :=
  ∃ (I : List Value → World → Prop),
    ∃ (μ : List Value → World → Nat),
      I [Value.string s] w ∧
        ∀ (s1 : ByteArray) (w1 : World),
          I [Value.string s1] w1 →
            ∀ (K : List Value → World → Prop),
              (∀ (b : Bool),
                  (bif b then ((0 : Int) ≤ 1 ∧ (1 : Int) ≤ (↑s1.size : Int)) ∧ I [Value.string (s1.extract 1 s1.size)] w1 ∧ μ [Value.string (s1.extract 1 s1.size)] w1 < μ [Value.string s1] w1 else R (Value.string s1) w1) →
                    K [Value.bool b] w1) →
                bif decide ((↑s1.size : Int) > 1) then ((0 : Int) ≤ 0 ∧ (0 : Int) < (↑s1.size : Int)) ∧ K [Value.bool (bt s1 0 == 48)] w1 else K [Value.bool false] w1

theorem run58 (s : ByteArray) (w : World) (R : Value → World → Prop) (h : vc58 s w R) : Ret Tryd.prog 58 #[.string s] w R :=
  vfn_sound sxE_ok (args := [.string s]) Tryd.func58 (Eq.mp (by kernel_rfl : vc58 s w R = vfn sxE Tryd.f58 [.string s] w R) h)

/-! 59: strings.Cut (124 ms) -/
def vc59 (s : ByteArray) (sep : ByteArray) (w : World) (R : Value → World → Prop) : Prop :=
  Called Tryd.prog 67 #[Value.string s, Value.string sep] w fun (v : Value) (w1 : World) =>
    ∃ (s1 : ByteArray), ∃ (s2 : ByteArray), ∃ (b : Bool), v = Value.tuple #[Value.string s1, Value.string s2, Value.bool b] ∧ R (Value.tuple #[Value.string s1, Value.string s2, Value.bool b]) w1

theorem run59 (s : ByteArray) (sep : ByteArray) (w : World) (R : Value → World → Prop) (h : vc59 s sep w R) : Ret Tryd.prog 59 #[.string s, .string sep] w R :=
  vfn_sound sxE_ok (args := [.string s, .string sep]) Tryd.func59 (Eq.mp (by kernel_rfl : vc59 s sep w R = vfn sxE Tryd.f59 [.string s, .string sep] w R) h)

/-! 60: chcsolver/sexpr.digit (54 ms) -/
def vc60 (c : Int) (w : World) (R : Value → World → Prop) : Prop :=
  R (Value.bool (decide (c ≥ 48) && decide (c ≤ 57))) w

theorem run60 (c : Int) (w : World) (R : Value → World → Prop) (h : vc60 c w R) : Ret Tryd.prog 60 #[.int .u8 c] w R :=
  vfn_sound sxE_ok (args := [.int .u8 c]) Tryd.func60 (Eq.mp (by kernel_rfl : vc60 c w R = vfn sxE Tryd.f60 [.int .u8 c] w R) h)

/-! 61: chcsolver/sexpr.numeral (402 ms) -/
def vc61 (s : ByteArray) (w : World) (R : Value → World → Prop) : Prop :=
  ∀ (K : List Value → World → Prop),
    (∀ (b : Bool) (w1 : World), R (Value.bool b) w1 → K [Value.bool b] w1) →
      bif s.toList == { data := #[48] : ByteArray }.toList then K [Value.bool true] w
      else
        bif !s.toList == { data := #[] : ByteArray }.toList then
          ((0 : Int) ≤ 0 ∧ (0 : Int) < (↑s.size : Int)) ∧
            bif bt s 0 != 48 then
              Called Tryd.prog 62 #[Value.string s, Value.string { data := #[48, 49, 50, 51, 52, 53, 54, 55, 56, 57] : ByteArray }] w fun (v : Value) (w2 : World) =>
                ∃ (s1 : ByteArray), v = Value.string s1 ∧ K [Value.bool (s1.toList == { data := #[] : ByteArray }.toList)] w2
            else K [Value.bool false] w
        else K [Value.bool false] w

theorem run61 (s : ByteArray) (w : World) (R : Value → World → Prop) (h : vc61 s w R) : Ret Tryd.prog 61 #[.string s] w R :=
  vfn_sound sxE_ok (args := [.string s]) Tryd.func61 (Eq.mp (by kernel_rfl : vc61 s w R = vfn sxE Tryd.f61 [.string s] w R) h)

/-! 66: chcsolver/chcsolverref01.word (241 ms) -/
def vc66 (s : ByteArray) (w : World) (R : Value → World → Prop) : Prop :=
  ∃ (I : List Value → World → Prop),
    ∃ (μ : List Value → World → Nat),
      I [Value.int IntKind.i64 0] w ∧
        ∀ (n : Int) (w1 : World),
          I [Value.int IntKind.i64 n] w1 →
            bif decide (n < (↑s.size : Int)) then
              ((0 : Int) ≤ n ∧ n < (↑s.size : Int)) ∧
                Called Tryd.prog 42 #[Value.int IntKind.u8 (bt s n)] w1 fun (v : Value) (w2 : World) =>
                  ∃ (b : Bool), v = Value.bool b ∧ bif !b then R (Value.bool false) w2 else I [Value.int IntKind.i64 (IntKind.i64.wrap (n + 1))] w2 ∧ μ [Value.int IntKind.i64 (IntKind.i64.wrap (n + 1))] w2 < μ [Value.int IntKind.i64 n] w1
            else R (Value.bool !s.toList == { data := #[] : ByteArray }.toList) w1

theorem run66 (s : ByteArray) (w : World) (R : Value → World → Prop) (h : vc66 s w R) : Ret Tryd.prog 66 #[.string s] w R :=
  vfn_sound sxE_ok (args := [.string s]) Tryd.func66 (Eq.mp (by kernel_rfl : vc66 s w R = vfn sxE Tryd.f66 [.string s] w R) h)

/-! 67: internal/stringslite.Cut (694 ms) -/
def vc67 (s : ByteArray) (sep : ByteArray) (w : World) (R : Value → World → Prop) : Prop :=
  Called Tryd.prog 80 #[Value.string s, Value.string sep] w fun (v : Value) (w1 : World) =>
    ∃ (n : Int),
      v = Value.int IntKind.i64 n ∧
        bif decide (n ≥ 0) then
          ((0 : Int) ≤ n ∧ n ≤ (↑s.size : Int)) ∧
            ((0 : Int) ≤ IntKind.i64.wrap (n + (↑sep.size : Int)) ∧ IntKind.i64.wrap (n + (↑sep.size : Int)) ≤ (↑s.size : Int)) ∧
              R (Value.tuple #[Value.string (s.extract 0 n.toNat), Value.string (s.extract (IntKind.i64.wrap (n + (↑sep.size : Int))).toNat s.size), Value.bool true]) w1.drew
        else R (Value.tuple #[Value.string s, Value.string { data := #[] : ByteArray }, Value.bool false]) w1

theorem run67 (s : ByteArray) (sep : ByteArray) (w : World) (R : Value → World → Prop) (h : vc67 s sep w R) : Ret Tryd.prog 67 #[.string s, .string sep] w R :=
  vfn_sound sxE_ok (args := [.string s, .string sep]) Tryd.func67 (Eq.mp (by kernel_rfl : vc67 s sep w R = vfn sxE Tryd.f67 [.string s, .string sep] w R) h)

end Go.Proofs.Sx
