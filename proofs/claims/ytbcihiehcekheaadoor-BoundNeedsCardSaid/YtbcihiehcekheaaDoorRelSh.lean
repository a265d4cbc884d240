/-
  The functions of the program, as their evaluation gives them, over numbers and lists.
  Conditions: none; printed by a program of this session.
-/
import Derived.Test.YtbcihiehcekheaaDoorEvK
import Derived.Lib.ItoaNum
namespace Go.Evl.Sh
open Go Go.Evl
set_option linter.unusedVariables false
abbrev Link := Int × Int × Int × Unit
abbrev Cell := Int × Int × Int × Int × Int × Unit
abbrev Flow := Int × Int × Int × Int × Int × Int × Unit
abbrev Schedule := Int × Int × List Cell × Unit
abbrev Network := Int × List (List Int) × Int × Int × List Link × List Int × Unit
abbrev Way := Int × List (List Int) × Int × Int × List Link × List Int × Int × Int × List Cell × Int × Int × Int × Int × Int × Int × List Int × Int × Unit
abbrev Rule := Int × Int × Int × Int × List Int × Unit
def wk (k : IntKind) (n : Int) : Int := k.wrap n
def w64 (n : Int) : Int := IntKind.i64.wrap n
def ln {α : Type} (xs : List α) : Int := xs.length
def ix {α : Type} (xs : List α) (n : Int) : Option α := if 0 ≤ n then xs[n.toNat]? else none
def fit {α : Type} (b : Nat) (xs ys : List α) : Bool := std.fits b xs ys
def cut {α : Type} (xs : List α) (lo hi mx : Option Int) : Option (List α) := sliceV xs lo hi mx
def shr (k : IntKind) (x y : Int) : Int := x.fdiv (2 ^ (min y.toNat k.bits))
def shl (k : IntKind) (x y : Int) : Int := k.wrap (x * 2 ^ (min y.toNat k.bits))
def setI {α : Type} (xs : List α) (i : Int) (x : α) : List α := xs.set i.toNat x
def clrI {α : Type} (xs : List α) (lo n : Int) (x : α) : List α := std.clr xs lo n x
def part {α : Type} (xs : List α) (lo n : Int) : Option (List α) := std.part xs lo n
def bs (l : List Nat) : ByteArray := ⟨(l.map UInt8.ofNat).toArray⟩
def cellTy : Ty := .agg (.cons (.int .i64) (.cons (.int .i64) (.cons (.int .i64) (.cons (.int .i64) (.cons (.int .i64) .nil)))))
def mHas {β : Type} (es : List (Cell × β × Unit)) (c : Cell) : Bool := std.mhas cellTy es c
def mGet {β : Type} (es : List (Cell × β × Unit)) (c : Cell) (z : β) : β := std.mget cellTy es c z
def mSet {β : Type} (es : List (Cell × β × Unit)) (c : Cell) (v : β) : List (Cell × β × Unit) := std.mset cellTy es c v
/-- strconv.Itoa (by the contract of the library). -/
def strconv_Itoa (_ : Nat) (x0 : Int) : Option ByteArray := if -9223372036854775808 ≤ x0 ∧ x0 ≤ 9223372036854775807 then some ⟨(Lib.itoa x0).toArray⟩ else none

-- 70
def network_checkPower_2 (k : Nat) (x0 : Int) : Option (Bool) :=
  tst (decide (x0 < 0))
    (some true)
    (some (decide (68719476736 < x0)))
-- 45
def network_checkPower_l2 (k : Nat) (κ1 : ((List Int) × Unit × Int × Int × Unit) → Option Int) (κ2 : Option Int) : Nat → (List Int) × Unit × Int × Int × Unit → Option (Int) :=
  loopK fun rec6 (t7 : (List Int) × Unit × Int × Int × Unit) =>
    tst (decide (t7.2.2.2.1 < t7.2.2.1))
      (obind (ix t7.1 t7.2.2.2.1) fun v8 =>
      obind (network_checkPower_2 k v8) fun v9 =>
      tst v9
        (κ1 t7)
        (rec6 (t7.1, (), t7.2.2.1, w64 (t7.2.2.2.1 + 1), ())))
      κ2
def network_checkPower_l1 (k : Nat) (κ0 : ((List (List Int)) × Int × Int × (List (List Int)) × (List (List Int)) × Unit × Unit) → Option Int) : Nat → (List (List Int)) × Int × Int × (List (List Int)) × (List (List Int)) × Unit × Unit → Option (Int) :=
  loopK fun rec3 (t4 : (List (List Int)) × Int × Int × (List (List Int)) × (List (List Int)) × Unit × Unit) =>
    tst (decide (t4.2.2.1 < t4.2.1))
      (obind (ix t4.1 t4.2.2.1) fun v5 =>
      network_checkPower_l2 k
    (fun t7 =>
    tst (decide (0 ≤ t7.2.2.2.1))
      (κ0 t4)
      (rec3 (t4.1, t4.2.1, w64 (t4.2.2.1 + 1), t4.2.2.2.1, t4.2.2.2.2.1, (), ())))
    (rec3 (t4.1, t4.2.1, w64 (t4.2.2.1 + 1), t4.2.2.2.1, t4.2.2.2.2.1, (), ())) k (v5, (), ln v5, 0, ()))
      (some 0)
def network_checkPower_l4 (k : Nat) (κ5 : ((List Int) × Unit × Int × Int × Unit) → Option Int) (κ6 : Option Int) : Nat → (List Int) × Unit × Int × Int × Unit → Option (Int) :=
  loopK fun rec13 (t14 : (List Int) × Unit × Int × Int × Unit) =>
    tst (decide (t14.2.2.2.1 < t14.2.2.1))
      (obind (ix t14.1 t14.2.2.2.1) fun v15 =>
      obind (network_checkPower_2 k v15) fun v16 =>
      tst v16
        (κ5 t14)
        (rec13 (t14.1, (), t14.2.2.1, w64 (t14.2.2.2.1 + 1), ())))
      κ6
def network_checkPower_l3 (k : Nat) (κ4 : ((List (List Int)) × Int × Int × (List (List Int)) × (List (List Int)) × Unit × Unit) → Option Int) : Nat → (List (List Int)) × Int × Int × (List (List Int)) × (List (List Int)) × Unit × Unit → Option (Int) :=
  loopK fun rec10 (t11 : (List (List Int)) × Int × Int × (List (List Int)) × (List (List Int)) × Unit × Unit) =>
    tst (decide (t11.2.2.1 < t11.2.1))
      (obind (ix t11.1 t11.2.2.1) fun v12 =>
      network_checkPower_l4 k
    (fun t14 =>
    tst (decide (0 ≤ t14.2.2.2.1))
      (κ4 t11)
      (rec10 (t11.1, t11.2.1, w64 (t11.2.2.1 + 1), t11.2.2.2.1, t11.2.2.2.2.1, (), ())))
    (rec10 (t11.1, t11.2.1, w64 (t11.2.2.1 + 1), t11.2.2.2.1, t11.2.2.2.2.1, (), ())) k (v12, (), ln v12, 0, ()))
      (some 0)
def network_checkPower_l0 (k : Nat) (κ3 : ((List (List Int)) × (Network × Unit) × Int × Int × Unit) → Option Int) (κ7 : Option Int) : Nat → (List (List Int)) × (Network × Unit) × Int × Int × Unit → Option (Int) :=
  loopK fun rec0 (t1 : (List (List Int)) × (Network × Unit) × Int × Int × Unit) =>
    tst (decide (t1.2.2.2.1 < t1.2.2.1))
      (obind (ix t1.1 t1.2.2.2.1) fun v2 =>
      tst (!((ln v2) == t1.2.1.1.1))
        (κ3 t1)
        (rec0 (t1.1, (t1.2.1.1, ()), t1.2.2.1, w64 (t1.2.2.2.1 + 1), ())))
      κ7
def network_checkPower (k : Nat) (x0 : Network) : Option (Int) :=
  tst (!((ln x0.2.1) == x0.1))
    (some 1)
    (network_checkPower_l0 k
    (fun t1 =>
    tst (decide (0 ≤ t1.2.2.2.1))
      (some 1)
      (network_checkPower_l1 k
    (fun t4 =>
    tst (decide (0 ≤ t4.2.2.1))
      (some 2)
      (some 0)) k (x0.2.1, ln x0.2.1, 0, x0.2.1, x0.2.1, (), ())))
    (network_checkPower_l3 k
    (fun t11 =>
    tst (decide (0 ≤ t11.2.2.1))
      (some 2)
      (some 0)) k (x0.2.1, ln x0.2.1, 0, x0.2.1, x0.2.1, (), ())) k (x0.2.1, (x0, ()), ln x0.2.1, 0, ()))
-- 74
def cmp_Or_int_l0 (k : Nat) : Nat → Int × (List Int) × Int × Int × Unit → Option (Int) :=
  loopK fun rec0 (t1 : Int × (List Int) × Int × Int × Unit) =>
    tst (decide (t1.2.2.2.1 < t1.2.2.1))
      (obind (ix t1.2.1 t1.2.2.2.1) fun v2 =>
      tst (!(v2 == t1.1))
        (some v2)
        (rec0 (t1.1, t1.2.1, t1.2.2.1, w64 (t1.2.2.2.1 + 1), ())))
      (some t1.1)
def cmp_Or_int (k : Nat) (x0 : List Int) : Option (Int) :=
  cmp_Or_int_l0 k k (0, x0, ln x0, 0, ())
-- 87
def cmp_isNaN_int (k : Nat) (x0 : Int) : Option (Bool) :=
  some (!(x0 == x0))
-- 75
def cmp_Compare_int (k : Nat) (x0 : Int) (x1 : Int) : Option (Int) :=
  obind (cmp_isNaN_int k x0) fun v0 =>
  obind (cmp_isNaN_int k x1) fun v1 =>
  tst v0
    (tst v1
      (some 0)
      (some (-1)))
    (tst v1
      (some 1)
      (tst (decide (x0 < x1))
        (some (-1))
        (tst (decide (x1 < x0))
          (some 1)
          (some 0))))
-- 48
def network_compare (k : Nat) (x0 : Link) (x1 : Link) : Option (Int) :=
  obind (cmp_Compare_int k x0.1 x1.1) fun v0 =>
  obind (cmp_Compare_int k x0.2.1 x1.2.1) fun v1 =>
  obind (cmp_Or_int k [v0, v1]) fun v2 =>
  some v2
-- 46
def network_checkLink (k : Nat) (x0 : Network) (x1 : Int) : Option (Int) :=
  obind (ix x0.2.2.2.2.1 x1) fun v0 =>
  tst (decide (0 ≤ v0.1))
    (tst (!(decide (v0.1 < x0.1)))
      (some 2)
      (tst (decide (0 ≤ v0.2.1))
        (tst (!(decide (v0.2.1 < x0.1)))
          (some 2)
          (tst (v0.1 == v0.2.1)
            (some 2)
            (tst (decide (v0.2.2.1 < 0))
              (some 2)
              (tst (decide (7 < v0.2.2.1))
                (some 2)
                (tst (decide (0 < x1))
                  (obind (ix x0.2.2.2.2.1 (w64 (x1 - 1))) fun v1 =>
                  obind (network_compare k v1 v0) fun v2 =>
                  tst (decide (0 ≤ v2))
                    (some 5)
                    (obind (ix x0.2.2.2.2.2.1 x1) fun v3 =>
                    tst (decide (v3 < 0))
                      (some 2)
                      (obind (ix x0.2.2.2.2.2.1 x1) fun v4 =>
                      obind (ix x0.2.1 v0.1) fun v5 =>
                      obind (ix v5 v0.2.1) fun v6 =>
                      tst (decide (v6 < v4))
                        (some 2)
                        (some 0))))
                  (obind (ix x0.2.2.2.2.2.1 x1) fun v7 =>
                  tst (decide (v7 < 0))
                    (some 2)
                    (obind (ix x0.2.2.2.2.2.1 x1) fun v8 =>
                    obind (ix x0.2.1 v0.1) fun v9 =>
                    obind (ix v9 v0.2.1) fun v10 =>
                    tst (decide (v10 < v8))
                      (some 2)
                      (some 0))))))))
        (some 2)))
    (some 2)
-- 30
def network_Check_l0 (k : Nat) : Nat → Network × Int × Int × Unit → Option (Int) :=
  loopK fun rec1 (t2 : Network × Int × Int × Unit) =>
    tst (decide (t2.2.2.1 < t2.2.1))
      (obind (network_checkLink k t2.1 t2.2.2.1) fun v3 =>
      tst (!(v3 == 0))
        (some v3)
        (rec1 (t2.1, t2.2.1, w64 (t2.2.2.1 + 1), ())))
      (some 0)
def network_Check (k : Nat) (x0 : Network) : Option (Int) :=
  tst (decide (x0.1 < 2))
    (some 2)
    (tst (decide (32 < x0.1))
      (some 2)
      (obind (network_checkPower k x0) fun v0 =>
      tst (!(v0 == 0))
        (some v0)
        (tst (decide (x0.2.2.1 < 0))
          (some 2)
          (tst (decide (68719476736 < x0.2.2.1))
            (some 2)
            (tst (decide (x0.2.2.2.1 < 1000))
              (some 2)
              (tst (decide (100000 < x0.2.2.2.1))
                (some 2)
                (tst (decide (128 < (ln x0.2.2.2.2.1)))
                  (some 8)
                  (tst (!((ln x0.2.2.2.2.2.1) == (ln x0.2.2.2.2.1)))
                    (some 11)
                    (network_Check_l0 k k (x0, ln x0.2.2.2.2.1, 0, ()))))))))))
-- 53
def schedule_inside (k : Nat) (x0 : Int) (x1 : Int) : Option (Bool) :=
  tst (decide (0 ≤ x0))
    (some (decide (x0 < x1)))
    (some false)
-- 52
def schedule_placed (k : Nat) (x0 : Schedule) (x1 : Cell) : Option (Bool) :=
  obind (schedule_inside k x1.1 x0.1) fun v0 =>
  tst v0
    (obind (schedule_inside k x1.2.1 x0.2.1) fun v1 =>
    some v1)
    (some false)
-- 34
def schedule_formed (k : Nat) (x0 : Schedule) (x1 : Cell) : Option (Bool) :=
  obind (schedule_placed k x0 x1) fun v0 =>
  tst v0
    (obind (schedule_inside k x1.2.2.1 32) fun v1 =>
    tst v1
      (obind (schedule_inside k x1.2.2.2.1 32) fun v2 =>
      tst v2
        (obind (schedule_inside k x1.2.2.2.2.1 256) fun v3 =>
        some v3)
        (some false))
      (some false))
    (some false)
-- 76
def slices_Compare_Lint_int_l0 (k : Nat) (κ0 : ((List Int) × (List Int) × (List Int) × Int × Int × Unit) → Option Int) : Nat → (List Int) × (List Int) × (List Int) × Int × Int × Unit → Option (Int) :=
  loopK fun rec0 (t1 : (List Int) × (List Int) × (List Int) × Int × Int × Unit) =>
    tst (decide (t1.2.2.2.2.1 < t1.2.2.2.1))
      (obind (ix t1.2.2.1 t1.2.2.2.2.1) fun v2 =>
      tst (decide ((ln t1.2.1) ≤ t1.2.2.2.2.1))
        (some 1)
        (obind (ix t1.2.1 t1.2.2.2.2.1) fun v3 =>
        obind (cmp_Compare_int k v2 v3) fun v4 =>
        tst (!(v4 == 0))
          (some v4)
          (rec0 (t1.1, t1.2.1, t1.2.2.1, t1.2.2.2.1, w64 (t1.2.2.2.2.1 + 1), ()))))
      (κ0 t1)
def slices_Compare_Lint_int (k : Nat) (x0 : List Int) (x1 : List Int) : Option (Int) :=
  slices_Compare_Lint_int_l0 k
    (fun t1 =>
    tst (decide ((ln t1.1) < (ln t1.2.1)))
      (some (-1))
      (some 0)) k (x0, x1, x0, ln x0, 0, ())
-- 55
def schedule_numbers (k : Nat) (x0 : Cell) : Option (Cell) :=
  some x0
-- 36
def schedule_compare (k : Nat) (x0 : Cell) (x1 : Cell) : Option (Int) :=
  obind (schedule_numbers k x0) fun v0 =>
  obind (schedule_numbers k x1) fun v1 =>
  obind (slices_Compare_Lint_int k [v0.1, v0.2.1, v0.2.2.1, v0.2.2.2.1, v0.2.2.2.2.1] [v1.1, v1.2.1, v1.2.2.1, v1.2.2.2.1, v1.2.2.2.2.1]) fun v2 =>
  some v2
-- 51
def schedule_sized (k : Nat) (x0 : Schedule) : Option (Bool) :=
  tst (decide (1 ≤ x0.1))
    (tst (decide (x0.1 ≤ 512))
      (tst (decide (1 ≤ x0.2.1))
        (some (decide (x0.2.1 ≤ 16)))
        (some false))
      (some false))
    (some false)
-- 33
def schedule_form_l0 (k : Nat) : Nat → Schedule × (List Cell) × Int × Int × Unit → Option (Bool) :=
  loopK fun rec1 (t2 : Schedule × (List Cell) × Int × Int × Unit) =>
    tst (decide (t2.2.2.2.1 < t2.2.2.1))
      (obind (ix t2.2.1 t2.2.2.2.1) fun v3 =>
      obind (schedule_formed k t2.1 v3) fun v4 =>
      tst (!v4)
        (some false)
        (tst (decide (0 < t2.2.2.2.1))
          (obind (ix t2.1.2.2.1 (w64 (t2.2.2.2.1 - 1))) fun v5 =>
          obind (schedule_compare k v5 v3) fun v6 =>
          tst (decide (0 ≤ v6))
            (some false)
            (rec1 (t2.1, t2.2.1, t2.2.2.1, w64 (t2.2.2.2.1 + 1), ())))
          (rec1 (t2.1, t2.2.1, t2.2.2.1, w64 (t2.2.2.2.1 + 1), ()))))
      (some true)
def schedule_form (k : Nat) (x0 : Schedule) : Option (Bool) :=
  obind (schedule_sized k x0) fun v0 =>
  tst (!v0)
    (some false)
    (tst (decide (512 < (ln x0.2.2.1)))
      (some false)
      (schedule_form_l0 k k (x0, x0.2.2.1, ln x0.2.2.1, 0, ())))
-- 62
def schedule_line_l0 (k : Nat) (κ0 : (ByteArray × (List Int) × Int × Int × Unit) → Option ByteArray) : Nat → ByteArray × (List Int) × Int × Int × Unit → Option (ByteArray) :=
  loopK fun rec0 (t1 : ByteArray × (List Int) × Int × Int × Unit) =>
    tst (decide (t1.2.2.2.1 < t1.2.2.1))
      (obind (ix t1.2.1 t1.2.2.2.1) fun v2 =>
      obind (strconv_Itoa k v2) fun v3 =>
      tst (std.sfits (ByteArray.mk #[32]) v3)
        (tst (std.sfits t1.1 (std.sapp (ByteArray.mk #[32]) v3))
          (rec0 (std.sapp t1.1 (std.sapp (ByteArray.mk #[32]) v3), t1.2.1, t1.2.2.1, w64 (t1.2.2.2.1 + 1), ()))
          none)
        none)
      (κ0 t1)
def schedule_line (k : Nat) (x0 : ByteArray) (x1 : List Int) : Option (ByteArray) :=
  schedule_line_l0 k
    (fun t1 =>
    tst (std.sfits t1.1 (ByteArray.mk #[10]))
      (some (std.sapp t1.1 (ByteArray.mk #[10])))
      none) k (x0, x1, ln x1, 0, ())
-- 41
def schedule_Print_l0 (k : Nat) (κ0 : ((List Cell) × Int × Int × (List Int) × Unit) → Option (ByteArray × Int × Unit)) : Nat → (List Cell) × Int × Int × (List Int) × Unit → Option (ByteArray × Int × Unit) :=
  loopK fun rec2 (t3 : (List Cell) × Int × Int × (List Int) × Unit) =>
    tst (decide (t3.2.2.1 < t3.2.1))
      (obind (ix t3.1 t3.2.2.1) fun v4 =>
      obind (schedule_numbers k v4) fun v5 =>
      obind (schedule_line k (ByteArray.mk #[99, 101, 108, 108]) [v5.1, v5.2.1, v5.2.2.1, v5.2.2.2.1, v5.2.2.2.2.1]) fun v6 =>
      tst (fit 1 t3.2.2.2.1 (std.sby v6))
        (rec2 (t3.1, t3.2.1, w64 (t3.2.2.1 + 1), t3.2.2.2.1 ++ (std.sby v6), ()))
        none)
      (κ0 t3)
def schedule_Print (k : Nat) (x0 : Schedule) : Option (ByteArray × Int × Unit) :=
  obind (schedule_form k x0) fun v0 =>
  tst (!v0)
    (some ((ByteArray.mk #[]), 1, ()))
    (obind (schedule_line k (ByteArray.mk #[115, 99, 104, 101, 100, 117, 108, 101]) [x0.1, x0.2.1]) fun v1 =>
    tst (fit 1 [] (std.sby v1))
      (schedule_Print_l0 k
    (fun t3 =>
    tst ((fit 1 t3.2.2.2.1 []) && (std.bys t3.2.2.2.1))
      (some (std.yb t3.2.2.2.1, 0, ()))
      none) k (x0.2.2.1, ln x0.2.2.1, 0, [] ++ (std.sby v1), ()))
      none)
-- 64
def flow_check (k : Nat) (x0 : Int) (x1 : Flow) : Option (Int) :=
  tst (decide (x1.1 < 0))
    (some 2)
    (tst (decide (255 < x1.1))
      (some 2)
      (tst (decide (0 ≤ x1.2.1))
        (tst (!(decide (x1.2.1 < x0)))
          (some 2)
          (tst (decide (0 ≤ x1.2.2.1))
            (tst (!(decide (x1.2.2.1 < x0)))
              (some 2)
              (tst (decide (x1.2.2.2.1 < 1))
                (some 2)
                (tst (decide (512 < x1.2.2.2.1))
                  (some 2)
                  (tst (decide (x1.2.2.2.2.1 < 0))
                    (some 2)
                    (tst (decide (x1.2.2.2.1 ≤ x1.2.2.2.2.1))
                      (some 2)
                      (tst (decide (x1.2.2.2.2.2.1 < 1))
                        (some 2)
                        (tst (decide (x1.2.2.2.1 < x1.2.2.2.2.2.1))
                          (some 2)
                          (tst (x1.2.1 == x1.2.2.1)
                            (some 1)
                            (some 0)))))))))
            (some 2)))
        (some 2)))
-- 42
def flow_Check_l0 (k : Nat) : Nat → Int × (List Flow) × (List Flow) × Int × Int × Unit → Option (Int × Int × Unit) :=
  loopK fun rec0 (t1 : Int × (List Flow) × (List Flow) × Int × Int × Unit) =>
    tst (decide (t1.2.2.2.2.1 < t1.2.2.2.1))
      (obind (ix t1.2.2.1 t1.2.2.2.2.1) fun v2 =>
      obind (flow_check k t1.1 v2) fun v3 =>
      tst (!(v3 == 0))
        (some (t1.2.2.2.2.1, v3, ()))
        (tst (decide (0 < t1.2.2.2.2.1))
          (obind (ix t1.2.1 (w64 (t1.2.2.2.2.1 - 1))) fun v4 =>
          tst (decide (v2.1 ≤ v4.1))
            (some (t1.2.2.2.2.1, 5, ()))
            (rec0 (t1.1, t1.2.1, t1.2.2.1, t1.2.2.2.1, w64 (t1.2.2.2.2.1 + 1), ())))
          (rec0 (t1.1, t1.2.1, t1.2.2.1, t1.2.2.2.1, w64 (t1.2.2.2.2.1 + 1), ()))))
      (some (-1, 0, ()))
def flow_Check (k : Nat) (x0 : Int) (x1 : List Flow) : Option (Int × Int × Unit) :=
  tst (decide (x0 < 2))
    (some (-1, 2, ()))
    (tst (decide (32 < x0))
      (some (-1, 2, ()))
      (tst (decide (16 < (ln x1)))
        (some (-1, 8, ()))
        (flow_Check_l0 k k (x0, x1, x1, ln x1, 0, ()))))
-- 65
def route_ends (k : Nat) (x0 : Network) (x1 : Int) (x2 : Int) : Option (Int) :=
  obind (network_Check k x0) fun v0 =>
  tst (!(v0 == 0))
    (some 1)
    (tst (decide ((min x1 x2) < 0))
      (some 2)
      (tst (decide (x0.1 ≤ (max x1 x2)))
        (some 2)
        (tst (x1 == x2)
          (some 2)
          (some 0))))
-- 31
def network_find_l0 (k : Nat) (κ0 : ((List Link) × Unit × Link × Int × Int × Int × Unit) → Option Int) : Nat → (List Link) × Unit × Link × Int × Int × Int × Unit → Option (Int) :=
  loopK fun rec0 (t1 : (List Link) × Unit × Link × Int × Int × Int × Unit) =>
    tst (decide (t1.2.2.2.2.1 < t1.2.2.2.2.2.1))
      (obind (ix t1.1 (w64 ((shr .u64 (wk .u64 ((w64 (t1.2.2.2.2.1 + t1.2.2.2.2.2.1)))) 1)))) fun v2 =>
      obind (network_compare k v2 t1.2.2.1) fun v3 =>
      tst (decide (v3 < 0))
        (rec0 (t1.1, (), t1.2.2.1, t1.2.2.2.1, w64 ((w64 ((shr .u64 (wk .u64 ((w64 (t1.2.2.2.2.1 + t1.2.2.2.2.2.1)))) 1))) + 1), t1.2.2.2.2.2))
        (rec0 (t1.1, (), t1.2.2.1, t1.2.2.2.1, t1.2.2.2.2.1, w64 ((shr .u64 (wk .u64 ((w64 (t1.2.2.2.2.1 + t1.2.2.2.2.2.1)))) 1)), ())))
      (κ0 t1)
def network_find (k : Nat) (x0 : Network) (x1 : Int) (x2 : Int) : Option (Int) :=
  network_find_l0 k
    (fun t1 =>
    tst (decide (t1.2.2.2.2.1 < t1.2.2.2.1))
      (obind (ix t1.1 t1.2.2.2.2.1) fun v4 =>
      obind (network_compare k v4 t1.2.2.1) fun v5 =>
      tst (!(v5 == 0))
        (some (-1))
        (some t1.2.2.2.2.1))
      (some (-1))) k (x0.2.2.2.2.1, (), (x1, x2, 0, ()), ln x0.2.2.2.2.1, 0, ln x0.2.2.2.2.1, ())
-- 59
def network_Index (k : Nat) (x0 : Network) (x1 : Int) (x2 : Int) : Option (Int) :=
  obind (network_Check k x0) fun v0 =>
  tst (!(v0 == 0))
    (some (-1))
    (obind (network_find k x0 x1 x2) fun v1 =>
    some v1)
-- 92
def slices_Index_api_Route_int_l0 (k : Nat) : Nat → (List Int) × Int × Int × Int × Unit → Option (Int) :=
  loopK fun rec0 (t1 : (List Int) × Int × Int × Int × Unit) =>
    tst (decide (t1.2.2.2.1 < t1.2.2.1))
      (obind (ix t1.1 t1.2.2.2.1) fun v2 =>
      tst (t1.2.1 == v2)
        (some t1.2.2.2.1)
        (rec0 (t1.1, t1.2.1, t1.2.2.1, w64 (t1.2.2.2.1 + 1), ())))
      (some (-1))
def slices_Index_api_Route_int (k : Nat) (x0 : List Int) (x1 : Int) : Option (Int) :=
  slices_Index_api_Route_int_l0 k k (x0, x1, ln x0, 0, ())
-- 83
def slices_Contains_api_Route_int (k : Nat) (x0 : List Int) (x1 : Int) : Option (Bool) :=
  obind (slices_Index_api_Route_int k x0 x1) fun v0 =>
  some (decide (0 ≤ v0))
-- 95
def network_hears (k : Nat) (x0 : Network) (x1 : Int) (x2 : Int) : Option (Bool) :=
  some (decide ((w64 (x0.2.2.2.1 * (w64 (x0.2.2.1 + x2)))) ≤ (w64 (x1 * 1000))))
-- 93
def network_usable (k : Nat) (x0 : Network) (x1 : Int) : Option (Bool) :=
  obind (ix x0.2.2.2.2.1 x1) fun v0 =>
  obind (ix x0.2.2.2.2.1 x1) fun v1 =>
  obind (network_find k x0 v0.2.1 v1.1) fun v2 =>
  tst (decide (0 ≤ v2))
    (obind (ix x0.2.2.2.2.2.1 x1) fun v3 =>
    obind (network_hears k x0 v3 0) fun v4 =>
    tst v4
      (obind (ix x0.2.2.2.2.2.1 v2) fun v5 =>
      obind (network_hears k x0 v5 0) fun v6 =>
      some v6)
      (some false))
    (some false)
-- 84
def network_Usable (k : Nat) (x0 : Network) (x1 : Int) : Option (Bool) :=
  obind (network_Check k x0) fun v0 =>
  tst (v0 == 0)
    (tst (decide (0 ≤ x1))
      (tst (decide (x1 < (ln x0.2.2.2.2.1)))
        (obind (network_usable k x0 x1) fun v1 =>
        some v1)
        (some false))
      (some false))
    (some false)
-- 66
def route_fault_l2 (k : Nat) : Nat → (List Int) × Network × (List Int) × Int × Int × Unit → Option (Int) :=
  loopK fun rec11 (t12 : (List Int) × Network × (List Int) × Int × Int × Unit) =>
    tst (decide (t12.2.2.2.2.1 < t12.2.2.2.1))
      (obind (ix t12.2.2.1 t12.2.2.2.2.1) fun v13 =>
      obind (ix t12.1 t12.2.2.2.2.1) fun v14 =>
      obind (network_Index k t12.2.1 v14 v13) fun v15 =>
      obind (network_Usable k t12.2.1 v15) fun v16 =>
      tst (!v16)
        (some 17)
        (rec11 (t12.1, t12.2.1, t12.2.2.1, t12.2.2.2.1, w64 (t12.2.2.2.2.1 + 1), ())))
      (some 0)
def route_fault_l1 (k : Nat) (κ0 : ((List Int) × Network × (List Int) × Int × Int × Unit) → Option Int) : Nat → (List Int) × Network × (List Int) × Int × Int × Unit → Option (Int) :=
  loopK fun rec5 (t6 : (List Int) × Network × (List Int) × Int × Int × Unit) =>
    tst (decide (t6.2.2.2.2.1 < t6.2.2.2.1))
      (obind (ix t6.2.2.1 t6.2.2.2.2.1) fun v7 =>
      obind (cut t6.1 none (some t6.2.2.2.2.1) none) fun v8 =>
      obind (slices_Contains_api_Route_int k v8 v7) fun v9 =>
      tst v9
        (some 6)
        (rec5 (t6.1, t6.2.1, t6.2.2.1, t6.2.2.2.1, w64 (t6.2.2.2.2.1 + 1), ())))
      (κ0 t6)
def route_fault_l4 (k : Nat) : Nat → (List Int) × Network × (List Int) × Int × Int × Unit → Option (Int) :=
  loopK fun rec25 (t26 : (List Int) × Network × (List Int) × Int × Int × Unit) =>
    tst (decide (t26.2.2.2.2.1 < t26.2.2.2.1))
      (obind (ix t26.2.2.1 t26.2.2.2.2.1) fun v27 =>
      obind (ix t26.1 t26.2.2.2.2.1) fun v28 =>
      obind (network_Index k t26.2.1 v28 v27) fun v29 =>
      obind (network_Usable k t26.2.1 v29) fun v30 =>
      tst (!v30)
        (some 17)
        (rec25 (t26.1, t26.2.1, t26.2.2.1, t26.2.2.2.1, w64 (t26.2.2.2.2.1 + 1), ())))
      (some 0)
def route_fault_l3 (k : Nat) (κ2 : ((List Int) × Network × (List Int) × Int × Int × Unit) → Option Int) : Nat → (List Int) × Network × (List Int) × Int × Int × Unit → Option (Int) :=
  loopK fun rec19 (t20 : (List Int) × Network × (List Int) × Int × Int × Unit) =>
    tst (decide (t20.2.2.2.2.1 < t20.2.2.2.1))
      (obind (ix t20.2.2.1 t20.2.2.2.2.1) fun v21 =>
      obind (cut t20.1 none (some t20.2.2.2.2.1) none) fun v22 =>
      obind (slices_Contains_api_Route_int k v22 v21) fun v23 =>
      tst v23
        (some 6)
        (rec19 (t20.1, t20.2.1, t20.2.2.1, t20.2.2.2.1, w64 (t20.2.2.2.2.1 + 1), ())))
      (κ2 t20)
def route_fault_l0 (k : Nat) (κ1 : ((List Int) × (Network × Unit) × Int × Int × Unit) → Option Int) (κ3 : Option Int) : Nat → (List Int) × (Network × Unit) × Int × Int × Unit → Option (Int) :=
  loopK fun rec0 (t1 : (List Int) × (Network × Unit) × Int × Int × Unit) =>
    tst (decide (t1.2.2.2.1 < t1.2.2.1))
      (obind (ix t1.1 t1.2.2.2.1) fun v2 =>
      tst (decide (v2 < 0))
        (κ1 t1)
        (tst (decide (t1.2.1.1.1 ≤ v2))
          (κ1 t1)
          (rec0 (t1.1, (t1.2.1.1, ()), t1.2.2.1, w64 (t1.2.2.2.1 + 1), ()))))
      κ3
def route_fault (k : Nat) (x0 : Network) (x1 : Int) (x2 : Int) (x3 : List Int) : Option (Int) :=
  tst (decide ((ln x3) < 2))
    (some 9)
    (tst (decide (9 < (ln x3)))
      (some 8)
      (route_fault_l0 k
    (fun t1 =>
    tst (decide (0 ≤ t1.2.2.2.1))
      (some 2)
      (obind (ix x3 0) fun v3 =>
      tst (!(v3 == x1))
        (some 11)
        (obind (ix x3 (w64 ((ln x3) - 1))) fun v4 =>
        tst (!(v4 == x2))
          (some 11)
          (route_fault_l1 k
    (fun t6 =>
    obind (cut t6.1 (some 1) none none) fun v10 =>
    route_fault_l2 k k (t6.1, t6.2.1, v10, ln v10, 0, ())) k (x3, x0, x3, ln x3, 0, ())))))
    (obind (ix x3 0) fun v17 =>
    tst (!(v17 == x1))
      (some 11)
      (obind (ix x3 (w64 ((ln x3) - 1))) fun v18 =>
      tst (!(v18 == x2))
        (some 11)
        (route_fault_l3 k
    (fun t20 =>
    obind (cut t20.1 (some 1) none none) fun v24 =>
    route_fault_l4 k k (t20.1, t20.2.1, v24, ln v24, 0, ())) k (x3, x0, x3, ln x3, 0, ())))) k (x3, (x0, ()), ln x3, 0, ())))
-- 43
def route_Check (k : Nat) (x0 : Network) (x1 : Int) (x2 : Int) (x3 : List Int) : Option (Int) :=
  obind (route_ends k x0 x1 x2) fun v0 =>
  tst (!(v0 == 0))
    (some v0)
    (obind (route_fault k x0 x1 x2 x3) fun v1 =>
    some v1)
-- 25
def bound_way_check (k : Nat) (x0 : Way) : Option (Int) :=
  obind (network_Check k (x0.1, x0.2.1, x0.2.2.1, x0.2.2.2.1, x0.2.2.2.2.1, x0.2.2.2.2.2.1, ())) fun v0 =>
  tst (!(v0 == 0))
    (some 1)
    (obind (schedule_Print k (x0.2.2.2.2.2.2.1, x0.2.2.2.2.2.2.2.1, x0.2.2.2.2.2.2.2.2.1, ())) fun v1 =>
    tst (!(v1.2.1 == 0))
      (some 1)
      (obind (flow_Check k x0.1 [(x0.2.2.2.2.2.2.2.2.2.1, x0.2.2.2.2.2.2.2.2.2.2.1, x0.2.2.2.2.2.2.2.2.2.2.2.1, x0.2.2.2.2.2.2.2.2.2.2.2.2.1, x0.2.2.2.2.2.2.2.2.2.2.2.2.2.1, x0.2.2.2.2.2.2.2.2.2.2.2.2.2.2.1, ())]) fun v2 =>
      tst (!(v2.2.1 == 0))
        (some 1)
        (tst (x0.2.2.2.2.2.2.2.2.2.2.2.2.1 != 0)
          (tst (!((Int.tmod x0.2.2.2.2.2.2.1 x0.2.2.2.2.2.2.2.2.2.2.2.2.1) == 0))
            (some 11)
            (obind (route_Check k (x0.1, x0.2.1, x0.2.2.1, x0.2.2.2.1, x0.2.2.2.2.1, x0.2.2.2.2.2.1, ()) x0.2.2.2.2.2.2.2.2.2.2.1 x0.2.2.2.2.2.2.2.2.2.2.2.1 x0.2.2.2.2.2.2.2.2.2.2.2.2.2.2.2.1) fun v3 =>
            some v3))
          none)))
-- 40
def bound_way_cells_l1 (k : Nat) (κ0 : (Int × Int × (Way × Link × Unit) × Int × Int × Int × Int × (Way × Link × Unit) × (List Cell) × Unit) → Option (List Cell)) : Nat → Int × Int × (Way × Link × Unit) × Int × Int × Int × Int × (Way × Link × Unit) × (List Cell) × Unit → Option (List Cell) :=
  loopK fun rec4 (t5 : Int × Int × (Way × Link × Unit) × Int × Int × Int × Int × (Way × Link × Unit) × (List Cell) × Unit) =>
    tst (decide (t5.2.2.2.2.1 < t5.2.1))
      (tst ((decide (0 ≤ t5.2.2.2.2.1)) && (decide (t5.2.2.2.2.1 < t5.2.1)))
        (obind (ix t5.2.2.2.2.2.2.2.2.1 (t5.1 + t5.2.2.2.2.1)) fun v6 =>
        tst (!(v6.2.2.2.2.1 == t5.2.2.1.1.2.2.2.2.2.2.2.2.2.1))
          (rec4 (t5.1, t5.2.1, (t5.2.2.1.1, t5.2.2.1.2.1, ()), t5.2.2.2.1, w64 (t5.2.2.2.2.1 + 1), t5.2.2.2.2.2.1, t5.2.2.2.2.2.2.1, (t5.2.2.2.2.2.2.2.1.1, t5.2.2.2.2.2.2.2.1.2.1, ()), t5.2.2.2.2.2.2.2.2))
          (tst (!(v6.2.2.1 == t5.2.2.1.2.1.1))
            (rec4 (t5.1, t5.2.1, (t5.2.2.1.1, t5.2.2.1.2.1, ()), t5.2.2.2.1, w64 (t5.2.2.2.2.1 + 1), t5.2.2.2.2.2.1, t5.2.2.2.2.2.2.1, (t5.2.2.2.2.2.2.2.1.1, t5.2.2.2.2.2.2.2.1.2.1, ()), t5.2.2.2.2.2.2.2.2))
            (tst (!(!(v6.2.2.2.1 == t5.2.2.1.2.1.2.1)))
              (tst ((decide (0 ≤ t5.2.2.2.1)) && (decide (t5.2.2.2.1 < t5.2.1)))
                (obind (ix t5.2.2.2.2.2.2.2.2.1 (t5.1 + t5.2.2.2.1)) fun v7 =>
                rec4 (t5.1, t5.2.1, (t5.2.2.1.1, t5.2.2.1.2.1, ()), w64 (t5.2.2.2.1 + 1), w64 (t5.2.2.2.2.1 + 1), t5.2.2.2.2.2.1, t5.2.2.2.2.2.2.1, (t5.2.2.2.2.2.2.2.1.1, t5.2.2.2.2.2.2.2.1.2.1, ()), setI t5.2.2.2.2.2.2.2.2.1 (t5.1 + t5.2.2.2.1) v6, ()))
                none)
              (rec4 (t5.1, t5.2.1, (t5.2.2.1.1, t5.2.2.1.2.1, ()), t5.2.2.2.1, w64 (t5.2.2.2.2.1 + 1), t5.2.2.2.2.2.1, t5.2.2.2.2.2.2.1, (t5.2.2.2.2.2.2.2.1.1, t5.2.2.2.2.2.2.2.1.2.1, ()), t5.2.2.2.2.2.2.2.2)))))
        none)
      (κ0 t5)
def bound_way_cells_l0 (k : Nat) (κ1 : (Int × Int × (Way × Link × Unit) × Int × Int × Int × Int × (Way × Link × Unit) × Int × Int × (Way × Link × Unit) × Int × Int × (Way × Link × Unit) × (List Cell) × Unit) → Option (List Cell)) (κ2 : (Int × Int × (Way × Link × Unit) × Int × Int × Int × Int × (Way × Link × Unit) × Int × Int × (Way × Link × Unit) × Int × Int × (Way × Link × Unit) × (List Cell) × Unit) → Option (List Cell)) : Nat → Int × Int × (Way × Link × Unit) × Int × Int × Int × Int × (Way × Link × Unit) × Int × Int × (Way × Link × Unit) × Int × Int × (Way × Link × Unit) × (List Cell) × Unit → Option (List Cell) :=
  loopK fun rec0 (t1 : Int × Int × (Way × Link × Unit) × Int × Int × Int × Int × (Way × Link × Unit) × Int × Int × (Way × Link × Unit) × Int × Int × (Way × Link × Unit) × (List Cell) × Unit) =>
    tst (decide (t1.2.2.2.2.1 < t1.2.2.2.1))
      (tst ((decide (0 ≤ t1.2.2.2.2.1)) && (decide (t1.2.2.2.2.1 < t1.2.1)))
        (obind (ix t1.2.2.2.2.2.2.2.2.2.2.2.2.2.2.1 (t1.1 + t1.2.2.2.2.1)) fun v2 =>
        tst (!(v2.2.2.2.2.1 == t1.2.2.1.1.2.2.2.2.2.2.2.2.2.1))
          (κ1 t1)
          (tst (!(v2.2.2.1 == t1.2.2.1.2.1.1))
            (κ1 t1)
            (tst (!(v2.2.2.2.1 == t1.2.2.1.2.1.2.1))
              (κ1 t1)
              (rec0 (t1.1, t1.2.1, (t1.2.2.1.1, t1.2.2.1.2.1, ()), t1.2.2.2.1, w64 (t1.2.2.2.2.1 + 1), t1.2.2.2.2.2.1, t1.2.2.2.2.2.2.1, (t1.2.2.2.2.2.2.2.1.1, t1.2.2.2.2.2.2.2.1.2.1, ()), t1.2.2.2.2.2.2.2.2.1, t1.2.2.2.2.2.2.2.2.2.1, (t1.2.2.2.2.2.2.2.2.2.2.1.1, t1.2.2.2.2.2.2.2.2.2.2.1.2.1, ()), t1.2.2.2.2.2.2.2.2.2.2.2.1, t1.2.2.2.2.2.2.2.2.2.2.2.2.1, (t1.2.2.2.2.2.2.2.2.2.2.2.2.2.1.1, t1.2.2.2.2.2.2.2.2.2.2.2.2.2.1.2.1, ()), t1.2.2.2.2.2.2.2.2.2.2.2.2.2.2)))))
        none)
      (κ2 t1)
def bound_way_cells (k : Nat) (x0 : Way) (x1 : Link) : Option (List Cell) :=
  tst (fit 40 x0.2.2.2.2.2.2.2.2.1 [])
    (bound_way_cells_l0 k
    (fun t1 =>
    tst (t1.2.2.2.2.1 == (-1))
      (obind (part t1.2.2.2.2.2.2.2.2.2.2.2.2.2.2.1 t1.2.2.2.2.2.1 t1.2.2.2.2.2.2.1) fun v3 =>
      some v3)
      (bound_way_cells_l1 k
    (fun t5 =>
    obind (std.mslc t5.2.1 (some t5.2.2.2.1) none) fun v8 =>
    tst ((decide (0 ≤ (t5.1 + v8.1))) && (decide (((t5.1 + v8.1) + (v8.2 - v8.1)) ≤ (ln t5.2.2.2.2.2.2.2.2.1))))
      (obind (std.mslc t5.2.1 none (some t5.2.2.2.1)) fun v9 =>
      obind (part (clrI t5.2.2.2.2.2.2.2.2.1 (t5.1 + v8.1) (v8.2 - v8.1) (0, 0, 0, 0, 0, ())) (t5.1 + v9.1) (v9.2 - v9.1)) fun v10 =>
      some v10)
      none) k (t1.2.2.2.2.2.1, t1.2.2.2.2.2.2.1, (t1.2.2.2.2.2.2.2.1.1, t1.2.2.2.2.2.2.2.1.2.1, ()), t1.2.2.2.2.1, w64 (t1.2.2.2.2.1 + 1), t1.2.2.2.2.2.2.2.2.2.2.2.1, t1.2.2.2.2.2.2.2.2.2.2.2.2.1, (t1.2.2.2.2.2.2.2.2.2.2.2.2.2.1.1, t1.2.2.2.2.2.2.2.2.2.2.2.2.2.1.2.1, ()), t1.2.2.2.2.2.2.2.2.2.2.2.2.2.2)))
    (fun t1 =>
    obind (part t1.2.2.2.2.2.2.2.2.2.2.2.2.2.2.1 t1.2.2.2.2.2.1 t1.2.2.2.2.2.2.1) fun v11 =>
    some v11) k (0, ln x0.2.2.2.2.2.2.2.2.1, (x0, x1, ()), ln x0.2.2.2.2.2.2.2.2.1, 0, 0, ln x0.2.2.2.2.2.2.2.2.1, (x0, x1, ()), 0, ln x0.2.2.2.2.2.2.2.2.1, (x0, x1, ()), 0, ln x0.2.2.2.2.2.2.2.2.1, (x0, x1, ()), x0.2.2.2.2.2.2.2.2.1, ()))
    none
-- 67
def bound_way_needed_l0 (k : Nat) : Nat → Way × Int × Int × (Way × Unit) × Int × Unit → Option (Int) :=
  loopK fun rec0 (t1 : Way × Int × Int × (Way × Unit) × Int × Unit) =>
    tst (decide (t1.2.1 < (ln t1.1.2.2.2.2.2.2.2.2.2.2.2.2.2.2.2.1)))
      (obind (ix t1.1.2.2.2.2.2.2.2.2.2.2.2.2.2.2.2.1 (w64 (t1.2.1 - 1))) fun v2 =>
      obind (ix t1.1.2.2.2.2.2.2.2.2.2.2.2.2.2.2.2.1 t1.2.1) fun v3 =>
      obind (network_Index k (t1.1.1, t1.1.2.1, t1.1.2.2.1, t1.1.2.2.2.1, t1.1.2.2.2.2.1, t1.1.2.2.2.2.2.1, ()) v2 v3) fun v4 =>
      obind (ix t1.1.2.2.2.2.1 v4) fun v5 =>
      rec0 (t1.1, w64 (t1.2.1 + 1), t1.2.2.1, (t1.2.2.2.1.1, ()), w64 (t1.2.2.2.2.1 + (w64 ((w64 (v5.2.2.1 + t1.1.2.2.2.2.2.2.2.2.2.2.2.2.2.2.2.2.1)) + 1))), ()))
      (some t1.2.2.2.2.1)
def bound_way_needed (k : Nat) (x0 : Way) : Option (Int) :=
  bound_way_needed_l0 k k (x0, 1, 0, (x0, ()), 0, ())
-- 44
def bound_way_release_l2 (k : Nat) (κ2 : (Way × Int × (List Cell) × Int × (Way × Unit) × (List Cell) × Int × Int × Way × Int × Link × Way × (Way × Unit) × Way × (Int × Unit) × Int × (List Int) × Bool × ((Int × Unit) × Way × Unit) × (List Int) × Int × Int × Unit) → Option (Int × (List Int) × Bool × Unit)) : Nat → Way × Int × (List Cell) × Int × (Way × Unit) × (List Cell) × Int × Int × Way × Int × Link × Way × (Way × Unit) × Way × (Int × Unit) × Int × (List Int) × Bool × ((Int × Unit) × Way × Unit) × (List Int) × Int × Int × Unit → Option (Int × (List Int) × Bool × Unit) :=
  loopK fun rec11 (t12 : Way × Int × (List Cell) × Int × (Way × Unit) × (List Cell) × Int × Int × Way × Int × Link × Way × (Way × Unit) × Way × (Int × Unit) × Int × (List Int) × Bool × ((Int × Unit) × Way × Unit) × (List Int) × Int × Int × Unit) =>
    tst (decide (t12.2.2.2.2.2.2.2.1 < t12.2.2.2.2.2.2.1))
      (obind (ix t12.2.2.2.2.2.1 t12.2.2.2.2.2.2.2.1) fun v13 =>
      tst (t12.1.2.2.2.2.2.2.1 != 0)
        (tst (!(v13.1 == (Int.tmod t12.2.2.2.1 t12.1.2.2.2.2.2.2.1)))
          (rec11 (t12.1, t12.2.1, t12.2.2.1, t12.2.2.2.1, (t12.2.2.2.2.1.1, ()), t12.2.2.2.2.2.1, t12.2.2.2.2.2.2.1, w64 (t12.2.2.2.2.2.2.2.1 + 1), t12.2.2.2.2.2.2.2.2.1, t12.2.2.2.2.2.2.2.2.2.1, t12.2.2.2.2.2.2.2.2.2.2.1, t12.2.2.2.2.2.2.2.2.2.2.2.1, (t12.2.2.2.2.2.2.2.2.2.2.2.2.1.1, ()), t12.2.2.2.2.2.2.2.2.2.2.2.2.2.1, t12.2.2.2.2.2.2.2.2.2.2.2.2.2.2.1, t12.2.2.2.2.2.2.2.2.2.2.2.2.2.2.2.1, t12.2.2.2.2.2.2.2.2.2.2.2.2.2.2.2.2.1, t12.2.2.2.2.2.2.2.2.2.2.2.2.2.2.2.2.2.1, (t12.2.2.2.2.2.2.2.2.2.2.2.2.2.2.2.2.2.2.1.1, t12.2.2.2.2.2.2.2.2.2.2.2.2.2.2.2.2.2.2.1.2.1, ()), t12.2.2.2.2.2.2.2.2.2.2.2.2.2.2.2.2.2.2.2))
          (tst (t12.2.1 == 0)
            (rec11 (t12.1, t12.2.1, t12.2.2.1, t12.2.2.2.1, (t12.2.2.2.2.1.1, ()), t12.2.2.2.2.2.1, t12.2.2.2.2.2.2.1, w64 (t12.2.2.2.2.2.2.2.1 + 1), t12.2.2.2.2.2.2.2.2.1, t12.2.2.2.2.2.2.2.2.2.1, t12.2.2.2.2.2.2.2.2.2.2.1, t12.2.2.2.2.2.2.2.2.2.2.2.1, (t12.2.2.2.2.2.2.2.2.2.2.2.2.1.1, ()), t12.2.2.2.2.2.2.2.2.2.2.2.2.2.1, t12.2.2.2.2.2.2.2.2.2.2.2.2.2.2.1, t12.2.2.2.2.2.2.2.2.2.2.2.2.2.2.2.1, t12.2.2.2.2.2.2.2.2.2.2.2.2.2.2.2.2.1, t12.2.2.2.2.2.2.2.2.2.2.2.2.2.2.2.2.2.1, (t12.2.2.2.2.2.2.2.2.2.2.2.2.2.2.2.2.2.2.1.1, t12.2.2.2.2.2.2.2.2.2.2.2.2.2.2.2.2.2.2.1.2.1, ()), t12.2.2.2.2.2.2.2.2.2.2.2.2.2.2.2.2.2.2.2))
            (tst (fit 8 t12.2.2.2.2.2.2.2.2.2.2.2.2.2.2.2.2.2.2.2.1 [w64 (t12.2.2.2.1 - t12.2.2.2.2.2.2.2.2.2.2.2.2.2.2.1.1)])
              (rec11 (t12.1, w64 (t12.2.1 - 1), t12.2.2.1, t12.2.2.2.1, (t12.2.2.2.2.1.1, ()), t12.2.2.2.2.2.1, t12.2.2.2.2.2.2.1, w64 (t12.2.2.2.2.2.2.2.1 + 1), t12.2.2.2.2.2.2.2.2.1, t12.2.2.2.2.2.2.2.2.2.1, t12.2.2.2.2.2.2.2.2.2.2.1, t12.2.2.2.2.2.2.2.2.2.2.2.1, (t12.2.2.2.2.2.2.2.2.2.2.2.2.1.1, ()), t12.2.2.2.2.2.2.2.2.2.2.2.2.2.1, t12.2.2.2.2.2.2.2.2.2.2.2.2.2.2.1, t12.2.2.2.2.2.2.2.2.2.2.2.2.2.2.2.1, t12.2.2.2.2.2.2.2.2.2.2.2.2.2.2.2.2.1, t12.2.2.2.2.2.2.2.2.2.2.2.2.2.2.2.2.2.1, (t12.2.2.2.2.2.2.2.2.2.2.2.2.2.2.2.2.2.2.1.1, t12.2.2.2.2.2.2.2.2.2.2.2.2.2.2.2.2.2.2.1.2.1, ()), t12.2.2.2.2.2.2.2.2.2.2.2.2.2.2.2.2.2.2.2.1 ++ [w64 (t12.2.2.2.1 - t12.2.2.2.2.2.2.2.2.2.2.2.2.2.2.1.1)], w64 (t12.2.2.2.1 + 1), t12.2.2.2.2.2.2.2.2.2.2.2.2.2.2.2.2.2.2.2.2.2))
              none)))
        none)
      (κ2 t12)
def bound_way_release_l1 (k : Nat) (κ1 : (Way × Int × (List Cell) × Int × (Way × Unit) × Way × Int × Link × Way × (Way × Unit) × Way × (Int × Unit) × Int × (List Int) × Bool × ((Int × Unit) × Way × Unit) × (List Int) × Int × Int × Unit) → Option (Int × (List Int) × Bool × Unit)) (κ3 : (Way × Int × (List Cell) × Int × (Way × Unit) × Way × Int × Link × Way × (Way × Unit) × Way × (Int × Unit) × Int × (List Int) × Bool × ((Int × Unit) × Way × Unit) × (List Int) × Int × Int × Unit) → Option (Int × (List Int) × Bool × Unit)) : Nat → Way × Int × (List Cell) × Int × (Way × Unit) × Way × Int × Link × Way × (Way × Unit) × Way × (Int × Unit) × Int × (List Int) × Bool × ((Int × Unit) × Way × Unit) × (List Int) × Int × Int × Unit → Option (Int × (List Int) × Bool × Unit) :=
  loopK fun rec7 (t8 : Way × Int × (List Cell) × Int × (Way × Unit) × Way × Int × Link × Way × (Way × Unit) × Way × (Int × Unit) × Int × (List Int) × Bool × ((Int × Unit) × Way × Unit) × (List Int) × Int × Int × Unit) =>
    tst (decide (0 < t8.2.1))
      (tst (decide (t8.2.2.2.2.2.2.2.2.2.2.2.2.2.2.2.2.2.2.1 ≤ t8.2.2.2.1))
        (κ1 t8)
        (bound_way_release_l2 k
    (fun t12 =>
    rec7 (t12.1, t12.2.1, t12.2.2.1, w64 (t12.2.2.2.1 + 1), (t12.2.2.2.2.1.1, ()), t12.2.2.2.2.2.2.2.2.1, t12.2.2.2.2.2.2.2.2.2.1, t12.2.2.2.2.2.2.2.2.2.2.1, t12.2.2.2.2.2.2.2.2.2.2.2.1, (t12.2.2.2.2.2.2.2.2.2.2.2.2.1.1, ()), t12.2.2.2.2.2.2.2.2.2.2.2.2.2.1, t12.2.2.2.2.2.2.2.2.2.2.2.2.2.2.1, t12.2.2.2.2.2.2.2.2.2.2.2.2.2.2.2.1, t12.2.2.2.2.2.2.2.2.2.2.2.2.2.2.2.2.1, t12.2.2.2.2.2.2.2.2.2.2.2.2.2.2.2.2.2.1, (t12.2.2.2.2.2.2.2.2.2.2.2.2.2.2.2.2.2.2.1.1, t12.2.2.2.2.2.2.2.2.2.2.2.2.2.2.2.2.2.2.1.2.1, ()), t12.2.2.2.2.2.2.2.2.2.2.2.2.2.2.2.2.2.2.2)) k (t8.1, t8.2.1, t8.2.2.1, t8.2.2.2.1, (t8.2.2.2.2.1.1, ()), t8.2.2.1, ln t8.2.2.1, 0, t8.2.2.2.2.2.1, t8.2.2.2.2.2.2.1, t8.2.2.2.2.2.2.2.1, t8.2.2.2.2.2.2.2.2.1, (t8.2.2.2.2.2.2.2.2.2.1.1, ()), t8.2.2.2.2.2.2.2.2.2.2.1, t8.2.2.2.2.2.2.2.2.2.2.2.1, t8.2.2.2.2.2.2.2.2.2.2.2.2.1, t8.2.2.2.2.2.2.2.2.2.2.2.2.2.1, t8.2.2.2.2.2.2.2.2.2.2.2.2.2.2.1, (t8.2.2.2.2.2.2.2.2.2.2.2.2.2.2.2.1.1, t8.2.2.2.2.2.2.2.2.2.2.2.2.2.2.2.1.2.1, ()), t8.2.2.2.2.2.2.2.2.2.2.2.2.2.2.2.2)))
      (κ3 t8)
def bound_way_release_l0 (k : Nat) (κ0 : (Way × Int × (List Cell) × Int × (Way × Unit) × Way × Int × Link × Way × (Way × Unit) × Way × (Int × Unit) × Int × (List Int) × Bool × ((Int × Unit) × Way × Unit) × (List Int) × Int × Int × Unit) → Option (Int × (List Int) × Bool × Unit)) (κ4 : (Way × Int × Way × (Way × Unit) × Way × (Int × Unit) × Int × (List Int) × Bool × ((Int × Unit) × Way × Unit) × (List Int) × Int × Int × Unit) → Option (Int × (List Int) × Bool × Unit)) : Nat → Way × Int × Way × (Way × Unit) × Way × (Int × Unit) × Int × (List Int) × Bool × ((Int × Unit) × Way × Unit) × (List Int) × Int × Int × Unit → Option (Int × (List Int) × Bool × Unit) :=
  loopK fun rec0 (t1 : Way × Int × Way × (Way × Unit) × Way × (Int × Unit) × Int × (List Int) × Bool × ((Int × Unit) × Way × Unit) × (List Int) × Int × Int × Unit) =>
    tst (decide (t1.2.1 < (ln t1.1.2.2.2.2.2.2.2.2.2.2.2.2.2.2.2.1)))
      (obind (ix t1.1.2.2.2.2.2.2.2.2.2.2.2.2.2.2.2.1 (w64 (t1.2.1 - 1))) fun v2 =>
      obind (ix t1.1.2.2.2.2.2.2.2.2.2.2.2.2.2.2.2.1 t1.2.1) fun v3 =>
      obind (network_Index k (t1.1.1, t1.1.2.1, t1.1.2.2.1, t1.1.2.2.2.1, t1.1.2.2.2.2.1, t1.1.2.2.2.2.2.1, ()) v2 v3) fun v4 =>
      obind (ix t1.1.2.2.2.2.1 v4) fun v5 =>
      obind (bound_way_cells k t1.2.2.1 (v5.1, v5.2.1, w64 (v5.2.2.1 + t1.1.2.2.2.2.2.2.2.2.2.2.2.2.2.2.2.2.1), ())) fun v6 =>
      bound_way_release_l1 k
    (fun t8 =>
    κ0 t8)
    (fun t8 =>
    rec0 (t8.2.2.2.2.2.1, w64 (t8.2.2.2.2.2.2.1 + 1), t8.2.2.2.2.2.2.2.2.1, (t8.2.2.2.2.2.2.2.2.2.1.1, ()), t8.2.2.2.2.2.2.2.2.2.2.1, t8.2.2.2.2.2.2.2.2.2.2.2.1, t8.2.2.2.2.2.2.2.2.2.2.2.2.1, t8.2.2.2.2.2.2.2.2.2.2.2.2.2.1, t8.2.2.2.2.2.2.2.2.2.2.2.2.2.2.1, (t8.2.2.2.2.2.2.2.2.2.2.2.2.2.2.2.1.1, t8.2.2.2.2.2.2.2.2.2.2.2.2.2.2.2.1.2.1, ()), t8.2.2.2.2.2.2.2.2.2.2.2.2.2.2.2.2)) k (t1.2.2.1, w64 ((w64 (v5.2.2.1 + t1.1.2.2.2.2.2.2.2.2.2.2.2.2.2.2.2.2.1)) + 1), v6, t1.2.2.2.2.2.2.2.2.2.2.2.1, (t1.2.2.2.1.1, ()), t1.1, t1.2.1, (v5.1, v5.2.1, w64 (v5.2.2.1 + t1.1.2.2.2.2.2.2.2.2.2.2.2.2.2.2.2.2.1), ()), t1.2.2.1, (t1.2.2.2.1.1, ()), t1.2.2.2.2.1, t1.2.2.2.2.2.1, t1.2.2.2.2.2.2.1, t1.2.2.2.2.2.2.2.1, t1.2.2.2.2.2.2.2.2.1, (t1.2.2.2.2.2.2.2.2.2.1.1, t1.2.2.2.2.2.2.2.2.2.1.2.1, ()), t1.2.2.2.2.2.2.2.2.2.2))
      (κ4 t1)
def bound_way_release (k : Nat) (x0 : Way) (x1 : Int) : Option (Int × (List Int) × Bool × Unit) :=
  bound_way_release_l0 k
    (fun t8 =>
    obind (bound_way_needed k t8.2.2.2.2.2.2.2.2.2.2.1) fun v9 =>
    tst (decide ((ln t8.2.2.2.2.2.2.2.2.2.2.2.2.2.2.2.2.1) < v9))
      (some (0, [], false, ()))
      (obind (ix t8.2.2.2.2.2.2.2.2.2.2.2.2.2.2.2.2.1 (w64 ((ln t8.2.2.2.2.2.2.2.2.2.2.2.2.2.2.2.2.1) - 1))) fun v10 =>
      some (w64 (v10 + 1), t8.2.2.2.2.2.2.2.2.2.2.2.2.2.2.2.2.1, true, ())))
    (fun t1 =>
    obind (bound_way_needed k t1.2.2.2.2.1) fun v14 =>
    tst (decide ((ln t1.2.2.2.2.2.2.2.2.2.2.1) < v14))
      (some (0, [], false, ()))
      (obind (ix t1.2.2.2.2.2.2.2.2.2.2.1 (w64 ((ln t1.2.2.2.2.2.2.2.2.2.2.1) - 1))) fun v15 =>
      some (w64 (v15 + 1), t1.2.2.2.2.2.2.2.2.2.2.1, true, ()))) k (x0, 1, x0, (x0, ()), x0, (x1, ()), 0, [], false, ((x1, ()), x0, ()), [], x1, w64 (x1 + x0.2.2.2.2.2.2.2.2.2.2.2.2.1), ())
-- 26
def bound_way_bound_l0 (k : Nat) : Nat → Way × Int × Int × (List Int) × Int × Unit → Option (Int × Int × (List Int) × Bool × Unit) :=
  loopK fun rec0 (t1 : Way × Int × Int × (List Int) × Int × Unit) =>
    tst (decide (t1.2.2.2.2.1 < t1.1.2.2.2.2.2.2.1))
      (obind (bound_way_release k t1.1 t1.2.2.2.2.1) fun v2 =>
      tst (!v2.2.2.1)
        (some (0, 0, [], false, ()))
        (tst (decide (t1.2.1 < v2.1))
          (rec0 (t1.1, v2.1, t1.2.2.2.2.1, v2.2.1, w64 (t1.2.2.2.2.1 + t1.1.2.2.2.2.2.2.2.2.2.2.2.2.1), ()))
          (rec0 (t1.1, t1.2.1, t1.2.2.1, t1.2.2.2.1, w64 (t1.2.2.2.2.1 + t1.1.2.2.2.2.2.2.2.2.2.2.2.2.1), ()))))
      (some (t1.2.1, t1.2.2.1, t1.2.2.2.1, true, ()))
def bound_way_bound (k : Nat) (x0 : Way) : Option (Int × Int × (List Int) × Bool × Unit) :=
  bound_way_bound_l0 k k (x0, 0, 0, [], x0.2.2.2.2.2.2.2.2.2.2.2.2.2.1, ())
-- 9
def bound_Route (k : Nat) (x0 : Network) (x1 : Schedule) (x2 : Flow) (x3 : List Int) : Option (Int × Int × (List Int) × Int × Unit) :=
  obind (bound_way_check k (x0.1, x0.2.1, x0.2.2.1, x0.2.2.2.1, x0.2.2.2.2.1, x0.2.2.2.2.2.1, x1.1, x1.2.1, x1.2.2.1, x2.1, x2.2.1, x2.2.2.1, x2.2.2.2.1, x2.2.2.2.2.1, x2.2.2.2.2.2.1, x3, 0, ())) fun v0 =>
  tst (!(v0 == 0))
    (some (0, 0, [], v0, ()))
    (obind (bound_way_bound k (x0.1, x0.2.1, x0.2.2.1, x0.2.2.2.1, x0.2.2.2.2.1, x0.2.2.2.2.2.1, x1.1, x1.2.1, x1.2.2.1, x2.1, x2.2.1, x2.2.2.1, x2.2.2.2.1, x2.2.2.2.2.1, x2.2.2.2.2.2.1, x3, 0, ())) fun v1 =>
    tst (!v1.2.2.2.1)
      (some (0, 0, [], 15, ()))
      (some (v1.1, v1.2.1, v1.2.2.1, 0, ())))
-- 10
def slices_Equal_Lint_int_l0 (k : Nat) : Nat → (List Int) × (List Int) × Int × Int × Unit → Option (Bool) :=
  loopK fun rec0 (t1 : (List Int) × (List Int) × Int × Int × Unit) =>
    tst (decide (t1.2.2.2.1 < t1.2.2.1))
      (obind (ix t1.1 t1.2.2.2.1) fun v2 =>
      obind (ix t1.2.1 t1.2.2.2.1) fun v3 =>
      tst (!(v2 == v3))
        (some false)
        (rec0 (t1.1, t1.2.1, t1.2.2.1, w64 (t1.2.2.2.1 + 1), ())))
      (some true)
def slices_Equal_Lint_int (k : Nat) (x0 : List Int) (x1 : List Int) : Option (Bool) :=
  tst (!((ln x0) == (ln x1)))
    (some false)
    (slices_Equal_Lint_int_l0 k k (x0, x1, ln x0, 0, ()))
-- 14
def bound_Slack_l0 (k : Nat) : Nat → Flow × Int × Int × (List (List Int)) × Int × Int × (List Link) × (List Int) × Int × Int × (List Cell) × Int × Int × Int × Int × Int × Int × (List Int) × Int × Unit → Option (Int × Int × Unit) :=
  loopK fun rec2 (t3 : Flow × Int × Int × (List (List Int)) × Int × Int × (List Link) × (List Int) × Int × Int × (List Cell) × Int × Int × Int × Int × Int × Int × (List Int) × Int × Unit) =>
    tst (decide (t3.2.1 < 7))
      (obind (bound_way_bound k (t3.2.2.1, t3.2.2.2.1, t3.2.2.2.2.1, t3.2.2.2.2.2.1, t3.2.2.2.2.2.2.1, t3.2.2.2.2.2.2.2.1, t3.2.2.2.2.2.2.2.2.1, t3.2.2.2.2.2.2.2.2.2.1, t3.2.2.2.2.2.2.2.2.2.2.1, t3.2.2.2.2.2.2.2.2.2.2.2.1, t3.2.2.2.2.2.2.2.2.2.2.2.2.1, t3.2.2.2.2.2.2.2.2.2.2.2.2.2.1, t3.2.2.2.2.2.2.2.2.2.2.2.2.2.2.1, t3.2.2.2.2.2.2.2.2.2.2.2.2.2.2.2.1, t3.2.2.2.2.2.2.2.2.2.2.2.2.2.2.2.2.1, t3.2.2.2.2.2.2.2.2.2.2.2.2.2.2.2.2.2.1, w64 (t3.2.1 + 1), ())) fun v4 =>
      tst v4.2.2.2.1
        (tst (decide (v4.1 ≤ t3.1.2.2.2.2.2.1))
          (rec2 (t3.1, w64 (t3.2.1 + 1), t3.2.2.1, t3.2.2.2.1, t3.2.2.2.2.1, t3.2.2.2.2.2.1, t3.2.2.2.2.2.2.1, t3.2.2.2.2.2.2.2.1, t3.2.2.2.2.2.2.2.2.1, t3.2.2.2.2.2.2.2.2.2.1, t3.2.2.2.2.2.2.2.2.2.2.1, t3.2.2.2.2.2.2.2.2.2.2.2.1, t3.2.2.2.2.2.2.2.2.2.2.2.2.1, t3.2.2.2.2.2.2.2.2.2.2.2.2.2.1, t3.2.2.2.2.2.2.2.2.2.2.2.2.2.2.1, t3.2.2.2.2.2.2.2.2.2.2.2.2.2.2.2.1, t3.2.2.2.2.2.2.2.2.2.2.2.2.2.2.2.2.1, t3.2.2.2.2.2.2.2.2.2.2.2.2.2.2.2.2.2.1, w64 (t3.2.1 + 1), ()))
          (some (t3.2.1, 0, ())))
        (some (t3.2.1, 0, ())))
      (some (t3.2.1, 0, ()))
def bound_Slack (k : Nat) (x0 : Network) (x1 : Schedule) (x2 : Flow) (x3 : List Int) : Option (Int × Int × Unit) :=
  obind (bound_way_check k (x0.1, x0.2.1, x0.2.2.1, x0.2.2.2.1, x0.2.2.2.2.1, x0.2.2.2.2.2.1, x1.1, x1.2.1, x1.2.2.1, x2.1, x2.2.1, x2.2.2.1, x2.2.2.2.1, x2.2.2.2.2.1, x2.2.2.2.2.2.1, x3, 0, ())) fun v0 =>
  tst (!(v0 == 0))
    (some (0, v0, ()))
    (obind (bound_way_bound k (x0.1, x0.2.1, x0.2.2.1, x0.2.2.2.1, x0.2.2.2.2.1, x0.2.2.2.2.2.1, x1.1, x1.2.1, x1.2.2.1, x2.1, x2.2.1, x2.2.2.1, x2.2.2.2.1, x2.2.2.2.2.1, x2.2.2.2.2.2.1, x3, 0, ())) fun v1 =>
    tst v1.2.2.2.1
      (tst (!(decide (v1.1 ≤ x2.2.2.2.2.2.1)))
        (some (0, 15, ()))
        (bound_Slack_l0 k k (x2, 0, x0.1, x0.2.1, x0.2.2.1, x0.2.2.2.1, x0.2.2.2.2.1, x0.2.2.2.2.2.1, x1.1, x1.2.1, x1.2.2.1, x2.1, x2.2.1, x2.2.2.1, x2.2.2.2.1, x2.2.2.2.2.1, x2.2.2.2.2.2.1, x3, 0, ())))
      (some (0, 15, ())))
-- 19
def law37_example (k : Nat) (x0 : Int) : Option (Network × Schedule × Flow × Unit) :=
  some ((3, [[0, 9, 9], [9, 0, 9], [9, 9, 0]], 1, 1000, [(0, 1, x0, ()), (1, 0, 0, ()), (1, 2, x0, ()), (2, 1, 0, ())], [9, 9, 9, 9], ()), (6, 1, [(0, 0, 0, 1, 3, ()), (1, 0, 1, 2, 3, ()), (2, 0, 0, 1, 3, ()), (3, 0, 1, 2, 3, ()), (4, 0, 1, 2, 3, ())], ()), (3, 0, 2, 6, 0, 6, ()), ())
-- 6
def law37_awake (k : Nat) : Option (Bool) :=
  obind (law37_example k 1) fun v0 =>
  obind (bound_Route k v0.1 v0.2.1 v0.2.2.1 [0, 1, 2]) fun v1 =>
  obind (law37_example k 0) fun v2 =>
  obind (bound_Route k v2.1 v2.2.1 v2.2.2.1 [0, 1, 2]) fun v3 =>
  obind (bound_Slack k v2.1 v2.2.1 v2.2.2.1 [0, 1, 2]) fun v4 =>
  tst (v1.2.2.2.1 == 0)
    (tst (v1.1 == 5)
      (tst (v1.2.1 == 0)
        (obind (slices_Equal_Lint_int k v1.2.2.1 [0, 2, 3, 4]) fun v5 =>
        tst v5
          (tst (v3.2.2.2.1 == 0)
            (tst (v3.1 == 2)
              (tst (v4.2.1 == 0)
                (some (v4.1 == 1))
                (some false))
              (some false))
            (some false))
          (some false))
        (some false))
      (some false))
    (some false)
-- 20
def ref31_Few_l0 (k : Nat) (κ0 : (Network × Int × Unit) → Option Bool) : Nat → Network × Int × Unit → Option (Bool) :=
  loopK fun rec0 (t1 : Network × Int × Unit) =>
    tst (decide (t1.2.1 < (ln t1.1.2.1)))
      (obind (ix t1.1.2.1 t1.2.1) fun v2 =>
      tst (decide (40 < (ln v2)))
        (some false)
        (rec0 (t1.1, w64 (t1.2.1 + 1), ())))
      (κ0 t1)
def ref31_Few (k : Nat) (x0 : Network) : Option (Bool) :=
  ref31_Few_l0 k
    (fun t1 =>
    tst (decide ((ln t1.1.2.1) ≤ 8))
      (tst (decide ((ln t1.1.2.2.2.2.1) ≤ 60))
        (some (decide ((ln t1.1.2.2.2.2.2.1) ≤ 60)))
        (some false))
      (some false)) k (x0, 0, ())
-- 7
def ref37_Few_l0 (k : Nat) (κ0 : ((List (List Int)) × Network × Schedule × Int × Unit) → Option Bool) : Nat → (List (List Int)) × Network × Schedule × Int × Unit → Option (Bool) :=
  loopK fun rec0 (t1 : (List (List Int)) × Network × Schedule × Int × Unit) =>
    tst (decide (t1.2.2.2.1 < (ln t1.1)))
      (obind (ix t1.1 t1.2.2.2.1) fun v2 =>
      tst (decide (12 < (ln v2)))
        (some false)
        (rec0 (t1.1, t1.2.1, t1.2.2.1, w64 (t1.2.2.2.1 + 1), ())))
      (κ0 t1)
def ref37_Few (k : Nat) (x0 : Network) (x1 : Schedule) (x2 : List (List Int)) : Option (Bool) :=
  ref37_Few_l0 k
    (fun t1 =>
    obind (ref31_Few k t1.2.1) fun v3 =>
    tst v3
      (tst (decide ((ln t1.2.2.1.2.2.1) ≤ 24))
        (some (decide ((ln t1.1) ≤ 3)))
        (some false))
      (some false)) k (x2, x0, x1, 0, ())
-- 8
def bound_Needed_l4 (k : Nat) (κ2 : (Way × Int × (List Cell) × Int × (Way × Unit) × (List Cell) × Int × Int × Way × Int × Link × Way × (Way × Unit) × Network × Schedule × Flow × (List Cell) × Int × Int × (List (List Int)) × Int × Int × ((Int × Unit) × Way × Unit) × (Int × Int × Int) × Int × (List (List Int)) × Int × Int × (List Link) × (List Int) × Int × Int × (List Cell) × Int × Int × Int × Int × Int × Int × (List Int) × Int × Int × Int × (List (List (Cell × Bool × Unit))) × Unit) → Option ((List Cell) × Int × Unit)) : Nat → Way × Int × (List Cell) × Int × (Way × Unit) × (List Cell) × Int × Int × Way × Int × Link × Way × (Way × Unit) × Network × Schedule × Flow × (List Cell) × Int × Int × (List (List Int)) × Int × Int × ((Int × Unit) × Way × Unit) × (Int × Int × Int) × Int × (List (List Int)) × Int × Int × (List Link) × (List Int) × Int × Int × (List Cell) × Int × Int × Int × Int × Int × Int × (List Int) × Int × Int × Int × (List (List (Cell × Bool × Unit))) × Unit → Option ((List Cell) × Int × Unit) :=
  loopK fun rec15 (t16 : Way × Int × (List Cell) × Int × (Way × Unit) × (List Cell) × Int × Int × Way × Int × Link × Way × (Way × Unit) × Network × Schedule × Flow × (List Cell) × Int × Int × (List (List Int)) × Int × Int × ((Int × Unit) × Way × Unit) × (Int × Int × Int) × Int × (List (List Int)) × Int × Int × (List Link) × (List Int) × Int × Int × (List Cell) × Int × Int × Int × Int × Int × Int × (List Int) × Int × Int × Int × (List (List (Cell × Bool × Unit))) × Unit) =>
    tst (decide (t16.2.2.2.2.2.2.2.1 < t16.2.2.2.2.2.2.1))
      (obind (ix t16.2.2.2.2.2.1 t16.2.2.2.2.2.2.2.1) fun v17 =>
      tst (t16.1.2.2.2.2.2.2.1 != 0)
        (tst (!(v17.1 == (Int.tmod t16.2.2.2.1 t16.1.2.2.2.2.2.2.1)))
          (rec15 (t16.1, t16.2.1, t16.2.2.1, t16.2.2.2.1, (t16.2.2.2.2.1.1, ()), t16.2.2.2.2.2.1, t16.2.2.2.2.2.2.1, w64 (t16.2.2.2.2.2.2.2.1 + 1), t16.2.2.2.2.2.2.2.2.1, t16.2.2.2.2.2.2.2.2.2.1, t16.2.2.2.2.2.2.2.2.2.2.1, t16.2.2.2.2.2.2.2.2.2.2.2.1, (t16.2.2.2.2.2.2.2.2.2.2.2.2.1.1, ()), t16.2.2.2.2.2.2.2.2.2.2.2.2.2.1, t16.2.2.2.2.2.2.2.2.2.2.2.2.2.2.1, t16.2.2.2.2.2.2.2.2.2.2.2.2.2.2.2.1, t16.2.2.2.2.2.2.2.2.2.2.2.2.2.2.2.2.1, t16.2.2.2.2.2.2.2.2.2.2.2.2.2.2.2.2.2.1, t16.2.2.2.2.2.2.2.2.2.2.2.2.2.2.2.2.2.2.1, t16.2.2.2.2.2.2.2.2.2.2.2.2.2.2.2.2.2.2.2.1, t16.2.2.2.2.2.2.2.2.2.2.2.2.2.2.2.2.2.2.2.2.1, t16.2.2.2.2.2.2.2.2.2.2.2.2.2.2.2.2.2.2.2.2.2.1, (t16.2.2.2.2.2.2.2.2.2.2.2.2.2.2.2.2.2.2.2.2.2.2.1.1, t16.2.2.2.2.2.2.2.2.2.2.2.2.2.2.2.2.2.2.2.2.2.2.1.2.1, ()), t16.2.2.2.2.2.2.2.2.2.2.2.2.2.2.2.2.2.2.2.2.2.2.2))
          (tst (t16.2.1 == 0)
            (rec15 (t16.1, t16.2.1, t16.2.2.1, t16.2.2.2.1, (t16.2.2.2.2.1.1, ()), t16.2.2.2.2.2.1, t16.2.2.2.2.2.2.1, w64 (t16.2.2.2.2.2.2.2.1 + 1), t16.2.2.2.2.2.2.2.2.1, t16.2.2.2.2.2.2.2.2.2.1, t16.2.2.2.2.2.2.2.2.2.2.1, t16.2.2.2.2.2.2.2.2.2.2.2.1, (t16.2.2.2.2.2.2.2.2.2.2.2.2.1.1, ()), t16.2.2.2.2.2.2.2.2.2.2.2.2.2.1, t16.2.2.2.2.2.2.2.2.2.2.2.2.2.2.1, t16.2.2.2.2.2.2.2.2.2.2.2.2.2.2.2.1, t16.2.2.2.2.2.2.2.2.2.2.2.2.2.2.2.2.1, t16.2.2.2.2.2.2.2.2.2.2.2.2.2.2.2.2.2.1, t16.2.2.2.2.2.2.2.2.2.2.2.2.2.2.2.2.2.2.1, t16.2.2.2.2.2.2.2.2.2.2.2.2.2.2.2.2.2.2.2.1, t16.2.2.2.2.2.2.2.2.2.2.2.2.2.2.2.2.2.2.2.2.1, t16.2.2.2.2.2.2.2.2.2.2.2.2.2.2.2.2.2.2.2.2.2.1, (t16.2.2.2.2.2.2.2.2.2.2.2.2.2.2.2.2.2.2.2.2.2.2.1.1, t16.2.2.2.2.2.2.2.2.2.2.2.2.2.2.2.2.2.2.2.2.2.2.1.2.1, ()), t16.2.2.2.2.2.2.2.2.2.2.2.2.2.2.2.2.2.2.2.2.2.2.2))
            (obind (ix t16.2.2.2.2.2.2.2.2.2.2.2.2.2.2.2.2.2.2.2.2.2.2.2.2.2.2.2.2.2.2.2.2.2.2.2.2.2.2.2.2.2.2.2.1 t16.2.2.2.2.2.2.2.2.2.2.2.2.2.2.2.2.2.2.2.2.2.2.2.1.1) fun v18 =>
            rec15 (t16.1, w64 (t16.2.1 - 1), t16.2.2.1, t16.2.2.2.1, (t16.2.2.2.2.1.1, ()), t16.2.2.2.2.2.1, t16.2.2.2.2.2.2.1, w64 (t16.2.2.2.2.2.2.2.1 + 1), t16.2.2.2.2.2.2.2.2.1, t16.2.2.2.2.2.2.2.2.2.1, t16.2.2.2.2.2.2.2.2.2.2.1, t16.2.2.2.2.2.2.2.2.2.2.2.1, (t16.2.2.2.2.2.2.2.2.2.2.2.2.1.1, ()), t16.2.2.2.2.2.2.2.2.2.2.2.2.2.1, t16.2.2.2.2.2.2.2.2.2.2.2.2.2.2.1, t16.2.2.2.2.2.2.2.2.2.2.2.2.2.2.2.1, t16.2.2.2.2.2.2.2.2.2.2.2.2.2.2.2.2.1, t16.2.2.2.2.2.2.2.2.2.2.2.2.2.2.2.2.2.1, t16.2.2.2.2.2.2.2.2.2.2.2.2.2.2.2.2.2.2.1, t16.2.2.2.2.2.2.2.2.2.2.2.2.2.2.2.2.2.2.2.1, t16.2.2.2.2.2.2.2.2.2.2.2.2.2.2.2.2.2.2.2.2.1, t16.2.2.2.2.2.2.2.2.2.2.2.2.2.2.2.2.2.2.2.2.2.1, (t16.2.2.2.2.2.2.2.2.2.2.2.2.2.2.2.2.2.2.2.2.2.2.1.1, t16.2.2.2.2.2.2.2.2.2.2.2.2.2.2.2.2.2.2.2.2.2.2.1.2.1, ()), t16.2.2.2.2.2.2.2.2.2.2.2.2.2.2.2.2.2.2.2.2.2.2.2.1, t16.2.2.2.2.2.2.2.2.2.2.2.2.2.2.2.2.2.2.2.2.2.2.2.2.1, t16.2.2.2.2.2.2.2.2.2.2.2.2.2.2.2.2.2.2.2.2.2.2.2.2.2.1, t16.2.2.2.2.2.2.2.2.2.2.2.2.2.2.2.2.2.2.2.2.2.2.2.2.2.2.1, t16.2.2.2.2.2.2.2.2.2.2.2.2.2.2.2.2.2.2.2.2.2.2.2.2.2.2.2.1, t16.2.2.2.2.2.2.2.2.2.2.2.2.2.2.2.2.2.2.2.2.2.2.2.2.2.2.2.2.1, t16.2.2.2.2.2.2.2.2.2.2.2.2.2.2.2.2.2.2.2.2.2.2.2.2.2.2.2.2.2.1, t16.2.2.2.2.2.2.2.2.2.2.2.2.2.2.2.2.2.2.2.2.2.2.2.2.2.2.2.2.2.2.1, t16.2.2.2.2.2.2.2.2.2.2.2.2.2.2.2.2.2.2.2.2.2.2.2.2.2.2.2.2.2.2.2.1, t16.2.2.2.2.2.2.2.2.2.2.2.2.2.2.2.2.2.2.2.2.2.2.2.2.2.2.2.2.2.2.2.2.1, t16.2.2.2.2.2.2.2.2.2.2.2.2.2.2.2.2.2.2.2.2.2.2.2.2.2.2.2.2.2.2.2.2.2.1, t16.2.2.2.2.2.2.2.2.2.2.2.2.2.2.2.2.2.2.2.2.2.2.2.2.2.2.2.2.2.2.2.2.2.2.1, t16.2.2.2.2.2.2.2.2.2.2.2.2.2.2.2.2.2.2.2.2.2.2.2.2.2.2.2.2.2.2.2.2.2.2.2.1, t16.2.2.2.2.2.2.2.2.2.2.2.2.2.2.2.2.2.2.2.2.2.2.2.2.2.2.2.2.2.2.2.2.2.2.2.2.1, t16.2.2.2.2.2.2.2.2.2.2.2.2.2.2.2.2.2.2.2.2.2.2.2.2.2.2.2.2.2.2.2.2.2.2.2.2.2.1, t16.2.2.2.2.2.2.2.2.2.2.2.2.2.2.2.2.2.2.2.2.2.2.2.2.2.2.2.2.2.2.2.2.2.2.2.2.2.2.1, t16.2.2.2.2.2.2.2.2.2.2.2.2.2.2.2.2.2.2.2.2.2.2.2.2.2.2.2.2.2.2.2.2.2.2.2.2.2.2.2.1, t16.2.2.2.2.2.2.2.2.2.2.2.2.2.2.2.2.2.2.2.2.2.2.2.2.2.2.2.2.2.2.2.2.2.2.2.2.2.2.2.2.1, w64 (t16.2.2.2.1 + 1), t16.2.2.2.2.2.2.2.2.2.2.2.2.2.2.2.2.2.2.2.2.2.2.2.2.2.2.2.2.2.2.2.2.2.2.2.2.2.2.2.2.2.2.1, setI t16.2.2.2.2.2.2.2.2.2.2.2.2.2.2.2.2.2.2.2.2.2.2.2.2.2.2.2.2.2.2.2.2.2.2.2.2.2.2.2.2.2.2.2.1 t16.2.2.2.2.2.2.2.2.2.2.2.2.2.2.2.2.2.2.2.2.2.2.2.1.1 (mSet v18 v17 true), ()))))
        none)
      (κ2 t16)
def bound_Needed_l3 (k : Nat) (κ1 : (Way × Int × (List Cell) × Int × (Way × Unit) × Way × Int × Link × Way × (Way × Unit) × Network × Schedule × Flow × (List Cell) × Int × Int × (List (List Int)) × Int × Int × ((Int × Unit) × Way × Unit) × (Int × Int × Int) × Int × (List (List Int)) × Int × Int × (List Link) × (List Int) × Int × Int × (List Cell) × Int × Int × Int × Int × Int × Int × (List Int) × Int × Int × Int × (List (List (Cell × Bool × Unit))) × Unit) → Option ((List Cell) × Int × Unit)) (κ3 : (Way × Int × (List Cell) × Int × (Way × Unit) × Way × Int × Link × Way × (Way × Unit) × Network × Schedule × Flow × (List Cell) × Int × Int × (List (List Int)) × Int × Int × ((Int × Unit) × Way × Unit) × (Int × Int × Int) × Int × (List (List Int)) × Int × Int × (List Link) × (List Int) × Int × Int × (List Cell) × Int × Int × Int × Int × Int × Int × (List Int) × Int × Int × Int × (List (List (Cell × Bool × Unit))) × Unit) → Option ((List Cell) × Int × Unit)) : Nat → Way × Int × (List Cell) × Int × (Way × Unit) × Way × Int × Link × Way × (Way × Unit) × Network × Schedule × Flow × (List Cell) × Int × Int × (List (List Int)) × Int × Int × ((Int × Unit) × Way × Unit) × (Int × Int × Int) × Int × (List (List Int)) × Int × Int × (List Link) × (List Int) × Int × Int × (List Cell) × Int × Int × Int × Int × Int × Int × (List Int) × Int × Int × Int × (List (List (Cell × Bool × Unit))) × Unit → Option ((List Cell) × Int × Unit) :=
  loopK fun rec13 (t14 : Way × Int × (List Cell) × Int × (Way × Unit) × Way × Int × Link × Way × (Way × Unit) × Network × Schedule × Flow × (List Cell) × Int × Int × (List (List Int)) × Int × Int × ((Int × Unit) × Way × Unit) × (Int × Int × Int) × Int × (List (List Int)) × Int × Int × (List Link) × (List Int) × Int × Int × (List Cell) × Int × Int × Int × Int × Int × Int × (List Int) × Int × Int × Int × (List (List (Cell × Bool × Unit))) × Unit) =>
    tst (decide (0 < t14.2.1))
      (tst (decide (t14.2.2.2.2.2.2.2.2.2.2.2.2.2.2.2.2.2.2.2.2.2.2.2.2.2.2.2.2.2.2.2.2.2.2.2.2.2.2.2.1 ≤ t14.2.2.2.1))
        (κ1 t14)
        (bound_Needed_l4 k
    (fun t16 =>
    rec13 (t16.1, t16.2.1, t16.2.2.1, w64 (t16.2.2.2.1 + 1), (t16.2.2.2.2.1.1, ()), t16.2.2.2.2.2.2.2.2.1, t16.2.2.2.2.2.2.2.2.2.1, t16.2.2.2.2.2.2.2.2.2.2.1, t16.2.2.2.2.2.2.2.2.2.2.2.1, (t16.2.2.2.2.2.2.2.2.2.2.2.2.1.1, ()), t16.2.2.2.2.2.2.2.2.2.2.2.2.2.1, t16.2.2.2.2.2.2.2.2.2.2.2.2.2.2.1, t16.2.2.2.2.2.2.2.2.2.2.2.2.2.2.2.1, t16.2.2.2.2.2.2.2.2.2.2.2.2.2.2.2.2.1, t16.2.2.2.2.2.2.2.2.2.2.2.2.2.2.2.2.2.1, t16.2.2.2.2.2.2.2.2.2.2.2.2.2.2.2.2.2.2.1, t16.2.2.2.2.2.2.2.2.2.2.2.2.2.2.2.2.2.2.2.1, t16.2.2.2.2.2.2.2.2.2.2.2.2.2.2.2.2.2.2.2.2.1, t16.2.2.2.2.2.2.2.2.2.2.2.2.2.2.2.2.2.2.2.2.2.1, (t16.2.2.2.2.2.2.2.2.2.2.2.2.2.2.2.2.2.2.2.2.2.2.1.1, t16.2.2.2.2.2.2.2.2.2.2.2.2.2.2.2.2.2.2.2.2.2.2.1.2.1, ()), t16.2.2.2.2.2.2.2.2.2.2.2.2.2.2.2.2.2.2.2.2.2.2.2)) k (t14.1, t14.2.1, t14.2.2.1, t14.2.2.2.1, (t14.2.2.2.2.1.1, ()), t14.2.2.1, ln t14.2.2.1, 0, t14.2.2.2.2.2.1, t14.2.2.2.2.2.2.1, t14.2.2.2.2.2.2.2.1, t14.2.2.2.2.2.2.2.2.1, (t14.2.2.2.2.2.2.2.2.2.1.1, ()), t14.2.2.2.2.2.2.2.2.2.2.1, t14.2.2.2.2.2.2.2.2.2.2.2.1, t14.2.2.2.2.2.2.2.2.2.2.2.2.1, t14.2.2.2.2.2.2.2.2.2.2.2.2.2.1, t14.2.2.2.2.2.2.2.2.2.2.2.2.2.2.1, t14.2.2.2.2.2.2.2.2.2.2.2.2.2.2.2.1, t14.2.2.2.2.2.2.2.2.2.2.2.2.2.2.2.2.1, t14.2.2.2.2.2.2.2.2.2.2.2.2.2.2.2.2.2.1, t14.2.2.2.2.2.2.2.2.2.2.2.2.2.2.2.2.2.2.1, (t14.2.2.2.2.2.2.2.2.2.2.2.2.2.2.2.2.2.2.2.1.1, t14.2.2.2.2.2.2.2.2.2.2.2.2.2.2.2.2.2.2.2.1.2.1, ()), t14.2.2.2.2.2.2.2.2.2.2.2.2.2.2.2.2.2.2.2.2)))
      (κ3 t14)
def bound_Needed_l2 (k : Nat) (κ0 : (Way × Int × (List Cell) × Int × (Way × Unit) × Way × Int × Link × Way × (Way × Unit) × Network × Schedule × Flow × (List Cell) × Int × Int × (List (List Int)) × Int × Int × ((Int × Unit) × Way × Unit) × (Int × Int × Int) × Int × (List (List Int)) × Int × Int × (List Link) × (List Int) × Int × Int × (List Cell) × Int × Int × Int × Int × Int × Int × (List Int) × Int × Int × Int × (List (List (Cell × Bool × Unit))) × Unit) → Option ((List Cell) × Int × Unit)) (κ4 : (Way × Int × Way × (Way × Unit) × Network × Schedule × Flow × (List Cell) × Int × Int × (List (List Int)) × Int × Int × ((Int × Unit) × Way × Unit) × (Int × Int × Int) × Int × (List (List Int)) × Int × Int × (List Link) × (List Int) × Int × Int × (List Cell) × Int × Int × Int × Int × Int × Int × (List Int) × Int × Int × Int × (List (List (Cell × Bool × Unit))) × Unit) → Option ((List Cell) × Int × Unit)) : Nat → Way × Int × Way × (Way × Unit) × Network × Schedule × Flow × (List Cell) × Int × Int × (List (List Int)) × Int × Int × ((Int × Unit) × Way × Unit) × (Int × Int × Int) × Int × (List (List Int)) × Int × Int × (List Link) × (List Int) × Int × Int × (List Cell) × Int × Int × Int × Int × Int × Int × (List Int) × Int × Int × Int × (List (List (Cell × Bool × Unit))) × Unit → Option ((List Cell) × Int × Unit) :=
  loopK fun rec6 (t7 : Way × Int × Way × (Way × Unit) × Network × Schedule × Flow × (List Cell) × Int × Int × (List (List Int)) × Int × Int × ((Int × Unit) × Way × Unit) × (Int × Int × Int) × Int × (List (List Int)) × Int × Int × (List Link) × (List Int) × Int × Int × (List Cell) × Int × Int × Int × Int × Int × Int × (List Int) × Int × Int × Int × (List (List (Cell × Bool × Unit))) × Unit) =>
    tst (decide (t7.2.1 < (ln t7.1.2.2.2.2.2.2.2.2.2.2.2.2.2.2.2.1)))
      (obind (ix t7.1.2.2.2.2.2.2.2.2.2.2.2.2.2.2.2.1 (w64 (t7.2.1 - 1))) fun v8 =>
      obind (ix t7.1.2.2.2.2.2.2.2.2.2.2.2.2.2.2.2.1 t7.2.1) fun v9 =>
      obind (network_Index k (t7.1.1, t7.1.2.1, t7.1.2.2.1, t7.1.2.2.2.1, t7.1.2.2.2.2.1, t7.1.2.2.2.2.2.1, ()) v8 v9) fun v10 =>
      obind (ix t7.1.2.2.2.2.1 v10) fun v11 =>
      obind (bound_way_cells k t7.2.2.1 (v11.1, v11.2.1, w64 (v11.2.2.1 + t7.1.2.2.2.2.2.2.2.2.2.2.2.2.2.2.2.2.1), ())) fun v12 =>
      bound_Needed_l3 k
    (fun t14 =>
    κ0 t14)
    (fun t14 =>
    rec6 (t14.2.2.2.2.2.1, w64 (t14.2.2.2.2.2.2.1 + 1), t14.2.2.2.2.2.2.2.2.1, (t14.2.2.2.2.2.2.2.2.2.1.1, ()), t14.2.2.2.2.2.2.2.2.2.2.1, t14.2.2.2.2.2.2.2.2.2.2.2.1, t14.2.2.2.2.2.2.2.2.2.2.2.2.1, t14.2.2.2.2.2.2.2.2.2.2.2.2.2.1, t14.2.2.2.2.2.2.2.2.2.2.2.2.2.2.1, t14.2.2.2.2.2.2.2.2.2.2.2.2.2.2.2.1, t14.2.2.2.2.2.2.2.2.2.2.2.2.2.2.2.2.1, t14.2.2.2.2.2.2.2.2.2.2.2.2.2.2.2.2.2.1, t14.2.2.2.2.2.2.2.2.2.2.2.2.2.2.2.2.2.2.1, (t14.2.2.2.2.2.2.2.2.2.2.2.2.2.2.2.2.2.2.2.1.1, t14.2.2.2.2.2.2.2.2.2.2.2.2.2.2.2.2.2.2.2.1.2.1, ()), t14.2.2.2.2.2.2.2.2.2.2.2.2.2.2.2.2.2.2.2.2)) k (t7.2.2.1, w64 ((w64 (v11.2.2.1 + t7.1.2.2.2.2.2.2.2.2.2.2.2.2.2.2.2.2.1)) + 1), v12, t7.2.2.2.2.2.2.2.2.2.2.2.2.2.2.2.2.2.2.2.2.2.2.2.2.2.2.2.2.2.2.2.2.1, (t7.2.2.2.1.1, ()), t7.1, t7.2.1, (v11.1, v11.2.1, w64 (v11.2.2.1 + t7.1.2.2.2.2.2.2.2.2.2.2.2.2.2.2.2.2.1), ()), t7.2.2.1, (t7.2.2.2.1.1, ()), t7.2.2.2.2.1, t7.2.2.2.2.2.1, t7.2.2.2.2.2.2.1, t7.2.2.2.2.2.2.2.1, t7.2.2.2.2.2.2.2.2.1, t7.2.2.2.2.2.2.2.2.2.1, t7.2.2.2.2.2.2.2.2.2.2.1, t7.2.2.2.2.2.2.2.2.2.2.2.1, t7.2.2.2.2.2.2.2.2.2.2.2.2.1, (t7.2.2.2.2.2.2.2.2.2.2.2.2.2.1.1, t7.2.2.2.2.2.2.2.2.2.2.2.2.2.1.2.1, ()), t7.2.2.2.2.2.2.2.2.2.2.2.2.2.2))
      (κ4 t7)
def bound_Needed_l1 (k : Nat) (κ5 : (Network × Schedule × Flow × (List Cell) × Int × Int × (List (List Int)) × Int × Int × (Int × Int × Int) × Int × (List (List Int)) × Int × Int × (List Link) × (List Int) × Int × Int × (List Cell) × Int × Int × Int × Int × Int × Int × (List Int) × Int × (List (List (Cell × Bool × Unit))) × Unit) → Option ((List Cell) × Int × Unit)) : Nat → Network × Schedule × Flow × (List Cell) × Int × Int × (List (List Int)) × Int × Int × (Int × Int × Int) × Int × (List (List Int)) × Int × Int × (List Link) × (List Int) × Int × Int × (List Cell) × Int × Int × Int × Int × Int × Int × (List Int) × Int × (List (List (Cell × Bool × Unit))) × Unit → Option ((List Cell) × Int × Unit) :=
  loopK fun rec4 (t5 : Network × Schedule × Flow × (List Cell) × Int × Int × (List (List Int)) × Int × Int × (Int × Int × Int) × Int × (List (List Int)) × Int × Int × (List Link) × (List Int) × Int × Int × (List Cell) × Int × Int × Int × Int × Int × Int × (List Int) × Int × (List (List (Cell × Bool × Unit))) × Unit) =>
    tst (decide (t5.2.2.2.2.2.1 < t5.2.1.1))
      (bound_Needed_l2 k
    (fun t14 =>
    rec4 (t14.2.2.2.2.2.2.2.2.2.2.1, t14.2.2.2.2.2.2.2.2.2.2.2.1, t14.2.2.2.2.2.2.2.2.2.2.2.2.1, t14.2.2.2.2.2.2.2.2.2.2.2.2.2.1, t14.2.2.2.2.2.2.2.2.2.2.2.2.2.2.1, w64 (t14.2.2.2.2.2.2.2.2.2.2.2.2.2.2.2.1 + t14.2.2.2.2.2.2.2.2.2.2.2.2.1.2.2.2.1), t14.2.2.2.2.2.2.2.2.2.2.2.2.2.2.2.2.1, t14.2.2.2.2.2.2.2.2.2.2.2.2.2.2.2.2.2.1, t14.2.2.2.2.2.2.2.2.2.2.2.2.2.2.2.2.2.2.1, t14.2.2.2.2.2.2.2.2.2.2.2.2.2.2.2.2.2.2.2.2.1, t14.2.2.2.2.2.2.2.2.2.2.2.2.2.2.2.2.2.2.2.2.2.1, t14.2.2.2.2.2.2.2.2.2.2.2.2.2.2.2.2.2.2.2.2.2.2.1, t14.2.2.2.2.2.2.2.2.2.2.2.2.2.2.2.2.2.2.2.2.2.2.2.1, t14.2.2.2.2.2.2.2.2.2.2.2.2.2.2.2.2.2.2.2.2.2.2.2.2.1, t14.2.2.2.2.2.2.2.2.2.2.2.2.2.2.2.2.2.2.2.2.2.2.2.2.2.1, t14.2.2.2.2.2.2.2.2.2.2.2.2.2.2.2.2.2.2.2.2.2.2.2.2.2.2.1, t14.2.2.2.2.2.2.2.2.2.2.2.2.2.2.2.2.2.2.2.2.2.2.2.2.2.2.2.1, t14.2.2.2.2.2.2.2.2.2.2.2.2.2.2.2.2.2.2.2.2.2.2.2.2.2.2.2.2.1, t14.2.2.2.2.2.2.2.2.2.2.2.2.2.2.2.2.2.2.2.2.2.2.2.2.2.2.2.2.2.1, t14.2.2.2.2.2.2.2.2.2.2.2.2.2.2.2.2.2.2.2.2.2.2.2.2.2.2.2.2.2.2.1, t14.2.2.2.2.2.2.2.2.2.2.2.2.2.2.2.2.2.2.2.2.2.2.2.2.2.2.2.2.2.2.2.1, t14.2.2.2.2.2.2.2.2.2.2.2.2.2.2.2.2.2.2.2.2.2.2.2.2.2.2.2.2.2.2.2.2.1, t14.2.2.2.2.2.2.2.2.2.2.2.2.2.2.2.2.2.2.2.2.2.2.2.2.2.2.2.2.2.2.2.2.2.1, t14.2.2.2.2.2.2.2.2.2.2.2.2.2.2.2.2.2.2.2.2.2.2.2.2.2.2.2.2.2.2.2.2.2.2.1, t14.2.2.2.2.2.2.2.2.2.2.2.2.2.2.2.2.2.2.2.2.2.2.2.2.2.2.2.2.2.2.2.2.2.2.2.1, t14.2.2.2.2.2.2.2.2.2.2.2.2.2.2.2.2.2.2.2.2.2.2.2.2.2.2.2.2.2.2.2.2.2.2.2.2.1, t14.2.2.2.2.2.2.2.2.2.2.2.2.2.2.2.2.2.2.2.2.2.2.2.2.2.2.2.2.2.2.2.2.2.2.2.2.2.1, t14.2.2.2.2.2.2.2.2.2.2.2.2.2.2.2.2.2.2.2.2.2.2.2.2.2.2.2.2.2.2.2.2.2.2.2.2.2.2.2.2))
    (fun t7 =>
    rec4 (t7.2.2.2.2.1, t7.2.2.2.2.2.1, t7.2.2.2.2.2.2.1, t7.2.2.2.2.2.2.2.1, t7.2.2.2.2.2.2.2.2.1, w64 (t7.2.2.2.2.2.2.2.2.2.1 + t7.2.2.2.2.2.2.1.2.2.2.1), t7.2.2.2.2.2.2.2.2.2.2.1, t7.2.2.2.2.2.2.2.2.2.2.2.1, t7.2.2.2.2.2.2.2.2.2.2.2.2.1, t7.2.2.2.2.2.2.2.2.2.2.2.2.2.2.1, t7.2.2.2.2.2.2.2.2.2.2.2.2.2.2.2.1, t7.2.2.2.2.2.2.2.2.2.2.2.2.2.2.2.2.1, t7.2.2.2.2.2.2.2.2.2.2.2.2.2.2.2.2.2.1, t7.2.2.2.2.2.2.2.2.2.2.2.2.2.2.2.2.2.2.1, t7.2.2.2.2.2.2.2.2.2.2.2.2.2.2.2.2.2.2.2.1, t7.2.2.2.2.2.2.2.2.2.2.2.2.2.2.2.2.2.2.2.2.1, t7.2.2.2.2.2.2.2.2.2.2.2.2.2.2.2.2.2.2.2.2.2.1, t7.2.2.2.2.2.2.2.2.2.2.2.2.2.2.2.2.2.2.2.2.2.2.1, t7.2.2.2.2.2.2.2.2.2.2.2.2.2.2.2.2.2.2.2.2.2.2.2.1, t7.2.2.2.2.2.2.2.2.2.2.2.2.2.2.2.2.2.2.2.2.2.2.2.2.1, t7.2.2.2.2.2.2.2.2.2.2.2.2.2.2.2.2.2.2.2.2.2.2.2.2.2.1, t7.2.2.2.2.2.2.2.2.2.2.2.2.2.2.2.2.2.2.2.2.2.2.2.2.2.2.1, t7.2.2.2.2.2.2.2.2.2.2.2.2.2.2.2.2.2.2.2.2.2.2.2.2.2.2.2.1, t7.2.2.2.2.2.2.2.2.2.2.2.2.2.2.2.2.2.2.2.2.2.2.2.2.2.2.2.2.1, t7.2.2.2.2.2.2.2.2.2.2.2.2.2.2.2.2.2.2.2.2.2.2.2.2.2.2.2.2.2.1, t7.2.2.2.2.2.2.2.2.2.2.2.2.2.2.2.2.2.2.2.2.2.2.2.2.2.2.2.2.2.2.1, t7.2.2.2.2.2.2.2.2.2.2.2.2.2.2.2.2.2.2.2.2.2.2.2.2.2.2.2.2.2.2.2.1, t7.2.2.2.2.2.2.2.2.2.2.2.2.2.2.2.2.2.2.2.2.2.2.2.2.2.2.2.2.2.2.2.2.2.2)) k ((t5.2.2.2.2.2.2.2.2.2.2.1, t5.2.2.2.2.2.2.2.2.2.2.2.1, t5.2.2.2.2.2.2.2.2.2.2.2.2.1, t5.2.2.2.2.2.2.2.2.2.2.2.2.2.1, t5.2.2.2.2.2.2.2.2.2.2.2.2.2.2.1, t5.2.2.2.2.2.2.2.2.2.2.2.2.2.2.2.1, t5.2.2.2.2.2.2.2.2.2.2.2.2.2.2.2.2.1, t5.2.2.2.2.2.2.2.2.2.2.2.2.2.2.2.2.2.1, t5.2.2.2.2.2.2.2.2.2.2.2.2.2.2.2.2.2.2.1, t5.2.2.2.2.2.2.2.2.2.2.2.2.2.2.2.2.2.2.2.1, t5.2.2.2.2.2.2.2.2.2.2.2.2.2.2.2.2.2.2.2.2.1, t5.2.2.2.2.2.2.2.2.2.2.2.2.2.2.2.2.2.2.2.2.2.1, t5.2.2.2.2.2.2.2.2.2.2.2.2.2.2.2.2.2.2.2.2.2.2.1, t5.2.2.2.2.2.2.2.2.2.2.2.2.2.2.2.2.2.2.2.2.2.2.2.1, t5.2.2.2.2.2.2.2.2.2.2.2.2.2.2.2.2.2.2.2.2.2.2.2.2.1, t5.2.2.2.2.2.2.2.2.2.2.2.2.2.2.2.2.2.2.2.2.2.2.2.2.2.1, t5.2.2.2.2.2.2.2.2.2.2.2.2.2.2.2.2.2.2.2.2.2.2.2.2.2.2.1, ()), 1, (t5.2.2.2.2.2.2.2.2.2.2.1, t5.2.2.2.2.2.2.2.2.2.2.2.1, t5.2.2.2.2.2.2.2.2.2.2.2.2.1, t5.2.2.2.2.2.2.2.2.2.2.2.2.2.1, t5.2.2.2.2.2.2.2.2.2.2.2.2.2.2.1, t5.2.2.2.2.2.2.2.2.2.2.2.2.2.2.2.1, t5.2.2.2.2.2.2.2.2.2.2.2.2.2.2.2.2.1, t5.2.2.2.2.2.2.2.2.2.2.2.2.2.2.2.2.2.1, t5.2.2.2.2.2.2.2.2.2.2.2.2.2.2.2.2.2.2.1, t5.2.2.2.2.2.2.2.2.2.2.2.2.2.2.2.2.2.2.2.1, t5.2.2.2.2.2.2.2.2.2.2.2.2.2.2.2.2.2.2.2.2.1, t5.2.2.2.2.2.2.2.2.2.2.2.2.2.2.2.2.2.2.2.2.2.1, t5.2.2.2.2.2.2.2.2.2.2.2.2.2.2.2.2.2.2.2.2.2.2.1, t5.2.2.2.2.2.2.2.2.2.2.2.2.2.2.2.2.2.2.2.2.2.2.2.1, t5.2.2.2.2.2.2.2.2.2.2.2.2.2.2.2.2.2.2.2.2.2.2.2.2.1, t5.2.2.2.2.2.2.2.2.2.2.2.2.2.2.2.2.2.2.2.2.2.2.2.2.2.1, t5.2.2.2.2.2.2.2.2.2.2.2.2.2.2.2.2.2.2.2.2.2.2.2.2.2.2.1, ()), ((t5.2.2.2.2.2.2.2.2.2.2.1, t5.2.2.2.2.2.2.2.2.2.2.2.1, t5.2.2.2.2.2.2.2.2.2.2.2.2.1, t5.2.2.2.2.2.2.2.2.2.2.2.2.2.1, t5.2.2.2.2.2.2.2.2.2.2.2.2.2.2.1, t5.2.2.2.2.2.2.2.2.2.2.2.2.2.2.2.1, t5.2.2.2.2.2.2.2.2.2.2.2.2.2.2.2.2.1, t5.2.2.2.2.2.2.2.2.2.2.2.2.2.2.2.2.2.1, t5.2.2.2.2.2.2.2.2.2.2.2.2.2.2.2.2.2.2.1, t5.2.2.2.2.2.2.2.2.2.2.2.2.2.2.2.2.2.2.2.1, t5.2.2.2.2.2.2.2.2.2.2.2.2.2.2.2.2.2.2.2.2.1, t5.2.2.2.2.2.2.2.2.2.2.2.2.2.2.2.2.2.2.2.2.2.1, t5.2.2.2.2.2.2.2.2.2.2.2.2.2.2.2.2.2.2.2.2.2.2.1, t5.2.2.2.2.2.2.2.2.2.2.2.2.2.2.2.2.2.2.2.2.2.2.2.1, t5.2.2.2.2.2.2.2.2.2.2.2.2.2.2.2.2.2.2.2.2.2.2.2.2.1, t5.2.2.2.2.2.2.2.2.2.2.2.2.2.2.2.2.2.2.2.2.2.2.2.2.2.1, t5.2.2.2.2.2.2.2.2.2.2.2.2.2.2.2.2.2.2.2.2.2.2.2.2.2.2.1, ()), ()), t5.1, t5.2.1, t5.2.2.1, t5.2.2.2.1, t5.2.2.2.2.1, t5.2.2.2.2.2.1, t5.2.2.2.2.2.2.1, t5.2.2.2.2.2.2.2.1, t5.2.2.2.2.2.2.2.2.1, ((t5.2.2.2.2.2.1, ()), (t5.2.2.2.2.2.2.2.2.2.2.1, t5.2.2.2.2.2.2.2.2.2.2.2.1, t5.2.2.2.2.2.2.2.2.2.2.2.2.1, t5.2.2.2.2.2.2.2.2.2.2.2.2.2.1, t5.2.2.2.2.2.2.2.2.2.2.2.2.2.2.1, t5.2.2.2.2.2.2.2.2.2.2.2.2.2.2.2.1, t5.2.2.2.2.2.2.2.2.2.2.2.2.2.2.2.2.1, t5.2.2.2.2.2.2.2.2.2.2.2.2.2.2.2.2.2.1, t5.2.2.2.2.2.2.2.2.2.2.2.2.2.2.2.2.2.2.1, t5.2.2.2.2.2.2.2.2.2.2.2.2.2.2.2.2.2.2.2.1, t5.2.2.2.2.2.2.2.2.2.2.2.2.2.2.2.2.2.2.2.2.1, t5.2.2.2.2.2.2.2.2.2.2.2.2.2.2.2.2.2.2.2.2.2.1, t5.2.2.2.2.2.2.2.2.2.2.2.2.2.2.2.2.2.2.2.2.2.2.1, t5.2.2.2.2.2.2.2.2.2.2.2.2.2.2.2.2.2.2.2.2.2.2.2.1, t5.2.2.2.2.2.2.2.2.2.2.2.2.2.2.2.2.2.2.2.2.2.2.2.2.1, t5.2.2.2.2.2.2.2.2.2.2.2.2.2.2.2.2.2.2.2.2.2.2.2.2.2.1, t5.2.2.2.2.2.2.2.2.2.2.2.2.2.2.2.2.2.2.2.2.2.2.2.2.2.2.1, ()), ()), t5.2.2.2.2.2.2.2.2.2.1, t5.2.2.2.2.2.2.2.2.2.2.1, t5.2.2.2.2.2.2.2.2.2.2.2.1, t5.2.2.2.2.2.2.2.2.2.2.2.2.1, t5.2.2.2.2.2.2.2.2.2.2.2.2.2.1, t5.2.2.2.2.2.2.2.2.2.2.2.2.2.2.1, t5.2.2.2.2.2.2.2.2.2.2.2.2.2.2.2.1, t5.2.2.2.2.2.2.2.2.2.2.2.2.2.2.2.2.1, t5.2.2.2.2.2.2.2.2.2.2.2.2.2.2.2.2.2.1, t5.2.2.2.2.2.2.2.2.2.2.2.2.2.2.2.2.2.2.1, t5.2.2.2.2.2.2.2.2.2.2.2.2.2.2.2.2.2.2.2.1, t5.2.2.2.2.2.2.2.2.2.2.2.2.2.2.2.2.2.2.2.2.1, t5.2.2.2.2.2.2.2.2.2.2.2.2.2.2.2.2.2.2.2.2.2.1, t5.2.2.2.2.2.2.2.2.2.2.2.2.2.2.2.2.2.2.2.2.2.2.1, t5.2.2.2.2.2.2.2.2.2.2.2.2.2.2.2.2.2.2.2.2.2.2.2.1, t5.2.2.2.2.2.2.2.2.2.2.2.2.2.2.2.2.2.2.2.2.2.2.2.2.1, t5.2.2.2.2.2.2.2.2.2.2.2.2.2.2.2.2.2.2.2.2.2.2.2.2.2.1, t5.2.2.2.2.2.2.2.2.2.2.2.2.2.2.2.2.2.2.2.2.2.2.2.2.2.2.1, t5.2.2.2.2.2.1, w64 (t5.2.2.2.2.2.1 + t5.2.2.2.2.2.2.2.2.2.2.2.2.2.2.2.2.2.2.2.2.2.2.1), t5.2.2.2.2.2.2.2.2.2.2.2.2.2.2.2.2.2.2.2.2.2.2.2.2.2.2.2))
      (κ5 t5)
def bound_Needed_l6 (k : Nat) (κ6 : (Int × Int × Int × Int × Int × Int × (Int × Int × Int) × (List Cell) × (List (List (Cell × Bool × Unit))) × Unit) → Option ((List Cell) × Int × Unit)) : Nat → Int × Int × Int × Int × Int × Int × (Int × Int × Int) × (List Cell) × (List (List (Cell × Bool × Unit))) × Unit → Option ((List Cell) × Int × Unit) :=
  loopK fun rec24 (t25 : Int × Int × Int × Int × Int × Int × (Int × Int × Int) × (List Cell) × (List (List (Cell × Bool × Unit))) × Unit) =>
    tst (decide (t25.2.2.2.1 < t25.2.1))
      (tst ((decide (0 ≤ t25.2.2.2.1)) && (decide (t25.2.2.2.1 < t25.2.1)))
        (obind (ix t25.2.2.2.2.2.2.2.1 (t25.1 + t25.2.2.2.1)) fun v26 =>
        obind (ix t25.2.2.2.2.2.2.2.2.1 t25.2.2.2.2.2.2.1.1) fun v27 =>
        tst (!(!(mGet v27 v26 false)))
          (tst ((decide (0 ≤ t25.2.2.1)) && (decide (t25.2.2.1 < t25.2.1)))
            (obind (ix t25.2.2.2.2.2.2.2.1 (t25.1 + t25.2.2.1)) fun v28 =>
            rec24 (t25.1, t25.2.1, w64 (t25.2.2.1 + 1), w64 (t25.2.2.2.1 + 1), t25.2.2.2.2.1, t25.2.2.2.2.2.1, t25.2.2.2.2.2.2.1, setI t25.2.2.2.2.2.2.2.1 (t25.1 + t25.2.2.1) v26, t25.2.2.2.2.2.2.2.2))
            none)
          (rec24 (t25.1, t25.2.1, t25.2.2.1, w64 (t25.2.2.2.1 + 1), t25.2.2.2.2)))
        none)
      (κ6 t25)
def bound_Needed_l5 (k : Nat) (κ7 : (Int × Int × Int × Int × Int × Int × Int × Int × Int × Int × (Int × Int × Int) × (List Cell) × (List (List (Cell × Bool × Unit))) × Unit) → Option ((List Cell) × Int × Unit)) (κ8 : (Int × Int × Int × Int × Int × Int × Int × Int × Int × Int × (Int × Int × Int) × (List Cell) × (List (List (Cell × Bool × Unit))) × Unit) → Option ((List Cell) × Int × Unit)) : Nat → Int × Int × Int × Int × Int × Int × Int × Int × Int × Int × (Int × Int × Int) × (List Cell) × (List (List (Cell × Bool × Unit))) × Unit → Option ((List Cell) × Int × Unit) :=
  loopK fun rec19 (t20 : Int × Int × Int × Int × Int × Int × Int × Int × Int × Int × (Int × Int × Int) × (List Cell) × (List (List (Cell × Bool × Unit))) × Unit) =>
    tst (decide (t20.2.2.2.1 < t20.2.2.1))
      (tst ((decide (0 ≤ t20.2.2.2.1)) && (decide (t20.2.2.2.1 < t20.2.1)))
        (obind (ix t20.2.2.2.2.2.2.2.2.2.2.2.1 (t20.1 + t20.2.2.2.1)) fun v21 =>
        obind (ix t20.2.2.2.2.2.2.2.2.2.2.2.2.1 t20.2.2.2.2.2.2.2.2.2.2.1.1) fun v22 =>
        tst (!(mGet v22 v21 false))
          (κ7 t20)
          (rec19 (t20.1, t20.2.1, t20.2.2.1, w64 (t20.2.2.2.1 + 1), t20.2.2.2.2)))
        none)
      (κ8 t20)
def bound_Needed_l0 (k : Nat) (κ9 : (Network × Schedule × Flow × (List Cell) × Int × (List (List Int)) × Int × Int × (Int × Int × Int) × (List (List (Cell × Bool × Unit))) × Unit) → Option ((List Cell) × Int × Unit)) : Nat → Network × Schedule × Flow × (List Cell) × Int × (List (List Int)) × Int × Int × (Int × Int × Int) × (List (List (Cell × Bool × Unit))) × Unit → Option ((List Cell) × Int × Unit) :=
  loopK fun rec0 (t1 : Network × Schedule × Flow × (List Cell) × Int × (List (List Int)) × Int × Int × (Int × Int × Int) × (List (List (Cell × Bool × Unit))) × Unit) =>
    tst (decide (t1.2.2.2.2.2.2.2.1 < t1.2.2.2.2.2.2.1))
      (obind (ix t1.2.2.2.2.2.1 t1.2.2.2.2.2.2.2.1) fun v2 =>
      obind (bound_Route k t1.1 t1.2.1 t1.2.2.1 v2) fun v3 =>
      tst (!(v3.2.2.2.1 == 0))
        (some ([], v3.2.2.2))
        (bound_Needed_l1 k
    (fun t5 =>
    rec0 (t5.1, t5.2.1, t5.2.2.1, t5.2.2.2.1, t5.2.2.2.2.1, t5.2.2.2.2.2.2.1, t5.2.2.2.2.2.2.2.1, w64 (t5.2.2.2.2.2.2.2.2.1 + 1), t5.2.2.2.2.2.2.2.2.2.1, t5.2.2.2.2.2.2.2.2.2.2.2.2.2.2.2.2.2.2.2.2.2.2.2.2.2.2.2)) k (t1.1, t1.2.1, t1.2.2.1, t1.2.2.2.1, t1.2.2.2.2.1, t1.2.2.1.2.2.2.2.1, t1.2.2.2.2.2.1, t1.2.2.2.2.2.2.1, t1.2.2.2.2.2.2.2.1, t1.2.2.2.2.2.2.2.2.1, t1.1.1, t1.1.2.1, t1.1.2.2.1, t1.1.2.2.2.1, t1.1.2.2.2.2.1, t1.1.2.2.2.2.2.1, t1.2.1.1, t1.2.1.2.1, t1.2.1.2.2.1, t1.2.2.1.1, t1.2.2.1.2.1, t1.2.2.1.2.2.1, t1.2.2.1.2.2.2.1, t1.2.2.1.2.2.2.2.1, t1.2.2.1.2.2.2.2.2.1, v2, 0, t1.2.2.2.2.2.2.2.2.2)))
      (κ9 t1)
def bound_Needed (k : Nat) (x0 : Network) (x1 : Schedule) (x2 : Flow) (x3 : List (List Int)) : Option ((List Cell) × Int × Unit) :=
  tst ((ln x3) == 0)
    (some ([], 14, ()))
    (bound_Needed_l0 k
    (fun t1 =>
    tst (fit 40 t1.2.1.2.2.1 [])
      (bound_Needed_l5 k
    (fun t20 =>
    tst (t20.2.2.2.1 == (-1))
      (obind (part t20.2.2.2.2.2.2.2.2.2.2.2.1 t20.2.2.2.2.1 t20.2.2.2.2.2.1) fun v23 =>
      some (v23, 0, ()))
      (bound_Needed_l6 k
    (fun t25 =>
    obind (std.mslc t25.2.1 (some t25.2.2.1) none) fun v29 =>
    tst ((decide (0 ≤ (t25.1 + v29.1))) && (decide (((t25.1 + v29.1) + (v29.2 - v29.1)) ≤ (ln t25.2.2.2.2.2.2.2.1))))
      (obind (std.mslc t25.2.1 none (some t25.2.2.1)) fun v30 =>
      obind (part (clrI t25.2.2.2.2.2.2.2.1 (t25.1 + v29.1) (v29.2 - v29.1) (0, 0, 0, 0, 0, ())) (t25.1 + v30.1) (v30.2 - v30.1)) fun v31 =>
      some (v31, 0, ()))
      none) k (t20.2.2.2.2.1, t20.2.2.2.2.2.1, t20.2.2.2.1, w64 (t20.2.2.2.1 + 1), t20.2.2.2.2.2.2.2.2)))
    (fun t20 =>
    obind (part t20.2.2.2.2.2.2.2.2.2.2.2.1 t20.2.2.2.2.1 t20.2.2.2.2.2.1) fun v32 =>
    some (v32, 0, ())) k (0, ln t1.2.1.2.2.1, ln t1.2.1.2.2.1, 0, 0, ln t1.2.1.2.2.1, 0, ln t1.2.1.2.2.1, 0, ln t1.2.1.2.2.1, t1.2.2.2.2.2.2.2.2.1, t1.2.1.2.2.1, t1.2.2.2.2.2.2.2.2.2))
      none) k (x0, x1, x2, [], 0, x3, ln x3, 0, (0, 0, 0), [[]], ()))
-- 28
def slices_Index_Lapi_Cell_api_Cell_l0 (k : Nat) : Nat → (List Cell) × Cell × Int × Int × Unit → Option (Int) :=
  loopK fun rec0 (t1 : (List Cell) × Cell × Int × Int × Unit) =>
    tst (decide (t1.2.2.2.1 < t1.2.2.1))
      (obind (ix t1.1 t1.2.2.2.1) fun v2 =>
      tst ((t1.2.1.1 == v2.1) && ((t1.2.1.2.1 == v2.2.1) && ((t1.2.1.2.2.1 == v2.2.2.1) && ((t1.2.1.2.2.2.1 == v2.2.2.2.1) && ((t1.2.1.2.2.2.2.1 == v2.2.2.2.2.1) && true)))))
        (some t1.2.2.2.1)
        (rec0 (t1.1, t1.2.1, t1.2.2.1, w64 (t1.2.2.2.1 + 1), ())))
      (some (-1))
def slices_Index_Lapi_Cell_api_Cell (k : Nat) (x0 : List Cell) (x1 : Cell) : Option (Int) :=
  slices_Index_Lapi_Cell_api_Cell_l0 k k (x0, x1, ln x0, 0, ())
-- 13
def slices_Contains_Lapi_Cell_api_Cell (k : Nat) (x0 : List Cell) (x1 : Cell) : Option (Bool) :=
  obind (slices_Index_Lapi_Cell_api_Cell k x0 x1) fun v0 =>
  some (decide (0 ≤ v0))
-- 3
def law37_BoundNeeds_l1 (k : Nat) : Nat → (List Cell) × (Flow × Schedule × Unit) × Int × Int × Unit → Option (Bool) :=
  loopK fun rec9 (t10 : (List Cell) × (Flow × Schedule × Unit) × Int × Int × Unit) =>
    tst (decide (t10.2.2.2.1 < t10.2.2.1))
      (obind (ix t10.1 t10.2.2.2.1) fun v11 =>
      tst (!(v11.2.2.2.2.1 == t10.2.1.1.1))
        (some (!(decide (0 ≤ t10.2.2.2.1))))
        (obind (slices_Contains_Lapi_Cell_api_Cell k t10.2.1.2.1.2.2.1 v11) fun v12 =>
        tst (!v12)
          (some (!(decide (0 ≤ t10.2.2.2.1))))
          (rec9 (t10.1, (t10.2.1.1, t10.2.1.2.1, ()), t10.2.2.1, w64 (t10.2.2.2.1 + 1), ()))))
      (some true)
def law37_BoundNeeds_l0 (k : Nat) (κ0 : (Network × Schedule × Flow × (List Cell) × (List (List Int)) × Int × Int × Int × Int × (List Cell) × (List (List (Cell × Bool × Unit))) × Unit) → Option Bool) : Nat → Network × Schedule × Flow × (List Cell) × (List (List Int)) × Int × Int × Int × Int × (List Cell) × (List (List (Cell × Bool × Unit))) × Unit → Option (Bool) :=
  loopK fun rec3 (t4 : Network × Schedule × Flow × (List Cell) × (List (List Int)) × Int × Int × Int × Int × (List Cell) × (List (List (Cell × Bool × Unit))) × Unit) =>
    tst (decide (t4.2.2.2.2.2.2.1 < t4.2.2.2.2.2.1))
      (obind (ix t4.2.2.2.2.1 t4.2.2.2.2.2.2.1) fun v5 =>
      obind (bound_Route k t4.1 t4.2.1 t4.2.2.1 v5) fun v6 =>
      obind (bound_Route k t4.1 (t4.2.2.2.2.2.2.2.1, t4.2.2.2.2.2.2.2.2.1, t4.2.2.2.2.2.2.2.2.2.1, ()) t4.2.2.1 v5) fun v7 =>
      tst (!(v6.2.2.2.1 == 0))
        (some false)
        (tst (!(v7.2.2.2.1 == 0))
          (some false)
          (tst (!(v6.1 == v7.1))
            (some false)
            (tst (!(v6.2.1 == v7.2.1))
              (some false)
              (obind (slices_Equal_Lint_int k v6.2.2.1 v7.2.2.1) fun v8 =>
              tst (!v8)
                (some false)
                (rec3 (t4.1, t4.2.1, t4.2.2.1, t4.2.2.2.1, t4.2.2.2.2.1, t4.2.2.2.2.2.1, w64 (t4.2.2.2.2.2.2.1 + 1), t4.2.2.2.2.2.2.2)))))))
      (κ0 t4)
def law37_BoundNeeds (k : Nat) (x0 : Network) (x1 : Schedule) (x2 : Flow) (x3 : List (List Int)) : Option (Bool) :=
  obind (law37_awake k) fun v0 =>
  tst (!v0)
    (some false)
    (obind (ref37_Few k x0 x1 x3) fun v1 =>
    tst (!v1)
      (some true)
      (obind (bound_Needed k x0 x1 x2 x3) fun v2 =>
      tst (!(v2.2.1 == 0))
        (some ((ln v2.1) == 0))
        (law37_BoundNeeds_l0 k
    (fun t4 =>
    tst (decide (0 < (ln t4.2.2.2.1)))
      (law37_BoundNeeds_l1 k k (t4.2.2.2.1, (t4.2.2.1, t4.2.1, ()), ln t4.2.2.2.1, 0, ()))
      (some false)) k (x0, x1, x2, v2.1, x3, ln x3, 0, x1.1, x1.2.1, v2.1, [], ()))))
-- 1010
def bound_Release (k : Nat) (x0 : Network) (x1 : Schedule) (x2 : Flow) (x3 : List Int) (x4 : Int) : Option (Int × (List Int) × Int × Unit) :=
  obind (bound_way_check k (x0.1, x0.2.1, x0.2.2.1, x0.2.2.2.1, x0.2.2.2.2.1, x0.2.2.2.2.2.1, x1.1, x1.2.1, x1.2.2.1, x2.1, x2.2.1, x2.2.2.1, x2.2.2.2.1, x2.2.2.2.2.1, x2.2.2.2.2.2.1, x3, 0, ())) fun v0 =>
  tst (!(v0 == 0))
    (some (0, [], v0, ()))
    (tst (decide (x4 < x2.2.2.2.2.1))
      (some (0, [], 2, ()))
      (tst (decide (1048576 < x4))
        (some (0, [], 2, ()))
        (tst (x2.2.2.2.1 != 0)
          (tst (!((Int.tmod (w64 (x4 - x2.2.2.2.2.1)) x2.2.2.2.1) == 0))
            (some (0, [], 2, ()))
            (obind (bound_way_release k (x0.1, x0.2.1, x0.2.2.1, x0.2.2.2.1, x0.2.2.2.2.1, x0.2.2.2.2.2.1, x1.1, x1.2.1, x1.2.2.1, x2.1, x2.2.1, x2.2.2.1, x2.2.2.2.1, x2.2.2.2.2.1, x2.2.2.2.2.2.1, x3, 0, ()) x4) fun v1 =>
            tst (!v1.2.2.1)
              (some (0, [], 15, ()))
              (some (v1.1, v1.2.1, 0, ()))))
          none)))
-- 1103
def ref31_in (k : Nat) (x0 : Int) (x1 : Int) (x2 : Int) : Option (Bool) :=
  tst (decide (x1 ≤ x0))
    (some (decide (x0 ≤ x2)))
    (some false)
-- 1104
def ref31_table_l2 (k : Nat) (κ0 : (Network × Int × Int × Unit) → Option Int) : Nat → Network × Int × Int × Unit → Option (Int) :=
  loopK fun rec5 (t6 : Network × Int × Int × Unit) =>
    tst (decide (t6.2.2.1 < t6.1.1))
      (obind (ix t6.1.2.1 t6.2.1) fun v7 =>
      obind (ix v7 t6.2.2.1) fun v8 =>
      obind (ref31_in k v8 0 68719476736) fun v9 =>
      tst (!v9)
        (some 2)
        (rec5 (t6.1, t6.2.1, w64 (t6.2.2.1 + 1), ())))
      (κ0 t6)
def ref31_table_l1 (k : Nat) : Nat → Network × Int × Unit → Option (Int) :=
  loopK fun rec3 (t4 : Network × Int × Unit) =>
    tst (decide (t4.2.1 < t4.1.1))
      (ref31_table_l2 k
    (fun t6 =>
    rec3 (t6.1, w64 (t6.2.1 + 1), ())) k (t4.1, t4.2.1, 0, ()))
      (some 0)
def ref31_table_l0 (k : Nat) (κ1 : (Network × Int × Unit) → Option Int) : Nat → Network × Int × Unit → Option (Int) :=
  loopK fun rec0 (t1 : Network × Int × Unit) =>
    tst (decide (t1.2.1 < t1.1.1))
      (obind (ix t1.1.2.1 t1.2.1) fun v2 =>
      tst (!((ln v2) == t1.1.1))
        (some 1)
        (rec0 (t1.1, w64 (t1.2.1 + 1), ())))
      (κ1 t1)
def ref31_table (k : Nat) (x0 : Network) : Option (Int) :=
  tst (!((ln x0.2.1) == x0.1))
    (some 1)
    (ref31_table_l0 k
    (fun t1 =>
    ref31_table_l1 k k (t1.1, 0, ())) k (x0, 0, ()))
-- 1105
def ref31_link (k : Nat) (x0 : Network) (x1 : Int) : Option (Int) :=
  obind (ix x0.2.2.2.2.1 x1) fun v0 =>
  obind (ref31_in k v0.1 0 (w64 (x0.1 - 1))) fun v1 =>
  tst (!v1)
    (some 2)
    (obind (ref31_in k v0.2.1 0 (w64 (x0.1 - 1))) fun v2 =>
    tst (!v2)
      (some 2)
      (tst (v0.1 == v0.2.1)
        (some 2)
        (obind (ref31_in k v0.2.2.1 0 7) fun v3 =>
        tst (!v3)
          (some 2)
          (tst (decide (0 < x1))
            (obind (ix x0.2.2.2.2.1 (w64 (x1 - 1))) fun v4 =>
            tst (decide (v0.1 < v4.1))
              (some 5)
              (obind (ix x0.2.2.2.2.1 (w64 (x1 - 1))) fun v5 =>
              tst (v5.1 == v0.1)
                (obind (ix x0.2.2.2.2.1 (w64 (x1 - 1))) fun v6 =>
                tst (decide (v0.2.1 ≤ v6.2.1))
                  (some 5)
                  (obind (ix x0.2.2.2.2.2.1 x1) fun v7 =>
                  obind (ix x0.2.1 v0.1) fun v8 =>
                  obind (ix v8 v0.2.1) fun v9 =>
                  obind (ref31_in k v7 0 v9) fun v10 =>
                  tst (!v10)
                    (some 2)
                    (some 0)))
                (obind (ix x0.2.2.2.2.2.1 x1) fun v11 =>
                obind (ix x0.2.1 v0.1) fun v12 =>
                obind (ix v12 v0.2.1) fun v13 =>
                obind (ref31_in k v11 0 v13) fun v14 =>
                tst (!v14)
                  (some 2)
                  (some 0))))
            (obind (ix x0.2.2.2.2.2.1 x1) fun v15 =>
            obind (ix x0.2.1 v0.1) fun v16 =>
            obind (ix v16 v0.2.1) fun v17 =>
            obind (ref31_in k v15 0 v17) fun v18 =>
            tst (!v18)
              (some 2)
              (some 0))))))
-- 1071
def ref31_Check_l0 (k : Nat) : Nat → Network × Int × Unit → Option (Int) :=
  loopK fun rec4 (t5 : Network × Int × Unit) =>
    tst (decide (t5.2.1 < (ln t5.1.2.2.2.2.1)))
      (obind (ref31_link k t5.1 t5.2.1) fun v6 =>
      tst (!(v6 == 0))
        (some v6)
        (rec4 (t5.1, w64 (t5.2.1 + 1), ())))
      (some 0)
def ref31_Check (k : Nat) (x0 : Network) : Option (Int) :=
  obind (ref31_in k x0.1 2 32) fun v0 =>
  tst (!v0)
    (some 2)
    (obind (ref31_table k x0) fun v1 =>
    tst (!(v1 == 0))
      (some v1)
      (obind (ref31_in k x0.2.2.1 0 68719476736) fun v2 =>
      tst (!v2)
        (some 2)
        (obind (ref31_in k x0.2.2.2.1 1000 100000) fun v3 =>
        tst (!v3)
          (some 2)
          (tst (decide (128 < (ln x0.2.2.2.2.1)))
            (some 8)
            (tst (!((ln x0.2.2.2.2.2.1) == (ln x0.2.2.2.2.1)))
              (some 11)
              (ref31_Check_l0 k k (x0, 0, ())))))))
-- 1106
def ref35_in (k : Nat) (x0 : Int) (x1 : Int) (x2 : Int) : Option (Bool) :=
  tst (decide (x1 ≤ x0))
    (some (decide (x0 ≤ x2)))
    (some false)
-- 1107
def ref35_right (k : Nat) (x0 : Schedule) (x1 : Cell) : Option (Bool) :=
  obind (ref35_in k x1.1 0 (w64 (x0.1 - 1))) fun v0 =>
  tst v0
    (obind (ref35_in k x1.2.1 0 (w64 (x0.2.1 - 1))) fun v1 =>
    tst v1
      (obind (ref35_in k x1.2.2.1 0 31) fun v2 =>
      tst v2
        (obind (ref35_in k x1.2.2.2.1 0 31) fun v3 =>
        tst v3
          (obind (ref35_in k x1.2.2.2.2.1 0 255) fun v4 =>
          some v4)
          (some false))
        (some false))
      (some false))
    (some false)
-- 1158
def ref35_numbers (k : Nat) (x0 : Cell) : Option (List Int) :=
  some [x0.1, x0.2.1, x0.2.2.1, x0.2.2.2.1, x0.2.2.2.2.1]
-- 1108
def ref35_Less_l0 (k : Nat) : Nat → (List Int) × (List Int) × Int × Unit → Option (Bool) :=
  loopK fun rec2 (t3 : (List Int) × (List Int) × Int × Unit) =>
    tst (decide (t3.2.2.1 < (ln t3.1)))
      (obind (ix t3.1 t3.2.2.1) fun v4 =>
      obind (ix t3.2.1 t3.2.2.1) fun v5 =>
      tst (!(v4 == v5))
        (obind (ix t3.1 t3.2.2.1) fun v6 =>
        obind (ix t3.2.1 t3.2.2.1) fun v7 =>
        some (decide (v6 < v7)))
        (rec2 (t3.1, t3.2.1, w64 (t3.2.2.1 + 1), ())))
      (some false)
def ref35_Less (k : Nat) (x0 : Cell) (x1 : Cell) : Option (Bool) :=
  obind (ref35_numbers k x0) fun v0 =>
  obind (ref35_numbers k x1) fun v1 =>
  ref35_Less_l0 k k (v0, v1, 0, ())
-- 1072
def ref35_Formed_l0 (k : Nat) : Nat → Schedule × Int × Unit → Option (Bool) :=
  loopK fun rec2 (t3 : Schedule × Int × Unit) =>
    tst (decide (t3.2.1 < (ln t3.1.2.2.1)))
      (obind (ix t3.1.2.2.1 t3.2.1) fun v4 =>
      obind (ref35_right k t3.1 v4) fun v5 =>
      tst (!v5)
        (some false)
        (tst (decide (0 < t3.2.1))
          (obind (ix t3.1.2.2.1 (w64 (t3.2.1 - 1))) fun v6 =>
          obind (ix t3.1.2.2.1 t3.2.1) fun v7 =>
          obind (ref35_Less k v6 v7) fun v8 =>
          tst (!v8)
            (some false)
            (rec2 (t3.1, w64 (t3.2.1 + 1), ())))
          (rec2 (t3.1, w64 (t3.2.1 + 1), ()))))
      (some true)
def ref35_Formed (k : Nat) (x0 : Schedule) : Option (Bool) :=
  obind (ref35_in k x0.1 1 512) fun v0 =>
  tst (!v0)
    (some false)
    (obind (ref35_in k x0.2.1 1 16) fun v1 =>
    tst (!v1)
      (some false)
      (tst (decide (512 < (ln x0.2.2.1)))
        (some false)
        (ref35_Formed_l0 k k (x0, 0, ()))))
-- 1109
def ref32_in (k : Nat) (x0 : Int) (x1 : Int) (x2 : Int) : Option (Bool) :=
  tst (decide (x1 ≤ x0))
    (some (decide (x0 ≤ x2)))
    (some false)
-- 1073
def ref32_Fault (k : Nat) (x0 : Int) (x1 : Flow) : Option (Int) :=
  obind (ref32_in k x1.1 0 255) fun v0 =>
  tst (!v0)
    (some 2)
    (obind (ref32_in k x1.2.1 0 (w64 (x0 - 1))) fun v1 =>
    tst (!v1)
      (some 2)
      (obind (ref32_in k x1.2.2.1 0 (w64 (x0 - 1))) fun v2 =>
      tst (!v2)
        (some 2)
        (obind (ref32_in k x1.2.2.2.1 1 512) fun v3 =>
        tst (!v3)
          (some 2)
          (obind (ref32_in k x1.2.2.2.2.1 0 (w64 (x1.2.2.2.1 - 1))) fun v4 =>
          tst (!v4)
            (some 2)
            (obind (ref32_in k x1.2.2.2.2.2.1 1 x1.2.2.2.1) fun v5 =>
            tst (!v5)
              (some 2)
              (tst (x1.2.1 == x1.2.2.1)
                (some 1)
                (some 0)))))))
-- 1159
def ref33_node (k : Nat) (x0 : Network) (x1 : Int) : Option (Bool) :=
  tst (decide (0 ≤ x1))
    (some (decide (x1 < x0.1)))
    (some false)
-- 1110
def ref33_ends (k : Nat) (x0 : Network) (x1 : Int) (x2 : Int) : Option (Int) :=
  obind (ref31_Check k x0) fun v0 =>
  tst (!(v0 == 0))
    (some 1)
    (obind (ref33_node k x0 x1) fun v1 =>
    tst (!v1)
      (some 2)
      (obind (ref33_node k x0 x2) fun v2 =>
      tst (!v2)
        (some 2)
        (tst (x1 == x2)
          (some 2)
          (some 0))))
-- 1081
def ref31_Find_l0 (k : Nat) : Nat → Int × Int × Network × Int × Unit → Option (Int) :=
  loopK fun rec0 (t1 : Int × Int × Network × Int × Unit) =>
    tst (decide (t1.2.2.2.1 < (ln t1.2.2.1.2.2.2.2.1)))
      (obind (ix t1.2.2.1.2.2.2.2.1 t1.2.2.2.1) fun v2 =>
      tst (v2.1 == t1.1)
        (obind (ix t1.2.2.1.2.2.2.2.1 t1.2.2.2.1) fun v3 =>
        tst (v3.2.1 == t1.2.1)
          (some t1.2.2.2.1)
          (rec0 (t1.1, t1.2.1, t1.2.2.1, w64 (t1.2.2.2.1 + 1), ())))
        (rec0 (t1.1, t1.2.1, t1.2.2.1, w64 (t1.2.2.2.1 + 1), ())))
      (some (-1))
def ref31_Find (k : Nat) (x0 : Network) (x1 : Int) (x2 : Int) : Option (Int) :=
  ref31_Find_l0 k k (x1, x2, x0, 0, ())
-- 1192
def ref31_Heard (k : Nat) (x0 : Network) (x1 : Int) (x2 : Int) : Option (Bool) :=
  some (decide ((w64 (x0.2.2.2.1 * (w64 (x0.2.2.1 + x2)))) ≤ (w64 (x1 * 1000))))
-- 1160
def ref31_Good (k : Nat) (x0 : Network) (x1 : Int) (x2 : Int) : Option (Bool) :=
  obind (ref31_Find k x0 x1 x2) fun v0 =>
  obind (ref31_Find k x0 x2 x1) fun v1 =>
  tst (decide (0 ≤ v0))
    (tst (decide (0 ≤ v1))
      (obind (ix x0.2.2.2.2.2.1 v0) fun v2 =>
      obind (ref31_Heard k x0 v2 0) fun v3 =>
      tst v3
        (obind (ix x0.2.2.2.2.2.1 v1) fun v4 =>
        obind (ref31_Heard k x0 v4 0) fun v5 =>
        some v5)
        (some false))
      (some false))
    (some false)
-- 1111
def ref33_fault_l2 (k : Nat) (κ0 : ((List Int) × Network × Int × Int × Unit) → Option Int) : Nat → (List Int) × Network × Int × Int × Unit → Option (Int) :=
  loopK fun rec8 (t9 : (List Int) × Network × Int × Int × Unit) =>
    tst (decide (t9.2.2.2.1 < t9.2.2.1))
      (obind (ix t9.1 t9.2.2.1) fun v10 =>
      obind (ix t9.1 t9.2.2.2.1) fun v11 =>
      tst (v10 == v11)
        (some 6)
        (rec8 (t9.1, t9.2.1, t9.2.2.1, w64 (t9.2.2.2.1 + 1), ())))
      (κ0 t9)
def ref33_fault_l3 (k : Nat) : Nat → (List Int) × Network × Int × Unit → Option (Int) :=
  loopK fun rec12 (t13 : (List Int) × Network × Int × Unit) =>
    tst (decide (t13.2.2.1 < (ln t13.1)))
      (obind (ix t13.1 (w64 (t13.2.2.1 - 1))) fun v14 =>
      obind (ix t13.1 t13.2.2.1) fun v15 =>
      obind (ref31_Good k t13.2.1 v14 v15) fun v16 =>
      tst (!v16)
        (some 17)
        (rec12 (t13.1, t13.2.1, w64 (t13.2.2.1 + 1), ())))
      (some 0)
def ref33_fault_l1 (k : Nat) (κ1 : ((List Int) × Network × Int × Unit) → Option Int) : Nat → (List Int) × Network × Int × Unit → Option (Int) :=
  loopK fun rec6 (t7 : (List Int) × Network × Int × Unit) =>
    tst (decide (t7.2.2.1 < (ln t7.1)))
      (ref33_fault_l2 k
    (fun t9 =>
    rec6 (t9.1, t9.2.1, w64 (t9.2.2.1 + 1), ())) k (t7.1, t7.2.1, t7.2.2.1, 0, ()))
      (κ1 t7)
def ref33_fault_l0 (k : Nat) (κ2 : (Int × Int × (List Int) × Network × Int × Unit) → Option Int) : Nat → Int × Int × (List Int) × Network × Int × Unit → Option (Int) :=
  loopK fun rec0 (t1 : Int × Int × (List Int) × Network × Int × Unit) =>
    tst (decide (t1.2.2.2.2.1 < (ln t1.2.2.1)))
      (obind (ix t1.2.2.1 t1.2.2.2.2.1) fun v2 =>
      obind (ref33_node k t1.2.2.2.1 v2) fun v3 =>
      tst (!v3)
        (some 2)
        (rec0 (t1.1, t1.2.1, t1.2.2.1, t1.2.2.2.1, w64 (t1.2.2.2.2.1 + 1), ())))
      (κ2 t1)
def ref33_fault (k : Nat) (x0 : Network) (x1 : Int) (x2 : Int) (x3 : List Int) : Option (Int) :=
  tst (decide ((ln x3) < 2))
    (some 9)
    (tst (decide (8 < (w64 ((ln x3) - 1))))
      (some 8)
      (ref33_fault_l0 k
    (fun t1 =>
    obind (ix t1.2.2.1 0) fun v4 =>
    tst (!(v4 == t1.1))
      (some 11)
      (obind (ix t1.2.2.1 (w64 ((ln t1.2.2.1) - 1))) fun v5 =>
      tst (!(v5 == t1.2.1))
        (some 11)
        (ref33_fault_l1 k
    (fun t7 =>
    ref33_fault_l3 k k (t7.1, t7.2.1, 1, ())) k (t1.2.2.1, t1.2.2.2.1, 0, ())))) k (x1, x2, x3, x0, 0, ())))
-- 1074
def ref33_Check (k : Nat) (x0 : Network) (x1 : Int) (x2 : Int) (x3 : List Int) : Option (Int) :=
  obind (ref33_ends k x0 x1 x2) fun v0 =>
  tst (!(v0 == 0))
    (some v0)
    (obind (ref33_fault k x0 x1 x2 x3) fun v1 =>
    some v1)
-- 1036
def ref37_Fault (k : Nat) (x0 : Network) (x1 : Schedule) (x2 : Flow) (x3 : List Int) : Option (Int) :=
  obind (ref31_Check k x0) fun v0 =>
  tst (!(v0 == 0))
    (some 1)
    (obind (ref35_Formed k x1) fun v1 =>
    tst (!v1)
      (some 1)
      (obind (ref32_Fault k x0.1 x2) fun v2 =>
      tst (!(v2 == 0))
        (some 1)
        (tst (x2.2.2.2.1 != 0)
          (tst (!((Int.tmod x1.1 x2.2.2.2.1) == 0))
            (some 11)
            (obind (ref33_Check k x0 x2.2.1 x2.2.2.1 x3) fun v3 =>
            some v3))
          none)))
-- 1037
def ref37_in (k : Nat) (x0 : Int) (x1 : Int) (x2 : Int) : Option (Bool) :=
  tst (decide (x1 ≤ x0))
    (some (decide (x0 ≤ x2)))
    (some false)
-- 1050
def ref33_Loss (k : Nat) (x0 : Network) (x1 : Int) (x2 : Int) : Option (Int) :=
  obind (ref31_Find k x0 x1 x2) fun v0 =>
  obind (ix x0.2.2.2.2.1 v0) fun v1 =>
  some v1.2.2.1
-- 1075
def ref37_hop_l1 (k : Nat) (κ0 : (Int × Int × Int × Int × Schedule × Flow × (List Int) × Int × Int × Unit) → Option ((List Int) × Bool × Unit)) : Nat → Int × Int × Int × Int × Schedule × Flow × (List Int) × Int × Int × Unit → Option ((List Int) × Bool × Unit) :=
  loopK fun rec2 (t3 : Int × Int × Int × Int × Schedule × Flow × (List Int) × Int × Int × Unit) =>
    tst (decide (t3.2.2.2.2.2.2.2.2.1 < (ln t3.2.2.2.2.1.2.2.1)))
      (obind (ix t3.2.2.2.2.1.2.2.1 t3.2.2.2.2.2.2.2.2.1) fun v4 =>
      tst (t3.2.2.2.2.1.1 != 0)
        (tst (v4.1 == (Int.tmod t3.2.2.2.2.2.2.2.1 t3.2.2.2.2.1.1))
          (tst (v4.2.2.2.2.1 == t3.2.2.2.2.2.1.1)
            (tst (v4.2.2.1 == t3.1)
              (tst (v4.2.2.2.1 == t3.2.1)
                (tst (decide ((ln t3.2.2.2.2.2.2.1) < t3.2.2.1))
                  (tst (fit 8 t3.2.2.2.2.2.2.1 [t3.2.2.2.2.2.2.2.1])
                    (rec2 (t3.1, t3.2.1, t3.2.2.1, t3.2.2.2.1, t3.2.2.2.2.1, t3.2.2.2.2.2.1, t3.2.2.2.2.2.2.1 ++ [t3.2.2.2.2.2.2.2.1], t3.2.2.2.2.2.2.2.1, w64 (t3.2.2.2.2.2.2.2.2.1 + 1), ()))
                    none)
                  (rec2 (t3.1, t3.2.1, t3.2.2.1, t3.2.2.2.1, t3.2.2.2.2.1, t3.2.2.2.2.2.1, t3.2.2.2.2.2.2.1, t3.2.2.2.2.2.2.2.1, w64 (t3.2.2.2.2.2.2.2.2.1 + 1), ())))
                (rec2 (t3.1, t3.2.1, t3.2.2.1, t3.2.2.2.1, t3.2.2.2.2.1, t3.2.2.2.2.2.1, t3.2.2.2.2.2.2.1, t3.2.2.2.2.2.2.2.1, w64 (t3.2.2.2.2.2.2.2.2.1 + 1), ())))
              (rec2 (t3.1, t3.2.1, t3.2.2.1, t3.2.2.2.1, t3.2.2.2.2.1, t3.2.2.2.2.2.1, t3.2.2.2.2.2.2.1, t3.2.2.2.2.2.2.2.1, w64 (t3.2.2.2.2.2.2.2.2.1 + 1), ())))
            (rec2 (t3.1, t3.2.1, t3.2.2.1, t3.2.2.2.1, t3.2.2.2.2.1, t3.2.2.2.2.2.1, t3.2.2.2.2.2.2.1, t3.2.2.2.2.2.2.2.1, w64 (t3.2.2.2.2.2.2.2.2.1 + 1), ())))
          (rec2 (t3.1, t3.2.1, t3.2.2.1, t3.2.2.2.1, t3.2.2.2.2.1, t3.2.2.2.2.2.1, t3.2.2.2.2.2.2.1, t3.2.2.2.2.2.2.2.1, w64 (t3.2.2.2.2.2.2.2.2.1 + 1), ())))
        none)
      (κ0 t3)
def ref37_hop_l0 (k : Nat) : Nat → Int × Int × Int × Int × Schedule × Flow × (List Int) × Int × Unit → Option ((List Int) × Bool × Unit) :=
  loopK fun rec0 (t1 : Int × Int × Int × Int × Schedule × Flow × (List Int) × Int × Unit) =>
    tst (decide (t1.2.2.2.2.2.2.2.1 ≤ t1.2.2.2.1))
      (tst (decide ((ln t1.2.2.2.2.2.2.1) < t1.2.2.1))
        (ref37_hop_l1 k
    (fun t3 =>
    rec0 (t3.1, t3.2.1, t3.2.2.1, t3.2.2.2.1, t3.2.2.2.2.1, t3.2.2.2.2.2.1, t3.2.2.2.2.2.2.1, w64 (t3.2.2.2.2.2.2.2.1 + 1), ())) k (t1.1, t1.2.1, t1.2.2.1, t1.2.2.2.1, t1.2.2.2.2.1, t1.2.2.2.2.2.1, t1.2.2.2.2.2.2.1, t1.2.2.2.2.2.2.2.1, 0, ()))
        (some (t1.2.2.2.2.2.2.1, (ln t1.2.2.2.2.2.2.1) == t1.2.2.1, ())))
      (some (t1.2.2.2.2.2.2.1, (ln t1.2.2.2.2.2.2.1) == t1.2.2.1, ()))
def ref37_hop (k : Nat) (x0 : Schedule) (x1 : Flow) (x2 : Int) (x3 : Int) (x4 : Int) (x5 : Int) (x6 : Int) : Option ((List Int) × Bool × Unit) :=
  ref37_hop_l0 k k (x2, x3, x4, x6, x0, x1, [], x5, ())
-- 1038
def ref37_Slots_l0 (k : Nat) : Nat → (List Int) × Int × Int × Network × Schedule × Flow × (List Int) × Int × Int × Unit → Option ((List Int) × Bool × Unit) :=
  loopK fun rec0 (t1 : (List Int) × Int × Int × Network × Schedule × Flow × (List Int) × Int × Int × Unit) =>
    tst (decide (t1.2.2.2.2.2.2.2.2.1 < (ln t1.1)))
      (obind (ix t1.1 (w64 (t1.2.2.2.2.2.2.2.2.1 - 1))) fun v2 =>
      obind (ix t1.1 t1.2.2.2.2.2.2.2.2.1) fun v3 =>
      obind (ix t1.1 (w64 (t1.2.2.2.2.2.2.2.2.1 - 1))) fun v4 =>
      obind (ix t1.1 t1.2.2.2.2.2.2.2.2.1) fun v5 =>
      obind (ref33_Loss k t1.2.2.2.1 v4 v5) fun v6 =>
      obind (ref37_hop k t1.2.2.2.2.1 t1.2.2.2.2.2.1 v2 v3 (w64 ((w64 (v6 + 1)) + t1.2.2.1)) t1.2.2.2.2.2.2.2.1 (w64 ((w64 (t1.2.1 + t1.2.2.2.2.2.1.2.2.2.1)) - 1))) fun v7 =>
      tst (!v7.2.1)
        (some ([], false, ()))
        (tst (fit 8 t1.2.2.2.2.2.2.1 v7.1)
          (obind (ix v7.1 (w64 ((ln v7.1) - 1))) fun v8 =>
          rec0 (t1.1, t1.2.1, t1.2.2.1, t1.2.2.2.1, t1.2.2.2.2.1, t1.2.2.2.2.2.1, t1.2.2.2.2.2.2.1 ++ v7.1, w64 (v8 + 1), w64 (t1.2.2.2.2.2.2.2.2.1 + 1), ()))
          none))
      (some (t1.2.2.2.2.2.2.1, true, ()))
def ref37_Slots (k : Nat) (x0 : Network) (x1 : Schedule) (x2 : Flow) (x3 : List Int) (x4 : Int) (x5 : Int) : Option ((List Int) × Bool × Unit) :=
  ref37_Slots_l0 k k (x3, x4, x5, x0, x1, x2, [], x4, 1, ())
-- 1039
def ref37_relative_l0 (k : Nat) : Nat → (List Int) × Int × (List Int) × Int × Unit → Option (List Int) :=
  loopK fun rec0 (t1 : (List Int) × Int × (List Int) × Int × Unit) =>
    tst (decide (t1.2.2.2.1 < (ln t1.1)))
      (obind (ix t1.1 t1.2.2.2.1) fun v2 =>
      tst (fit 8 t1.2.2.1 [w64 (v2 - t1.2.1)])
        (rec0 (t1.1, t1.2.1, t1.2.2.1 ++ [w64 (v2 - t1.2.1)], w64 (t1.2.2.2.1 + 1), ()))
        none)
      (some t1.2.2.1)
def ref37_relative (k : Nat) (x0 : List Int) (x1 : Int) : Option (List Int) :=
  ref37_relative_l0 k k (x0, x1, [], 0, ())
-- 1011
def ref37_Release (k : Nat) (x0 : Network) (x1 : Schedule) (x2 : Flow) (x3 : List Int) (x4 : Int) : Option (Int × (List Int) × Int × Unit) :=
  obind (ref37_Fault k x0 x1 x2 x3) fun v0 =>
  tst (!(v0 == 0))
    (some (0, [], v0, ()))
    (obind (ref37_in k x4 x2.2.2.2.2.1 1048576) fun v1 =>
    tst (!v1)
      (some (0, [], 2, ()))
      (tst (x2.2.2.2.1 != 0)
        (tst (!((Int.tmod (w64 (x4 - x2.2.2.2.2.1)) x2.2.2.2.1) == 0))
          (some (0, [], 2, ()))
          (obind (ref37_Slots k x0 x1 x2 x3 x4 0) fun v2 =>
          tst (!v2.2.1)
            (some (0, [], 15, ()))
            (obind (ix v2.1 (w64 ((ln v2.1) - 1))) fun v3 =>
            obind (ref37_relative k v2.1 x4) fun v4 =>
            some (w64 ((w64 (v3 - x4)) + 1), v4, 0, ()))))
        none))
-- 1041
def ref37_Most_l0 (k : Nat) : Nat → (List Int) × Int × Network × Schedule × Flow × Int × Int × (List Int) × Int × Unit → Option (Int × Int × (List Int) × Bool × Unit) :=
  loopK fun rec0 (t1 : (List Int) × Int × Network × Schedule × Flow × Int × Int × (List Int) × Int × Unit) =>
    tst (decide (t1.2.2.2.2.2.2.2.2.1 < t1.2.2.2.1.1))
      (obind (ref37_Slots k t1.2.2.1 t1.2.2.2.1 t1.2.2.2.2.1 t1.1 t1.2.2.2.2.2.2.2.2.1 t1.2.1) fun v2 =>
      tst (!v2.2.1)
        (some (0, 0, [], false, ()))
        (obind (ix v2.1 (w64 ((ln v2.1) - 1))) fun v3 =>
        tst (decide (t1.2.2.2.2.2.1 < (w64 ((w64 (v3 - t1.2.2.2.2.2.2.2.2.1)) + 1))))
          (obind (ix v2.1 (w64 ((ln v2.1) - 1))) fun v4 =>
          obind (ref37_relative k v2.1 t1.2.2.2.2.2.2.2.2.1) fun v5 =>
          rec0 (t1.1, t1.2.1, t1.2.2.1, t1.2.2.2.1, t1.2.2.2.2.1, w64 ((w64 (v4 - t1.2.2.2.2.2.2.2.2.1)) + 1), t1.2.2.2.2.2.2.2.2.1, v5, w64 (t1.2.2.2.2.2.2.2.2.1 + t1.2.2.2.2.1.2.2.2.1), ()))
          (rec0 (t1.1, t1.2.1, t1.2.2.1, t1.2.2.2.1, t1.2.2.2.2.1, t1.2.2.2.2.2.1, t1.2.2.2.2.2.2.1, t1.2.2.2.2.2.2.2.1, w64 (t1.2.2.2.2.2.2.2.2.1 + t1.2.2.2.2.1.2.2.2.1), ()))))
      (some (t1.2.2.2.2.2.1, t1.2.2.2.2.2.2.1, t1.2.2.2.2.2.2.2.1, true, ()))
def ref37_Most (k : Nat) (x0 : Network) (x1 : Schedule) (x2 : Flow) (x3 : List Int) (x4 : Int) : Option (Int × Int × (List Int) × Bool × Unit) :=
  ref37_Most_l0 k k (x3, x4, x0, x1, x2, 0, 0, [], x2.2.2.2.2.1, ())
-- 1013
def ref37_Route (k : Nat) (x0 : Network) (x1 : Schedule) (x2 : Flow) (x3 : List Int) : Option (Int × Int × (List Int) × Int × Unit) :=
  obind (ref37_Fault k x0 x1 x2 x3) fun v0 =>
  tst (!(v0 == 0))
    (some (0, 0, [], v0, ()))
    (obind (ref37_Most k x0 x1 x2 x3 0) fun v1 =>
    tst (!v1.2.2.2.1)
      (some (0, 0, [], 15, ()))
      (some (v1.1, v1.2.1, v1.2.2.1, 0, ())))
-- 1003
def law37_BoundReleases (k : Nat) (x0 : Network) (x1 : Schedule) (x2 : Flow) (x3 : List Int) (x4 : Int) : Option (Bool) :=
  obind (law37_awake k) fun v0 =>
  tst (!v0)
    (some false)
    (obind (ref37_Few k x0 x1 [x3]) fun v1 =>
    tst (!v1)
      (some true)
      (obind (bound_Release k x0 x1 x2 x3 x4) fun v2 =>
      obind (ref37_Release k x0 x1 x2 x3 x4) fun v3 =>
      obind (bound_Route k x0 x1 x2 x3) fun v4 =>
      obind (ref37_Route k x0 x1 x2 x3) fun v5 =>
      tst (v2.1 == v3.1)
        (obind (slices_Equal_Lint_int k v2.2.1 v3.2.1) fun v6 =>
        tst v6
          (tst (v2.2.2.1 == v3.2.2.1)
            (tst (v4.1 == v5.1)
              (tst (v4.2.1 == v5.2.1)
                (obind (slices_Equal_Lint_int k v4.2.2.1 v5.2.2.1) fun v7 =>
                tst v7
                  (some (v4.2.2.2.1 == v5.2.2.2.1))
                  (some false))
                (some false))
              (some false))
            (some false))
          (some false))
        (some false)))
-- 1015
def bound_Least_l1 (k : Nat) (κ0 : (Network × Schedule × Flow × Int × (List (List Int)) × Int × Int × Unit) → Option (Int × Int × Unit)) : Nat → Network × Schedule × Flow × Int × (List (List Int)) × Int × Int × Unit → Option (Int × Int × Unit) :=
  loopK fun rec4 (t5 : Network × Schedule × Flow × Int × (List (List Int)) × Int × Int × Unit) =>
    tst (decide (t5.2.2.2.2.2.2.1 < t5.2.2.2.2.2.1))
      (obind (ix t5.2.2.2.2.1 t5.2.2.2.2.2.2.1) fun v6 =>
      obind (bound_way_bound k (t5.1.1, t5.1.2.1, t5.1.2.2.1, t5.1.2.2.2.1, t5.1.2.2.2.2.1, t5.1.2.2.2.2.2.1, t5.2.1.1, t5.2.1.2.1, t5.2.1.2.2.1, t5.2.2.1.1, t5.2.2.1.2.1, t5.2.2.1.2.2.1, t5.2.2.1.2.2.2.1, t5.2.2.1.2.2.2.2.1, t5.2.2.1.2.2.2.2.2.1, v6, 0, ())) fun v7 =>
      tst v7.2.2.2.1
        (tst (t5.2.2.2.1 == 0)
          (rec4 (t5.1, t5.2.1, t5.2.2.1, v7.1, t5.2.2.2.2.1, t5.2.2.2.2.2.1, w64 (t5.2.2.2.2.2.2.1 + 1), ()))
          (tst (decide (v7.1 < t5.2.2.2.1))
            (rec4 (t5.1, t5.2.1, t5.2.2.1, v7.1, t5.2.2.2.2.1, t5.2.2.2.2.2.1, w64 (t5.2.2.2.2.2.2.1 + 1), ()))
            (rec4 (t5.1, t5.2.1, t5.2.2.1, t5.2.2.2.1, t5.2.2.2.2.1, t5.2.2.2.2.2.1, w64 (t5.2.2.2.2.2.2.1 + 1), ()))))
        (rec4 (t5.1, t5.2.1, t5.2.2.1, t5.2.2.2.1, t5.2.2.2.2.1, t5.2.2.2.2.2.1, w64 (t5.2.2.2.2.2.2.1 + 1), ())))
      (κ0 t5)
def bound_Least_l0 (k : Nat) (κ1 : ((List (List Int)) × Network × Schedule × Flow × (List (List Int)) × Int × Int × Unit) → Option (Int × Int × Unit)) : Nat → (List (List Int)) × Network × Schedule × Flow × (List (List Int)) × Int × Int × Unit → Option (Int × Int × Unit) :=
  loopK fun rec0 (t1 : (List (List Int)) × Network × Schedule × Flow × (List (List Int)) × Int × Int × Unit) =>
    tst (decide (t1.2.2.2.2.2.2.1 < t1.2.2.2.2.2.1))
      (obind (ix t1.2.2.2.2.1 t1.2.2.2.2.2.2.1) fun v2 =>
      obind (bound_way_check k (t1.2.1.1, t1.2.1.2.1, t1.2.1.2.2.1, t1.2.1.2.2.2.1, t1.2.1.2.2.2.2.1, t1.2.1.2.2.2.2.2.1, t1.2.2.1.1, t1.2.2.1.2.1, t1.2.2.1.2.2.1, t1.2.2.2.1.1, t1.2.2.2.1.2.1, t1.2.2.2.1.2.2.1, t1.2.2.2.1.2.2.2.1, t1.2.2.2.1.2.2.2.2.1, t1.2.2.2.1.2.2.2.2.2.1, v2, 0, ())) fun v3 =>
      tst (!(v3 == 0))
        (some (0, v3, ()))
        (rec0 (t1.1, t1.2.1, t1.2.2.1, t1.2.2.2.1, t1.2.2.2.2.1, t1.2.2.2.2.2.1, w64 (t1.2.2.2.2.2.2.1 + 1), ())))
      (κ1 t1)
def bound_Least (k : Nat) (x0 : Network) (x1 : Schedule) (x2 : Flow) (x3 : List (List Int)) : Option (Int × Int × Unit) :=
  tst ((ln x3) == 0)
    (some (0, 14, ()))
    (bound_Least_l0 k
    (fun t1 =>
    bound_Least_l1 k
    (fun t5 =>
    tst (t5.2.2.2.1 == 0)
      (some (0, 15, ()))
      (some (t5.2.2.2.1, 0, ()))) k (t1.2.1, t1.2.2.1, t1.2.2.2.1, 0, t1.1, ln t1.1, 0, ())) k (x3, x0, x1, x2, x3, ln x3, 0, ()))
-- 1016
def ref37_Least_l0 (k : Nat) (κ0 : ((List (List Int)) × Network × Schedule × Flow × Int × Int × Unit) → Option (Int × Int × Unit)) : Nat → (List (List Int)) × Network × Schedule × Flow × Int × Int × Unit → Option (Int × Int × Unit) :=
  loopK fun rec0 (t1 : (List (List Int)) × Network × Schedule × Flow × Int × Int × Unit) =>
    tst (decide (t1.2.2.2.2.2.1 < (ln t1.1)))
      (obind (ix t1.1 t1.2.2.2.2.2.1) fun v2 =>
      obind (ref37_Route k t1.2.1 t1.2.2.1 t1.2.2.2.1 v2) fun v3 =>
      tst (!(v3.2.2.2.1 == 0))
        (tst (!(v3.2.2.2.1 == 15))
          (some (0, v3.2.2.2))
          (tst (v3.2.2.2.1 == 0)
            (tst (t1.2.2.2.2.1 == 0)
              (rec0 (t1.1, t1.2.1, t1.2.2.1, t1.2.2.2.1, v3.1, w64 (t1.2.2.2.2.2.1 + 1), ()))
              (tst (decide (v3.1 < t1.2.2.2.2.1))
                (rec0 (t1.1, t1.2.1, t1.2.2.1, t1.2.2.2.1, v3.1, w64 (t1.2.2.2.2.2.1 + 1), ()))
                (rec0 (t1.1, t1.2.1, t1.2.2.1, t1.2.2.2.1, t1.2.2.2.2.1, w64 (t1.2.2.2.2.2.1 + 1), ()))))
            (rec0 (t1.1, t1.2.1, t1.2.2.1, t1.2.2.2.1, t1.2.2.2.2.1, w64 (t1.2.2.2.2.2.1 + 1), ()))))
        (tst (v3.2.2.2.1 == 0)
          (tst (t1.2.2.2.2.1 == 0)
            (rec0 (t1.1, t1.2.1, t1.2.2.1, t1.2.2.2.1, v3.1, w64 (t1.2.2.2.2.2.1 + 1), ()))
            (tst (decide (v3.1 < t1.2.2.2.2.1))
              (rec0 (t1.1, t1.2.1, t1.2.2.1, t1.2.2.2.1, v3.1, w64 (t1.2.2.2.2.2.1 + 1), ()))
              (rec0 (t1.1, t1.2.1, t1.2.2.1, t1.2.2.2.1, t1.2.2.2.2.1, w64 (t1.2.2.2.2.2.1 + 1), ()))))
          (rec0 (t1.1, t1.2.1, t1.2.2.1, t1.2.2.2.1, t1.2.2.2.2.1, w64 (t1.2.2.2.2.2.1 + 1), ()))))
      (κ0 t1)
def ref37_Least (k : Nat) (x0 : Network) (x1 : Schedule) (x2 : Flow) (x3 : List (List Int)) : Option (Int × Int × Unit) :=
  tst ((ln x3) == 0)
    (some (0, 14, ()))
    (ref37_Least_l0 k
    (fun t1 =>
    tst (t1.2.2.2.2.1 == 0)
      (some (0, 15, ()))
      (some (t1.2.2.2.2.1, 0, ()))) k (x3, x0, x1, x2, 0, 0, ()))
-- 1018
def ref37_Slack_l0 (k : Nat) (κ0 : ((List Int) × Network × Schedule × Flow × Int × Int × Unit) → Option (Int × Int × Unit)) : Nat → (List Int) × Network × Schedule × Flow × Int × Int × Unit → Option (Int × Int × Unit) :=
  loopK fun rec1 (t2 : (List Int) × Network × Schedule × Flow × Int × Int × Unit) =>
    tst (decide (t2.2.2.2.2.2.1 ≤ 7))
      (obind (ref37_Most k t2.2.1 t2.2.2.1 t2.2.2.2.1 t2.1 t2.2.2.2.2.2.1) fun v3 =>
      tst (!v3.2.2.2.1)
        (κ0 t2)
        (tst (decide (t2.2.2.2.1.2.2.2.2.2.1 < v3.1))
          (κ0 t2)
          (rec1 (t2.1, t2.2.1, t2.2.2.1, t2.2.2.2.1, t2.2.2.2.2.2.1, w64 (t2.2.2.2.2.2.1 + 1), ()))))
      (κ0 t2)
def ref37_Slack (k : Nat) (x0 : Network) (x1 : Schedule) (x2 : Flow) (x3 : List Int) : Option (Int × Int × Unit) :=
  obind (ref37_Fault k x0 x1 x2 x3) fun v0 =>
  tst (!(v0 == 0))
    (some (0, v0, ()))
    (ref37_Slack_l0 k
    (fun t2 =>
    tst (decide (t2.2.2.2.2.1 < 0))
      (some (0, 15, ()))
      (some (t2.2.2.2.2.1, 0, ()))) k (x3, x0, x1, x2, -1, 0, ()))
-- 1004
def law37_BoundLeast (k : Nat) (x0 : Network) (x1 : Schedule) (x2 : Flow) (x3 : List (List Int)) (x4 : List Int) : Option (Bool) :=
  obind (law37_awake k) fun v0 =>
  tst (!v0)
    (some false)
    (obind (ref37_Few k x0 x1 x3) fun v1 =>
    tst (!v1)
      (some true)
      (tst (decide (12 < (ln x4)))
        (some true)
        (obind (bound_Least k x0 x1 x2 x3) fun v2 =>
        obind (ref37_Least k x0 x1 x2 x3) fun v3 =>
        obind (bound_Slack k x0 x1 x2 x4) fun v4 =>
        obind (ref37_Slack k x0 x1 x2 x4) fun v5 =>
        tst (v2.1 == v3.1)
          (tst (v2.2.1 == v3.2.1)
            (tst (v4.1 == v5.1)
              (some (v4.2.1 == v5.2.1))
              (some false))
            (some false))
          (some false))))
end Go.Evl.Sh
