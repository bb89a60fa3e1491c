/- Dd, the table of all functions (printed by gen.py). -/
import Derived.Test.YtliejomdaookoaaDdxQ0
import Derived.Test.YtliejomdaookoaaDdxQ1
import Derived.Test.YtliejomdaookoaaDdxQ2
import Derived.Test.YtliejomdaookoaaDdxQ3
import Derived.Test.YtliejomdaookoaaDdxQ4
import Derived.Test.YtliejomdaookoaaDdxQ5
import Derived.Test.YtliejomdaookoaaDdxQ6
set_option linter.unusedVariables false
set_option maxRecDepth 100000
namespace Go.Dd
open Go.Proofs

noncomputable def qd6 (ih : FuncId → List DV → Hp → Res) (m : Nat) (f : FuncId) (args : List DV) (h : Hp) : Res :=
  bif Nat.beq f 3 then s3 ih m (args.getD 0 undefD) (args.getD 1 undefD) h else bodyD CF ih m f args h

theorem qd6e (ih : FuncId → List DV → Hp → Res) (m : Nat) (f : FuncId) (args : List DV) (h : Hp) : qd6 ih m f args h = bodyD CF ih m f args h := by
  unfold qd6
  cases e : Nat.beq f 3 with
  | false => rfl
  | true => cases Nat.eq_of_beq_eq_true e; rw [cond_true]; exact (s3ok ih m args h).symm

noncomputable def qd7 (ih : FuncId → List DV → Hp → Res) (m : Nat) (f : FuncId) (args : List DV) (h : Hp) : Res :=
  bif Nat.beq f 4 then s4 ih m (args.getD 0 undefD) h else bodyD CF ih m f args h

theorem qd7e (ih : FuncId → List DV → Hp → Res) (m : Nat) (f : FuncId) (args : List DV) (h : Hp) : qd7 ih m f args h = bodyD CF ih m f args h := by
  unfold qd7
  cases e : Nat.beq f 4 with
  | false => rfl
  | true => cases Nat.eq_of_beq_eq_true e; rw [cond_true]; exact (s4ok ih m args h).symm

noncomputable def qd5 (ih : FuncId → List DV → Hp → Res) (m : Nat) (f : FuncId) (args : List DV) (h : Hp) : Res :=
  bif Nat.blt f 4 then qd6 ih m f args h else qd7 ih m f args h

theorem qd5e (ih : FuncId → List DV → Hp → Res) (m : Nat) (f : FuncId) (args : List DV) (h : Hp) : qd5 ih m f args h = bodyD CF ih m f args h := by
  unfold qd5
  cases Nat.blt f 4 with
  | false => exact qd7e ih m f args h
  | true => exact qd6e ih m f args h

noncomputable def qd9 (ih : FuncId → List DV → Hp → Res) (m : Nat) (f : FuncId) (args : List DV) (h : Hp) : Res :=
  bif Nat.beq f 5 then s5 ih m (args.getD 0 undefD) h else bodyD CF ih m f args h

theorem qd9e (ih : FuncId → List DV → Hp → Res) (m : Nat) (f : FuncId) (args : List DV) (h : Hp) : qd9 ih m f args h = bodyD CF ih m f args h := by
  unfold qd9
  cases e : Nat.beq f 5 with
  | false => rfl
  | true => cases Nat.eq_of_beq_eq_true e; rw [cond_true]; exact (s5ok ih m args h).symm

noncomputable def qd11 (ih : FuncId → List DV → Hp → Res) (m : Nat) (f : FuncId) (args : List DV) (h : Hp) : Res :=
  bif Nat.beq f 6 then s6 ih m (args.getD 0 undefD) (args.getD 1 undefD) h else bodyD CF ih m f args h

theorem qd11e (ih : FuncId → List DV → Hp → Res) (m : Nat) (f : FuncId) (args : List DV) (h : Hp) : qd11 ih m f args h = bodyD CF ih m f args h := by
  unfold qd11
  cases e : Nat.beq f 6 with
  | false => rfl
  | true => cases Nat.eq_of_beq_eq_true e; rw [cond_true]; exact (s6ok ih m args h).symm

noncomputable def qd12 (ih : FuncId → List DV → Hp → Res) (m : Nat) (f : FuncId) (args : List DV) (h : Hp) : Res :=
  bif Nat.beq f 7 then s7 ih m (args.getD 0 undefD) h else bodyD CF ih m f args h

theorem qd12e (ih : FuncId → List DV → Hp → Res) (m : Nat) (f : FuncId) (args : List DV) (h : Hp) : qd12 ih m f args h = bodyD CF ih m f args h := by
  unfold qd12
  cases e : Nat.beq f 7 with
  | false => rfl
  | true => cases Nat.eq_of_beq_eq_true e; rw [cond_true]; exact (s7ok ih m args h).symm

noncomputable def qd10 (ih : FuncId → List DV → Hp → Res) (m : Nat) (f : FuncId) (args : List DV) (h : Hp) : Res :=
  bif Nat.blt f 7 then qd11 ih m f args h else qd12 ih m f args h

theorem qd10e (ih : FuncId → List DV → Hp → Res) (m : Nat) (f : FuncId) (args : List DV) (h : Hp) : qd10 ih m f args h = bodyD CF ih m f args h := by
  unfold qd10
  cases Nat.blt f 7 with
  | false => exact qd12e ih m f args h
  | true => exact qd11e ih m f args h

noncomputable def qd8 (ih : FuncId → List DV → Hp → Res) (m : Nat) (f : FuncId) (args : List DV) (h : Hp) : Res :=
  bif Nat.blt f 6 then qd9 ih m f args h else qd10 ih m f args h

theorem qd8e (ih : FuncId → List DV → Hp → Res) (m : Nat) (f : FuncId) (args : List DV) (h : Hp) : qd8 ih m f args h = bodyD CF ih m f args h := by
  unfold qd8
  cases Nat.blt f 6 with
  | false => exact qd10e ih m f args h
  | true => exact qd9e ih m f args h

noncomputable def qd4 (ih : FuncId → List DV → Hp → Res) (m : Nat) (f : FuncId) (args : List DV) (h : Hp) : Res :=
  bif Nat.blt f 5 then qd5 ih m f args h else qd8 ih m f args h

theorem qd4e (ih : FuncId → List DV → Hp → Res) (m : Nat) (f : FuncId) (args : List DV) (h : Hp) : qd4 ih m f args h = bodyD CF ih m f args h := by
  unfold qd4
  cases Nat.blt f 5 with
  | false => exact qd8e ih m f args h
  | true => exact qd5e ih m f args h

noncomputable def qd15 (ih : FuncId → List DV → Hp → Res) (m : Nat) (f : FuncId) (args : List DV) (h : Hp) : Res :=
  bif Nat.beq f 8 then s8 ih m (args.getD 0 undefD) h else bodyD CF ih m f args h

theorem qd15e (ih : FuncId → List DV → Hp → Res) (m : Nat) (f : FuncId) (args : List DV) (h : Hp) : qd15 ih m f args h = bodyD CF ih m f args h := by
  unfold qd15
  cases e : Nat.beq f 8 with
  | false => rfl
  | true => cases Nat.eq_of_beq_eq_true e; rw [cond_true]; exact (s8ok ih m args h).symm

noncomputable def qd17 (ih : FuncId → List DV → Hp → Res) (m : Nat) (f : FuncId) (args : List DV) (h : Hp) : Res :=
  bif Nat.beq f 9 then s9 ih m h else bodyD CF ih m f args h

theorem qd17e (ih : FuncId → List DV → Hp → Res) (m : Nat) (f : FuncId) (args : List DV) (h : Hp) : qd17 ih m f args h = bodyD CF ih m f args h := by
  unfold qd17
  cases e : Nat.beq f 9 with
  | false => rfl
  | true => cases Nat.eq_of_beq_eq_true e; rw [cond_true]; exact (s9ok ih m args h).symm

noncomputable def qd18 (ih : FuncId → List DV → Hp → Res) (m : Nat) (f : FuncId) (args : List DV) (h : Hp) : Res :=
  bif Nat.beq f 10 then s10 ih m (args.getD 0 undefD) h else bodyD CF ih m f args h

theorem qd18e (ih : FuncId → List DV → Hp → Res) (m : Nat) (f : FuncId) (args : List DV) (h : Hp) : qd18 ih m f args h = bodyD CF ih m f args h := by
  unfold qd18
  cases e : Nat.beq f 10 with
  | false => rfl
  | true => cases Nat.eq_of_beq_eq_true e; rw [cond_true]; exact (s10ok ih m args h).symm

noncomputable def qd16 (ih : FuncId → List DV → Hp → Res) (m : Nat) (f : FuncId) (args : List DV) (h : Hp) : Res :=
  bif Nat.blt f 10 then qd17 ih m f args h else qd18 ih m f args h

theorem qd16e (ih : FuncId → List DV → Hp → Res) (m : Nat) (f : FuncId) (args : List DV) (h : Hp) : qd16 ih m f args h = bodyD CF ih m f args h := by
  unfold qd16
  cases Nat.blt f 10 with
  | false => exact qd18e ih m f args h
  | true => exact qd17e ih m f args h

noncomputable def qd14 (ih : FuncId → List DV → Hp → Res) (m : Nat) (f : FuncId) (args : List DV) (h : Hp) : Res :=
  bif Nat.blt f 9 then qd15 ih m f args h else qd16 ih m f args h

theorem qd14e (ih : FuncId → List DV → Hp → Res) (m : Nat) (f : FuncId) (args : List DV) (h : Hp) : qd14 ih m f args h = bodyD CF ih m f args h := by
  unfold qd14
  cases Nat.blt f 9 with
  | false => exact qd16e ih m f args h
  | true => exact qd15e ih m f args h

noncomputable def qd20 (ih : FuncId → List DV → Hp → Res) (m : Nat) (f : FuncId) (args : List DV) (h : Hp) : Res :=
  bif Nat.beq f 11 then s11 ih m (args.getD 0 undefD) (args.getD 1 undefD) h else bodyD CF ih m f args h

theorem qd20e (ih : FuncId → List DV → Hp → Res) (m : Nat) (f : FuncId) (args : List DV) (h : Hp) : qd20 ih m f args h = bodyD CF ih m f args h := by
  unfold qd20
  cases e : Nat.beq f 11 with
  | false => rfl
  | true => cases Nat.eq_of_beq_eq_true e; rw [cond_true]; exact (s11ok ih m args h).symm

noncomputable def qd22 (ih : FuncId → List DV → Hp → Res) (m : Nat) (f : FuncId) (args : List DV) (h : Hp) : Res :=
  bif Nat.beq f 12 then s12 ih m (args.getD 0 undefD) h else bodyD CF ih m f args h

theorem qd22e (ih : FuncId → List DV → Hp → Res) (m : Nat) (f : FuncId) (args : List DV) (h : Hp) : qd22 ih m f args h = bodyD CF ih m f args h := by
  unfold qd22
  cases e : Nat.beq f 12 with
  | false => rfl
  | true => cases Nat.eq_of_beq_eq_true e; rw [cond_true]; exact (s12ok ih m args h).symm

noncomputable def qd23 (ih : FuncId → List DV → Hp → Res) (m : Nat) (f : FuncId) (args : List DV) (h : Hp) : Res :=
  bif Nat.beq f 13 then s13 ih m (args.getD 0 undefD) (args.getD 1 undefD) h else bodyD CF ih m f args h

theorem qd23e (ih : FuncId → List DV → Hp → Res) (m : Nat) (f : FuncId) (args : List DV) (h : Hp) : qd23 ih m f args h = bodyD CF ih m f args h := by
  unfold qd23
  cases e : Nat.beq f 13 with
  | false => rfl
  | true => cases Nat.eq_of_beq_eq_true e; rw [cond_true]; exact (s13ok ih m args h).symm

noncomputable def qd21 (ih : FuncId → List DV → Hp → Res) (m : Nat) (f : FuncId) (args : List DV) (h : Hp) : Res :=
  bif Nat.blt f 13 then qd22 ih m f args h else qd23 ih m f args h

theorem qd21e (ih : FuncId → List DV → Hp → Res) (m : Nat) (f : FuncId) (args : List DV) (h : Hp) : qd21 ih m f args h = bodyD CF ih m f args h := by
  unfold qd21
  cases Nat.blt f 13 with
  | false => exact qd23e ih m f args h
  | true => exact qd22e ih m f args h

noncomputable def qd19 (ih : FuncId → List DV → Hp → Res) (m : Nat) (f : FuncId) (args : List DV) (h : Hp) : Res :=
  bif Nat.blt f 12 then qd20 ih m f args h else qd21 ih m f args h

theorem qd19e (ih : FuncId → List DV → Hp → Res) (m : Nat) (f : FuncId) (args : List DV) (h : Hp) : qd19 ih m f args h = bodyD CF ih m f args h := by
  unfold qd19
  cases Nat.blt f 12 with
  | false => exact qd21e ih m f args h
  | true => exact qd20e ih m f args h

noncomputable def qd13 (ih : FuncId → List DV → Hp → Res) (m : Nat) (f : FuncId) (args : List DV) (h : Hp) : Res :=
  bif Nat.blt f 11 then qd14 ih m f args h else qd19 ih m f args h

theorem qd13e (ih : FuncId → List DV → Hp → Res) (m : Nat) (f : FuncId) (args : List DV) (h : Hp) : qd13 ih m f args h = bodyD CF ih m f args h := by
  unfold qd13
  cases Nat.blt f 11 with
  | false => exact qd19e ih m f args h
  | true => exact qd14e ih m f args h

noncomputable def qd3 (ih : FuncId → List DV → Hp → Res) (m : Nat) (f : FuncId) (args : List DV) (h : Hp) : Res :=
  bif Nat.blt f 8 then qd4 ih m f args h else qd13 ih m f args h

theorem qd3e (ih : FuncId → List DV → Hp → Res) (m : Nat) (f : FuncId) (args : List DV) (h : Hp) : qd3 ih m f args h = bodyD CF ih m f args h := by
  unfold qd3
  cases Nat.blt f 8 with
  | false => exact qd13e ih m f args h
  | true => exact qd4e ih m f args h

noncomputable def qd27 (ih : FuncId → List DV → Hp → Res) (m : Nat) (f : FuncId) (args : List DV) (h : Hp) : Res :=
  bif Nat.beq f 14 then s14 ih m (args.getD 0 undefD) (args.getD 1 undefD) h else bodyD CF ih m f args h

theorem qd27e (ih : FuncId → List DV → Hp → Res) (m : Nat) (f : FuncId) (args : List DV) (h : Hp) : qd27 ih m f args h = bodyD CF ih m f args h := by
  unfold qd27
  cases e : Nat.beq f 14 with
  | false => rfl
  | true => cases Nat.eq_of_beq_eq_true e; rw [cond_true]; exact (s14ok ih m args h).symm

noncomputable def qd28 (ih : FuncId → List DV → Hp → Res) (m : Nat) (f : FuncId) (args : List DV) (h : Hp) : Res :=
  bif Nat.beq f 15 then s15 ih m (args.getD 0 undefD) h else bodyD CF ih m f args h

theorem qd28e (ih : FuncId → List DV → Hp → Res) (m : Nat) (f : FuncId) (args : List DV) (h : Hp) : qd28 ih m f args h = bodyD CF ih m f args h := by
  unfold qd28
  cases e : Nat.beq f 15 with
  | false => rfl
  | true => cases Nat.eq_of_beq_eq_true e; rw [cond_true]; exact (s15ok ih m args h).symm

noncomputable def qd26 (ih : FuncId → List DV → Hp → Res) (m : Nat) (f : FuncId) (args : List DV) (h : Hp) : Res :=
  bif Nat.blt f 15 then qd27 ih m f args h else qd28 ih m f args h

theorem qd26e (ih : FuncId → List DV → Hp → Res) (m : Nat) (f : FuncId) (args : List DV) (h : Hp) : qd26 ih m f args h = bodyD CF ih m f args h := by
  unfold qd26
  cases Nat.blt f 15 with
  | false => exact qd28e ih m f args h
  | true => exact qd27e ih m f args h

noncomputable def qd30 (ih : FuncId → List DV → Hp → Res) (m : Nat) (f : FuncId) (args : List DV) (h : Hp) : Res :=
  bif Nat.beq f 16 then s16 ih m (args.getD 0 undefD) (args.getD 1 undefD) h else bodyD CF ih m f args h

theorem qd30e (ih : FuncId → List DV → Hp → Res) (m : Nat) (f : FuncId) (args : List DV) (h : Hp) : qd30 ih m f args h = bodyD CF ih m f args h := by
  unfold qd30
  cases e : Nat.beq f 16 with
  | false => rfl
  | true => cases Nat.eq_of_beq_eq_true e; rw [cond_true]; exact (s16ok ih m args h).symm

noncomputable def qd32 (ih : FuncId → List DV → Hp → Res) (m : Nat) (f : FuncId) (args : List DV) (h : Hp) : Res :=
  bif Nat.beq f 17 then s17 ih m (args.getD 0 undefD) (args.getD 1 undefD) h else bodyD CF ih m f args h

theorem qd32e (ih : FuncId → List DV → Hp → Res) (m : Nat) (f : FuncId) (args : List DV) (h : Hp) : qd32 ih m f args h = bodyD CF ih m f args h := by
  unfold qd32
  cases e : Nat.beq f 17 with
  | false => rfl
  | true => cases Nat.eq_of_beq_eq_true e; rw [cond_true]; exact (s17ok ih m args h).symm

noncomputable def qd33 (ih : FuncId → List DV → Hp → Res) (m : Nat) (f : FuncId) (args : List DV) (h : Hp) : Res :=
  bif Nat.beq f 18 then s18 ih m (args.getD 0 undefD) h else bodyD CF ih m f args h

theorem qd33e (ih : FuncId → List DV → Hp → Res) (m : Nat) (f : FuncId) (args : List DV) (h : Hp) : qd33 ih m f args h = bodyD CF ih m f args h := by
  unfold qd33
  cases e : Nat.beq f 18 with
  | false => rfl
  | true => cases Nat.eq_of_beq_eq_true e; rw [cond_true]; exact (s18ok ih m args h).symm

noncomputable def qd31 (ih : FuncId → List DV → Hp → Res) (m : Nat) (f : FuncId) (args : List DV) (h : Hp) : Res :=
  bif Nat.blt f 18 then qd32 ih m f args h else qd33 ih m f args h

theorem qd31e (ih : FuncId → List DV → Hp → Res) (m : Nat) (f : FuncId) (args : List DV) (h : Hp) : qd31 ih m f args h = bodyD CF ih m f args h := by
  unfold qd31
  cases Nat.blt f 18 with
  | false => exact qd33e ih m f args h
  | true => exact qd32e ih m f args h

noncomputable def qd29 (ih : FuncId → List DV → Hp → Res) (m : Nat) (f : FuncId) (args : List DV) (h : Hp) : Res :=
  bif Nat.blt f 17 then qd30 ih m f args h else qd31 ih m f args h

theorem qd29e (ih : FuncId → List DV → Hp → Res) (m : Nat) (f : FuncId) (args : List DV) (h : Hp) : qd29 ih m f args h = bodyD CF ih m f args h := by
  unfold qd29
  cases Nat.blt f 17 with
  | false => exact qd31e ih m f args h
  | true => exact qd30e ih m f args h

noncomputable def qd25 (ih : FuncId → List DV → Hp → Res) (m : Nat) (f : FuncId) (args : List DV) (h : Hp) : Res :=
  bif Nat.blt f 16 then qd26 ih m f args h else qd29 ih m f args h

theorem qd25e (ih : FuncId → List DV → Hp → Res) (m : Nat) (f : FuncId) (args : List DV) (h : Hp) : qd25 ih m f args h = bodyD CF ih m f args h := by
  unfold qd25
  cases Nat.blt f 16 with
  | false => exact qd29e ih m f args h
  | true => exact qd26e ih m f args h

noncomputable def qd36 (ih : FuncId → List DV → Hp → Res) (m : Nat) (f : FuncId) (args : List DV) (h : Hp) : Res :=
  bif Nat.beq f 19 then s19 ih m (args.getD 0 undefD) (args.getD 1 undefD) h else bodyD CF ih m f args h

theorem qd36e (ih : FuncId → List DV → Hp → Res) (m : Nat) (f : FuncId) (args : List DV) (h : Hp) : qd36 ih m f args h = bodyD CF ih m f args h := by
  unfold qd36
  cases e : Nat.beq f 19 with
  | false => rfl
  | true => cases Nat.eq_of_beq_eq_true e; rw [cond_true]; exact (s19ok ih m args h).symm

noncomputable def qd38 (ih : FuncId → List DV → Hp → Res) (m : Nat) (f : FuncId) (args : List DV) (h : Hp) : Res :=
  bif Nat.beq f 20 then s20 ih m (args.getD 0 undefD) (args.getD 1 undefD) h else bodyD CF ih m f args h

theorem qd38e (ih : FuncId → List DV → Hp → Res) (m : Nat) (f : FuncId) (args : List DV) (h : Hp) : qd38 ih m f args h = bodyD CF ih m f args h := by
  unfold qd38
  cases e : Nat.beq f 20 with
  | false => rfl
  | true => cases Nat.eq_of_beq_eq_true e; rw [cond_true]; exact (s20ok ih m args h).symm

noncomputable def qd39 (ih : FuncId → List DV → Hp → Res) (m : Nat) (f : FuncId) (args : List DV) (h : Hp) : Res :=
  bif Nat.beq f 21 then s21 ih m (args.getD 0 undefD) (args.getD 1 undefD) h else bodyD CF ih m f args h

theorem qd39e (ih : FuncId → List DV → Hp → Res) (m : Nat) (f : FuncId) (args : List DV) (h : Hp) : qd39 ih m f args h = bodyD CF ih m f args h := by
  unfold qd39
  cases e : Nat.beq f 21 with
  | false => rfl
  | true => cases Nat.eq_of_beq_eq_true e; rw [cond_true]; exact (s21ok ih m args h).symm

noncomputable def qd37 (ih : FuncId → List DV → Hp → Res) (m : Nat) (f : FuncId) (args : List DV) (h : Hp) : Res :=
  bif Nat.blt f 21 then qd38 ih m f args h else qd39 ih m f args h

theorem qd37e (ih : FuncId → List DV → Hp → Res) (m : Nat) (f : FuncId) (args : List DV) (h : Hp) : qd37 ih m f args h = bodyD CF ih m f args h := by
  unfold qd37
  cases Nat.blt f 21 with
  | false => exact qd39e ih m f args h
  | true => exact qd38e ih m f args h

noncomputable def qd35 (ih : FuncId → List DV → Hp → Res) (m : Nat) (f : FuncId) (args : List DV) (h : Hp) : Res :=
  bif Nat.blt f 20 then qd36 ih m f args h else qd37 ih m f args h

theorem qd35e (ih : FuncId → List DV → Hp → Res) (m : Nat) (f : FuncId) (args : List DV) (h : Hp) : qd35 ih m f args h = bodyD CF ih m f args h := by
  unfold qd35
  cases Nat.blt f 20 with
  | false => exact qd37e ih m f args h
  | true => exact qd36e ih m f args h

noncomputable def qd41 (ih : FuncId → List DV → Hp → Res) (m : Nat) (f : FuncId) (args : List DV) (h : Hp) : Res :=
  bif Nat.beq f 22 then s22 ih m (args.getD 0 undefD) (args.getD 1 undefD) h else bodyD CF ih m f args h

theorem qd41e (ih : FuncId → List DV → Hp → Res) (m : Nat) (f : FuncId) (args : List DV) (h : Hp) : qd41 ih m f args h = bodyD CF ih m f args h := by
  unfold qd41
  cases e : Nat.beq f 22 with
  | false => rfl
  | true => cases Nat.eq_of_beq_eq_true e; rw [cond_true]; exact (s22ok ih m args h).symm

noncomputable def qd43 (ih : FuncId → List DV → Hp → Res) (m : Nat) (f : FuncId) (args : List DV) (h : Hp) : Res :=
  bif Nat.beq f 23 then s23 ih m (args.getD 0 undefD) (args.getD 1 undefD) (args.getD 2 undefD) h else bodyD CF ih m f args h

theorem qd43e (ih : FuncId → List DV → Hp → Res) (m : Nat) (f : FuncId) (args : List DV) (h : Hp) : qd43 ih m f args h = bodyD CF ih m f args h := by
  unfold qd43
  cases e : Nat.beq f 23 with
  | false => rfl
  | true => cases Nat.eq_of_beq_eq_true e; rw [cond_true]; exact (s23ok ih m args h).symm

noncomputable def qd44 (ih : FuncId → List DV → Hp → Res) (m : Nat) (f : FuncId) (args : List DV) (h : Hp) : Res :=
  bif Nat.beq f 24 then s24 ih m (args.getD 0 undefD) h else bodyD CF ih m f args h

theorem qd44e (ih : FuncId → List DV → Hp → Res) (m : Nat) (f : FuncId) (args : List DV) (h : Hp) : qd44 ih m f args h = bodyD CF ih m f args h := by
  unfold qd44
  cases e : Nat.beq f 24 with
  | false => rfl
  | true => cases Nat.eq_of_beq_eq_true e; rw [cond_true]; exact (s24ok ih m args h).symm

noncomputable def qd42 (ih : FuncId → List DV → Hp → Res) (m : Nat) (f : FuncId) (args : List DV) (h : Hp) : Res :=
  bif Nat.blt f 24 then qd43 ih m f args h else qd44 ih m f args h

theorem qd42e (ih : FuncId → List DV → Hp → Res) (m : Nat) (f : FuncId) (args : List DV) (h : Hp) : qd42 ih m f args h = bodyD CF ih m f args h := by
  unfold qd42
  cases Nat.blt f 24 with
  | false => exact qd44e ih m f args h
  | true => exact qd43e ih m f args h

noncomputable def qd40 (ih : FuncId → List DV → Hp → Res) (m : Nat) (f : FuncId) (args : List DV) (h : Hp) : Res :=
  bif Nat.blt f 23 then qd41 ih m f args h else qd42 ih m f args h

theorem qd40e (ih : FuncId → List DV → Hp → Res) (m : Nat) (f : FuncId) (args : List DV) (h : Hp) : qd40 ih m f args h = bodyD CF ih m f args h := by
  unfold qd40
  cases Nat.blt f 23 with
  | false => exact qd42e ih m f args h
  | true => exact qd41e ih m f args h

noncomputable def qd34 (ih : FuncId → List DV → Hp → Res) (m : Nat) (f : FuncId) (args : List DV) (h : Hp) : Res :=
  bif Nat.blt f 22 then qd35 ih m f args h else qd40 ih m f args h

theorem qd34e (ih : FuncId → List DV → Hp → Res) (m : Nat) (f : FuncId) (args : List DV) (h : Hp) : qd34 ih m f args h = bodyD CF ih m f args h := by
  unfold qd34
  cases Nat.blt f 22 with
  | false => exact qd40e ih m f args h
  | true => exact qd35e ih m f args h

noncomputable def qd24 (ih : FuncId → List DV → Hp → Res) (m : Nat) (f : FuncId) (args : List DV) (h : Hp) : Res :=
  bif Nat.blt f 19 then qd25 ih m f args h else qd34 ih m f args h

theorem qd24e (ih : FuncId → List DV → Hp → Res) (m : Nat) (f : FuncId) (args : List DV) (h : Hp) : qd24 ih m f args h = bodyD CF ih m f args h := by
  unfold qd24
  cases Nat.blt f 19 with
  | false => exact qd34e ih m f args h
  | true => exact qd25e ih m f args h

noncomputable def qd2 (ih : FuncId → List DV → Hp → Res) (m : Nat) (f : FuncId) (args : List DV) (h : Hp) : Res :=
  bif Nat.blt f 14 then qd3 ih m f args h else qd24 ih m f args h

theorem qd2e (ih : FuncId → List DV → Hp → Res) (m : Nat) (f : FuncId) (args : List DV) (h : Hp) : qd2 ih m f args h = bodyD CF ih m f args h := by
  unfold qd2
  cases Nat.blt f 14 with
  | false => exact qd24e ih m f args h
  | true => exact qd3e ih m f args h

noncomputable def qd49 (ih : FuncId → List DV → Hp → Res) (m : Nat) (f : FuncId) (args : List DV) (h : Hp) : Res :=
  bif Nat.beq f 25 then s25 ih m (args.getD 0 undefD) h else bodyD CF ih m f args h

theorem qd49e (ih : FuncId → List DV → Hp → Res) (m : Nat) (f : FuncId) (args : List DV) (h : Hp) : qd49 ih m f args h = bodyD CF ih m f args h := by
  unfold qd49
  cases e : Nat.beq f 25 with
  | false => rfl
  | true => cases Nat.eq_of_beq_eq_true e; rw [cond_true]; exact (s25ok ih m args h).symm

noncomputable def qd50 (ih : FuncId → List DV → Hp → Res) (m : Nat) (f : FuncId) (args : List DV) (h : Hp) : Res :=
  bif Nat.beq f 26 then s26 ih m (args.getD 0 undefD) h else bodyD CF ih m f args h

theorem qd50e (ih : FuncId → List DV → Hp → Res) (m : Nat) (f : FuncId) (args : List DV) (h : Hp) : qd50 ih m f args h = bodyD CF ih m f args h := by
  unfold qd50
  cases e : Nat.beq f 26 with
  | false => rfl
  | true => cases Nat.eq_of_beq_eq_true e; rw [cond_true]; exact (s26ok ih m args h).symm

noncomputable def qd48 (ih : FuncId → List DV → Hp → Res) (m : Nat) (f : FuncId) (args : List DV) (h : Hp) : Res :=
  bif Nat.blt f 26 then qd49 ih m f args h else qd50 ih m f args h

theorem qd48e (ih : FuncId → List DV → Hp → Res) (m : Nat) (f : FuncId) (args : List DV) (h : Hp) : qd48 ih m f args h = bodyD CF ih m f args h := by
  unfold qd48
  cases Nat.blt f 26 with
  | false => exact qd50e ih m f args h
  | true => exact qd49e ih m f args h

noncomputable def qd52 (ih : FuncId → List DV → Hp → Res) (m : Nat) (f : FuncId) (args : List DV) (h : Hp) : Res :=
  bif Nat.beq f 27 then s27 ih m (args.getD 0 undefD) h else bodyD CF ih m f args h

theorem qd52e (ih : FuncId → List DV → Hp → Res) (m : Nat) (f : FuncId) (args : List DV) (h : Hp) : qd52 ih m f args h = bodyD CF ih m f args h := by
  unfold qd52
  cases e : Nat.beq f 27 with
  | false => rfl
  | true => cases Nat.eq_of_beq_eq_true e; rw [cond_true]; exact (s27ok ih m args h).symm

noncomputable def qd54 (ih : FuncId → List DV → Hp → Res) (m : Nat) (f : FuncId) (args : List DV) (h : Hp) : Res :=
  bif Nat.beq f 28 then s28 ih m (args.getD 0 undefD) (args.getD 1 undefD) (args.getD 2 undefD) h else bodyD CF ih m f args h

theorem qd54e (ih : FuncId → List DV → Hp → Res) (m : Nat) (f : FuncId) (args : List DV) (h : Hp) : qd54 ih m f args h = bodyD CF ih m f args h := by
  unfold qd54
  cases e : Nat.beq f 28 with
  | false => rfl
  | true => cases Nat.eq_of_beq_eq_true e; rw [cond_true]; exact (s28ok ih m args h).symm

noncomputable def qd55 (ih : FuncId → List DV → Hp → Res) (m : Nat) (f : FuncId) (args : List DV) (h : Hp) : Res :=
  bif Nat.beq f 29 then s29 ih m (args.getD 0 undefD) h else bodyD CF ih m f args h

theorem qd55e (ih : FuncId → List DV → Hp → Res) (m : Nat) (f : FuncId) (args : List DV) (h : Hp) : qd55 ih m f args h = bodyD CF ih m f args h := by
  unfold qd55
  cases e : Nat.beq f 29 with
  | false => rfl
  | true => cases Nat.eq_of_beq_eq_true e; rw [cond_true]; exact (s29ok ih m args h).symm

noncomputable def qd53 (ih : FuncId → List DV → Hp → Res) (m : Nat) (f : FuncId) (args : List DV) (h : Hp) : Res :=
  bif Nat.blt f 29 then qd54 ih m f args h else qd55 ih m f args h

theorem qd53e (ih : FuncId → List DV → Hp → Res) (m : Nat) (f : FuncId) (args : List DV) (h : Hp) : qd53 ih m f args h = bodyD CF ih m f args h := by
  unfold qd53
  cases Nat.blt f 29 with
  | false => exact qd55e ih m f args h
  | true => exact qd54e ih m f args h

noncomputable def qd51 (ih : FuncId → List DV → Hp → Res) (m : Nat) (f : FuncId) (args : List DV) (h : Hp) : Res :=
  bif Nat.blt f 28 then qd52 ih m f args h else qd53 ih m f args h

theorem qd51e (ih : FuncId → List DV → Hp → Res) (m : Nat) (f : FuncId) (args : List DV) (h : Hp) : qd51 ih m f args h = bodyD CF ih m f args h := by
  unfold qd51
  cases Nat.blt f 28 with
  | false => exact qd53e ih m f args h
  | true => exact qd52e ih m f args h

noncomputable def qd47 (ih : FuncId → List DV → Hp → Res) (m : Nat) (f : FuncId) (args : List DV) (h : Hp) : Res :=
  bif Nat.blt f 27 then qd48 ih m f args h else qd51 ih m f args h

theorem qd47e (ih : FuncId → List DV → Hp → Res) (m : Nat) (f : FuncId) (args : List DV) (h : Hp) : qd47 ih m f args h = bodyD CF ih m f args h := by
  unfold qd47
  cases Nat.blt f 27 with
  | false => exact qd51e ih m f args h
  | true => exact qd48e ih m f args h

noncomputable def qd58 (ih : FuncId → List DV → Hp → Res) (m : Nat) (f : FuncId) (args : List DV) (h : Hp) : Res :=
  bif Nat.beq f 30 then s30 ih m (args.getD 0 undefD) h else bodyD CF ih m f args h

theorem qd58e (ih : FuncId → List DV → Hp → Res) (m : Nat) (f : FuncId) (args : List DV) (h : Hp) : qd58 ih m f args h = bodyD CF ih m f args h := by
  unfold qd58
  cases e : Nat.beq f 30 with
  | false => rfl
  | true => cases Nat.eq_of_beq_eq_true e; rw [cond_true]; exact (s30ok ih m args h).symm

noncomputable def qd60 (ih : FuncId → List DV → Hp → Res) (m : Nat) (f : FuncId) (args : List DV) (h : Hp) : Res :=
  bif Nat.beq f 31 then s31 ih m (args.getD 0 undefD) h else bodyD CF ih m f args h

theorem qd60e (ih : FuncId → List DV → Hp → Res) (m : Nat) (f : FuncId) (args : List DV) (h : Hp) : qd60 ih m f args h = bodyD CF ih m f args h := by
  unfold qd60
  cases e : Nat.beq f 31 with
  | false => rfl
  | true => cases Nat.eq_of_beq_eq_true e; rw [cond_true]; exact (s31ok ih m args h).symm

noncomputable def qd61 (ih : FuncId → List DV → Hp → Res) (m : Nat) (f : FuncId) (args : List DV) (h : Hp) : Res :=
  bif Nat.beq f 32 then s32 ih m (args.getD 0 undefD) (args.getD 1 undefD) (args.getD 2 undefD) h else bodyD CF ih m f args h

theorem qd61e (ih : FuncId → List DV → Hp → Res) (m : Nat) (f : FuncId) (args : List DV) (h : Hp) : qd61 ih m f args h = bodyD CF ih m f args h := by
  unfold qd61
  cases e : Nat.beq f 32 with
  | false => rfl
  | true => cases Nat.eq_of_beq_eq_true e; rw [cond_true]; exact (s32ok ih m args h).symm

noncomputable def qd59 (ih : FuncId → List DV → Hp → Res) (m : Nat) (f : FuncId) (args : List DV) (h : Hp) : Res :=
  bif Nat.blt f 32 then qd60 ih m f args h else qd61 ih m f args h

theorem qd59e (ih : FuncId → List DV → Hp → Res) (m : Nat) (f : FuncId) (args : List DV) (h : Hp) : qd59 ih m f args h = bodyD CF ih m f args h := by
  unfold qd59
  cases Nat.blt f 32 with
  | false => exact qd61e ih m f args h
  | true => exact qd60e ih m f args h

noncomputable def qd57 (ih : FuncId → List DV → Hp → Res) (m : Nat) (f : FuncId) (args : List DV) (h : Hp) : Res :=
  bif Nat.blt f 31 then qd58 ih m f args h else qd59 ih m f args h

theorem qd57e (ih : FuncId → List DV → Hp → Res) (m : Nat) (f : FuncId) (args : List DV) (h : Hp) : qd57 ih m f args h = bodyD CF ih m f args h := by
  unfold qd57
  cases Nat.blt f 31 with
  | false => exact qd59e ih m f args h
  | true => exact qd58e ih m f args h

noncomputable def qd63 (ih : FuncId → List DV → Hp → Res) (m : Nat) (f : FuncId) (args : List DV) (h : Hp) : Res :=
  bif Nat.beq f 33 then s33 ih m (args.getD 0 undefD) h else bodyD CF ih m f args h

theorem qd63e (ih : FuncId → List DV → Hp → Res) (m : Nat) (f : FuncId) (args : List DV) (h : Hp) : qd63 ih m f args h = bodyD CF ih m f args h := by
  unfold qd63
  cases e : Nat.beq f 33 with
  | false => rfl
  | true => cases Nat.eq_of_beq_eq_true e; rw [cond_true]; exact (s33ok ih m args h).symm

noncomputable def qd65 (ih : FuncId → List DV → Hp → Res) (m : Nat) (f : FuncId) (args : List DV) (h : Hp) : Res :=
  bif Nat.beq f 34 then s34 ih m (args.getD 0 undefD) (args.getD 1 undefD) h else bodyD CF ih m f args h

theorem qd65e (ih : FuncId → List DV → Hp → Res) (m : Nat) (f : FuncId) (args : List DV) (h : Hp) : qd65 ih m f args h = bodyD CF ih m f args h := by
  unfold qd65
  cases e : Nat.beq f 34 with
  | false => rfl
  | true => cases Nat.eq_of_beq_eq_true e; rw [cond_true]; exact (s34ok ih m args h).symm

noncomputable def qd66 (ih : FuncId → List DV → Hp → Res) (m : Nat) (f : FuncId) (args : List DV) (h : Hp) : Res :=
  bif Nat.beq f 35 then s35 ih m (args.getD 0 undefD) (args.getD 1 undefD) h else bodyD CF ih m f args h

theorem qd66e (ih : FuncId → List DV → Hp → Res) (m : Nat) (f : FuncId) (args : List DV) (h : Hp) : qd66 ih m f args h = bodyD CF ih m f args h := by
  unfold qd66
  cases e : Nat.beq f 35 with
  | false => rfl
  | true => cases Nat.eq_of_beq_eq_true e; rw [cond_true]; exact (s35ok ih m args h).symm

noncomputable def qd64 (ih : FuncId → List DV → Hp → Res) (m : Nat) (f : FuncId) (args : List DV) (h : Hp) : Res :=
  bif Nat.blt f 35 then qd65 ih m f args h else qd66 ih m f args h

theorem qd64e (ih : FuncId → List DV → Hp → Res) (m : Nat) (f : FuncId) (args : List DV) (h : Hp) : qd64 ih m f args h = bodyD CF ih m f args h := by
  unfold qd64
  cases Nat.blt f 35 with
  | false => exact qd66e ih m f args h
  | true => exact qd65e ih m f args h

noncomputable def qd62 (ih : FuncId → List DV → Hp → Res) (m : Nat) (f : FuncId) (args : List DV) (h : Hp) : Res :=
  bif Nat.blt f 34 then qd63 ih m f args h else qd64 ih m f args h

theorem qd62e (ih : FuncId → List DV → Hp → Res) (m : Nat) (f : FuncId) (args : List DV) (h : Hp) : qd62 ih m f args h = bodyD CF ih m f args h := by
  unfold qd62
  cases Nat.blt f 34 with
  | false => exact qd64e ih m f args h
  | true => exact qd63e ih m f args h

noncomputable def qd56 (ih : FuncId → List DV → Hp → Res) (m : Nat) (f : FuncId) (args : List DV) (h : Hp) : Res :=
  bif Nat.blt f 33 then qd57 ih m f args h else qd62 ih m f args h

theorem qd56e (ih : FuncId → List DV → Hp → Res) (m : Nat) (f : FuncId) (args : List DV) (h : Hp) : qd56 ih m f args h = bodyD CF ih m f args h := by
  unfold qd56
  cases Nat.blt f 33 with
  | false => exact qd62e ih m f args h
  | true => exact qd57e ih m f args h

noncomputable def qd46 (ih : FuncId → List DV → Hp → Res) (m : Nat) (f : FuncId) (args : List DV) (h : Hp) : Res :=
  bif Nat.blt f 30 then qd47 ih m f args h else qd56 ih m f args h

theorem qd46e (ih : FuncId → List DV → Hp → Res) (m : Nat) (f : FuncId) (args : List DV) (h : Hp) : qd46 ih m f args h = bodyD CF ih m f args h := by
  unfold qd46
  cases Nat.blt f 30 with
  | false => exact qd56e ih m f args h
  | true => exact qd47e ih m f args h

noncomputable def qd70 (ih : FuncId → List DV → Hp → Res) (m : Nat) (f : FuncId) (args : List DV) (h : Hp) : Res :=
  bif Nat.beq f 36 then s36 ih m (args.getD 0 undefD) (args.getD 1 undefD) h else bodyD CF ih m f args h

theorem qd70e (ih : FuncId → List DV → Hp → Res) (m : Nat) (f : FuncId) (args : List DV) (h : Hp) : qd70 ih m f args h = bodyD CF ih m f args h := by
  unfold qd70
  cases e : Nat.beq f 36 with
  | false => rfl
  | true => cases Nat.eq_of_beq_eq_true e; rw [cond_true]; exact (s36ok ih m args h).symm

noncomputable def qd72 (ih : FuncId → List DV → Hp → Res) (m : Nat) (f : FuncId) (args : List DV) (h : Hp) : Res :=
  bif Nat.beq f 37 then s37 ih m (args.getD 0 undefD) (args.getD 1 undefD) h else bodyD CF ih m f args h

theorem qd72e (ih : FuncId → List DV → Hp → Res) (m : Nat) (f : FuncId) (args : List DV) (h : Hp) : qd72 ih m f args h = bodyD CF ih m f args h := by
  unfold qd72
  cases e : Nat.beq f 37 with
  | false => rfl
  | true => cases Nat.eq_of_beq_eq_true e; rw [cond_true]; exact (s37ok ih m args h).symm

noncomputable def qd73 (ih : FuncId → List DV → Hp → Res) (m : Nat) (f : FuncId) (args : List DV) (h : Hp) : Res :=
  bif Nat.beq f 38 then s38 ih m (args.getD 0 undefD) (args.getD 1 undefD) h else bodyD CF ih m f args h

theorem qd73e (ih : FuncId → List DV → Hp → Res) (m : Nat) (f : FuncId) (args : List DV) (h : Hp) : qd73 ih m f args h = bodyD CF ih m f args h := by
  unfold qd73
  cases e : Nat.beq f 38 with
  | false => rfl
  | true => cases Nat.eq_of_beq_eq_true e; rw [cond_true]; exact (s38ok ih m args h).symm

noncomputable def qd71 (ih : FuncId → List DV → Hp → Res) (m : Nat) (f : FuncId) (args : List DV) (h : Hp) : Res :=
  bif Nat.blt f 38 then qd72 ih m f args h else qd73 ih m f args h

theorem qd71e (ih : FuncId → List DV → Hp → Res) (m : Nat) (f : FuncId) (args : List DV) (h : Hp) : qd71 ih m f args h = bodyD CF ih m f args h := by
  unfold qd71
  cases Nat.blt f 38 with
  | false => exact qd73e ih m f args h
  | true => exact qd72e ih m f args h

noncomputable def qd69 (ih : FuncId → List DV → Hp → Res) (m : Nat) (f : FuncId) (args : List DV) (h : Hp) : Res :=
  bif Nat.blt f 37 then qd70 ih m f args h else qd71 ih m f args h

theorem qd69e (ih : FuncId → List DV → Hp → Res) (m : Nat) (f : FuncId) (args : List DV) (h : Hp) : qd69 ih m f args h = bodyD CF ih m f args h := by
  unfold qd69
  cases Nat.blt f 37 with
  | false => exact qd71e ih m f args h
  | true => exact qd70e ih m f args h

noncomputable def qd75 (ih : FuncId → List DV → Hp → Res) (m : Nat) (f : FuncId) (args : List DV) (h : Hp) : Res :=
  bif Nat.beq f 39 then s39 ih m (args.getD 0 undefD) (args.getD 1 undefD) h else bodyD CF ih m f args h

theorem qd75e (ih : FuncId → List DV → Hp → Res) (m : Nat) (f : FuncId) (args : List DV) (h : Hp) : qd75 ih m f args h = bodyD CF ih m f args h := by
  unfold qd75
  cases e : Nat.beq f 39 with
  | false => rfl
  | true => cases Nat.eq_of_beq_eq_true e; rw [cond_true]; exact (s39ok ih m args h).symm

noncomputable def qd77 (ih : FuncId → List DV → Hp → Res) (m : Nat) (f : FuncId) (args : List DV) (h : Hp) : Res :=
  bif Nat.beq f 40 then s40 ih m (args.getD 0 undefD) h else bodyD CF ih m f args h

theorem qd77e (ih : FuncId → List DV → Hp → Res) (m : Nat) (f : FuncId) (args : List DV) (h : Hp) : qd77 ih m f args h = bodyD CF ih m f args h := by
  unfold qd77
  cases e : Nat.beq f 40 with
  | false => rfl
  | true => cases Nat.eq_of_beq_eq_true e; rw [cond_true]; exact (s40ok ih m args h).symm

noncomputable def qd78 (ih : FuncId → List DV → Hp → Res) (m : Nat) (f : FuncId) (args : List DV) (h : Hp) : Res :=
  bif Nat.beq f 41 then s41 ih m (args.getD 0 undefD) (args.getD 1 undefD) (args.getD 2 undefD) h else bodyD CF ih m f args h

theorem qd78e (ih : FuncId → List DV → Hp → Res) (m : Nat) (f : FuncId) (args : List DV) (h : Hp) : qd78 ih m f args h = bodyD CF ih m f args h := by
  unfold qd78
  cases e : Nat.beq f 41 with
  | false => rfl
  | true => cases Nat.eq_of_beq_eq_true e; rw [cond_true]; exact (s41ok ih m args h).symm

noncomputable def qd76 (ih : FuncId → List DV → Hp → Res) (m : Nat) (f : FuncId) (args : List DV) (h : Hp) : Res :=
  bif Nat.blt f 41 then qd77 ih m f args h else qd78 ih m f args h

theorem qd76e (ih : FuncId → List DV → Hp → Res) (m : Nat) (f : FuncId) (args : List DV) (h : Hp) : qd76 ih m f args h = bodyD CF ih m f args h := by
  unfold qd76
  cases Nat.blt f 41 with
  | false => exact qd78e ih m f args h
  | true => exact qd77e ih m f args h

noncomputable def qd74 (ih : FuncId → List DV → Hp → Res) (m : Nat) (f : FuncId) (args : List DV) (h : Hp) : Res :=
  bif Nat.blt f 40 then qd75 ih m f args h else qd76 ih m f args h

theorem qd74e (ih : FuncId → List DV → Hp → Res) (m : Nat) (f : FuncId) (args : List DV) (h : Hp) : qd74 ih m f args h = bodyD CF ih m f args h := by
  unfold qd74
  cases Nat.blt f 40 with
  | false => exact qd76e ih m f args h
  | true => exact qd75e ih m f args h

noncomputable def qd68 (ih : FuncId → List DV → Hp → Res) (m : Nat) (f : FuncId) (args : List DV) (h : Hp) : Res :=
  bif Nat.blt f 39 then qd69 ih m f args h else qd74 ih m f args h

theorem qd68e (ih : FuncId → List DV → Hp → Res) (m : Nat) (f : FuncId) (args : List DV) (h : Hp) : qd68 ih m f args h = bodyD CF ih m f args h := by
  unfold qd68
  cases Nat.blt f 39 with
  | false => exact qd74e ih m f args h
  | true => exact qd69e ih m f args h

noncomputable def qd81 (ih : FuncId → List DV → Hp → Res) (m : Nat) (f : FuncId) (args : List DV) (h : Hp) : Res :=
  bif Nat.beq f 42 then s42 ih m (args.getD 0 undefD) h else bodyD CF ih m f args h

theorem qd81e (ih : FuncId → List DV → Hp → Res) (m : Nat) (f : FuncId) (args : List DV) (h : Hp) : qd81 ih m f args h = bodyD CF ih m f args h := by
  unfold qd81
  cases e : Nat.beq f 42 with
  | false => rfl
  | true => cases Nat.eq_of_beq_eq_true e; rw [cond_true]; exact (s42ok ih m args h).symm

noncomputable def qd83 (ih : FuncId → List DV → Hp → Res) (m : Nat) (f : FuncId) (args : List DV) (h : Hp) : Res :=
  bif Nat.beq f 43 then s43 ih m (args.getD 0 undefD) (args.getD 1 undefD) (args.getD 2 undefD) h else bodyD CF ih m f args h

theorem qd83e (ih : FuncId → List DV → Hp → Res) (m : Nat) (f : FuncId) (args : List DV) (h : Hp) : qd83 ih m f args h = bodyD CF ih m f args h := by
  unfold qd83
  cases e : Nat.beq f 43 with
  | false => rfl
  | true => cases Nat.eq_of_beq_eq_true e; rw [cond_true]; exact (s43ok ih m args h).symm

noncomputable def qd84 (ih : FuncId → List DV → Hp → Res) (m : Nat) (f : FuncId) (args : List DV) (h : Hp) : Res :=
  bif Nat.beq f 44 then s44 ih m (args.getD 0 undefD) (args.getD 1 undefD) (args.getD 2 undefD) h else bodyD CF ih m f args h

theorem qd84e (ih : FuncId → List DV → Hp → Res) (m : Nat) (f : FuncId) (args : List DV) (h : Hp) : qd84 ih m f args h = bodyD CF ih m f args h := by
  unfold qd84
  cases e : Nat.beq f 44 with
  | false => rfl
  | true => cases Nat.eq_of_beq_eq_true e; rw [cond_true]; exact (s44ok ih m args h).symm

noncomputable def qd82 (ih : FuncId → List DV → Hp → Res) (m : Nat) (f : FuncId) (args : List DV) (h : Hp) : Res :=
  bif Nat.blt f 44 then qd83 ih m f args h else qd84 ih m f args h

theorem qd82e (ih : FuncId → List DV → Hp → Res) (m : Nat) (f : FuncId) (args : List DV) (h : Hp) : qd82 ih m f args h = bodyD CF ih m f args h := by
  unfold qd82
  cases Nat.blt f 44 with
  | false => exact qd84e ih m f args h
  | true => exact qd83e ih m f args h

noncomputable def qd80 (ih : FuncId → List DV → Hp → Res) (m : Nat) (f : FuncId) (args : List DV) (h : Hp) : Res :=
  bif Nat.blt f 43 then qd81 ih m f args h else qd82 ih m f args h

theorem qd80e (ih : FuncId → List DV → Hp → Res) (m : Nat) (f : FuncId) (args : List DV) (h : Hp) : qd80 ih m f args h = bodyD CF ih m f args h := by
  unfold qd80
  cases Nat.blt f 43 with
  | false => exact qd82e ih m f args h
  | true => exact qd81e ih m f args h

noncomputable def qd86 (ih : FuncId → List DV → Hp → Res) (m : Nat) (f : FuncId) (args : List DV) (h : Hp) : Res :=
  bif Nat.beq f 45 then s45 ih m (args.getD 0 undefD) h else bodyD CF ih m f args h

theorem qd86e (ih : FuncId → List DV → Hp → Res) (m : Nat) (f : FuncId) (args : List DV) (h : Hp) : qd86 ih m f args h = bodyD CF ih m f args h := by
  unfold qd86
  cases e : Nat.beq f 45 with
  | false => rfl
  | true => cases Nat.eq_of_beq_eq_true e; rw [cond_true]; exact (s45ok ih m args h).symm

noncomputable def qd88 (ih : FuncId → List DV → Hp → Res) (m : Nat) (f : FuncId) (args : List DV) (h : Hp) : Res :=
  bif Nat.beq f 46 then s46 ih m (args.getD 0 undefD) (args.getD 1 undefD) h else bodyD CF ih m f args h

theorem qd88e (ih : FuncId → List DV → Hp → Res) (m : Nat) (f : FuncId) (args : List DV) (h : Hp) : qd88 ih m f args h = bodyD CF ih m f args h := by
  unfold qd88
  cases e : Nat.beq f 46 with
  | false => rfl
  | true => cases Nat.eq_of_beq_eq_true e; rw [cond_true]; exact (s46ok ih m args h).symm

noncomputable def qd89 (ih : FuncId → List DV → Hp → Res) (m : Nat) (f : FuncId) (args : List DV) (h : Hp) : Res :=
  bif Nat.beq f 47 then s47 ih m (args.getD 0 undefD) (args.getD 1 undefD) (args.getD 2 undefD) h else bodyD CF ih m f args h

theorem qd89e (ih : FuncId → List DV → Hp → Res) (m : Nat) (f : FuncId) (args : List DV) (h : Hp) : qd89 ih m f args h = bodyD CF ih m f args h := by
  unfold qd89
  cases e : Nat.beq f 47 with
  | false => rfl
  | true => cases Nat.eq_of_beq_eq_true e; rw [cond_true]; exact (s47ok ih m args h).symm

noncomputable def qd87 (ih : FuncId → List DV → Hp → Res) (m : Nat) (f : FuncId) (args : List DV) (h : Hp) : Res :=
  bif Nat.blt f 47 then qd88 ih m f args h else qd89 ih m f args h

theorem qd87e (ih : FuncId → List DV → Hp → Res) (m : Nat) (f : FuncId) (args : List DV) (h : Hp) : qd87 ih m f args h = bodyD CF ih m f args h := by
  unfold qd87
  cases Nat.blt f 47 with
  | false => exact qd89e ih m f args h
  | true => exact qd88e ih m f args h

noncomputable def qd85 (ih : FuncId → List DV → Hp → Res) (m : Nat) (f : FuncId) (args : List DV) (h : Hp) : Res :=
  bif Nat.blt f 46 then qd86 ih m f args h else qd87 ih m f args h

theorem qd85e (ih : FuncId → List DV → Hp → Res) (m : Nat) (f : FuncId) (args : List DV) (h : Hp) : qd85 ih m f args h = bodyD CF ih m f args h := by
  unfold qd85
  cases Nat.blt f 46 with
  | false => exact qd87e ih m f args h
  | true => exact qd86e ih m f args h

noncomputable def qd79 (ih : FuncId → List DV → Hp → Res) (m : Nat) (f : FuncId) (args : List DV) (h : Hp) : Res :=
  bif Nat.blt f 45 then qd80 ih m f args h else qd85 ih m f args h

theorem qd79e (ih : FuncId → List DV → Hp → Res) (m : Nat) (f : FuncId) (args : List DV) (h : Hp) : qd79 ih m f args h = bodyD CF ih m f args h := by
  unfold qd79
  cases Nat.blt f 45 with
  | false => exact qd85e ih m f args h
  | true => exact qd80e ih m f args h

noncomputable def qd67 (ih : FuncId → List DV → Hp → Res) (m : Nat) (f : FuncId) (args : List DV) (h : Hp) : Res :=
  bif Nat.blt f 42 then qd68 ih m f args h else qd79 ih m f args h

theorem qd67e (ih : FuncId → List DV → Hp → Res) (m : Nat) (f : FuncId) (args : List DV) (h : Hp) : qd67 ih m f args h = bodyD CF ih m f args h := by
  unfold qd67
  cases Nat.blt f 42 with
  | false => exact qd79e ih m f args h
  | true => exact qd68e ih m f args h

noncomputable def qd45 (ih : FuncId → List DV → Hp → Res) (m : Nat) (f : FuncId) (args : List DV) (h : Hp) : Res :=
  bif Nat.blt f 36 then qd46 ih m f args h else qd67 ih m f args h

theorem qd45e (ih : FuncId → List DV → Hp → Res) (m : Nat) (f : FuncId) (args : List DV) (h : Hp) : qd45 ih m f args h = bodyD CF ih m f args h := by
  unfold qd45
  cases Nat.blt f 36 with
  | false => exact qd67e ih m f args h
  | true => exact qd46e ih m f args h

noncomputable def qd1 (ih : FuncId → List DV → Hp → Res) (m : Nat) (f : FuncId) (args : List DV) (h : Hp) : Res :=
  bif Nat.blt f 25 then qd2 ih m f args h else qd45 ih m f args h

theorem qd1e (ih : FuncId → List DV → Hp → Res) (m : Nat) (f : FuncId) (args : List DV) (h : Hp) : qd1 ih m f args h = bodyD CF ih m f args h := by
  unfold qd1
  cases Nat.blt f 25 with
  | false => exact qd45e ih m f args h
  | true => exact qd2e ih m f args h

noncomputable def qd95 (ih : FuncId → List DV → Hp → Res) (m : Nat) (f : FuncId) (args : List DV) (h : Hp) : Res :=
  bif Nat.beq f 48 then s48 ih m (args.getD 0 undefD) h else bodyD CF ih m f args h

theorem qd95e (ih : FuncId → List DV → Hp → Res) (m : Nat) (f : FuncId) (args : List DV) (h : Hp) : qd95 ih m f args h = bodyD CF ih m f args h := by
  unfold qd95
  cases e : Nat.beq f 48 with
  | false => rfl
  | true => cases Nat.eq_of_beq_eq_true e; rw [cond_true]; exact (s48ok ih m args h).symm

noncomputable def qd96 (ih : FuncId → List DV → Hp → Res) (m : Nat) (f : FuncId) (args : List DV) (h : Hp) : Res :=
  bif Nat.beq f 49 then s49 ih m (args.getD 0 undefD) (args.getD 1 undefD) h else bodyD CF ih m f args h

theorem qd96e (ih : FuncId → List DV → Hp → Res) (m : Nat) (f : FuncId) (args : List DV) (h : Hp) : qd96 ih m f args h = bodyD CF ih m f args h := by
  unfold qd96
  cases e : Nat.beq f 49 with
  | false => rfl
  | true => cases Nat.eq_of_beq_eq_true e; rw [cond_true]; exact (s49ok ih m args h).symm

noncomputable def qd94 (ih : FuncId → List DV → Hp → Res) (m : Nat) (f : FuncId) (args : List DV) (h : Hp) : Res :=
  bif Nat.blt f 49 then qd95 ih m f args h else qd96 ih m f args h

theorem qd94e (ih : FuncId → List DV → Hp → Res) (m : Nat) (f : FuncId) (args : List DV) (h : Hp) : qd94 ih m f args h = bodyD CF ih m f args h := by
  unfold qd94
  cases Nat.blt f 49 with
  | false => exact qd96e ih m f args h
  | true => exact qd95e ih m f args h

noncomputable def qd98 (ih : FuncId → List DV → Hp → Res) (m : Nat) (f : FuncId) (args : List DV) (h : Hp) : Res :=
  bif Nat.beq f 50 then s50 ih m (args.getD 0 undefD) h else bodyD CF ih m f args h

theorem qd98e (ih : FuncId → List DV → Hp → Res) (m : Nat) (f : FuncId) (args : List DV) (h : Hp) : qd98 ih m f args h = bodyD CF ih m f args h := by
  unfold qd98
  cases e : Nat.beq f 50 with
  | false => rfl
  | true => cases Nat.eq_of_beq_eq_true e; rw [cond_true]; exact (s50ok ih m args h).symm

noncomputable def qd100 (ih : FuncId → List DV → Hp → Res) (m : Nat) (f : FuncId) (args : List DV) (h : Hp) : Res :=
  bif Nat.beq f 51 then s51 ih m (args.getD 0 undefD) (args.getD 1 undefD) (args.getD 2 undefD) h else bodyD CF ih m f args h

theorem qd100e (ih : FuncId → List DV → Hp → Res) (m : Nat) (f : FuncId) (args : List DV) (h : Hp) : qd100 ih m f args h = bodyD CF ih m f args h := by
  unfold qd100
  cases e : Nat.beq f 51 with
  | false => rfl
  | true => cases Nat.eq_of_beq_eq_true e; rw [cond_true]; exact (s51ok ih m args h).symm

noncomputable def qd101 (ih : FuncId → List DV → Hp → Res) (m : Nat) (f : FuncId) (args : List DV) (h : Hp) : Res :=
  bif Nat.beq f 52 then s52 ih m (args.getD 0 undefD) h else bodyD CF ih m f args h

theorem qd101e (ih : FuncId → List DV → Hp → Res) (m : Nat) (f : FuncId) (args : List DV) (h : Hp) : qd101 ih m f args h = bodyD CF ih m f args h := by
  unfold qd101
  cases e : Nat.beq f 52 with
  | false => rfl
  | true => cases Nat.eq_of_beq_eq_true e; rw [cond_true]; exact (s52ok ih m args h).symm

noncomputable def qd99 (ih : FuncId → List DV → Hp → Res) (m : Nat) (f : FuncId) (args : List DV) (h : Hp) : Res :=
  bif Nat.blt f 52 then qd100 ih m f args h else qd101 ih m f args h

theorem qd99e (ih : FuncId → List DV → Hp → Res) (m : Nat) (f : FuncId) (args : List DV) (h : Hp) : qd99 ih m f args h = bodyD CF ih m f args h := by
  unfold qd99
  cases Nat.blt f 52 with
  | false => exact qd101e ih m f args h
  | true => exact qd100e ih m f args h

noncomputable def qd97 (ih : FuncId → List DV → Hp → Res) (m : Nat) (f : FuncId) (args : List DV) (h : Hp) : Res :=
  bif Nat.blt f 51 then qd98 ih m f args h else qd99 ih m f args h

theorem qd97e (ih : FuncId → List DV → Hp → Res) (m : Nat) (f : FuncId) (args : List DV) (h : Hp) : qd97 ih m f args h = bodyD CF ih m f args h := by
  unfold qd97
  cases Nat.blt f 51 with
  | false => exact qd99e ih m f args h
  | true => exact qd98e ih m f args h

noncomputable def qd93 (ih : FuncId → List DV → Hp → Res) (m : Nat) (f : FuncId) (args : List DV) (h : Hp) : Res :=
  bif Nat.blt f 50 then qd94 ih m f args h else qd97 ih m f args h

theorem qd93e (ih : FuncId → List DV → Hp → Res) (m : Nat) (f : FuncId) (args : List DV) (h : Hp) : qd93 ih m f args h = bodyD CF ih m f args h := by
  unfold qd93
  cases Nat.blt f 50 with
  | false => exact qd97e ih m f args h
  | true => exact qd94e ih m f args h

noncomputable def qd104 (ih : FuncId → List DV → Hp → Res) (m : Nat) (f : FuncId) (args : List DV) (h : Hp) : Res :=
  bif Nat.beq f 53 then s53 ih m (args.getD 0 undefD) h else bodyD CF ih m f args h

theorem qd104e (ih : FuncId → List DV → Hp → Res) (m : Nat) (f : FuncId) (args : List DV) (h : Hp) : qd104 ih m f args h = bodyD CF ih m f args h := by
  unfold qd104
  cases e : Nat.beq f 53 with
  | false => rfl
  | true => cases Nat.eq_of_beq_eq_true e; rw [cond_true]; exact (s53ok ih m args h).symm

noncomputable def qd106 (ih : FuncId → List DV → Hp → Res) (m : Nat) (f : FuncId) (args : List DV) (h : Hp) : Res :=
  bif Nat.beq f 54 then s54 ih m (args.getD 0 undefD) (args.getD 1 undefD) (args.getD 2 undefD) h else bodyD CF ih m f args h

theorem qd106e (ih : FuncId → List DV → Hp → Res) (m : Nat) (f : FuncId) (args : List DV) (h : Hp) : qd106 ih m f args h = bodyD CF ih m f args h := by
  unfold qd106
  cases e : Nat.beq f 54 with
  | false => rfl
  | true => cases Nat.eq_of_beq_eq_true e; rw [cond_true]; exact (s54ok ih m args h).symm

noncomputable def qd107 (ih : FuncId → List DV → Hp → Res) (m : Nat) (f : FuncId) (args : List DV) (h : Hp) : Res :=
  bif Nat.beq f 55 then s55 ih m (args.getD 0 undefD) (args.getD 1 undefD) h else bodyD CF ih m f args h

theorem qd107e (ih : FuncId → List DV → Hp → Res) (m : Nat) (f : FuncId) (args : List DV) (h : Hp) : qd107 ih m f args h = bodyD CF ih m f args h := by
  unfold qd107
  cases e : Nat.beq f 55 with
  | false => rfl
  | true => cases Nat.eq_of_beq_eq_true e; rw [cond_true]; exact (s55ok ih m args h).symm

noncomputable def qd105 (ih : FuncId → List DV → Hp → Res) (m : Nat) (f : FuncId) (args : List DV) (h : Hp) : Res :=
  bif Nat.blt f 55 then qd106 ih m f args h else qd107 ih m f args h

theorem qd105e (ih : FuncId → List DV → Hp → Res) (m : Nat) (f : FuncId) (args : List DV) (h : Hp) : qd105 ih m f args h = bodyD CF ih m f args h := by
  unfold qd105
  cases Nat.blt f 55 with
  | false => exact qd107e ih m f args h
  | true => exact qd106e ih m f args h

noncomputable def qd103 (ih : FuncId → List DV → Hp → Res) (m : Nat) (f : FuncId) (args : List DV) (h : Hp) : Res :=
  bif Nat.blt f 54 then qd104 ih m f args h else qd105 ih m f args h

theorem qd103e (ih : FuncId → List DV → Hp → Res) (m : Nat) (f : FuncId) (args : List DV) (h : Hp) : qd103 ih m f args h = bodyD CF ih m f args h := by
  unfold qd103
  cases Nat.blt f 54 with
  | false => exact qd105e ih m f args h
  | true => exact qd104e ih m f args h

noncomputable def qd109 (ih : FuncId → List DV → Hp → Res) (m : Nat) (f : FuncId) (args : List DV) (h : Hp) : Res :=
  bif Nat.beq f 56 then s56 ih m (args.getD 0 undefD) (args.getD 1 undefD) (args.getD 2 undefD) h else bodyD CF ih m f args h

theorem qd109e (ih : FuncId → List DV → Hp → Res) (m : Nat) (f : FuncId) (args : List DV) (h : Hp) : qd109 ih m f args h = bodyD CF ih m f args h := by
  unfold qd109
  cases e : Nat.beq f 56 with
  | false => rfl
  | true => cases Nat.eq_of_beq_eq_true e; rw [cond_true]; exact (s56ok ih m args h).symm

noncomputable def qd111 (ih : FuncId → List DV → Hp → Res) (m : Nat) (f : FuncId) (args : List DV) (h : Hp) : Res :=
  bif Nat.beq f 57 then s57 ih m (args.getD 0 undefD) h else bodyD CF ih m f args h

theorem qd111e (ih : FuncId → List DV → Hp → Res) (m : Nat) (f : FuncId) (args : List DV) (h : Hp) : qd111 ih m f args h = bodyD CF ih m f args h := by
  unfold qd111
  cases e : Nat.beq f 57 with
  | false => rfl
  | true => cases Nat.eq_of_beq_eq_true e; rw [cond_true]; exact (s57ok ih m args h).symm

noncomputable def qd112 (ih : FuncId → List DV → Hp → Res) (m : Nat) (f : FuncId) (args : List DV) (h : Hp) : Res :=
  bif Nat.beq f 58 then s58 ih m (args.getD 0 undefD) (args.getD 1 undefD) h else bodyD CF ih m f args h

theorem qd112e (ih : FuncId → List DV → Hp → Res) (m : Nat) (f : FuncId) (args : List DV) (h : Hp) : qd112 ih m f args h = bodyD CF ih m f args h := by
  unfold qd112
  cases e : Nat.beq f 58 with
  | false => rfl
  | true => cases Nat.eq_of_beq_eq_true e; rw [cond_true]; exact (s58ok ih m args h).symm

noncomputable def qd110 (ih : FuncId → List DV → Hp → Res) (m : Nat) (f : FuncId) (args : List DV) (h : Hp) : Res :=
  bif Nat.blt f 58 then qd111 ih m f args h else qd112 ih m f args h

theorem qd110e (ih : FuncId → List DV → Hp → Res) (m : Nat) (f : FuncId) (args : List DV) (h : Hp) : qd110 ih m f args h = bodyD CF ih m f args h := by
  unfold qd110
  cases Nat.blt f 58 with
  | false => exact qd112e ih m f args h
  | true => exact qd111e ih m f args h

noncomputable def qd108 (ih : FuncId → List DV → Hp → Res) (m : Nat) (f : FuncId) (args : List DV) (h : Hp) : Res :=
  bif Nat.blt f 57 then qd109 ih m f args h else qd110 ih m f args h

theorem qd108e (ih : FuncId → List DV → Hp → Res) (m : Nat) (f : FuncId) (args : List DV) (h : Hp) : qd108 ih m f args h = bodyD CF ih m f args h := by
  unfold qd108
  cases Nat.blt f 57 with
  | false => exact qd110e ih m f args h
  | true => exact qd109e ih m f args h

noncomputable def qd102 (ih : FuncId → List DV → Hp → Res) (m : Nat) (f : FuncId) (args : List DV) (h : Hp) : Res :=
  bif Nat.blt f 56 then qd103 ih m f args h else qd108 ih m f args h

theorem qd102e (ih : FuncId → List DV → Hp → Res) (m : Nat) (f : FuncId) (args : List DV) (h : Hp) : qd102 ih m f args h = bodyD CF ih m f args h := by
  unfold qd102
  cases Nat.blt f 56 with
  | false => exact qd108e ih m f args h
  | true => exact qd103e ih m f args h

noncomputable def qd92 (ih : FuncId → List DV → Hp → Res) (m : Nat) (f : FuncId) (args : List DV) (h : Hp) : Res :=
  bif Nat.blt f 53 then qd93 ih m f args h else qd102 ih m f args h

theorem qd92e (ih : FuncId → List DV → Hp → Res) (m : Nat) (f : FuncId) (args : List DV) (h : Hp) : qd92 ih m f args h = bodyD CF ih m f args h := by
  unfold qd92
  cases Nat.blt f 53 with
  | false => exact qd102e ih m f args h
  | true => exact qd93e ih m f args h

noncomputable def qd116 (ih : FuncId → List DV → Hp → Res) (m : Nat) (f : FuncId) (args : List DV) (h : Hp) : Res :=
  bif Nat.beq f 59 then s59 ih m (args.getD 0 undefD) (args.getD 1 undefD) h else bodyD CF ih m f args h

theorem qd116e (ih : FuncId → List DV → Hp → Res) (m : Nat) (f : FuncId) (args : List DV) (h : Hp) : qd116 ih m f args h = bodyD CF ih m f args h := by
  unfold qd116
  cases e : Nat.beq f 59 with
  | false => rfl
  | true => cases Nat.eq_of_beq_eq_true e; rw [cond_true]; exact (s59ok ih m args h).symm

noncomputable def qd117 (ih : FuncId → List DV → Hp → Res) (m : Nat) (f : FuncId) (args : List DV) (h : Hp) : Res :=
  bif Nat.beq f 60 then s60 ih m (args.getD 0 undefD) (args.getD 1 undefD) h else bodyD CF ih m f args h

theorem qd117e (ih : FuncId → List DV → Hp → Res) (m : Nat) (f : FuncId) (args : List DV) (h : Hp) : qd117 ih m f args h = bodyD CF ih m f args h := by
  unfold qd117
  cases e : Nat.beq f 60 with
  | false => rfl
  | true => cases Nat.eq_of_beq_eq_true e; rw [cond_true]; exact (s60ok ih m args h).symm

noncomputable def qd115 (ih : FuncId → List DV → Hp → Res) (m : Nat) (f : FuncId) (args : List DV) (h : Hp) : Res :=
  bif Nat.blt f 60 then qd116 ih m f args h else qd117 ih m f args h

theorem qd115e (ih : FuncId → List DV → Hp → Res) (m : Nat) (f : FuncId) (args : List DV) (h : Hp) : qd115 ih m f args h = bodyD CF ih m f args h := by
  unfold qd115
  cases Nat.blt f 60 with
  | false => exact qd117e ih m f args h
  | true => exact qd116e ih m f args h

noncomputable def qd119 (ih : FuncId → List DV → Hp → Res) (m : Nat) (f : FuncId) (args : List DV) (h : Hp) : Res :=
  bif Nat.beq f 61 then s61 ih m (args.getD 0 undefD) h else bodyD CF ih m f args h

theorem qd119e (ih : FuncId → List DV → Hp → Res) (m : Nat) (f : FuncId) (args : List DV) (h : Hp) : qd119 ih m f args h = bodyD CF ih m f args h := by
  unfold qd119
  cases e : Nat.beq f 61 with
  | false => rfl
  | true => cases Nat.eq_of_beq_eq_true e; rw [cond_true]; exact (s61ok ih m args h).symm

noncomputable def qd121 (ih : FuncId → List DV → Hp → Res) (m : Nat) (f : FuncId) (args : List DV) (h : Hp) : Res :=
  bif Nat.beq f 62 then s62 ih m (args.getD 0 undefD) (args.getD 1 undefD) h else bodyD CF ih m f args h

theorem qd121e (ih : FuncId → List DV → Hp → Res) (m : Nat) (f : FuncId) (args : List DV) (h : Hp) : qd121 ih m f args h = bodyD CF ih m f args h := by
  unfold qd121
  cases e : Nat.beq f 62 with
  | false => rfl
  | true => cases Nat.eq_of_beq_eq_true e; rw [cond_true]; exact (s62ok ih m args h).symm

noncomputable def qd122 (ih : FuncId → List DV → Hp → Res) (m : Nat) (f : FuncId) (args : List DV) (h : Hp) : Res :=
  bif Nat.beq f 63 then s63 ih m (args.getD 0 undefD) (args.getD 1 undefD) h else bodyD CF ih m f args h

theorem qd122e (ih : FuncId → List DV → Hp → Res) (m : Nat) (f : FuncId) (args : List DV) (h : Hp) : qd122 ih m f args h = bodyD CF ih m f args h := by
  unfold qd122
  cases e : Nat.beq f 63 with
  | false => rfl
  | true => cases Nat.eq_of_beq_eq_true e; rw [cond_true]; exact (s63ok ih m args h).symm

noncomputable def qd120 (ih : FuncId → List DV → Hp → Res) (m : Nat) (f : FuncId) (args : List DV) (h : Hp) : Res :=
  bif Nat.blt f 63 then qd121 ih m f args h else qd122 ih m f args h

theorem qd120e (ih : FuncId → List DV → Hp → Res) (m : Nat) (f : FuncId) (args : List DV) (h : Hp) : qd120 ih m f args h = bodyD CF ih m f args h := by
  unfold qd120
  cases Nat.blt f 63 with
  | false => exact qd122e ih m f args h
  | true => exact qd121e ih m f args h

noncomputable def qd118 (ih : FuncId → List DV → Hp → Res) (m : Nat) (f : FuncId) (args : List DV) (h : Hp) : Res :=
  bif Nat.blt f 62 then qd119 ih m f args h else qd120 ih m f args h

theorem qd118e (ih : FuncId → List DV → Hp → Res) (m : Nat) (f : FuncId) (args : List DV) (h : Hp) : qd118 ih m f args h = bodyD CF ih m f args h := by
  unfold qd118
  cases Nat.blt f 62 with
  | false => exact qd120e ih m f args h
  | true => exact qd119e ih m f args h

noncomputable def qd114 (ih : FuncId → List DV → Hp → Res) (m : Nat) (f : FuncId) (args : List DV) (h : Hp) : Res :=
  bif Nat.blt f 61 then qd115 ih m f args h else qd118 ih m f args h

theorem qd114e (ih : FuncId → List DV → Hp → Res) (m : Nat) (f : FuncId) (args : List DV) (h : Hp) : qd114 ih m f args h = bodyD CF ih m f args h := by
  unfold qd114
  cases Nat.blt f 61 with
  | false => exact qd118e ih m f args h
  | true => exact qd115e ih m f args h

noncomputable def qd125 (ih : FuncId → List DV → Hp → Res) (m : Nat) (f : FuncId) (args : List DV) (h : Hp) : Res :=
  bif Nat.beq f 64 then s64 ih m (args.getD 0 undefD) (args.getD 1 undefD) h else bodyD CF ih m f args h

theorem qd125e (ih : FuncId → List DV → Hp → Res) (m : Nat) (f : FuncId) (args : List DV) (h : Hp) : qd125 ih m f args h = bodyD CF ih m f args h := by
  unfold qd125
  cases e : Nat.beq f 64 with
  | false => rfl
  | true => cases Nat.eq_of_beq_eq_true e; rw [cond_true]; exact (s64ok ih m args h).symm

noncomputable def qd127 (ih : FuncId → List DV → Hp → Res) (m : Nat) (f : FuncId) (args : List DV) (h : Hp) : Res :=
  bif Nat.beq f 65 then s65 ih m (args.getD 0 undefD) h else bodyD CF ih m f args h

theorem qd127e (ih : FuncId → List DV → Hp → Res) (m : Nat) (f : FuncId) (args : List DV) (h : Hp) : qd127 ih m f args h = bodyD CF ih m f args h := by
  unfold qd127
  cases e : Nat.beq f 65 with
  | false => rfl
  | true => cases Nat.eq_of_beq_eq_true e; rw [cond_true]; exact (s65ok ih m args h).symm

noncomputable def qd128 (ih : FuncId → List DV → Hp → Res) (m : Nat) (f : FuncId) (args : List DV) (h : Hp) : Res :=
  bif Nat.beq f 66 then s66 ih m (args.getD 0 undefD) h else bodyD CF ih m f args h

theorem qd128e (ih : FuncId → List DV → Hp → Res) (m : Nat) (f : FuncId) (args : List DV) (h : Hp) : qd128 ih m f args h = bodyD CF ih m f args h := by
  unfold qd128
  cases e : Nat.beq f 66 with
  | false => rfl
  | true => cases Nat.eq_of_beq_eq_true e; rw [cond_true]; exact (s66ok ih m args h).symm

noncomputable def qd126 (ih : FuncId → List DV → Hp → Res) (m : Nat) (f : FuncId) (args : List DV) (h : Hp) : Res :=
  bif Nat.blt f 66 then qd127 ih m f args h else qd128 ih m f args h

theorem qd126e (ih : FuncId → List DV → Hp → Res) (m : Nat) (f : FuncId) (args : List DV) (h : Hp) : qd126 ih m f args h = bodyD CF ih m f args h := by
  unfold qd126
  cases Nat.blt f 66 with
  | false => exact qd128e ih m f args h
  | true => exact qd127e ih m f args h

noncomputable def qd124 (ih : FuncId → List DV → Hp → Res) (m : Nat) (f : FuncId) (args : List DV) (h : Hp) : Res :=
  bif Nat.blt f 65 then qd125 ih m f args h else qd126 ih m f args h

theorem qd124e (ih : FuncId → List DV → Hp → Res) (m : Nat) (f : FuncId) (args : List DV) (h : Hp) : qd124 ih m f args h = bodyD CF ih m f args h := by
  unfold qd124
  cases Nat.blt f 65 with
  | false => exact qd126e ih m f args h
  | true => exact qd125e ih m f args h

noncomputable def qd130 (ih : FuncId → List DV → Hp → Res) (m : Nat) (f : FuncId) (args : List DV) (h : Hp) : Res :=
  bif Nat.beq f 67 then s67 ih m (args.getD 0 undefD) h else bodyD CF ih m f args h

theorem qd130e (ih : FuncId → List DV → Hp → Res) (m : Nat) (f : FuncId) (args : List DV) (h : Hp) : qd130 ih m f args h = bodyD CF ih m f args h := by
  unfold qd130
  cases e : Nat.beq f 67 with
  | false => rfl
  | true => cases Nat.eq_of_beq_eq_true e; rw [cond_true]; exact (s67ok ih m args h).symm

noncomputable def qd132 (ih : FuncId → List DV → Hp → Res) (m : Nat) (f : FuncId) (args : List DV) (h : Hp) : Res :=
  bif Nat.beq f 68 then s68 ih m (args.getD 0 undefD) h else bodyD CF ih m f args h

theorem qd132e (ih : FuncId → List DV → Hp → Res) (m : Nat) (f : FuncId) (args : List DV) (h : Hp) : qd132 ih m f args h = bodyD CF ih m f args h := by
  unfold qd132
  cases e : Nat.beq f 68 with
  | false => rfl
  | true => cases Nat.eq_of_beq_eq_true e; rw [cond_true]; exact (s68ok ih m args h).symm

noncomputable def qd133 (ih : FuncId → List DV → Hp → Res) (m : Nat) (f : FuncId) (args : List DV) (h : Hp) : Res :=
  bif Nat.beq f 69 then s69 ih m (args.getD 0 undefD) h else bodyD CF ih m f args h

theorem qd133e (ih : FuncId → List DV → Hp → Res) (m : Nat) (f : FuncId) (args : List DV) (h : Hp) : qd133 ih m f args h = bodyD CF ih m f args h := by
  unfold qd133
  cases e : Nat.beq f 69 with
  | false => rfl
  | true => cases Nat.eq_of_beq_eq_true e; rw [cond_true]; exact (s69ok ih m args h).symm

noncomputable def qd131 (ih : FuncId → List DV → Hp → Res) (m : Nat) (f : FuncId) (args : List DV) (h : Hp) : Res :=
  bif Nat.blt f 69 then qd132 ih m f args h else qd133 ih m f args h

theorem qd131e (ih : FuncId → List DV → Hp → Res) (m : Nat) (f : FuncId) (args : List DV) (h : Hp) : qd131 ih m f args h = bodyD CF ih m f args h := by
  unfold qd131
  cases Nat.blt f 69 with
  | false => exact qd133e ih m f args h
  | true => exact qd132e ih m f args h

noncomputable def qd129 (ih : FuncId → List DV → Hp → Res) (m : Nat) (f : FuncId) (args : List DV) (h : Hp) : Res :=
  bif Nat.blt f 68 then qd130 ih m f args h else qd131 ih m f args h

theorem qd129e (ih : FuncId → List DV → Hp → Res) (m : Nat) (f : FuncId) (args : List DV) (h : Hp) : qd129 ih m f args h = bodyD CF ih m f args h := by
  unfold qd129
  cases Nat.blt f 68 with
  | false => exact qd131e ih m f args h
  | true => exact qd130e ih m f args h

noncomputable def qd123 (ih : FuncId → List DV → Hp → Res) (m : Nat) (f : FuncId) (args : List DV) (h : Hp) : Res :=
  bif Nat.blt f 67 then qd124 ih m f args h else qd129 ih m f args h

theorem qd123e (ih : FuncId → List DV → Hp → Res) (m : Nat) (f : FuncId) (args : List DV) (h : Hp) : qd123 ih m f args h = bodyD CF ih m f args h := by
  unfold qd123
  cases Nat.blt f 67 with
  | false => exact qd129e ih m f args h
  | true => exact qd124e ih m f args h

noncomputable def qd113 (ih : FuncId → List DV → Hp → Res) (m : Nat) (f : FuncId) (args : List DV) (h : Hp) : Res :=
  bif Nat.blt f 64 then qd114 ih m f args h else qd123 ih m f args h

theorem qd113e (ih : FuncId → List DV → Hp → Res) (m : Nat) (f : FuncId) (args : List DV) (h : Hp) : qd113 ih m f args h = bodyD CF ih m f args h := by
  unfold qd113
  cases Nat.blt f 64 with
  | false => exact qd123e ih m f args h
  | true => exact qd114e ih m f args h

noncomputable def qd91 (ih : FuncId → List DV → Hp → Res) (m : Nat) (f : FuncId) (args : List DV) (h : Hp) : Res :=
  bif Nat.blt f 59 then qd92 ih m f args h else qd113 ih m f args h

theorem qd91e (ih : FuncId → List DV → Hp → Res) (m : Nat) (f : FuncId) (args : List DV) (h : Hp) : qd91 ih m f args h = bodyD CF ih m f args h := by
  unfold qd91
  cases Nat.blt f 59 with
  | false => exact qd113e ih m f args h
  | true => exact qd92e ih m f args h

noncomputable def qd138 (ih : FuncId → List DV → Hp → Res) (m : Nat) (f : FuncId) (args : List DV) (h : Hp) : Res :=
  bif Nat.beq f 70 then s70 ih m (args.getD 0 undefD) h else bodyD CF ih m f args h

theorem qd138e (ih : FuncId → List DV → Hp → Res) (m : Nat) (f : FuncId) (args : List DV) (h : Hp) : qd138 ih m f args h = bodyD CF ih m f args h := by
  unfold qd138
  cases e : Nat.beq f 70 with
  | false => rfl
  | true => cases Nat.eq_of_beq_eq_true e; rw [cond_true]; exact (s70ok ih m args h).symm

noncomputable def qd139 (ih : FuncId → List DV → Hp → Res) (m : Nat) (f : FuncId) (args : List DV) (h : Hp) : Res :=
  bif Nat.beq f 71 then s71 ih m (args.getD 0 undefD) h else bodyD CF ih m f args h

theorem qd139e (ih : FuncId → List DV → Hp → Res) (m : Nat) (f : FuncId) (args : List DV) (h : Hp) : qd139 ih m f args h = bodyD CF ih m f args h := by
  unfold qd139
  cases e : Nat.beq f 71 with
  | false => rfl
  | true => cases Nat.eq_of_beq_eq_true e; rw [cond_true]; exact (s71ok ih m args h).symm

noncomputable def qd137 (ih : FuncId → List DV → Hp → Res) (m : Nat) (f : FuncId) (args : List DV) (h : Hp) : Res :=
  bif Nat.blt f 71 then qd138 ih m f args h else qd139 ih m f args h

theorem qd137e (ih : FuncId → List DV → Hp → Res) (m : Nat) (f : FuncId) (args : List DV) (h : Hp) : qd137 ih m f args h = bodyD CF ih m f args h := by
  unfold qd137
  cases Nat.blt f 71 with
  | false => exact qd139e ih m f args h
  | true => exact qd138e ih m f args h

noncomputable def qd141 (ih : FuncId → List DV → Hp → Res) (m : Nat) (f : FuncId) (args : List DV) (h : Hp) : Res :=
  bif Nat.beq f 72 then s72 ih m (args.getD 0 undefD) h else bodyD CF ih m f args h

theorem qd141e (ih : FuncId → List DV → Hp → Res) (m : Nat) (f : FuncId) (args : List DV) (h : Hp) : qd141 ih m f args h = bodyD CF ih m f args h := by
  unfold qd141
  cases e : Nat.beq f 72 with
  | false => rfl
  | true => cases Nat.eq_of_beq_eq_true e; rw [cond_true]; exact (s72ok ih m args h).symm

noncomputable def qd143 (ih : FuncId → List DV → Hp → Res) (m : Nat) (f : FuncId) (args : List DV) (h : Hp) : Res :=
  bif Nat.beq f 73 then s73 ih m (args.getD 0 undefD) h else bodyD CF ih m f args h

theorem qd143e (ih : FuncId → List DV → Hp → Res) (m : Nat) (f : FuncId) (args : List DV) (h : Hp) : qd143 ih m f args h = bodyD CF ih m f args h := by
  unfold qd143
  cases e : Nat.beq f 73 with
  | false => rfl
  | true => cases Nat.eq_of_beq_eq_true e; rw [cond_true]; exact (s73ok ih m args h).symm

noncomputable def qd144 (ih : FuncId → List DV → Hp → Res) (m : Nat) (f : FuncId) (args : List DV) (h : Hp) : Res :=
  bif Nat.beq f 74 then s74 ih m (args.getD 0 undefD) h else bodyD CF ih m f args h

theorem qd144e (ih : FuncId → List DV → Hp → Res) (m : Nat) (f : FuncId) (args : List DV) (h : Hp) : qd144 ih m f args h = bodyD CF ih m f args h := by
  unfold qd144
  cases e : Nat.beq f 74 with
  | false => rfl
  | true => cases Nat.eq_of_beq_eq_true e; rw [cond_true]; exact (s74ok ih m args h).symm

noncomputable def qd142 (ih : FuncId → List DV → Hp → Res) (m : Nat) (f : FuncId) (args : List DV) (h : Hp) : Res :=
  bif Nat.blt f 74 then qd143 ih m f args h else qd144 ih m f args h

theorem qd142e (ih : FuncId → List DV → Hp → Res) (m : Nat) (f : FuncId) (args : List DV) (h : Hp) : qd142 ih m f args h = bodyD CF ih m f args h := by
  unfold qd142
  cases Nat.blt f 74 with
  | false => exact qd144e ih m f args h
  | true => exact qd143e ih m f args h

noncomputable def qd140 (ih : FuncId → List DV → Hp → Res) (m : Nat) (f : FuncId) (args : List DV) (h : Hp) : Res :=
  bif Nat.blt f 73 then qd141 ih m f args h else qd142 ih m f args h

theorem qd140e (ih : FuncId → List DV → Hp → Res) (m : Nat) (f : FuncId) (args : List DV) (h : Hp) : qd140 ih m f args h = bodyD CF ih m f args h := by
  unfold qd140
  cases Nat.blt f 73 with
  | false => exact qd142e ih m f args h
  | true => exact qd141e ih m f args h

noncomputable def qd136 (ih : FuncId → List DV → Hp → Res) (m : Nat) (f : FuncId) (args : List DV) (h : Hp) : Res :=
  bif Nat.blt f 72 then qd137 ih m f args h else qd140 ih m f args h

theorem qd136e (ih : FuncId → List DV → Hp → Res) (m : Nat) (f : FuncId) (args : List DV) (h : Hp) : qd136 ih m f args h = bodyD CF ih m f args h := by
  unfold qd136
  cases Nat.blt f 72 with
  | false => exact qd140e ih m f args h
  | true => exact qd137e ih m f args h

noncomputable def qd147 (ih : FuncId → List DV → Hp → Res) (m : Nat) (f : FuncId) (args : List DV) (h : Hp) : Res :=
  bif Nat.beq f 75 then s75 ih m (args.getD 0 undefD) h else bodyD CF ih m f args h

theorem qd147e (ih : FuncId → List DV → Hp → Res) (m : Nat) (f : FuncId) (args : List DV) (h : Hp) : qd147 ih m f args h = bodyD CF ih m f args h := by
  unfold qd147
  cases e : Nat.beq f 75 with
  | false => rfl
  | true => cases Nat.eq_of_beq_eq_true e; rw [cond_true]; exact (s75ok ih m args h).symm

noncomputable def qd149 (ih : FuncId → List DV → Hp → Res) (m : Nat) (f : FuncId) (args : List DV) (h : Hp) : Res :=
  bif Nat.beq f 76 then s76 ih m (args.getD 0 undefD) h else bodyD CF ih m f args h

theorem qd149e (ih : FuncId → List DV → Hp → Res) (m : Nat) (f : FuncId) (args : List DV) (h : Hp) : qd149 ih m f args h = bodyD CF ih m f args h := by
  unfold qd149
  cases e : Nat.beq f 76 with
  | false => rfl
  | true => cases Nat.eq_of_beq_eq_true e; rw [cond_true]; exact (s76ok ih m args h).symm

noncomputable def qd150 (ih : FuncId → List DV → Hp → Res) (m : Nat) (f : FuncId) (args : List DV) (h : Hp) : Res :=
  bif Nat.beq f 78 then s78 ih m (args.getD 0 undefD) h else bodyD CF ih m f args h

theorem qd150e (ih : FuncId → List DV → Hp → Res) (m : Nat) (f : FuncId) (args : List DV) (h : Hp) : qd150 ih m f args h = bodyD CF ih m f args h := by
  unfold qd150
  cases e : Nat.beq f 78 with
  | false => rfl
  | true => cases Nat.eq_of_beq_eq_true e; rw [cond_true]; exact (s78ok ih m args h).symm

noncomputable def qd148 (ih : FuncId → List DV → Hp → Res) (m : Nat) (f : FuncId) (args : List DV) (h : Hp) : Res :=
  bif Nat.blt f 78 then qd149 ih m f args h else qd150 ih m f args h

theorem qd148e (ih : FuncId → List DV → Hp → Res) (m : Nat) (f : FuncId) (args : List DV) (h : Hp) : qd148 ih m f args h = bodyD CF ih m f args h := by
  unfold qd148
  cases Nat.blt f 78 with
  | false => exact qd150e ih m f args h
  | true => exact qd149e ih m f args h

noncomputable def qd146 (ih : FuncId → List DV → Hp → Res) (m : Nat) (f : FuncId) (args : List DV) (h : Hp) : Res :=
  bif Nat.blt f 76 then qd147 ih m f args h else qd148 ih m f args h

theorem qd146e (ih : FuncId → List DV → Hp → Res) (m : Nat) (f : FuncId) (args : List DV) (h : Hp) : qd146 ih m f args h = bodyD CF ih m f args h := by
  unfold qd146
  cases Nat.blt f 76 with
  | false => exact qd148e ih m f args h
  | true => exact qd147e ih m f args h

noncomputable def qd152 (ih : FuncId → List DV → Hp → Res) (m : Nat) (f : FuncId) (args : List DV) (h : Hp) : Res :=
  bif Nat.beq f 79 then s79 ih m (args.getD 0 undefD) h else bodyD CF ih m f args h

theorem qd152e (ih : FuncId → List DV → Hp → Res) (m : Nat) (f : FuncId) (args : List DV) (h : Hp) : qd152 ih m f args h = bodyD CF ih m f args h := by
  unfold qd152
  cases e : Nat.beq f 79 with
  | false => rfl
  | true => cases Nat.eq_of_beq_eq_true e; rw [cond_true]; exact (s79ok ih m args h).symm

noncomputable def qd154 (ih : FuncId → List DV → Hp → Res) (m : Nat) (f : FuncId) (args : List DV) (h : Hp) : Res :=
  bif Nat.beq f 80 then s80 ih m (args.getD 0 undefD) (args.getD 1 undefD) h else bodyD CF ih m f args h

theorem qd154e (ih : FuncId → List DV → Hp → Res) (m : Nat) (f : FuncId) (args : List DV) (h : Hp) : qd154 ih m f args h = bodyD CF ih m f args h := by
  unfold qd154
  cases e : Nat.beq f 80 with
  | false => rfl
  | true => cases Nat.eq_of_beq_eq_true e; rw [cond_true]; exact (s80ok ih m args h).symm

noncomputable def qd155 (ih : FuncId → List DV → Hp → Res) (m : Nat) (f : FuncId) (args : List DV) (h : Hp) : Res :=
  bif Nat.beq f 81 then s81 ih m (args.getD 0 undefD) (args.getD 1 undefD) h else bodyD CF ih m f args h

theorem qd155e (ih : FuncId → List DV → Hp → Res) (m : Nat) (f : FuncId) (args : List DV) (h : Hp) : qd155 ih m f args h = bodyD CF ih m f args h := by
  unfold qd155
  cases e : Nat.beq f 81 with
  | false => rfl
  | true => cases Nat.eq_of_beq_eq_true e; rw [cond_true]; exact (s81ok ih m args h).symm

noncomputable def qd153 (ih : FuncId → List DV → Hp → Res) (m : Nat) (f : FuncId) (args : List DV) (h : Hp) : Res :=
  bif Nat.blt f 81 then qd154 ih m f args h else qd155 ih m f args h

theorem qd153e (ih : FuncId → List DV → Hp → Res) (m : Nat) (f : FuncId) (args : List DV) (h : Hp) : qd153 ih m f args h = bodyD CF ih m f args h := by
  unfold qd153
  cases Nat.blt f 81 with
  | false => exact qd155e ih m f args h
  | true => exact qd154e ih m f args h

noncomputable def qd151 (ih : FuncId → List DV → Hp → Res) (m : Nat) (f : FuncId) (args : List DV) (h : Hp) : Res :=
  bif Nat.blt f 80 then qd152 ih m f args h else qd153 ih m f args h

theorem qd151e (ih : FuncId → List DV → Hp → Res) (m : Nat) (f : FuncId) (args : List DV) (h : Hp) : qd151 ih m f args h = bodyD CF ih m f args h := by
  unfold qd151
  cases Nat.blt f 80 with
  | false => exact qd153e ih m f args h
  | true => exact qd152e ih m f args h

noncomputable def qd145 (ih : FuncId → List DV → Hp → Res) (m : Nat) (f : FuncId) (args : List DV) (h : Hp) : Res :=
  bif Nat.blt f 79 then qd146 ih m f args h else qd151 ih m f args h

theorem qd145e (ih : FuncId → List DV → Hp → Res) (m : Nat) (f : FuncId) (args : List DV) (h : Hp) : qd145 ih m f args h = bodyD CF ih m f args h := by
  unfold qd145
  cases Nat.blt f 79 with
  | false => exact qd151e ih m f args h
  | true => exact qd146e ih m f args h

noncomputable def qd135 (ih : FuncId → List DV → Hp → Res) (m : Nat) (f : FuncId) (args : List DV) (h : Hp) : Res :=
  bif Nat.blt f 75 then qd136 ih m f args h else qd145 ih m f args h

theorem qd135e (ih : FuncId → List DV → Hp → Res) (m : Nat) (f : FuncId) (args : List DV) (h : Hp) : qd135 ih m f args h = bodyD CF ih m f args h := by
  unfold qd135
  cases Nat.blt f 75 with
  | false => exact qd145e ih m f args h
  | true => exact qd136e ih m f args h

noncomputable def qd159 (ih : FuncId → List DV → Hp → Res) (m : Nat) (f : FuncId) (args : List DV) (h : Hp) : Res :=
  bif Nat.beq f 82 then s82 ih m (args.getD 0 undefD) (args.getD 1 undefD) h else bodyD CF ih m f args h

theorem qd159e (ih : FuncId → List DV → Hp → Res) (m : Nat) (f : FuncId) (args : List DV) (h : Hp) : qd159 ih m f args h = bodyD CF ih m f args h := by
  unfold qd159
  cases e : Nat.beq f 82 with
  | false => rfl
  | true => cases Nat.eq_of_beq_eq_true e; rw [cond_true]; exact (s82ok ih m args h).symm

noncomputable def qd161 (ih : FuncId → List DV → Hp → Res) (m : Nat) (f : FuncId) (args : List DV) (h : Hp) : Res :=
  bif Nat.beq f 83 then s83 ih m (args.getD 0 undefD) h else bodyD CF ih m f args h

theorem qd161e (ih : FuncId → List DV → Hp → Res) (m : Nat) (f : FuncId) (args : List DV) (h : Hp) : qd161 ih m f args h = bodyD CF ih m f args h := by
  unfold qd161
  cases e : Nat.beq f 83 with
  | false => rfl
  | true => cases Nat.eq_of_beq_eq_true e; rw [cond_true]; exact (s83ok ih m args h).symm

noncomputable def qd162 (ih : FuncId → List DV → Hp → Res) (m : Nat) (f : FuncId) (args : List DV) (h : Hp) : Res :=
  bif Nat.beq f 84 then s84 ih m (args.getD 0 undefD) h else bodyD CF ih m f args h

theorem qd162e (ih : FuncId → List DV → Hp → Res) (m : Nat) (f : FuncId) (args : List DV) (h : Hp) : qd162 ih m f args h = bodyD CF ih m f args h := by
  unfold qd162
  cases e : Nat.beq f 84 with
  | false => rfl
  | true => cases Nat.eq_of_beq_eq_true e; rw [cond_true]; exact (s84ok ih m args h).symm

noncomputable def qd160 (ih : FuncId → List DV → Hp → Res) (m : Nat) (f : FuncId) (args : List DV) (h : Hp) : Res :=
  bif Nat.blt f 84 then qd161 ih m f args h else qd162 ih m f args h

theorem qd160e (ih : FuncId → List DV → Hp → Res) (m : Nat) (f : FuncId) (args : List DV) (h : Hp) : qd160 ih m f args h = bodyD CF ih m f args h := by
  unfold qd160
  cases Nat.blt f 84 with
  | false => exact qd162e ih m f args h
  | true => exact qd161e ih m f args h

noncomputable def qd158 (ih : FuncId → List DV → Hp → Res) (m : Nat) (f : FuncId) (args : List DV) (h : Hp) : Res :=
  bif Nat.blt f 83 then qd159 ih m f args h else qd160 ih m f args h

theorem qd158e (ih : FuncId → List DV → Hp → Res) (m : Nat) (f : FuncId) (args : List DV) (h : Hp) : qd158 ih m f args h = bodyD CF ih m f args h := by
  unfold qd158
  cases Nat.blt f 83 with
  | false => exact qd160e ih m f args h
  | true => exact qd159e ih m f args h

noncomputable def qd164 (ih : FuncId → List DV → Hp → Res) (m : Nat) (f : FuncId) (args : List DV) (h : Hp) : Res :=
  bif Nat.beq f 85 then s85 ih m (args.getD 0 undefD) h else bodyD CF ih m f args h

theorem qd164e (ih : FuncId → List DV → Hp → Res) (m : Nat) (f : FuncId) (args : List DV) (h : Hp) : qd164 ih m f args h = bodyD CF ih m f args h := by
  unfold qd164
  cases e : Nat.beq f 85 with
  | false => rfl
  | true => cases Nat.eq_of_beq_eq_true e; rw [cond_true]; exact (s85ok ih m args h).symm

noncomputable def qd166 (ih : FuncId → List DV → Hp → Res) (m : Nat) (f : FuncId) (args : List DV) (h : Hp) : Res :=
  bif Nat.beq f 86 then s86 ih m (args.getD 0 undefD) (args.getD 1 undefD) h else bodyD CF ih m f args h

theorem qd166e (ih : FuncId → List DV → Hp → Res) (m : Nat) (f : FuncId) (args : List DV) (h : Hp) : qd166 ih m f args h = bodyD CF ih m f args h := by
  unfold qd166
  cases e : Nat.beq f 86 with
  | false => rfl
  | true => cases Nat.eq_of_beq_eq_true e; rw [cond_true]; exact (s86ok ih m args h).symm

noncomputable def qd167 (ih : FuncId → List DV → Hp → Res) (m : Nat) (f : FuncId) (args : List DV) (h : Hp) : Res :=
  bif Nat.beq f 87 then s87 ih m (args.getD 0 undefD) h else bodyD CF ih m f args h

theorem qd167e (ih : FuncId → List DV → Hp → Res) (m : Nat) (f : FuncId) (args : List DV) (h : Hp) : qd167 ih m f args h = bodyD CF ih m f args h := by
  unfold qd167
  cases e : Nat.beq f 87 with
  | false => rfl
  | true => cases Nat.eq_of_beq_eq_true e; rw [cond_true]; exact (s87ok ih m args h).symm

noncomputable def qd165 (ih : FuncId → List DV → Hp → Res) (m : Nat) (f : FuncId) (args : List DV) (h : Hp) : Res :=
  bif Nat.blt f 87 then qd166 ih m f args h else qd167 ih m f args h

theorem qd165e (ih : FuncId → List DV → Hp → Res) (m : Nat) (f : FuncId) (args : List DV) (h : Hp) : qd165 ih m f args h = bodyD CF ih m f args h := by
  unfold qd165
  cases Nat.blt f 87 with
  | false => exact qd167e ih m f args h
  | true => exact qd166e ih m f args h

noncomputable def qd163 (ih : FuncId → List DV → Hp → Res) (m : Nat) (f : FuncId) (args : List DV) (h : Hp) : Res :=
  bif Nat.blt f 86 then qd164 ih m f args h else qd165 ih m f args h

theorem qd163e (ih : FuncId → List DV → Hp → Res) (m : Nat) (f : FuncId) (args : List DV) (h : Hp) : qd163 ih m f args h = bodyD CF ih m f args h := by
  unfold qd163
  cases Nat.blt f 86 with
  | false => exact qd165e ih m f args h
  | true => exact qd164e ih m f args h

noncomputable def qd157 (ih : FuncId → List DV → Hp → Res) (m : Nat) (f : FuncId) (args : List DV) (h : Hp) : Res :=
  bif Nat.blt f 85 then qd158 ih m f args h else qd163 ih m f args h

theorem qd157e (ih : FuncId → List DV → Hp → Res) (m : Nat) (f : FuncId) (args : List DV) (h : Hp) : qd157 ih m f args h = bodyD CF ih m f args h := by
  unfold qd157
  cases Nat.blt f 85 with
  | false => exact qd163e ih m f args h
  | true => exact qd158e ih m f args h

noncomputable def qd170 (ih : FuncId → List DV → Hp → Res) (m : Nat) (f : FuncId) (args : List DV) (h : Hp) : Res :=
  bif Nat.beq f 88 then s88 ih m (args.getD 0 undefD) (args.getD 1 undefD) h else bodyD CF ih m f args h

theorem qd170e (ih : FuncId → List DV → Hp → Res) (m : Nat) (f : FuncId) (args : List DV) (h : Hp) : qd170 ih m f args h = bodyD CF ih m f args h := by
  unfold qd170
  cases e : Nat.beq f 88 with
  | false => rfl
  | true => cases Nat.eq_of_beq_eq_true e; rw [cond_true]; exact (s88ok ih m args h).symm

noncomputable def qd172 (ih : FuncId → List DV → Hp → Res) (m : Nat) (f : FuncId) (args : List DV) (h : Hp) : Res :=
  bif Nat.beq f 89 then s89 ih m (args.getD 0 undefD) h else bodyD CF ih m f args h

theorem qd172e (ih : FuncId → List DV → Hp → Res) (m : Nat) (f : FuncId) (args : List DV) (h : Hp) : qd172 ih m f args h = bodyD CF ih m f args h := by
  unfold qd172
  cases e : Nat.beq f 89 with
  | false => rfl
  | true => cases Nat.eq_of_beq_eq_true e; rw [cond_true]; exact (s89ok ih m args h).symm

noncomputable def qd173 (ih : FuncId → List DV → Hp → Res) (m : Nat) (f : FuncId) (args : List DV) (h : Hp) : Res :=
  bif Nat.beq f 90 then s90 ih m (args.getD 0 undefD) h else bodyD CF ih m f args h

theorem qd173e (ih : FuncId → List DV → Hp → Res) (m : Nat) (f : FuncId) (args : List DV) (h : Hp) : qd173 ih m f args h = bodyD CF ih m f args h := by
  unfold qd173
  cases e : Nat.beq f 90 with
  | false => rfl
  | true => cases Nat.eq_of_beq_eq_true e; rw [cond_true]; exact (s90ok ih m args h).symm

noncomputable def qd171 (ih : FuncId → List DV → Hp → Res) (m : Nat) (f : FuncId) (args : List DV) (h : Hp) : Res :=
  bif Nat.blt f 90 then qd172 ih m f args h else qd173 ih m f args h

theorem qd171e (ih : FuncId → List DV → Hp → Res) (m : Nat) (f : FuncId) (args : List DV) (h : Hp) : qd171 ih m f args h = bodyD CF ih m f args h := by
  unfold qd171
  cases Nat.blt f 90 with
  | false => exact qd173e ih m f args h
  | true => exact qd172e ih m f args h

noncomputable def qd169 (ih : FuncId → List DV → Hp → Res) (m : Nat) (f : FuncId) (args : List DV) (h : Hp) : Res :=
  bif Nat.blt f 89 then qd170 ih m f args h else qd171 ih m f args h

theorem qd169e (ih : FuncId → List DV → Hp → Res) (m : Nat) (f : FuncId) (args : List DV) (h : Hp) : qd169 ih m f args h = bodyD CF ih m f args h := by
  unfold qd169
  cases Nat.blt f 89 with
  | false => exact qd171e ih m f args h
  | true => exact qd170e ih m f args h

noncomputable def qd175 (ih : FuncId → List DV → Hp → Res) (m : Nat) (f : FuncId) (args : List DV) (h : Hp) : Res :=
  bif Nat.beq f 91 then s91 ih m (args.getD 0 undefD) h else bodyD CF ih m f args h

theorem qd175e (ih : FuncId → List DV → Hp → Res) (m : Nat) (f : FuncId) (args : List DV) (h : Hp) : qd175 ih m f args h = bodyD CF ih m f args h := by
  unfold qd175
  cases e : Nat.beq f 91 with
  | false => rfl
  | true => cases Nat.eq_of_beq_eq_true e; rw [cond_true]; exact (s91ok ih m args h).symm

noncomputable def qd177 (ih : FuncId → List DV → Hp → Res) (m : Nat) (f : FuncId) (args : List DV) (h : Hp) : Res :=
  bif Nat.beq f 92 then s92 ih m (args.getD 0 undefD) h else bodyD CF ih m f args h

theorem qd177e (ih : FuncId → List DV → Hp → Res) (m : Nat) (f : FuncId) (args : List DV) (h : Hp) : qd177 ih m f args h = bodyD CF ih m f args h := by
  unfold qd177
  cases e : Nat.beq f 92 with
  | false => rfl
  | true => cases Nat.eq_of_beq_eq_true e; rw [cond_true]; exact (s92ok ih m args h).symm

noncomputable def qd178 (ih : FuncId → List DV → Hp → Res) (m : Nat) (f : FuncId) (args : List DV) (h : Hp) : Res :=
  bif Nat.beq f 93 then s93 ih m (args.getD 0 undefD) h else bodyD CF ih m f args h

theorem qd178e (ih : FuncId → List DV → Hp → Res) (m : Nat) (f : FuncId) (args : List DV) (h : Hp) : qd178 ih m f args h = bodyD CF ih m f args h := by
  unfold qd178
  cases e : Nat.beq f 93 with
  | false => rfl
  | true => cases Nat.eq_of_beq_eq_true e; rw [cond_true]; exact (s93ok ih m args h).symm

noncomputable def qd176 (ih : FuncId → List DV → Hp → Res) (m : Nat) (f : FuncId) (args : List DV) (h : Hp) : Res :=
  bif Nat.blt f 93 then qd177 ih m f args h else qd178 ih m f args h

theorem qd176e (ih : FuncId → List DV → Hp → Res) (m : Nat) (f : FuncId) (args : List DV) (h : Hp) : qd176 ih m f args h = bodyD CF ih m f args h := by
  unfold qd176
  cases Nat.blt f 93 with
  | false => exact qd178e ih m f args h
  | true => exact qd177e ih m f args h

noncomputable def qd174 (ih : FuncId → List DV → Hp → Res) (m : Nat) (f : FuncId) (args : List DV) (h : Hp) : Res :=
  bif Nat.blt f 92 then qd175 ih m f args h else qd176 ih m f args h

theorem qd174e (ih : FuncId → List DV → Hp → Res) (m : Nat) (f : FuncId) (args : List DV) (h : Hp) : qd174 ih m f args h = bodyD CF ih m f args h := by
  unfold qd174
  cases Nat.blt f 92 with
  | false => exact qd176e ih m f args h
  | true => exact qd175e ih m f args h

noncomputable def qd168 (ih : FuncId → List DV → Hp → Res) (m : Nat) (f : FuncId) (args : List DV) (h : Hp) : Res :=
  bif Nat.blt f 91 then qd169 ih m f args h else qd174 ih m f args h

theorem qd168e (ih : FuncId → List DV → Hp → Res) (m : Nat) (f : FuncId) (args : List DV) (h : Hp) : qd168 ih m f args h = bodyD CF ih m f args h := by
  unfold qd168
  cases Nat.blt f 91 with
  | false => exact qd174e ih m f args h
  | true => exact qd169e ih m f args h

noncomputable def qd156 (ih : FuncId → List DV → Hp → Res) (m : Nat) (f : FuncId) (args : List DV) (h : Hp) : Res :=
  bif Nat.blt f 88 then qd157 ih m f args h else qd168 ih m f args h

theorem qd156e (ih : FuncId → List DV → Hp → Res) (m : Nat) (f : FuncId) (args : List DV) (h : Hp) : qd156 ih m f args h = bodyD CF ih m f args h := by
  unfold qd156
  cases Nat.blt f 88 with
  | false => exact qd168e ih m f args h
  | true => exact qd157e ih m f args h

noncomputable def qd134 (ih : FuncId → List DV → Hp → Res) (m : Nat) (f : FuncId) (args : List DV) (h : Hp) : Res :=
  bif Nat.blt f 82 then qd135 ih m f args h else qd156 ih m f args h

theorem qd134e (ih : FuncId → List DV → Hp → Res) (m : Nat) (f : FuncId) (args : List DV) (h : Hp) : qd134 ih m f args h = bodyD CF ih m f args h := by
  unfold qd134
  cases Nat.blt f 82 with
  | false => exact qd156e ih m f args h
  | true => exact qd135e ih m f args h

noncomputable def qd90 (ih : FuncId → List DV → Hp → Res) (m : Nat) (f : FuncId) (args : List DV) (h : Hp) : Res :=
  bif Nat.blt f 70 then qd91 ih m f args h else qd134 ih m f args h

theorem qd90e (ih : FuncId → List DV → Hp → Res) (m : Nat) (f : FuncId) (args : List DV) (h : Hp) : qd90 ih m f args h = bodyD CF ih m f args h := by
  unfold qd90
  cases Nat.blt f 70 with
  | false => exact qd134e ih m f args h
  | true => exact qd91e ih m f args h

noncomputable def qd0 (ih : FuncId → List DV → Hp → Res) (m : Nat) (f : FuncId) (args : List DV) (h : Hp) : Res :=
  bif Nat.blt f 48 then qd1 ih m f args h else qd90 ih m f args h

theorem qd0e (ih : FuncId → List DV → Hp → Res) (m : Nat) (f : FuncId) (args : List DV) (h : Hp) : qd0 ih m f args h = bodyD CF ih m f args h := by
  unfold qd0
  cases Nat.blt f 48 with
  | false => exact qd90e ih m f args h
  | true => exact qd1e ih m f args h

/-- One level of calls: the functions one by one. -/
noncomputable def shB (ih : FuncId → List DV → Hp → Res) (m : Nat) (f : FuncId) (args : List DV) (h : Hp) : Res := qd0 ih m f args h

theorem shB_eq (ih : FuncId → List DV → Hp → Res) (m : Nat) (f : FuncId) (args : List DV) (h : Hp) : shB ih m f args h = bodyD CF ih m f args h := qd0e ih m f args h

noncomputable def shD (n : Nat) : FuncId → List DV → Hp → Res :=
  Nat.rec (motive := fun _ => FuncId → List DV → Hp → Res) (fun _ _ _ => none) (fun m ih => shB ih m) n

theorem shD_eq : ∀ n, shD n = fnD CF n
  | 0 => rfl
  | n + 1 => by
    have e : shD (n + 1) = shB (shD n) n := rfl
    have e' : fnD CF (n + 1) = bodyD CF (fnD CF n) n := rfl
    rw [e, e', ← shD_eq n]
    funext f args h
    exact shB_eq _ _ _ _ _

end Go.Dd
