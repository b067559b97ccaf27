-- Written by fk.py (a program of this session) over the kit's print: functions with a contract of our own among them.
import Derived.Test.YtnjeafdbifcfhaaFL11
import Derived.Test.YtnjeafdbifcfhaaFL10
import Derived.Test.YtnjeafdbifcfhaaFL01
import Derived.Test.YtnjeafdbifcfhaaFL00
import Derived.Test.YtnjeafdbifcfhaaFld
import Derived.Test.YtnjeafdbifcfhaaPFieldLawsx0
namespace Go.Proofs.Ytnjeafdbifcfhaa.PFieldLaws
open Go.RowKit Go.Proofs.YtnjeafdbifcfhaaW.PrintWords Go.Proofs.YtnjeafdbifcfhaaW.PrintLast Go.Proofs.YtnjeafdbifcfhaaW.PrintMore
attribute [local go_sem] max2_int min2_int max_two min_two max_three min_three max_four min_four   -- for this text's walks alone
set_option linter.unusedVariables false
set_option linter.unusedSimpArgs false

-- NOT PRINTED: function 18 (field_New)

-- NOT PRINTED: function 20 (field_Field_Exp)

-- NOT PRINTED: function 21 (field_Field_Mul)

-- NOT PRINTED: function 28 (field_Field_Add)

-- NOT PRINTED: function 19 (corbellaw3_known)

-- NOT PRINTED: function 22 (field_Field_Inv)

-- NOT PRINTED: function 23 (field_Field_Div)

-- NOT PRINTED: function 24 (field_Field_Log)

/-! ### corbellaw3_FieldLaws: function 7 -/
-- IMPORT Derived.Test.YtnjeafdbifcfhaaFld
-- IMPORT Derived.Test.YtnjeafdbifcfhaaFL00
-- IMPORT Derived.Test.YtnjeafdbifcfhaaFL01
-- IMPORT Derived.Test.YtnjeafdbifcfhaaFL10
-- IMPORT Derived.Test.YtnjeafdbifcfhaaFL11
namespace HandFieldLaws
open Go.RowKit Go.Proofs.Ytnjeafdbifcfhaa.Fld Go.Proofs.YtnjeafdbifcfhaaW.PrintWords Go.Proofs.YtnjeafdbifcfhaaW.PrintLast Go.Proofs.YtnjeafdbifcfhaaW.PrintMore
theorem by_wf {a : Int} (h : (Lit.int .u8 a).wf = true) : By a := by
  have hx : 0 ≤ a ∧ a ≤ 255 := by simpa [Lit.wf, IntKind.min, IntKind.max, IntKind.signed, IntKind.bits] using h
  exact ⟨hx.1, by omega⟩

theorem walk (a b c n m : Int) (w : World) (w0 : (Lit.int .u8 a).wf = true) (w1 : (Lit.int .u8 b).wf = true) (w2 : (Lit.int .u8 c).wf = true) : Calls Try.prog 7 #[.int .u8 a, .int .u8 b, .int .u8 c, .int .i64 n, .int .i64 m] w fun e w' => e = .returned (.bool true) ∧ Below w.heap.size w w' := by
  have ha := by_wf w0
  have hb := by_wf w1
  have hc := by_wf w2
  by_cases h0 : a = 0 <;> by_cases h1 : b = 0
  · subst h0 h1
    exact FL11.walk_11 c n m w hc
  · subst h0
    exact FL10.walk_10 b c n m w hc hb h1
  · subst h1
    exact FL01.walk_01 a c n m w hc ha h0
  · exact FL00.walk_00 a b c n m w hc ha h0 hb h1
end HandFieldLaws
def corbellaw3_FieldLaws.Pure : Prop := True
theorem corbellaw3_FieldLaws.walk (P : corbellaw3_FieldLaws.Pure) (a0 : Int) (a1 : Int) (a2 : Int) (a3 : Int) (a4 : Int) (w : World) (w0 : (Lit.int .u8 a0).wf = true) (w1 : (Lit.int .u8 a1).wf = true) (w2 : (Lit.int .u8 a2).wf = true) (w3 : (Lit.int .i64 a3).wf = true) (w4 : (Lit.int .i64 a4).wf = true) :
    Calls Try.prog 7 #[.int .u8 a0, .int .u8 a1, .int .u8 a2, .int .i64 a3, .int .i64 a4] w fun e w' => e = .returned (.bool true) ∧ Below w.heap.size w w' := HandFieldLaws.walk a0 a1 a2 a3 a4 w w0 w1 w2

end Go.Proofs.Ytnjeafdbifcfhaa.PFieldLaws
