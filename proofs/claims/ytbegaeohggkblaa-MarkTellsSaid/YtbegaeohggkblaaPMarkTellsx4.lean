-- Written by fk.py (a program of this session) over the kit's print: functions with a contract of our own among them.
import Derived.Test.YtbegaeohggkblaaPMarkTellsx0
import Derived.Test.YtbegaeohggkblaaPMarkTellsx1
import Derived.Test.YtbegaeohggkblaaPMarkTellsx2
import Derived.Test.YtbegaeohggkblaaPMarkTellsx3
namespace Go.Proofs.Ytbegaeohggkblaa.PMarkTells
open Go.RowKit Go.Proofs.YtbegaeohggkblaaW.PrintWords Go.Proofs.YtbegaeohggkblaaW.PrintLast Go.Proofs.YtbegaeohggkblaaW.PrintMore
attribute [local go_sem] max2_int min2_int max_two min_two max_three min_three max_four min_four   -- for this text's walks alone
set_option linter.unusedVariables false
set_option linter.unusedSimpArgs false

set_option maxRecDepth 20000

/-! ### corbellaw6_MarkTells: function 4 -/
mutual
def corbellaw6_MarkTells.j0 : Nat → List Int → List Int → Int → List Int → Int → List Int → Bool → Bool → Option (Bool)
  | 0, _, _, _, _, _, _, _, _ => none
  | k + 1, x1, x2, x3, x4, x5, x15, x16, x59 => if x59 = true then (some false) else ((corbelhand_Few.f x2 (x2.length : Int)).bind fun t217 => (if x16 = true then (corbellaw6_MarkTells.j1 k x1 x3 x4 x5 x15 t217 (decide ((Int.tmod x3 4) > 0))) else (corbellaw6_MarkTells.j1 k x1 x3 x4 x5 x15 t217 false)))
def corbellaw6_MarkTells.j1 : Nat → List Int → Int → List Int → Int → List Int → List Int → Bool → Option (Bool)
  | 0, _, _, _, _, _, _, _ => none
  | k + 1, x1, x3, x4, x5, x15, x17, x69 => if x69 = true then ((corbelhand_Few.f x15 (x15.length : Int)).bind fun t220 => (corbellaw6_MarkTells.l0 k x1 x3 x4 x5 t220 0)) else (corbellaw6_MarkTells.j3 k x1 x17)
def corbellaw6_MarkTells.j3 : Nat → List Int → List Int → Option (Bool)
  | 0, _, _ => none
  | k + 1, x1, x17 => (mark_Open.f k x17).bind fun bt255 => ((corbelref3_Open.f k x17).bind fun bt260 => ((corbellaw6_known.f k).bind fun t265 => (if t265 = true then ((mark_Sum.f k x1).bind fun t266 => ((corbelref3_Sum.f k x1).bind fun t267 => (if t266 = t267 then (if bt255.1 = bt260.1 then (if (strOfNums bt255.2.1).toList = (strOfNums bt260.2.1).toList then (some (bt255.2.2 == bt260.2.2)) else (some false)) else (some false)) else (some false)))) else (some false))))
def corbellaw6_MarkTells.l0 : Nat → List Int → Int → List Int → Int → List Int → Int → Option (Bool)
  | 0, _, _, _, _, _, _ => none
  | k + 1, x1, x3, x4, x5, x17, x18 => if x18 < (x4.length : Int) then (if x18 < 2 then (if 0 ≤ x18 then ((corbelhand_Pick.f (rd x4 x18) (x17.length : Int)).bind fun t224 => (if 0 ≤ t224 then (if t224 < (x17.length : Int) then (corbellaw6_MarkTells.l0 k x1 x3 x4 x5 (x17.set (t224 : Int).toNat (Go.bits .xor .u8 (rd x17 t224) x5)) (wrap64 (x18 + 1))) else (none)) else (none))) else (none)) else (if (Int.tmod x3 4) > 1 then (if 156 ≤ (x17.length : Int) then ((corbelref3_Sum.f k (x17.take 156)).bind fun t231 => ((some (x17.take (156 : Int).toNat : List Int)).bind fun y232 => ((some (([(t231 / 16777216) % 256, (t231 / 65536) % 256, (t231 / 256) % 256, (t231) % 256] : List Int) : List Int)).bind fun y235 => (if y232.length + y235.length < 140737488355328 then (corbellaw6_MarkTells.j3 k x1 (y232 ++ y235)) else (none))))) else (none)) else (corbellaw6_MarkTells.j3 k x1 x17))) else (if (Int.tmod x3 4) > 1 then (if 156 ≤ (x17.length : Int) then ((corbelref3_Sum.f k (x17.take 156)).bind fun t245 => ((some (x17.take (156 : Int).toNat : List Int)).bind fun y246 => ((some (([(t245 / 16777216) % 256, (t245 / 65536) % 256, (t245 / 256) % 256, (t245) % 256] : List Int) : List Int)).bind fun y249 => (if y246.length + y249.length < 140737488355328 then (corbellaw6_MarkTells.j3 k x1 (y246 ++ y249)) else (none))))) else (none)) else (corbellaw6_MarkTells.j3 k x1 x17))
end
def corbellaw6_MarkTells.f (k : Nat) (a0 : Int) (l1 : List Int) (l2 : List Int) (a3 : Int) (l4 : List Int) (a5 : Int) : Option (Bool) := (corbelhand_Pick.f a0 260).bind fun t208 => ((mark_Seal.f k (wrap64 (t208 - 1)) l1).bind fun bt209 => ((corbelref3_Seal.f k (wrap64 (t208 - 1)) l1).bind fun bt213 => (if (strOfNums bt209.1).toList = (strOfNums bt213.1).toList then (if ((bt209.2 == 0) != bt213.2) = true then (corbellaw6_MarkTells.j0 k l1 l2 a3 l4 a5 bt213.1 bt213.2 true) else (if bt213.2 = true then (corbellaw6_MarkTells.j0 k l1 l2 a3 l4 a5 bt213.1 bt213.2 false) else (corbellaw6_MarkTells.j0 k l1 l2 a3 l4 a5 bt213.1 bt213.2 (bt209.2 != 1)))) else (corbellaw6_MarkTells.j0 k l1 l2 a3 l4 a5 bt213.1 bt213.2 true))))
set_option maxRecDepth 100000 in
theorem corbellaw6_MarkTells.mono_l : ∀ k, (∀ y0 y1 y2 y3 y4 y5 y6 y7, LeO (corbellaw6_MarkTells.j0 k y0 y1 y2 y3 y4 y5 y6 y7) (corbellaw6_MarkTells.j0 (k + 1) y0 y1 y2 y3 y4 y5 y6 y7)) ∧ (∀ y0 y1 y2 y3 y4 y5 y6, LeO (corbellaw6_MarkTells.j1 k y0 y1 y2 y3 y4 y5 y6) (corbellaw6_MarkTells.j1 (k + 1) y0 y1 y2 y3 y4 y5 y6)) ∧ (∀ y0 y1, LeO (corbellaw6_MarkTells.j3 k y0 y1) (corbellaw6_MarkTells.j3 (k + 1) y0 y1)) ∧ (∀ y0 y1 y2 y3 y4 y5, LeO (corbellaw6_MarkTells.l0 k y0 y1 y2 y3 y4 y5) (corbellaw6_MarkTells.l0 (k + 1) y0 y1 y2 y3 y4 y5))
  | 0 => ⟨fun _ _ _ _ _ _ _ _ r h => by simp [corbellaw6_MarkTells.j0] at h, fun _ _ _ _ _ _ _ r h => by simp [corbellaw6_MarkTells.j1] at h, fun _ _ r h => by simp [corbellaw6_MarkTells.j3] at h, fun _ _ _ _ _ _ r h => by simp [corbellaw6_MarkTells.l0] at h⟩
  | k + 1 => by
    obtain ⟨ih0, ih1, ih2, ih3⟩ := corbellaw6_MarkTells.mono_l k
    refine ⟨?_, ?_, ?_, ?_⟩
    · intro y0 y1 y2 y3 y4 y5 y6 y7
      unfold corbellaw6_MarkTells.j0
      repeat' first
      | (with_reducible exact ih0 _ _ _ _ _ _ _ _)
      | (with_reducible exact ih1 _ _ _ _ _ _ _)
      | (with_reducible exact ih2 _ _)
      | (with_reducible exact ih3 _ _ _ _ _ _)
      | (with_reducible exact corbellaw6_known.mono _)
      | (with_reducible exact corbelref3_Open.mono _ _)
      | (with_reducible exact corbelref3_Seal.mono _ _ _)
      | (with_reducible exact corbelref3_Sum.mono _ _)
      | (with_reducible exact mark_Open.mono _ _)
      | (with_reducible exact mark_Seal.mono _ _ _)
      | (with_reducible exact mark_Sum.mono _ _)
      | (with_reducible exact LeO.refl _)
      | (with_reducible exact LeO.none _)
      | (with_reducible refine LeO.ite ?_ ?_)
      | (with_reducible refine LeO.bind ?_ (fun _ => ?_))
      | exact ih0 _ _ _ _ _ _ _ _
      | exact ih1 _ _ _ _ _ _ _
      | exact ih2 _ _
      | exact ih3 _ _ _ _ _ _
      | exact corbellaw6_known.mono _
      | exact corbelref3_Open.mono _ _
      | exact corbelref3_Seal.mono _ _ _
      | exact corbelref3_Sum.mono _ _
      | exact mark_Open.mono _ _
      | exact mark_Seal.mono _ _ _
      | exact mark_Sum.mono _ _
      | exact LeO.none _
      | refine LeO.ite ?_ ?_
      | refine LeO.bind ?_ (fun _ => ?_)
    · intro y0 y1 y2 y3 y4 y5 y6
      unfold corbellaw6_MarkTells.j1
      repeat' first
      | (with_reducible exact ih0 _ _ _ _ _ _ _ _)
      | (with_reducible exact ih1 _ _ _ _ _ _ _)
      | (with_reducible exact ih2 _ _)
      | (with_reducible exact ih3 _ _ _ _ _ _)
      | (with_reducible exact corbellaw6_known.mono _)
      | (with_reducible exact corbelref3_Open.mono _ _)
      | (with_reducible exact corbelref3_Seal.mono _ _ _)
      | (with_reducible exact corbelref3_Sum.mono _ _)
      | (with_reducible exact mark_Open.mono _ _)
      | (with_reducible exact mark_Seal.mono _ _ _)
      | (with_reducible exact mark_Sum.mono _ _)
      | (with_reducible exact LeO.refl _)
      | (with_reducible exact LeO.none _)
      | (with_reducible refine LeO.ite ?_ ?_)
      | (with_reducible refine LeO.bind ?_ (fun _ => ?_))
      | exact ih0 _ _ _ _ _ _ _ _
      | exact ih1 _ _ _ _ _ _ _
      | exact ih2 _ _
      | exact ih3 _ _ _ _ _ _
      | exact corbellaw6_known.mono _
      | exact corbelref3_Open.mono _ _
      | exact corbelref3_Seal.mono _ _ _
      | exact corbelref3_Sum.mono _ _
      | exact mark_Open.mono _ _
      | exact mark_Seal.mono _ _ _
      | exact mark_Sum.mono _ _
      | exact LeO.none _
      | refine LeO.ite ?_ ?_
      | refine LeO.bind ?_ (fun _ => ?_)
    · intro y0 y1
      unfold corbellaw6_MarkTells.j3
      repeat' first
      | (with_reducible exact ih0 _ _ _ _ _ _ _ _)
      | (with_reducible exact ih1 _ _ _ _ _ _ _)
      | (with_reducible exact ih2 _ _)
      | (with_reducible exact ih3 _ _ _ _ _ _)
      | (with_reducible exact corbellaw6_known.mono _)
      | (with_reducible exact corbelref3_Open.mono _ _)
      | (with_reducible exact corbelref3_Seal.mono _ _ _)
      | (with_reducible exact corbelref3_Sum.mono _ _)
      | (with_reducible exact mark_Open.mono _ _)
      | (with_reducible exact mark_Seal.mono _ _ _)
      | (with_reducible exact mark_Sum.mono _ _)
      | (with_reducible exact LeO.refl _)
      | (with_reducible exact LeO.none _)
      | (with_reducible refine LeO.ite ?_ ?_)
      | (with_reducible refine LeO.bind ?_ (fun _ => ?_))
      | exact ih0 _ _ _ _ _ _ _ _
      | exact ih1 _ _ _ _ _ _ _
      | exact ih2 _ _
      | exact ih3 _ _ _ _ _ _
      | exact corbellaw6_known.mono _
      | exact corbelref3_Open.mono _ _
      | exact corbelref3_Seal.mono _ _ _
      | exact corbelref3_Sum.mono _ _
      | exact mark_Open.mono _ _
      | exact mark_Seal.mono _ _ _
      | exact mark_Sum.mono _ _
      | exact LeO.none _
      | refine LeO.ite ?_ ?_
      | refine LeO.bind ?_ (fun _ => ?_)
    · intro y0 y1 y2 y3 y4 y5
      unfold corbellaw6_MarkTells.l0
      repeat' first
      | (with_reducible exact ih0 _ _ _ _ _ _ _ _)
      | (with_reducible exact ih1 _ _ _ _ _ _ _)
      | (with_reducible exact ih2 _ _)
      | (with_reducible exact ih3 _ _ _ _ _ _)
      | (with_reducible exact corbellaw6_known.mono _)
      | (with_reducible exact corbelref3_Open.mono _ _)
      | (with_reducible exact corbelref3_Seal.mono _ _ _)
      | (with_reducible exact corbelref3_Sum.mono _ _)
      | (with_reducible exact mark_Open.mono _ _)
      | (with_reducible exact mark_Seal.mono _ _ _)
      | (with_reducible exact mark_Sum.mono _ _)
      | (with_reducible exact LeO.refl _)
      | (with_reducible exact LeO.none _)
      | (with_reducible refine LeO.ite ?_ ?_)
      | (with_reducible refine LeO.bind ?_ (fun _ => ?_))
      | exact ih0 _ _ _ _ _ _ _ _
      | exact ih1 _ _ _ _ _ _ _
      | exact ih2 _ _
      | exact ih3 _ _ _ _ _ _
      | exact corbellaw6_known.mono _
      | exact corbelref3_Open.mono _ _
      | exact corbelref3_Seal.mono _ _ _
      | exact corbelref3_Sum.mono _ _
      | exact mark_Open.mono _ _
      | exact mark_Seal.mono _ _ _
      | exact mark_Sum.mono _ _
      | exact LeO.none _
      | refine LeO.ite ?_ ?_
      | refine LeO.bind ?_ (fun _ => ?_)
theorem corbellaw6_MarkTells.mono : ∀ a0 a1 a2 a3 a4 a5 k, LeO (corbellaw6_MarkTells.f k a0 a1 a2 a3 a4 a5) (corbellaw6_MarkTells.f (k + 1) a0 a1 a2 a3 a4 a5) := by
  intro a0 a1 a2 a3 a4 a5 k
  obtain ⟨ih0, ih1, ih2, ih3⟩ := corbellaw6_MarkTells.mono_l k
  unfold corbellaw6_MarkTells.f
  repeat' first
      | (with_reducible exact ih0 _ _ _ _ _ _ _ _)
      | (with_reducible exact ih1 _ _ _ _ _ _ _)
      | (with_reducible exact ih2 _ _)
      | (with_reducible exact ih3 _ _ _ _ _ _)
      | (with_reducible exact corbellaw6_known.mono _)
      | (with_reducible exact corbelref3_Open.mono _ _)
      | (with_reducible exact corbelref3_Seal.mono _ _ _)
      | (with_reducible exact corbelref3_Sum.mono _ _)
      | (with_reducible exact mark_Open.mono _ _)
      | (with_reducible exact mark_Seal.mono _ _ _)
      | (with_reducible exact mark_Sum.mono _ _)
      | (with_reducible exact LeO.refl _)
      | (with_reducible exact LeO.none _)
      | (with_reducible refine LeO.ite ?_ ?_)
      | (with_reducible refine LeO.bind ?_ (fun _ => ?_))
      | exact ih0 _ _ _ _ _ _ _ _
      | exact ih1 _ _ _ _ _ _ _
      | exact ih2 _ _
      | exact ih3 _ _ _ _ _ _
      | exact corbellaw6_known.mono _
      | exact corbelref3_Open.mono _ _
      | exact corbelref3_Seal.mono _ _ _
      | exact corbelref3_Sum.mono _ _
      | exact mark_Open.mono _ _
      | exact mark_Seal.mono _ _ _
      | exact mark_Sum.mono _ _
      | exact LeO.none _
      | refine LeO.ite ?_ ?_
      | refine LeO.bind ?_ (fun _ => ?_)
set_option maxHeartbeats 8000000 in
set_option maxRecDepth 100000 in
theorem corbellaw6_MarkTells.calls (k : Nat) (a0 : Int) (A1 : Option Addr) (c1 : Nat) (l1 : List Int) (A2 : Option Addr) (c2 : Nat) (l2 : List Int) (a3 : Int) (A4 : Option Addr) (c4 : Nat) (l4 : List Int) (a5 : Int) (r : Bool) (w : World) (hr1 : Kd.C (Kd.int .u8) w A1 l1.length l1) (hc1 : l1.length ≤ c1) (hr2 : Kd.C (Kd.int .u8) w A2 l2.length l2) (hc2 : l2.length ≤ c2) (hr4 : Kd.C (Kd.int .i64) w A4 l4.length l4) (hc4 : l4.length ≤ c4) (h : corbellaw6_MarkTells.f k a0 l1 l2 a3 l4 a5 = some r) :
    Calls Try.prog 4 #[.int .i64 a0, .slice A1 l1.length c1, .slice A2 l2.length c2, .int .i64 a3, .slice A4 l4.length c4, .int .u8 a5] w fun e w' => e = .returned (.bool r) ∧ Below w.heap.size w w' := by
  have HR1 := Aside0.mk hr1
  have HC1 := Aside0.mk hc1
  clear hr1 hc1
  have HR2 := Aside0.mk hr2
  have HC2 := Aside0.mk hc2
  clear hr2 hc2
  have HR4 := Aside0.mk hr4
  have HC4 := Aside0.mk hc4
  clear hr4 hc4
  have HB := Aside0.mk (Below.refl w.heap.size w)
  have H : ((corbelhand_Pick.f a0 260).bind fun t208 => ((mark_Seal.f k (wrap64 (t208 - 1)) l1).bind fun bt209 => ((corbelref3_Seal.f k (wrap64 (t208 - 1)) l1).bind fun bt213 => (if (strOfNums bt209.1).toList = (strOfNums bt213.1).toList then (if ((bt209.2 == 0) != bt213.2) = true then (corbellaw6_MarkTells.j0 k l1 l2 a3 l4 a5 bt213.1 bt213.2 true) else (if bt213.2 = true then (corbellaw6_MarkTells.j0 k l1 l2 a3 l4 a5 bt213.1 bt213.2 false) else (corbellaw6_MarkTells.j0 k l1 l2 a3 l4 a5 bt213.1 bt213.2 (bt209.2 != 1)))) else (corbellaw6_MarkTells.j0 k l1 l2 a3 l4 a5 bt213.1 bt213.2 true))))) = some r := h
  clear h
  replace H := Option.bind_eq_some_iff.mp H
  obtain ⟨t208, A70, H⟩ := H
  replace H : ((mark_Seal.f k (wrap64 (t208 - 1)) l1).bind fun bt209 => ((corbelref3_Seal.f k (wrap64 (t208 - 1)) l1).bind fun bt213 => (if (strOfNums bt209.1).toList = (strOfNums bt213.1).toList then (if ((bt209.2 == 0) != bt213.2) = true then (corbellaw6_MarkTells.j0 k l1 l2 a3 l4 a5 bt213.1 bt213.2 true) else (if bt213.2 = true then (corbellaw6_MarkTells.j0 k l1 l2 a3 l4 a5 bt213.1 bt213.2 false) else (corbellaw6_MarkTells.j0 k l1 l2 a3 l4 a5 bt213.1 bt213.2 (bt209.2 != 1)))) else (corbellaw6_MarkTells.j0 k l1 l2 a3 l4 a5 bt213.1 bt213.2 true)))) = some r := H
  have A7 := Aside0.mk A70
  clear A70
  replace H := Option.bind_eq_some_iff.mp H
  obtain ⟨⟨t209, t210⟩, A80, H⟩ := H
  replace H : ((corbelref3_Seal.f k (wrap64 (t208 - 1)) l1).bind fun bt213 => (if (strOfNums t209).toList = (strOfNums bt213.1).toList then (if ((t210 == 0) != bt213.2) = true then (corbellaw6_MarkTells.j0 k l1 l2 a3 l4 a5 bt213.1 bt213.2 true) else (if bt213.2 = true then (corbellaw6_MarkTells.j0 k l1 l2 a3 l4 a5 bt213.1 bt213.2 false) else (corbellaw6_MarkTells.j0 k l1 l2 a3 l4 a5 bt213.1 bt213.2 (t210 != 1)))) else (corbellaw6_MarkTells.j0 k l1 l2 a3 l4 a5 bt213.1 bt213.2 true))) = some r := H
  have A8 := Aside0.mk A80
  clear A80
  replace H := Option.bind_eq_some_iff.mp H
  obtain ⟨⟨t213, t214⟩, A90, H⟩ := H
  replace H : (if (strOfNums t209).toList = (strOfNums t213).toList then (if ((t210 == 0) != t214) = true then (corbellaw6_MarkTells.j0 k l1 l2 a3 l4 a5 t213 t214 true) else (if t214 = true then (corbellaw6_MarkTells.j0 k l1 l2 a3 l4 a5 t213 t214 false) else (corbellaw6_MarkTells.j0 k l1 l2 a3 l4 a5 t213 t214 (t210 != 1)))) else (corbellaw6_MarkTells.j0 k l1 l2 a3 l4 a5 t213 t214 true)) = some r := H
  have A9 := Aside0.mk A90
  clear A90
  have HC10 := Aside0.mk H
  clear H
  go_enter Try.func4, Try.ntmps4
  go_upto_region 4 with (first | ((with_reducible refine gate_callee (f := 17) rfl ?_); refine goesL_ (some 27) rfl rfl Try.func17 (by kernel_rfl) rfl #[.int .i64 a0, .int .i64 260] rfl (by (try simp only [List.map_toArray, List.map_cons, List.map_nil]); first | done | rfl | (simp only [List.length_drop, List.length_take]; rfl)) ?_; (with_reducible refine (corbelhand_Pick.calls a0 260 t208 _ A7.out).mono ?_); rintro e w' ⟨rfl, ⟨nd, rfl⟩⟩; refine ⟨_, rfl, ?_⟩) | ((with_reducible refine gate_callee (f := 14) rfl ?_); refine goesL_ (some 32) rfl rfl Try.func14 (by kernel_rfl) rfl #[.int .i64 (wrap64 (t208 - 1)), .slice A1 l1.length c1] rfl (by (try simp only [List.map_toArray, List.map_cons, List.map_nil]); first | done | rfl | (simp only [List.length_drop, List.length_take]; rfl)) ?_; (with_reducible refine (mark_Seal.calls k (wrap64 (t208 - 1)) _ _ l1 t209 t210 _ ?side1 ?side2 A8.out).mono ?_); (case side1 => repeat (first | exact HR1.out | (with_reducible refine Kd.C_alloc ?_ _) | (with_reducible refine Kd.C_drewN ?_ _) | (with_reducible refine Kd.C_drew ?_))); (case side2 => exact HC1.out); rintro e w11 ⟨v211, rfl, ho0, hb⟩; refine ⟨_, rfl, ?_⟩; have n0_ := Aside0.mk (Kd.R_lower ho0 (below_size (by repeat (first | (with_reducible first | exact HB.out | apply below_alloc | apply pw_below_drewN | apply below_drew1) | exact HB.out)))); have n1_ := Aside0.mk (below_step (by repeat (first | (with_reducible first | exact HB.out | apply below_alloc | apply pw_below_drewN | apply below_drew1) | exact HB.out)) hb); clear HB; have HO212 := n0_; have HB := n1_; clear n0_ n1_; (try clear hb); (try clear hb2); (try clear hk); (try clear hi); (try clear ho0)) | ((with_reducible refine gate_callee (f := 18) rfl ?_); refine goesL_ (some 38) rfl rfl Try.func18 (by kernel_rfl) rfl #[.int .i64 (wrap64 (t208 - 1)), .slice A1 l1.length c1] rfl (by (try simp only [List.map_toArray, List.map_cons, List.map_nil]); first | done | rfl | (simp only [List.length_drop, List.length_take]; rfl)) ?_; (with_reducible refine (corbelref3_Seal.calls k (wrap64 (t208 - 1)) _ _ l1 t213 t214 _ ?side1 ?side2 A9.out).mono ?_); (case side1 => repeat (first | exact (Kd.C_below HR1.out HB.out) | (with_reducible refine Kd.C_alloc ?_ _) | (with_reducible refine Kd.C_drewN ?_ _) | (with_reducible refine Kd.C_drew ?_))); (case side2 => exact HC1.out); rintro e w12 ⟨v215, rfl, ho0, hb⟩; refine ⟨_, rfl, ?_⟩; have n0_ := Aside0.mk (Kd.R_elder' (by (with_reducible repeat (first | apply Kd.R_alloc | apply Kd.R_drewN | apply Kd.R_drew)); exact HO212.out) (Kd.R_base ho0) hb); have n1_ := Aside0.mk (Kd.R_lower (Kd.R_new' ho0 (Kd.R_lt (by (with_reducible repeat (first | apply Kd.R_alloc | apply Kd.R_drewN | apply Kd.R_drew)); exact HO212.out))) (below_size (by repeat (first | (with_reducible first | exact HB.out | apply below_alloc | apply pw_below_drewN | apply below_drew1) | exact HB.out)))); have n2_ := Aside0.mk (below_step (by repeat (first | (with_reducible first | exact HB.out | apply below_alloc | apply pw_below_drewN | apply below_drew1) | exact HB.out)) hb); clear HO212; clear HB; have HO212 := n0_; have HO216 := n1_; have HB := n2_; clear n0_ n1_ n2_; (try clear hb); (try clear hb2); (try clear hk); (try clear hi); (try clear ho0)))
  (try simp only [Act.put, List.setIfInBounds_toArray, List.set_cons_zero, List.set_cons_succ])
  go_cut [59] (fun v59 wc => ∃ (kq : Nat) (x59_9 : Bool), v59 = .bool x59_9 ∧ Aside0 (corbellaw6_MarkTells.j0 kq l1 l2 a3 l4 a5 t213 t214 x59_9 = some r) ∧ Aside0 (kq ≤ k) ∧ Aside0 (Kd.R (Kd.int .u8) 5 wc w.heap.size (fun _ => True) v215 t213) ∧ Aside0 (Below w.heap.size w wc))
  case first =>
    have H := HC10.out
    clear HC10
    by_cases c13 : (strOfNums t209).toList = (strOfNums t213).toList
    · rw [if_pos c13] at H
      have c13b0 : ((strOfNums t209).toList == (strOfNums t213).toList) = true := beq_iff_eq.mpr c13
      have c13b1 : ((strOfNums t209).toList != (strOfNums t213).toList) = false := bne_eq_false_iff_eq.mpr c13
      clear c13
      (first | rw [c13b0] | (simp only [i64_w, i32_w]; rw [c13b0]) | skip)
      by_cases c14 : ((t210 == 0) != t214) = true
      · rw [if_pos c14] at H
        have c14b0 : ((t210 == 0) != t214) = true := c14
        (try (have c14b1 : decide ((t210 == 0) = t214) = false := by simpa using c14))
        (try (have c14b2 : ((t210 == 0) == t214) = false := by simpa using c14))
        (try (have c14b3 : ¬ ((t210 == 0) = t214) := by simpa using c14))
        clear c14
        have H' := Aside0.mk H
        clear H
        have hcv15 := own_string (P := Try.prog) Try.underlying22 Try.underlying5 Try.underlying9 (Kd.own_of_R HO212.out)
        have hcvd16 := fun (nq_ : Nat) => own_string (P := Try.prog) Try.underlying22 Try.underlying5 Try.underlying9 (Kd.own_of_R (Kd.R_drewN HO212.out nq_))
        have hcv17 := own_string (P := Try.prog) Try.underlying22 Try.underlying5 Try.underlying9 (Kd.own_of_R HO216.out)
        have hcvd18 := fun (nq_ : Nat) => own_string (P := Try.prog) Try.underlying22 Try.underlying5 Try.underlying9 (Kd.own_of_R (Kd.R_drewN HO216.out nq_))
        go_wp2
        go_meet
        case rel => exact ⟨_, (true), (by first | rfl | (simp; done) | (simp [*]; done)), H', ⟨by first | omega | exact Nat.le_refl _⟩, ⟨by (with_reducible repeat (first | apply Kd.R_alloc | apply Kd.R_drewN | apply Kd.R_drew)); exact Kd.R_mono HO216.out (fun _ hk => trivial)⟩, ⟨by repeat (first | (with_reducible first | exact HB.out | apply below_alloc | apply pw_below_drewN | apply below_drew1) | exact HB.out)⟩⟩
      · rw [if_neg c14] at H
        have c14b0 : ((t210 == 0) != t214) = false := by simpa using c14
        (try (have c14b1 : decide ((t210 == 0) = t214) = true := by simpa using c14))
        (try (have c14b2 : ((t210 == 0) == t214) = true := by simpa using c14))
        clear c14
        by_cases c19 : t214 = true
        · subst c19
          have H1 : (corbellaw6_MarkTells.j0 k l1 l2 a3 l4 a5 t213 true false) = some r := by rw [if_pos rfl] at H; exact H
          clear H
          have H := H1
          clear H1
          have H' := Aside0.mk H
          clear H
          have hcv20 := own_string (P := Try.prog) Try.underlying22 Try.underlying5 Try.underlying9 (Kd.own_of_R HO212.out)
          have hcvd21 := fun (nq_ : Nat) => own_string (P := Try.prog) Try.underlying22 Try.underlying5 Try.underlying9 (Kd.own_of_R (Kd.R_drewN HO212.out nq_))
          have hcv22 := own_string (P := Try.prog) Try.underlying22 Try.underlying5 Try.underlying9 (Kd.own_of_R HO216.out)
          have hcvd23 := fun (nq_ : Nat) => own_string (P := Try.prog) Try.underlying22 Try.underlying5 Try.underlying9 (Kd.own_of_R (Kd.R_drewN HO216.out nq_))
          go_wp2
          go_meet
          case rel => exact ⟨_, (false), (by first | rfl | (simp; done) | (simp [*]; done)), H', ⟨by first | omega | exact Nat.le_refl _⟩, ⟨by (with_reducible repeat (first | apply Kd.R_alloc | apply Kd.R_drewN | apply Kd.R_drew)); exact Kd.R_mono HO216.out (fun _ hk => trivial)⟩, ⟨by repeat (first | (with_reducible first | exact HB.out | apply below_alloc | apply pw_below_drewN | apply below_drew1) | exact HB.out)⟩⟩
        · replace c19 := Bool.eq_false_iff.mpr c19
          subst c19
          have H1 : (corbellaw6_MarkTells.j0 k l1 l2 a3 l4 a5 t213 false (t210 != 1)) = some r := by rw [if_neg (show ¬ (false = true) by decide)] at H; exact H
          clear H
          have H := H1
          clear H1
          have H' := Aside0.mk H
          clear H
          have hcv24 := own_string (P := Try.prog) Try.underlying22 Try.underlying5 Try.underlying9 (Kd.own_of_R HO212.out)
          have hcvd25 := fun (nq_ : Nat) => own_string (P := Try.prog) Try.underlying22 Try.underlying5 Try.underlying9 (Kd.own_of_R (Kd.R_drewN HO212.out nq_))
          have hcv26 := own_string (P := Try.prog) Try.underlying22 Try.underlying5 Try.underlying9 (Kd.own_of_R HO216.out)
          have hcvd27 := fun (nq_ : Nat) => own_string (P := Try.prog) Try.underlying22 Try.underlying5 Try.underlying9 (Kd.own_of_R (Kd.R_drewN HO216.out nq_))
          go_wp2
          go_meet
          case rel => exact ⟨_, ((t210 != 1)), (by first | rfl | (simp; done) | (simp [*]; done)), H', ⟨by first | omega | exact Nat.le_refl _⟩, ⟨by (with_reducible repeat (first | apply Kd.R_alloc | apply Kd.R_drewN | apply Kd.R_drew)); exact Kd.R_mono HO216.out (fun _ hk => trivial)⟩, ⟨by repeat (first | (with_reducible first | exact HB.out | apply below_alloc | apply pw_below_drewN | apply below_drew1) | exact HB.out)⟩⟩
    · rw [if_neg c13] at H
      have c13b0 : ((strOfNums t209).toList == (strOfNums t213).toList) = false := beq_eq_false_iff_ne.mpr c13
      have c13b1 : ((strOfNums t209).toList != (strOfNums t213).toList) = true := bne_iff_ne.mpr c13
      (first | rw [c13b0] | (simp only [i64_w, i32_w]; rw [c13b0]) | skip)
      have H' := Aside0.mk H
      clear H
      have hcv28 := own_string (P := Try.prog) Try.underlying22 Try.underlying5 Try.underlying9 (Kd.own_of_R HO212.out)
      have hcvd29 := fun (nq_ : Nat) => own_string (P := Try.prog) Try.underlying22 Try.underlying5 Try.underlying9 (Kd.own_of_R (Kd.R_drewN HO212.out nq_))
      have hcv30 := own_string (P := Try.prog) Try.underlying22 Try.underlying5 Try.underlying9 (Kd.own_of_R HO216.out)
      have hcvd31 := fun (nq_ : Nat) => own_string (P := Try.prog) Try.underlying22 Try.underlying5 Try.underlying9 (Kd.own_of_R (Kd.R_drewN HO216.out nq_))
      go_wp2
      go_meet
      case rel => exact ⟨_, (true), (by first | rfl | (simp; done) | (simp [*]; done)), H', ⟨by first | omega | exact Nat.le_refl _⟩, ⟨by (with_reducible repeat (first | apply Kd.R_alloc | apply Kd.R_drewN | apply Kd.R_drew)); exact Kd.R_mono HO216.out (fun _ hk => trivial)⟩, ⟨by repeat (first | (with_reducible first | exact HB.out | apply below_alloc | apply pw_below_drewN | apply below_drew1) | exact HB.out)⟩⟩
  case rest =>
    clear HC10
    try clear c1
    try clear hcv1
    try clear c2
    try clear p2
    try clear hcv2
    try clear hcv3
    try clear c4
    try clear p6
    try clear c13
    try clear c13b0
    try clear c13b1
    try clear c14
    try clear c14b0
    try clear c14b1
    try clear c14b2
    try clear hcv15
    try clear c17
    try clear hcv17
    try clear c18
    try clear c19
    try clear hcv20
    try clear hcv22
    try clear hcv24
    try clear hcv26
    try clear hcv28
    try clear hcv30
    obtain ⟨kq, x59_9, rfl, HA, HJ9, HO_15, HB⟩ := hcut
    cases kq with
    | zero => exact absurd HA.out (by simp [corbellaw6_MarkTells.j0])
    | succ kj9 =>
      have H := HA.out
      clear HA
      simp only [corbellaw6_MarkTells.j0] at H
      by_cases c32 : x59_9 = true
      · subst c32
        have H1 : (some false) = some r := by rw [if_pos rfl] at H; exact H
        clear H
        have H := H1
        clear H1
        obtain rfl := Option.some.inj H
        go_wp2
        go_ret
        exact ⟨by first | rfl | (simp [errW_none, errW_some] <;> rfl) | (simp [*, errW_none, errW_some] <;> rfl), by repeat (first | (with_reducible first | exact HB.out | apply below_alloc | apply pw_below_drewN | apply below_drew1) | exact HB.out)⟩
      · replace c32 := Bool.eq_false_iff.mpr c32
        subst c32
        have H1 : ((corbelhand_Few.f l2 (l2.length : Int)).bind fun t217 => (if t214 = true then (corbellaw6_MarkTells.j1 kj9 l1 a3 l4 a5 t213 t217 (decide ((Int.tmod a3 4) > 0))) else (corbellaw6_MarkTells.j1 kj9 l1 a3 l4 a5 t213 t217 false))) = some r := by rw [if_neg (show ¬ (false = true) by decide)] at H; exact H
        clear H
        have H := H1
        clear H1
        replace H := Option.bind_eq_some_iff.mp H
        obtain ⟨t217, A330, H⟩ := H
        replace H : (if t214 = true then (corbellaw6_MarkTells.j1 kj9 l1 a3 l4 a5 t213 t217 (decide ((Int.tmod a3 4) > 0))) else (corbellaw6_MarkTells.j1 kj9 l1 a3 l4 a5 t213 t217 false)) = some r := H
        have A33 := Aside0.mk A330
        clear A330
        have HC34 := Aside0.mk H
        clear H
        go_upto_region 7 with (first | ((with_reducible refine gate_callee (f := 19) rfl ?_); refine goesL_ (some 63) rfl rfl Try.func19 (by kernel_rfl) rfl #[.slice A2 l2.length c2, .int .i64 (l2.length : Int)] rfl (by (try simp only [List.map_toArray, List.map_cons, List.map_nil]); first | done | rfl | (simp only [List.length_drop, List.length_take]; rfl)) ?_; (with_reducible refine (corbelhand_Few.calls _ _ l2 (l2.length : Int) t217 _ ?side1 ?side2 A33.out).mono ?_); (case side1 => repeat (first | exact (Kd.C_below HR2.out HB.out) | (with_reducible refine Kd.C_alloc ?_ _) | (with_reducible refine Kd.C_drewN ?_ _) | (with_reducible refine Kd.C_drew ?_))); (case side2 => exact HC2.out); rintro e w35 ⟨v218, rfl, ho0, hb⟩; refine ⟨_, rfl, ?_⟩; have n0_ := Aside0.mk (Kd.R_elder' (by (with_reducible repeat (first | apply Kd.R_alloc | apply Kd.R_drewN | apply Kd.R_drew)); exact HO_15.out) (Kd.R_base ho0) hb); have n1_ := Aside0.mk (Kd.R_lower (Kd.R_new' ho0 (Kd.R_lt (by (with_reducible repeat (first | apply Kd.R_alloc | apply Kd.R_drewN | apply Kd.R_drew)); exact HO_15.out))) (below_size (by repeat (first | (with_reducible first | exact HB.out | apply below_alloc | apply pw_below_drewN | apply below_drew1) | exact HB.out)))); have n2_ := Aside0.mk (below_step (by repeat (first | (with_reducible first | exact HB.out | apply below_alloc | apply pw_below_drewN | apply below_drew1) | exact HB.out)) hb); clear HO_15; clear HB; have HO_15 := n0_; have HO219 := n1_; have HB := n2_; clear n0_ n1_ n2_; (try clear hb); (try clear hb2); (try clear hk); (try clear hi); (try clear ho0)))
        (try simp only [Act.put, List.setIfInBounds_toArray, List.set_cons_zero, List.set_cons_succ])
        go_cut [69] (fun v69 wc => ∃ (kq : Nat) (x69_33 : Bool), v69 = .bool x69_33 ∧ Aside0 (corbellaw6_MarkTells.j1 kq l1 a3 l4 a5 t213 t217 x69_33 = some r) ∧ Aside0 (kq ≤ kj9) ∧ Aside0 (Kd.R (Kd.int .u8) 5 wc w.heap.size (fun k_ => some k_ ≠ (v218 : Value).ownBlock) v215 t213) ∧ Aside0 (Kd.R (Kd.int .u8) 5 wc w.heap.size (fun k_ => some k_ ≠ (v215 : Value).ownBlock) v218 t217) ∧ Aside0 (Below w.heap.size w wc))
        case first =>
          have H := HC34.out
          clear HC34
          by_cases c36 : t214 = true
          · subst c36
            have H1 : (corbellaw6_MarkTells.j1 kj9 l1 a3 l4 a5 t213 t217 (decide ((Int.tmod a3 4) > 0))) = some r := by rw [if_pos rfl] at H; exact H
            clear H
            have H := H1
            clear H1
            have H' := Aside0.mk H
            clear H
            go_wp2
            go_meet
            case rel => exact ⟨_, (decide ((Int.tmod a3 4) > 0)), (by first | rfl | (simp; done) | (simp [*]; done)), H', ⟨by have := HJ9.out; first | omega | exact Nat.le_refl _⟩, ⟨by (with_reducible repeat (first | apply Kd.R_alloc | apply Kd.R_drewN | apply Kd.R_drew)); exact Kd.R_mono HO_15.out (fun _ hk => hk.2)⟩, ⟨by (with_reducible repeat (first | apply Kd.R_alloc | apply Kd.R_drewN | apply Kd.R_drew)); exact Kd.R_mono HO219.out (fun _ hk => hk.2)⟩, ⟨by repeat (first | (with_reducible first | exact HB.out | apply below_alloc | apply pw_below_drewN | apply below_drew1) | exact HB.out)⟩⟩
          · replace c36 := Bool.eq_false_iff.mpr c36
            subst c36
            have H1 : (corbellaw6_MarkTells.j1 kj9 l1 a3 l4 a5 t213 t217 false) = some r := by rw [if_neg (show ¬ (false = true) by decide)] at H; exact H
            clear H
            have H := H1
            clear H1
            have H' := Aside0.mk H
            clear H
            go_wp2
            go_meet
            case rel => exact ⟨_, (false), (by first | rfl | (simp; done) | (simp [*]; done)), H', ⟨by have := HJ9.out; first | omega | exact Nat.le_refl _⟩, ⟨by (with_reducible repeat (first | apply Kd.R_alloc | apply Kd.R_drewN | apply Kd.R_drew)); exact Kd.R_mono HO_15.out (fun _ hk => hk.2)⟩, ⟨by (with_reducible repeat (first | apply Kd.R_alloc | apply Kd.R_drewN | apply Kd.R_drew)); exact Kd.R_mono HO219.out (fun _ hk => hk.2)⟩, ⟨by repeat (first | (with_reducible first | exact HB.out | apply below_alloc | apply pw_below_drewN | apply below_drew1) | exact HB.out)⟩⟩
        case rest =>
          clear HC34
          try clear c1
          try clear hcv1
          try clear c2
          try clear p2
          try clear hcv2
          try clear c3
          try clear hcv3
          try clear c4
          try clear p6
          try clear c13
          try clear c13b0
          try clear c13b1
          try clear c14
          try clear c14b0
          try clear c14b1
          try clear c14b2
          try clear hcv15
          try clear c17
          try clear hcv17
          try clear c18
          try clear c19
          try clear hcv20
          try clear hcv22
          try clear hcv24
          try clear hcv26
          try clear hcv28
          try clear hcv30
          try clear c32
          try clear c36
          try clear p2
          try clear p6
          obtain ⟨kq, x69_33, rfl, HA, HJ33, HO_15, HO_17, HB⟩ := hcut
          cases kq with
          | zero => exact absurd HA.out (by simp [corbellaw6_MarkTells.j1])
          | succ kj33 =>
            have H := HA.out
            clear HA
            simp only [corbellaw6_MarkTells.j1] at H
            have HC37 := Aside0.mk H
            clear H
            go_upto_if 69 with (fail)
            go_cut [17] (fun v17 wc => ∃ (kq : Nat) (x17_36 : List Int), Aside0 (corbellaw6_MarkTells.j3 kq l1 x17_36 = some r) ∧ Aside0 (kq ≤ kj33) ∧ Aside0 (Kd.R (Kd.int .u8) 5 wc w.heap.size (fun _ => True) v17 x17_36) ∧ Aside0 (Below w.heap.size w wc))
            case first =>
              have H := HC37.out
              clear HC37
              by_cases c38 : x69_33 = true
              · subst c38
                have H1 : ((corbelhand_Few.f t213 (t213.length : Int)).bind fun t220 => (corbellaw6_MarkTells.l0 kj33 l1 a3 l4 a5 t220 0)) = some r := by rw [if_pos rfl] at H; exact H
                clear H
                have H := H1
                clear H1
                replace H := Option.bind_eq_some_iff.mp H
                obtain ⟨t220, A390, H⟩ := H
                replace H : (corbellaw6_MarkTells.l0 kj33 l1 a3 l4 a5 t220 0) = some r := H
                have A39 := Aside0.mk A390
                clear A390
                have H' := Aside0.mk H
                clear H
                obtain ⟨Ao40, co40, eo40⟩ := Kd.R_slice HO_15.out
                subst eo40
                go_wp2_with (first | ((with_reducible refine gate_callee (f := 19) rfl ?_); refine goesL_ (some 73) rfl rfl Try.func19 (by kernel_rfl) rfl #[.slice Ao40 t213.length co40, .int .i64 (t213.length : Int)] rfl (by (try simp only [List.map_toArray, List.map_cons, List.map_nil]); first | done | rfl | (simp only [List.length_drop, List.length_take]; rfl)) ?_; (with_reducible refine (corbelhand_Few.calls _ _ t213 (t213.length : Int) t220 _ ?side1 ?side2 A39.out).mono ?_); (case side1 => repeat (first | exact (Kd.R_reads' HO_15.out).2.2 | (with_reducible refine Kd.C_alloc ?_ _) | (with_reducible refine Kd.C_drewN ?_ _) | (with_reducible refine Kd.C_drew ?_))); (case side2 => exact (Kd.R_reads' HO_15.out).2.1); rintro e w41 ⟨v221, rfl, ho0, hb⟩; refine ⟨_, rfl, ?_⟩; have n0_ := Aside0.mk (Kd.R_elder' (by (with_reducible repeat (first | apply Kd.R_alloc | apply Kd.R_drewN | apply Kd.R_drew)); exact HO_15.out) (Kd.R_base ho0) hb); have n1_ := Aside0.mk (Kd.R_elder' (by (with_reducible repeat (first | apply Kd.R_alloc | apply Kd.R_drewN | apply Kd.R_drew)); exact HO_17.out) (Kd.R_base ho0) hb); have n2_ := Aside0.mk (Kd.R_lower (Kd.R_new' (Kd.R_new' ho0 (Kd.R_lt (by (with_reducible repeat (first | apply Kd.R_alloc | apply Kd.R_drewN | apply Kd.R_drew)); exact HO_15.out))) (Kd.R_lt (by (with_reducible repeat (first | apply Kd.R_alloc | apply Kd.R_drewN | apply Kd.R_drew)); exact HO_17.out))) (below_size (by repeat (first | (with_reducible first | exact HB.out | apply below_alloc | apply pw_below_drewN | apply below_drew1) | exact HB.out)))); have n3_ := Aside0.mk (below_step (by repeat (first | (with_reducible first | exact HB.out | apply below_alloc | apply pw_below_drewN | apply below_drew1) | exact HB.out)) hb); clear HO_15; clear HO_17; clear HB; have HO_15 := n0_; have HO_17 := n1_; have HO222 := n2_; have HB := n3_; clear n0_ n1_ n2_ n3_; (try clear hb); (try clear hb2); (try clear hk); (try clear hi); (try clear ho0)))
                go_loopg [18] kj33 (fun kq v18 w' => ∃ (x17_3 : List Int) (x18_3 : Int), v18 = .int .i64 x18_3 ∧ Aside0 (corbellaw6_MarkTells.l0 kq l1 a3 l4 a5 x17_3 x18_3 = some r) ∧ Aside0 (kq ≤ kj33) ∧ Aside0 (Kd.R (Kd.int .u8) 5 w' w.heap.size (fun _ => True) v221 x17_3) ∧ Aside0 (Below w.heap.size w w'))
                case atStart => exact ⟨(t220), (0), (by first | rfl | (simp; done) | (simp [*]; done)), H', ⟨Nat.le_refl _⟩, ⟨by (with_reducible repeat (first | apply Kd.R_alloc | apply Kd.R_drewN | apply Kd.R_drew)); exact Kd.R_mono HO222.out (fun _ hk => trivial)⟩, ⟨by repeat (first | (with_reducible first | exact HB.out | apply below_alloc | apply pw_below_drewN | apply below_drew1) | exact HB.out)⟩⟩
                case round =>
                  clear H'
                  try clear c1
                  try clear hcv1
                  try clear c2
                  try clear p2
                  try clear hcv2
                  try clear c3
                  try clear hcv3
                  try clear c4
                  try clear p6
                  try clear c13
                  try clear c13b0
                  try clear c13b1
                  try clear c14
                  try clear c14b0
                  try clear c14b1
                  try clear c14b2
                  try clear hcv15
                  try clear c17
                  try clear hcv17
                  try clear c18
                  try clear c19
                  try clear hcv20
                  try clear hcv22
                  try clear hcv24
                  try clear hcv26
                  try clear hcv28
                  try clear hcv30
                  try clear c32
                  try clear c36
                  try clear c38
                  try clear p2
                  try clear p6
                  obtain ⟨x17_3, x18_3, rfl, HA, HK3, HO_17, HB⟩ := hrel
                  cases gk with
                  | zero => exact absurd HA.out (by simp [corbellaw6_MarkTells.l0])
                  | succ k3 =>
                    have H := HA.out
                    clear HA
                    simp only [corbellaw6_MarkTells.l0] at H
                    by_cases c42 : x18_3 < (l4.length : Int)
                    · rw [if_pos c42] at H
                      have c42b0 : decide (x18_3 < (l4.length : Int)) = true := decide_eq_true c42
                      clear c42
                      (first | rw [c42b0] | (simp only [i64_w, i32_w]; rw [c42b0]) | skip)
                      by_cases c43 : x18_3 < 2
                      · rw [if_pos c43] at H
                        have c43b0 : decide (x18_3 < 2) = true := decide_eq_true c43
                        clear c43
                        by_cases c44 : 0 ≤ x18_3
                        · rw [if_pos c44] at H
                          have c44b0 : decide (0 ≤ x18_3) = true := decide_eq_true c44
                          clear c44
                          replace H := Option.bind_eq_some_iff.mp H
                          obtain ⟨t224, A450, H⟩ := H
                          replace H : (if 0 ≤ t224 then (if t224 < (x17_3.length : Int) then (corbellaw6_MarkTells.l0 k3 l1 a3 l4 a5 (x17_3.set (t224 : Int).toNat (Go.bits .xor .u8 (rd x17_3 t224) a5)) (wrap64 (x18_3 + 1))) else (none)) else (none)) = some r := H
                          have A45 := Aside0.mk A450
                          clear A450
                          by_cases c46 : 0 ≤ t224
                          · rw [if_pos c46] at H
                            have c46b0 : decide (0 ≤ t224) = true := decide_eq_true c46
                            clear c46
                            by_cases c47 : t224 < (x17_3.length : Int)
                            · rw [if_pos c47] at H
                              have c47b0 : decide (t224 < (x17_3.length : Int)) = true := decide_eq_true c47
                              clear c47
                              obtain ⟨y226, hy226⟩ : ∃ y_ : List Int, y_ = (x17_3.set (t224 : Int).toNat (Go.bits .xor .u8 (rd x17_3 t224) a5)) := ⟨_, rfl⟩
                              replace H : (corbellaw6_MarkTells.l0 k3 l1 a3 l4 a5 y226 (wrap64 (x18_3 + 1))) = some r := by first | (rw [hy226]; with_reducible exact H) | (have H2_ := (Option.bind_some _ _).symm.trans H; rw [hy226]; with_reducible exact H2_) | (have H2_ := (Option.bind_some _ _).symm.trans H; with_reducible exact H2_) | with_reducible exact H | (rw [hy226]; exact H) | exact H
                              have Ny226 := Aside0.mk hy226
                              clear hy226
                              have H' := Aside0.mk H
                              clear H
                              have p223 : 0 ≤ (x18_3 : Int) := of_decide_eq_true (by first | (with_reducible assumption) | assumption)
                              have q223 : x18_3 < (l4.length : Int) := of_decide_eq_true (by first | (with_reducible assumption) | assumption)
                              obtain ⟨ad223, e223, hx223_0⟩ := Kd.at_int HR4.out x18_3 p223 q223
                              cases e223
                              replace hx223_0 := (HB.out.cell (World.block_lt_of_cell? w _ hx223_0)).trans hx223_0
                              replace p223 := eq_true p223
                              replace q223 := eq_true q223
                              obtain ⟨Ao49, co49, eo49⟩ := Kd.R_slice HO_17.out
                              subst eo49
                              go_wp2_with (first | ((with_reducible refine gate_callee (f := 17) rfl ?_); refine goesL_ (some 91) rfl rfl Try.func17 (by kernel_rfl) rfl #[.int .i64 (rd l4 x18_3), .int .i64 (x17_3.length : Int)] rfl (by (try simp only [List.map_toArray, List.map_cons, List.map_nil]); first | done | rfl | (simp only [List.length_drop, List.length_take]; rfl)) ?_; (with_reducible refine (corbelhand_Pick.calls (rd l4 x18_3) (x17_3.length : Int) t224 _ A45.out).mono ?_); rintro e w' ⟨rfl, ⟨nd, rfl⟩⟩; refine ⟨_, rfl, ?_⟩; (try (rw [drewN_self wr]; generalize hq_ : World.drewN wr _ = wr; have n0_ : Aside0 (Kd.R (Kd.int .u8) 5 wr w.heap.size (fun _ => True) (.slice Ao49 x17_3.length co49) x17_3) := ⟨by rw [← hq_]; exact (by (with_reducible repeat (first | apply Kd.R_alloc | apply Kd.R_drewN | apply Kd.R_drew)); exact HO_17.out)⟩; have n1_ : Aside0 (Below w.heap.size w wr) := ⟨by rw [← hq_]; exact (by repeat (first | (with_reducible first | exact HB.out | apply below_alloc | apply pw_below_drewN | apply below_drew1) | exact HB.out))⟩; clear HO_17 HB hq_; have HO_17 := n0_; have HB := n1_; clear n0_ n1_)); have p225 : 0 ≤ (t224 : Int) := of_decide_eq_true (by first | (with_reducible assumption) | assumption); have q225 : t224 < (x17_3.length : Int) := of_decide_eq_true (by first | (with_reducible assumption) | assumption); obtain ⟨ad225, e225, hx225_0⟩ := Kd.at_int (Kd.R_reads' HO_17.out).2.2 t224 p225 q225; cases e225; replace p225 := eq_true p225; replace q225 := eq_true q225; have p48 : 0 ≤ (t224 : Int) := of_decide_eq_true (by first | (with_reducible assumption) | assumption); have q48 : (t224 : Int) < ((x17_3.length : Int) : Int) := of_decide_eq_true (by first | (with_reducible assumption) | assumption); obtain ⟨go48, co48, eo48, gb48, gl48, cl48, HG48⟩ := Kd.R_form HO_17.out (by omega); (first | cases eo48 | (injection eo48 with ea_ en_ ec_; (first | subst ea_ | (injection ea_ with ea_; subst ea_)); subst ec_; clear en_)); have GB48 := Aside0.mk gb48; have GG48 := Aside0.mk HG48; clear gb48 gl48 HG48; (first | simp only [add_plain] at hx225_0 | skip); obtain ⟨hx48_0, hf48_0⟩ := Kd.R_celln 0 HO_17.out (t224 : Int) p48 q48; replace p48 := eq_true p48; replace q48 := eq_true q48; obtain ⟨hy50_, hz50_⟩ := Kd.R_celln 0 HO_17.out (t224 : Int) (of_decide_eq_true (by first | (with_reducible assumption) | assumption)) (of_decide_eq_true (by first | (with_reducible assumption) | assumption)); have HP50 := Kd.R_putg HO_17.out (t224 : Int) (Go.bits .xor .u8 (rd x17_3 t224) a5)) | ((with_reducible refine gate_store (t := 5) (p := 96) rfl ?_); refine store_event (t := 5) (p := 96) (v := ?vo_w51) (w1 := (wr.setCell ⟨go48, (t224 : Int).toNat, none⟩ (.int .u8 (Go.bits .xor .u8 (rd x17_3 t224) a5)))) ?hg ?ho ?hn ?hr ?_; (case ho => rfl); (case hg => rfl); (case hn => rfl); (case hr => first | (go_simp; done) | (go_simp; rfl)); intro w51 hw; have hg : wr.grownBy w51 (some go48) := (by rw [hw]; exact HP50.2); have hp_ : Kd.R (Kd.int .u8) 5 w51 w.heap.size (fun _ => True) (.slice (some ⟨go48, 0, none⟩) x17_3.length co49) y226 := (by rw [hw, Ny226.out]; exact HP50.1); clear HP50; have n0_ := Aside0.mk (hp_); have n1_ := Aside0.mk ((by rw [hw]; exact below_set (HB.out) GB48.out : Below w.heap.size w w51)); clear HO_17; clear HB; have HO_17 := n0_; have HB := n1_; clear n0_ n1_; clear hg hw hp_))
                              go_roundg k3
                              case measure => have := HJ9.out; have := HJ33.out; have := HK3.out; omega
                              case rel => exact ⟨(y226), (wrap64 (x18_3 + 1)), (by first | rfl | (simp; done) | (simp [*]; done)), H', ⟨by have := HJ9.out; have := HJ33.out; have := HK3.out; omega⟩, ⟨by (with_reducible repeat (first | apply Kd.R_alloc | apply Kd.R_drewN | apply Kd.R_drew)); exact HO_17.out⟩, ⟨by repeat (first | (with_reducible first | exact HB.out | apply below_alloc | apply pw_below_drewN | apply below_drew1) | exact HB.out)⟩⟩
                            · rw [if_neg c47] at H
                              exact absurd H (by simp)
                          · rw [if_neg c46] at H
                            exact absurd H (by simp)
                        · rw [if_neg c44] at H
                          exact absurd H (by simp)
                      · rw [if_neg c43] at H
                        have c43b0 : decide (x18_3 < 2) = false := decide_eq_false c43
                        clear c43
                        by_cases c52 : (Int.tmod a3 4) > 1
                        · rw [if_pos c52] at H
                          have c52b0 : decide (1 < (Int.tmod a3 4)) = true := decide_eq_true c52
                          clear c52
                          by_cases c53 : 156 ≤ (x17_3.length : Int)
                          · rw [if_pos c53] at H
                            have c53b0 := eq_true c53
                            have c53b1 : decide (156 ≤ (x17_3.length : Int)) = true := decide_eq_true c53
                            clear c53
                            obtain ⟨y227, hy227⟩ : ∃ y_ : List Int, y_ = (x17_3.take 156) := ⟨_, rfl⟩
                            replace H : ((corbelref3_Sum.f k3 y227).bind fun t231 => ((some (x17_3.take (156 : Int).toNat : List Int)).bind fun y232 => ((some (([(t231 / 16777216) % 256, (t231 / 65536) % 256, (t231 / 256) % 256, (t231) % 256] : List Int) : List Int)).bind fun y235 => (if y232.length + y235.length < 140737488355328 then (corbellaw6_MarkTells.j3 k3 l1 (y232 ++ y235)) else (none))))) = some r := by first | (rw [hy227]; with_reducible exact H) | (have H2_ := (Option.bind_some _ _).symm.trans H; rw [hy227]; with_reducible exact H2_) | (have H2_ := (Option.bind_some _ _).symm.trans H; with_reducible exact H2_) | with_reducible exact H | (rw [hy227]; exact H) | exact H
                            have Ny227 := Aside0.mk hy227
                            clear hy227
                            replace H := Option.bind_eq_some_iff.mp H
                            obtain ⟨t231, A540, H⟩ := H
                            replace H : ((some (x17_3.take (156 : Int).toNat : List Int)).bind fun y232 => ((some (([(t231 / 16777216) % 256, (t231 / 65536) % 256, (t231 / 256) % 256, (t231) % 256] : List Int) : List Int)).bind fun y235 => (if y232.length + y235.length < 140737488355328 then (corbellaw6_MarkTells.j3 k3 l1 (y232 ++ y235)) else (none)))) = some r := H
                            have A54 := Aside0.mk A540
                            clear A540
                            have c55b0 := eq_true (of_decide_eq_true (by first | (with_reducible assumption) | assumption) : 156 ≤ (x17_3.length : Int))
                            obtain ⟨y232, hy232⟩ : ∃ y_ : List Int, y_ = (x17_3.take (156 : Int).toNat) := ⟨_, rfl⟩
                            replace H : ((some (([(t231 / 16777216) % 256, (t231 / 65536) % 256, (t231 / 256) % 256, (t231) % 256] : List Int) : List Int)).bind fun y235 => (if y232.length + y235.length < 140737488355328 then (corbellaw6_MarkTells.j3 k3 l1 (y232 ++ y235)) else (none))) = some r := by first | (rw [hy232]; with_reducible exact H) | (have H2_ := (Option.bind_some _ _).symm.trans H; rw [hy232]; with_reducible exact H2_) | (have H2_ := (Option.bind_some _ _).symm.trans H; with_reducible exact H2_) | with_reducible exact H | (rw [hy232]; exact H) | exact H
                            have Ny232 := Aside0.mk hy232
                            clear hy232
                            obtain ⟨y235, hy235⟩ : ∃ y_ : List Int, y_ = (([(t231 / 16777216) % 256, (t231 / 65536) % 256, (t231 / 256) % 256, (t231) % 256] : List Int)) := ⟨_, rfl⟩
                            replace H : (if y232.length + y235.length < 140737488355328 then (corbellaw6_MarkTells.j3 k3 l1 (y232 ++ y235)) else (none)) = some r := by first | (rw [hy235]; with_reducible exact H) | (have H2_ := (Option.bind_some _ _).symm.trans H; rw [hy235]; with_reducible exact H2_) | (have H2_ := (Option.bind_some _ _).symm.trans H; with_reducible exact H2_) | with_reducible exact H | (rw [hy235]; exact H) | exact H
                            have Ny235 := Aside0.mk hy235
                            clear hy235
                            by_cases c56 : y232.length + y235.length < 140737488355328
                            · rw [if_pos c56] at H
                              have LMc56 := Aside0.mk c56
                              clear c56
                              obtain ⟨y238, hy238⟩ : ∃ y_ : List Int, y_ = (y232 ++ y235) := ⟨_, rfl⟩
                              replace H : (corbellaw6_MarkTells.j3 k3 l1 y238) = some r := by first | (rw [hy238]; with_reducible exact H) | (have H2_ := (Option.bind_some _ _).symm.trans H; rw [hy238]; with_reducible exact H2_) | (have H2_ := (Option.bind_some _ _).symm.trans H; with_reducible exact H2_) | with_reducible exact H | (rw [hy238]; exact H) | exact H
                              have Ny238 := Aside0.mk hy238
                              clear hy238
                              have H' := Aside0.mk H
                              clear H
                              obtain ⟨Ao58, co58, eo58⟩ := Kd.R_slice HO_17.out
                              subst eo58
                              have q57 : (156 : Int) ≤ ((x17_3.length : Int) : Int) := of_decide_eq_true (by first | (with_reducible assumption) | assumption)
                              obtain ⟨i057, hi057, _, hsz57, _⟩ := info_parts info5
                              have hroom57 : x17_3.length ≤ co58 := (Kd.R_reads' HO_17.out).2.1
                              have hC57 : Kd.C (Kd.int .u8) _ Ao58 x17_3.length x17_3 := (Kd.R_reads' HO_17.out).2.2
                              have hcut57 := cut_to (P := Try.prog) 22 5 .i64 Try.underlying22 hi057 Ao58 x17_3.length co58 156 (by omega) q57 hroom57
                              have hr57 := Kd.C_take (m := 156) hC57 (by omega)
                              have hy57 : y227.length = (156 : Int).toNat := (by rw [Ny227.out, List.length_take]; omega)
                              rw [← Ny227.out] at hr57
                              rw [← hy57] at hcut57
                              have HR230 := Aside0.mk hr57
                              have HC230 := Aside0.mk (show y227.length ≤ co58 from by omega)
                              clear hr57 hC57 hroom57 hi057 hsz57
                              have KY57 := Aside0.mk hy57
                              clear hy57
                              have KL57 := Aside0.mk (show 156 ≤ x17_3.length from by omega)
                              replace q57 := eq_true q57
                              go_wp2_with (first | ((with_reducible refine gate_callee (f := 20) rfl ?_); refine goesL_ (some 102) rfl rfl Try.func20 (by kernel_rfl) rfl #[.slice Ao58 y227.length co58] rfl (by (try simp only [List.map_toArray, List.map_cons, List.map_nil]); first | done | rfl | (simp only [List.length_drop, List.length_take]; rfl)) ?_; (with_reducible refine (corbelref3_Sum.calls k3 _ _ y227 t231 _ ?side1 ?side2 A54.out).mono ?_); (case side1 => repeat (first | exact (by repeat (first | (with_reducible exact HR230.out) | (with_reducible refine Kd.C_alloc ?_ _) | (with_reducible refine Kd.C_drewN ?_ _) | (with_reducible refine Kd.C_drew ?_) | exact HR230.out)) | (with_reducible refine Kd.C_alloc ?_ _) | (with_reducible refine Kd.C_drewN ?_ _) | (with_reducible refine Kd.C_drew ?_))); (case side2 => exact HC230.out); rintro e w' ⟨rfl, ⟨nd, rfl⟩⟩; refine ⟨_, rfl, ?_⟩; have q59 : (156 : Int) ≤ ((x17_3.length : Int) : Int) := of_decide_eq_true (by first | (with_reducible assumption) | assumption); obtain ⟨i059, hi059, _, hsz59, _⟩ := info_parts info5; (try clear hcut57); have hcut59 := cut_to (P := Try.prog) 22 5 .i64 Try.underlying22 hi059 Ao58 x17_3.length co58 156 (by omega) q59 (Kd.R_reads' HO_17.out).2.1; have hr59 := Kd.R_take (m := (156 : Int).toNat) HO_17.out (by omega); have hy59 : y232.length = (156 : Int).toNat := (by rw [Ny232.out, List.length_take]; omega); rw [← Ny232.out] at hr59; rw [← hy59] at hr59 hcut59; clear hy59 hi059 hsz59 HO_17; have HO234 := Aside0.mk hr59; clear hr59; replace q59 := eq_true q59) | ((with_reducible refine gate_dst (N := 116) rfl ?_); refine Kd.R_lit (Kd.int .u8) _ 5 ?hg (N := 116) ?hd (xs := ([(t231 / 16777216) % 256, (t231 / 65536) % 256, (t231 / 256) % 256, (t231) % 256] : List Int)) (inner := [.int .u8 ((t231 / 16777216) % 256), .int .u8 ((t231 / 65536) % 256), .int .u8 ((t231 / 256) % 256), .int .u8 ((t231) % 256)]) (ok := fun _ => True) (okp := fun _ => True) ?hr ?hp (fun _ hk => hk) trivial (Below.refl _ _) (Nat.le_refl _) (by simp) ?_; (case hd => rfl); (case hg => rfl); (case hr => first | (go_simp; done) | (go_simp; rfl)); (case hp => exact (Reps.one (show Kd.M (Kd.int .u8) _ _ _ ((t231 / 16777216) % 256) [.int .u8 ((t231 / 16777216) % 256)] from rfl) (Reps.one (show Kd.M (Kd.int .u8) _ _ _ ((t231 / 65536) % 256) [.int .u8 ((t231 / 65536) % 256)] from rfl) (Reps.one (show Kd.M (Kd.int .u8) _ _ _ ((t231 / 256) % 256) [.int .u8 ((t231 / 256) % 256)] from rfl) (Reps.one (show Kd.M (Kd.int .u8) _ _ _ ((t231) % 256) [.int .u8 ((t231) % 256)] from rfl) (Reps.none _ _)))))); intro v236 w60 ho61 hb hg_ hnew_; clear hg_ hnew_; (first | rw [← Ny235.out] at ho61 | (simp only [Int.reduceToNat] at ho61; rw [← Ny235.out] at ho61)); have n0_ := Aside0.mk (Kd.R_elder' (by (with_reducible repeat (first | apply Kd.R_alloc | apply Kd.R_drewN | apply Kd.R_drew)); exact HO234.out) (Kd.R_base ho61) hb); have n1_ := Aside0.mk (Kd.R_lower (Kd.R_new' ho61 (Kd.R_lt (by (with_reducible repeat (first | apply Kd.R_alloc | apply Kd.R_drewN | apply Kd.R_drew)); exact HO234.out))) (below_size (by repeat (first | (with_reducible first | exact HB.out | apply below_alloc | apply pw_below_drewN | apply below_drew1) | exact HB.out)))); have n2_ := Aside0.mk (Kd.C_below (by repeat (first | (with_reducible exact HR230.out) | (with_reducible refine Kd.C_alloc ?_ _) | (with_reducible refine Kd.C_drewN ?_ _) | (with_reducible refine Kd.C_drew ?_) | exact HR230.out)) hb); have n3_ := Aside0.mk (below_step (by repeat (first | (with_reducible first | exact HB.out | apply below_alloc | apply pw_below_drewN | apply below_drew1) | exact HB.out)) hb); clear HO234; clear HR230; clear HB; have HO234 := n0_; have HO237 := n1_; have HR230 := n2_; have HB := n3_; clear n0_ n1_ n2_ n3_; clear hb ho61; obtain ⟨Ao63, co63, eo63⟩ := Kd.R_slice HO237.out; subst eo63) | ((with_reducible refine gate_builtin (b := .append) (xs := #[.tmp 104, .tmp 116]) rfl ?_); at_builtin; refine Kd.R_append_rows (Kd.int .u8) (w0 := w) w.heap.size rfl (.tmp 104) (.tmp 116) 22 5 (.int .u8 0) 1 rfl Try.underlying22 info5 rfl (by decide) (by omega) (.slice Ao58 y232.length co58) y232 y235 _ _ _ (fun k_ => some k_ ≠ (.slice Ao63 y235.length co63 : Value).ownBlock) (fun _ => False) rfl rfl ?aO ?aR (fun _ _ h => h) (fun _ h => h.elim) ?aF ?aB ?aS ?aL ?_; (case aR => repeat (first | exact (Kd.R_reads' HO237.out).2.2 | (with_reducible refine Kd.C_alloc ?_ _) | (with_reducible refine Kd.C_drewN ?_ _) | (with_reducible refine Kd.C_drew ?_))); (case aB => exact (by repeat (first | (with_reducible first | exact HB.out | apply below_alloc | apply pw_below_drewN | apply below_drew1) | exact HB.out))); (case aF => exact (fun k_ hk => Kd.fresh' (Kd.R_lt (by (with_reducible repeat (first | apply Kd.R_alloc | apply Kd.R_drewN | apply Kd.R_drew)); exact HO237.out)) k_ hk)); (case aO => exact (by (with_reducible repeat (first | apply Kd.R_alloc | apply Kd.R_drewN | apply Kd.R_drew)); exact Kd.R_mono HO234.out (fun _ hk => hk.2))); (case aS => exact (below_size (by repeat (first | (with_reducible first | exact HB.out | apply below_alloc | apply pw_below_drewN | apply below_drew1) | exact HB.out)))); (case aL => have := LMc56.out; omega); intro v239 w62 ho hb hg hat; rw [← Ny238.out] at ho; have n0_ := Aside0.mk (Kd.R_after (ok := (fun _ => True)) (by (with_reducible repeat (first | apply Kd.R_alloc | apply Kd.R_drewN | apply Kd.R_drew)); exact HO237.out) hg hat); have n1_ := Aside0.mk (hb); have n2_ := Aside0.mk (ho); clear HO237; clear HB; clear HO234; have HO237 := n0_; have HB := n1_; have HO240 := n2_; clear n0_ n1_ n2_; clear ho hb hg hat))
                              go_meet
                              case rel => exact ⟨_, (y238), H', ⟨by have := HJ9.out; have := HJ33.out; have := HK3.out; first | omega | exact Nat.le_refl _⟩, ⟨by (with_reducible repeat (first | apply Kd.R_alloc | apply Kd.R_drewN | apply Kd.R_drew)); exact Kd.R_mono HO240.out (fun _ hk => trivial)⟩, ⟨by repeat (first | (with_reducible first | exact HB.out | apply below_alloc | apply pw_below_drewN | apply below_drew1) | exact HB.out)⟩⟩
                            · rw [if_neg c56] at H
                              exact absurd H (by simp)
                          · rw [if_neg c53] at H
                            exact absurd H (by simp)
                        · rw [if_neg c52] at H
                          have c52b0 : decide (1 < (Int.tmod a3 4)) = false := decide_eq_false c52
                          clear c52
                          have H' := Aside0.mk H
                          clear H
                          go_wp2
                          go_meet
                          case rel => exact ⟨_, (x17_3), H', ⟨by have := HJ9.out; have := HJ33.out; have := HK3.out; first | omega | exact Nat.le_refl _⟩, ⟨by (with_reducible repeat (first | apply Kd.R_alloc | apply Kd.R_drewN | apply Kd.R_drew)); exact HO_17.out⟩, ⟨by repeat (first | (with_reducible first | exact HB.out | apply below_alloc | apply pw_below_drewN | apply below_drew1) | exact HB.out)⟩⟩
                    · rw [if_neg c42] at H
                      have c42b0 : decide (x18_3 < (l4.length : Int)) = false := decide_eq_false c42
                      clear c42
                      (first | rw [c42b0] | (simp only [i64_w, i32_w]; rw [c42b0]) | skip)
                      by_cases c64 : (Int.tmod a3 4) > 1
                      · rw [if_pos c64] at H
                        have c64b0 : decide (1 < (Int.tmod a3 4)) = true := decide_eq_true c64
                        clear c64
                        by_cases c65 : 156 ≤ (x17_3.length : Int)
                        · rw [if_pos c65] at H
                          have c65b0 := eq_true c65
                          have c65b1 : decide (156 ≤ (x17_3.length : Int)) = true := decide_eq_true c65
                          clear c65
                          obtain ⟨y241, hy241⟩ : ∃ y_ : List Int, y_ = (x17_3.take 156) := ⟨_, rfl⟩
                          replace H : ((corbelref3_Sum.f k3 y241).bind fun t245 => ((some (x17_3.take (156 : Int).toNat : List Int)).bind fun y246 => ((some (([(t245 / 16777216) % 256, (t245 / 65536) % 256, (t245 / 256) % 256, (t245) % 256] : List Int) : List Int)).bind fun y249 => (if y246.length + y249.length < 140737488355328 then (corbellaw6_MarkTells.j3 k3 l1 (y246 ++ y249)) else (none))))) = some r := by first | (rw [hy241]; with_reducible exact H) | (have H2_ := (Option.bind_some _ _).symm.trans H; rw [hy241]; with_reducible exact H2_) | (have H2_ := (Option.bind_some _ _).symm.trans H; with_reducible exact H2_) | with_reducible exact H | (rw [hy241]; exact H) | exact H
                          have Ny241 := Aside0.mk hy241
                          clear hy241
                          replace H := Option.bind_eq_some_iff.mp H
                          obtain ⟨t245, A660, H⟩ := H
                          replace H : ((some (x17_3.take (156 : Int).toNat : List Int)).bind fun y246 => ((some (([(t245 / 16777216) % 256, (t245 / 65536) % 256, (t245 / 256) % 256, (t245) % 256] : List Int) : List Int)).bind fun y249 => (if y246.length + y249.length < 140737488355328 then (corbellaw6_MarkTells.j3 k3 l1 (y246 ++ y249)) else (none)))) = some r := H
                          have A66 := Aside0.mk A660
                          clear A660
                          have c67b0 := eq_true (of_decide_eq_true (by first | (with_reducible assumption) | assumption) : 156 ≤ (x17_3.length : Int))
                          obtain ⟨y246, hy246⟩ : ∃ y_ : List Int, y_ = (x17_3.take (156 : Int).toNat) := ⟨_, rfl⟩
                          replace H : ((some (([(t245 / 16777216) % 256, (t245 / 65536) % 256, (t245 / 256) % 256, (t245) % 256] : List Int) : List Int)).bind fun y249 => (if y246.length + y249.length < 140737488355328 then (corbellaw6_MarkTells.j3 k3 l1 (y246 ++ y249)) else (none))) = some r := by first | (rw [hy246]; with_reducible exact H) | (have H2_ := (Option.bind_some _ _).symm.trans H; rw [hy246]; with_reducible exact H2_) | (have H2_ := (Option.bind_some _ _).symm.trans H; with_reducible exact H2_) | with_reducible exact H | (rw [hy246]; exact H) | exact H
                          have Ny246 := Aside0.mk hy246
                          clear hy246
                          obtain ⟨y249, hy249⟩ : ∃ y_ : List Int, y_ = (([(t245 / 16777216) % 256, (t245 / 65536) % 256, (t245 / 256) % 256, (t245) % 256] : List Int)) := ⟨_, rfl⟩
                          replace H : (if y246.length + y249.length < 140737488355328 then (corbellaw6_MarkTells.j3 k3 l1 (y246 ++ y249)) else (none)) = some r := by first | (rw [hy249]; with_reducible exact H) | (have H2_ := (Option.bind_some _ _).symm.trans H; rw [hy249]; with_reducible exact H2_) | (have H2_ := (Option.bind_some _ _).symm.trans H; with_reducible exact H2_) | with_reducible exact H | (rw [hy249]; exact H) | exact H
                          have Ny249 := Aside0.mk hy249
                          clear hy249
                          by_cases c68 : y246.length + y249.length < 140737488355328
                          · rw [if_pos c68] at H
                            have LMc68 := Aside0.mk c68
                            clear c68
                            obtain ⟨y252, hy252⟩ : ∃ y_ : List Int, y_ = (y246 ++ y249) := ⟨_, rfl⟩
                            replace H : (corbellaw6_MarkTells.j3 k3 l1 y252) = some r := by first | (rw [hy252]; with_reducible exact H) | (have H2_ := (Option.bind_some _ _).symm.trans H; rw [hy252]; with_reducible exact H2_) | (have H2_ := (Option.bind_some _ _).symm.trans H; with_reducible exact H2_) | with_reducible exact H | (rw [hy252]; exact H) | exact H
                            have Ny252 := Aside0.mk hy252
                            clear hy252
                            have H' := Aside0.mk H
                            clear H
                            obtain ⟨Ao70, co70, eo70⟩ := Kd.R_slice HO_17.out
                            subst eo70
                            have q69 : (156 : Int) ≤ ((x17_3.length : Int) : Int) := of_decide_eq_true (by first | (with_reducible assumption) | assumption)
                            obtain ⟨i069, hi069, _, hsz69, _⟩ := info_parts info5
                            have hroom69 : x17_3.length ≤ co70 := (Kd.R_reads' HO_17.out).2.1
                            have hC69 : Kd.C (Kd.int .u8) _ Ao70 x17_3.length x17_3 := (Kd.R_reads' HO_17.out).2.2
                            have hcut69 := cut_to (P := Try.prog) 22 5 .i64 Try.underlying22 hi069 Ao70 x17_3.length co70 156 (by omega) q69 hroom69
                            have hr69 := Kd.C_take (m := 156) hC69 (by omega)
                            have hy69 : y241.length = (156 : Int).toNat := (by rw [Ny241.out, List.length_take]; omega)
                            rw [← Ny241.out] at hr69
                            rw [← hy69] at hcut69
                            have HR244 := Aside0.mk hr69
                            have HC244 := Aside0.mk (show y241.length ≤ co70 from by omega)
                            clear hr69 hC69 hroom69 hi069 hsz69
                            have KY69 := Aside0.mk hy69
                            clear hy69
                            have KL69 := Aside0.mk (show 156 ≤ x17_3.length from by omega)
                            replace q69 := eq_true q69
                            go_wp2_with (first | ((with_reducible refine gate_callee (f := 20) rfl ?_); refine goesL_ (some 102) rfl rfl Try.func20 (by kernel_rfl) rfl #[.slice Ao70 y241.length co70] rfl (by (try simp only [List.map_toArray, List.map_cons, List.map_nil]); first | done | rfl | (simp only [List.length_drop, List.length_take]; rfl)) ?_; (with_reducible refine (corbelref3_Sum.calls k3 _ _ y241 t245 _ ?side1 ?side2 A66.out).mono ?_); (case side1 => repeat (first | exact (by repeat (first | (with_reducible exact HR244.out) | (with_reducible refine Kd.C_alloc ?_ _) | (with_reducible refine Kd.C_drewN ?_ _) | (with_reducible refine Kd.C_drew ?_) | exact HR244.out)) | (with_reducible refine Kd.C_alloc ?_ _) | (with_reducible refine Kd.C_drewN ?_ _) | (with_reducible refine Kd.C_drew ?_))); (case side2 => exact HC244.out); rintro e w' ⟨rfl, ⟨nd, rfl⟩⟩; refine ⟨_, rfl, ?_⟩; have q71 : (156 : Int) ≤ ((x17_3.length : Int) : Int) := of_decide_eq_true (by first | (with_reducible assumption) | assumption); obtain ⟨i071, hi071, _, hsz71, _⟩ := info_parts info5; (try clear hcut69); have hcut71 := cut_to (P := Try.prog) 22 5 .i64 Try.underlying22 hi071 Ao70 x17_3.length co70 156 (by omega) q71 (Kd.R_reads' HO_17.out).2.1; have hr71 := Kd.R_take (m := (156 : Int).toNat) HO_17.out (by omega); have hy71 : y246.length = (156 : Int).toNat := (by rw [Ny246.out, List.length_take]; omega); rw [← Ny246.out] at hr71; rw [← hy71] at hr71 hcut71; clear hy71 hi071 hsz71 HO_17; have HO248 := Aside0.mk hr71; clear hr71; replace q71 := eq_true q71) | ((with_reducible refine gate_dst (N := 116) rfl ?_); refine Kd.R_lit (Kd.int .u8) _ 5 ?hg (N := 116) ?hd (xs := ([(t245 / 16777216) % 256, (t245 / 65536) % 256, (t245 / 256) % 256, (t245) % 256] : List Int)) (inner := [.int .u8 ((t245 / 16777216) % 256), .int .u8 ((t245 / 65536) % 256), .int .u8 ((t245 / 256) % 256), .int .u8 ((t245) % 256)]) (ok := fun _ => True) (okp := fun _ => True) ?hr ?hp (fun _ hk => hk) trivial (Below.refl _ _) (Nat.le_refl _) (by simp) ?_; (case hd => rfl); (case hg => rfl); (case hr => first | (go_simp; done) | (go_simp; rfl)); (case hp => exact (Reps.one (show Kd.M (Kd.int .u8) _ _ _ ((t245 / 16777216) % 256) [.int .u8 ((t245 / 16777216) % 256)] from rfl) (Reps.one (show Kd.M (Kd.int .u8) _ _ _ ((t245 / 65536) % 256) [.int .u8 ((t245 / 65536) % 256)] from rfl) (Reps.one (show Kd.M (Kd.int .u8) _ _ _ ((t245 / 256) % 256) [.int .u8 ((t245 / 256) % 256)] from rfl) (Reps.one (show Kd.M (Kd.int .u8) _ _ _ ((t245) % 256) [.int .u8 ((t245) % 256)] from rfl) (Reps.none _ _)))))); intro v250 w72 ho73 hb hg_ hnew_; clear hg_ hnew_; (first | rw [← Ny249.out] at ho73 | (simp only [Int.reduceToNat] at ho73; rw [← Ny249.out] at ho73)); have n0_ := Aside0.mk (Kd.R_elder' (by (with_reducible repeat (first | apply Kd.R_alloc | apply Kd.R_drewN | apply Kd.R_drew)); exact HO248.out) (Kd.R_base ho73) hb); have n1_ := Aside0.mk (Kd.R_lower (Kd.R_new' ho73 (Kd.R_lt (by (with_reducible repeat (first | apply Kd.R_alloc | apply Kd.R_drewN | apply Kd.R_drew)); exact HO248.out))) (below_size (by repeat (first | (with_reducible first | exact HB.out | apply below_alloc | apply pw_below_drewN | apply below_drew1) | exact HB.out)))); have n2_ := Aside0.mk (Kd.C_below (by repeat (first | (with_reducible exact HR244.out) | (with_reducible refine Kd.C_alloc ?_ _) | (with_reducible refine Kd.C_drewN ?_ _) | (with_reducible refine Kd.C_drew ?_) | exact HR244.out)) hb); have n3_ := Aside0.mk (below_step (by repeat (first | (with_reducible first | exact HB.out | apply below_alloc | apply pw_below_drewN | apply below_drew1) | exact HB.out)) hb); clear HO248; clear HR244; clear HB; have HO248 := n0_; have HO251 := n1_; have HR244 := n2_; have HB := n3_; clear n0_ n1_ n2_ n3_; clear hb ho73; obtain ⟨Ao75, co75, eo75⟩ := Kd.R_slice HO251.out; subst eo75) | ((with_reducible refine gate_builtin (b := .append) (xs := #[.tmp 104, .tmp 116]) rfl ?_); at_builtin; refine Kd.R_append_rows (Kd.int .u8) (w0 := w) w.heap.size rfl (.tmp 104) (.tmp 116) 22 5 (.int .u8 0) 1 rfl Try.underlying22 info5 rfl (by decide) (by omega) (.slice Ao70 y246.length co70) y246 y249 _ _ _ (fun k_ => some k_ ≠ (.slice Ao75 y249.length co75 : Value).ownBlock) (fun _ => False) rfl rfl ?aO ?aR (fun _ _ h => h) (fun _ h => h.elim) ?aF ?aB ?aS ?aL ?_; (case aR => repeat (first | exact (Kd.R_reads' HO251.out).2.2 | (with_reducible refine Kd.C_alloc ?_ _) | (with_reducible refine Kd.C_drewN ?_ _) | (with_reducible refine Kd.C_drew ?_))); (case aB => exact (by repeat (first | (with_reducible first | exact HB.out | apply below_alloc | apply pw_below_drewN | apply below_drew1) | exact HB.out))); (case aF => exact (fun k_ hk => Kd.fresh' (Kd.R_lt (by (with_reducible repeat (first | apply Kd.R_alloc | apply Kd.R_drewN | apply Kd.R_drew)); exact HO251.out)) k_ hk)); (case aO => exact (by (with_reducible repeat (first | apply Kd.R_alloc | apply Kd.R_drewN | apply Kd.R_drew)); exact Kd.R_mono HO248.out (fun _ hk => hk.2))); (case aS => exact (below_size (by repeat (first | (with_reducible first | exact HB.out | apply below_alloc | apply pw_below_drewN | apply below_drew1) | exact HB.out)))); (case aL => have := LMc68.out; omega); intro v253 w74 ho hb hg hat; rw [← Ny252.out] at ho; have n0_ := Aside0.mk (Kd.R_after (ok := (fun _ => True)) (by (with_reducible repeat (first | apply Kd.R_alloc | apply Kd.R_drewN | apply Kd.R_drew)); exact HO251.out) hg hat); have n1_ := Aside0.mk (hb); have n2_ := Aside0.mk (ho); clear HO251; clear HB; clear HO248; have HO251 := n0_; have HB := n1_; have HO254 := n2_; clear n0_ n1_ n2_; clear ho hb hg hat))
                            go_meet
                            case rel => exact ⟨_, (y252), H', ⟨by have := HJ9.out; have := HJ33.out; have := HK3.out; first | omega | exact Nat.le_refl _⟩, ⟨by (with_reducible repeat (first | apply Kd.R_alloc | apply Kd.R_drewN | apply Kd.R_drew)); exact Kd.R_mono HO254.out (fun _ hk => trivial)⟩, ⟨by repeat (first | (with_reducible first | exact HB.out | apply below_alloc | apply pw_below_drewN | apply below_drew1) | exact HB.out)⟩⟩
                          · rw [if_neg c68] at H
                            exact absurd H (by simp)
                        · rw [if_neg c65] at H
                          exact absurd H (by simp)
                      · rw [if_neg c64] at H
                        have c64b0 : decide (1 < (Int.tmod a3 4)) = false := decide_eq_false c64
                        clear c64
                        have H' := Aside0.mk H
                        clear H
                        go_wp2
                        go_meet
                        case rel => exact ⟨_, (x17_3), H', ⟨by have := HJ9.out; have := HJ33.out; have := HK3.out; first | omega | exact Nat.le_refl _⟩, ⟨by (with_reducible repeat (first | apply Kd.R_alloc | apply Kd.R_drewN | apply Kd.R_drew)); exact HO_17.out⟩, ⟨by repeat (first | (with_reducible first | exact HB.out | apply below_alloc | apply pw_below_drewN | apply below_drew1) | exact HB.out)⟩⟩
              · replace c38 := Bool.eq_false_iff.mpr c38
                subst c38
                have H1 : (corbellaw6_MarkTells.j3 kj33 l1 t217) = some r := by rw [if_neg (show ¬ (false = true) by decide)] at H; exact H
                clear H
                have H := H1
                clear H1
                have H' := Aside0.mk H
                clear H
                go_wp2
                go_meet
                case rel => exact ⟨_, (t217), H', ⟨by have := HJ9.out; have := HJ33.out; first | omega | exact Nat.le_refl _⟩, ⟨by (with_reducible repeat (first | apply Kd.R_alloc | apply Kd.R_drewN | apply Kd.R_drew)); exact Kd.R_mono HO_17.out (fun _ hk => trivial)⟩, ⟨by repeat (first | (with_reducible first | exact HB.out | apply below_alloc | apply pw_below_drewN | apply below_drew1) | exact HB.out)⟩⟩
            case rest =>
              clear HC37
              try clear c1
              try clear hcv1
              try clear c2
              try clear p2
              try clear q2
              try clear hx2
              try clear hcv2
              try clear c3
              try clear hcv3
              try clear c4
              try clear p4
              try clear q4
              try clear hx4
              try clear c5
              try clear q5
              try clear c6
              try clear p6
              try clear q6
              try clear q7
              try clear c13
              try clear c13b0
              try clear c13b1
              try clear c14
              try clear c14b0
              try clear c14b1
              try clear c14b2
              try clear hcv15
              try clear c17
              try clear hcv17
              try clear c18
              try clear c19
              try clear c20
              try clear hcv20
              try clear p22
              try clear q22
              try clear hx22
              try clear hcv22
              try clear hcv24
              try clear hcv26
              try clear hcv28
              try clear hcv30
              try clear c32
              try clear c36
              try clear c38
              try clear c42
              try clear c42b0
              try clear c43
              try clear c43b0
              try clear c44
              try clear c44b0
              try clear c46
              try clear c46b0
              try clear c47
              try clear c47b0
              try clear p48
              try clear q48
              try clear hx48
              try clear hf48
              try clear c52
              try clear c52b0
              try clear c53
              try clear c53b0
              try clear c53b1
              try clear c55
              try clear c55b0
              try clear c56
              try clear q57
              try clear q59
              try clear c64
              try clear c64b0
              try clear p64
              try clear c65
              try clear c65b0
              try clear c65b1
              try clear c67
              try clear c67b0
              try clear c68
              try clear q69
              try clear q71
              try clear hx223_0
              try clear hx225_0
              try clear hx48_0
              try clear p2
              try clear p223
              try clear p225
              try clear p48
              try clear p6
              try clear q223
              try clear q225
              try clear q48
              try clear q57
              try clear q59
              try clear q69
              try clear q71
              obtain ⟨kq, x17_36, HA, HJ36, HO_17, HB⟩ := hcut
              cases kq with
              | zero => exact absurd HA.out (by simp [corbellaw6_MarkTells.j3])
              | succ kj36 =>
                have H := HA.out
                clear HA
                simp only [corbellaw6_MarkTells.j3] at H
                replace H := Option.bind_eq_some_iff.mp H
                obtain ⟨⟨t255, t256, t257⟩, A760, H⟩ := H
                replace H : ((corbelref3_Open.f kj36 x17_36).bind fun bt260 => ((corbellaw6_known.f kj36).bind fun t265 => (if t265 = true then ((mark_Sum.f kj36 l1).bind fun t266 => ((corbelref3_Sum.f kj36 l1).bind fun t267 => (if t266 = t267 then (if t255 = bt260.1 then (if (strOfNums t256).toList = (strOfNums bt260.2.1).toList then (some (t257 == bt260.2.2)) else (some false)) else (some false)) else (some false)))) else (some false)))) = some r := H
                have A76 := Aside0.mk A760
                clear A760
                replace H := Option.bind_eq_some_iff.mp H
                obtain ⟨⟨t260, t261, t262⟩, A770, H⟩ := H
                replace H : ((corbellaw6_known.f kj36).bind fun t265 => (if t265 = true then ((mark_Sum.f kj36 l1).bind fun t266 => ((corbelref3_Sum.f kj36 l1).bind fun t267 => (if t266 = t267 then (if t255 = t260 then (if (strOfNums t256).toList = (strOfNums t261).toList then (some (t257 == t262)) else (some false)) else (some false)) else (some false)))) else (some false))) = some r := H
                have A77 := Aside0.mk A770
                clear A770
                replace H := Option.bind_eq_some_iff.mp H
                obtain ⟨t265, A780, H⟩ := H
                replace H : (if t265 = true then ((mark_Sum.f kj36 l1).bind fun t266 => ((corbelref3_Sum.f kj36 l1).bind fun t267 => (if t266 = t267 then (if t255 = t260 then (if (strOfNums t256).toList = (strOfNums t261).toList then (some (t257 == t262)) else (some false)) else (some false)) else (some false)))) else (some false)) = some r := H
                have A78 := Aside0.mk A780
                clear A780
                by_cases c79 : t265 = true
                · subst c79
                  have H1 : ((mark_Sum.f kj36 l1).bind fun t266 => ((corbelref3_Sum.f kj36 l1).bind fun t267 => (if t266 = t267 then (if t255 = t260 then (if (strOfNums t256).toList = (strOfNums t261).toList then (some (t257 == t262)) else (some false)) else (some false)) else (some false)))) = some r := by rw [if_pos rfl] at H; exact H
                  clear H
                  have H := H1
                  clear H1
                  replace H := Option.bind_eq_some_iff.mp H
                  obtain ⟨t266, A800, H⟩ := H
                  replace H : ((corbelref3_Sum.f kj36 l1).bind fun t267 => (if t266 = t267 then (if t255 = t260 then (if (strOfNums t256).toList = (strOfNums t261).toList then (some (t257 == t262)) else (some false)) else (some false)) else (some false))) = some r := H
                  have A80 := Aside0.mk A800
                  clear A800
                  replace H := Option.bind_eq_some_iff.mp H
                  obtain ⟨t267, A810, H⟩ := H
                  replace H : (if t266 = t267 then (if t255 = t260 then (if (strOfNums t256).toList = (strOfNums t261).toList then (some (t257 == t262)) else (some false)) else (some false)) else (some false)) = some r := H
                  have A81 := Aside0.mk A810
                  clear A810
                  by_cases c82 : t266 = t267
                  · rw [if_pos c82] at H
                    have c82b0 : (t266 == t267) = true := beq_iff_eq.mpr c82
                    have c82b1 : (t266 != t267) = false := bne_eq_false_iff_eq.mpr c82
                    clear c82
                    by_cases c83 : t255 = t260
                    · rw [if_pos c83] at H
                      have c83b0 : (t255 == t260) = true := beq_iff_eq.mpr c83
                      have c83b1 : (t255 != t260) = false := bne_eq_false_iff_eq.mpr c83
                      clear c83
                      by_cases c84 : (strOfNums t256).toList = (strOfNums t261).toList
                      · rw [if_pos c84] at H
                        have c84b0 : ((strOfNums t256).toList == (strOfNums t261).toList) = true := beq_iff_eq.mpr c84
                        have c84b1 : ((strOfNums t256).toList != (strOfNums t261).toList) = false := bne_eq_false_iff_eq.mpr c84
                        clear c84
                        obtain rfl := Option.some.inj H
                        obtain ⟨Ao85, co85, eo85⟩ := Kd.R_slice HO_17.out
                        subst eo85
                        go_wp2_with (first | ((with_reducible refine gate_callee (f := 16) rfl ?_); refine goesL_ (some 120) rfl rfl Try.func16 (by kernel_rfl) rfl #[.slice Ao85 x17_36.length co85] rfl (by (try simp only [List.map_toArray, List.map_cons, List.map_nil]); first | done | rfl | (simp only [List.length_drop, List.length_take]; rfl)) ?_; (with_reducible refine (mark_Open.calls kj36 _ _ x17_36 t255 t256 t257 _ ?side1 ?side2 A76.out).mono ?_); (case side1 => repeat (first | exact (Kd.R_reads' HO_17.out).2.2 | (with_reducible refine Kd.C_alloc ?_ _) | (with_reducible refine Kd.C_drewN ?_ _) | (with_reducible refine Kd.C_drew ?_))); (case side2 => exact (Kd.R_reads' HO_17.out).2.1); rintro e w86 ⟨v258, rfl, ho0, hb⟩; refine ⟨_, rfl, ?_⟩; have n0_ := Aside0.mk (Kd.R_elder' (by (with_reducible repeat (first | apply Kd.R_alloc | apply Kd.R_drewN | apply Kd.R_drew)); exact HO_17.out) (Kd.R_base ho0) hb); have n1_ := Aside0.mk (Kd.R_lower (Kd.R_new' ho0 (Kd.R_lt (by (with_reducible repeat (first | apply Kd.R_alloc | apply Kd.R_drewN | apply Kd.R_drew)); exact HO_17.out))) (below_size (by repeat (first | (with_reducible first | exact HB.out | apply below_alloc | apply pw_below_drewN | apply below_drew1) | exact HB.out)))); have n2_ := Aside0.mk (below_step (by repeat (first | (with_reducible first | exact HB.out | apply below_alloc | apply pw_below_drewN | apply below_drew1) | exact HB.out)) hb); clear HO_17; clear HB; have HO_17 := n0_; have HO259 := n1_; have HB := n2_; clear n0_ n1_ n2_; (try clear hb); (try clear hb2); (try clear hk); (try clear hi); (try clear ho0)) | ((with_reducible refine gate_callee (f := 21) rfl ?_); refine goesL_ (some 126) rfl rfl Try.func21 (by kernel_rfl) rfl #[.slice Ao85 x17_36.length co85] rfl (by (try simp only [List.map_toArray, List.map_cons, List.map_nil]); first | done | rfl | (simp only [List.length_drop, List.length_take]; rfl)) ?_; (with_reducible refine (corbelref3_Open.calls kj36 _ _ x17_36 t260 t261 t262 _ ?side1 ?side2 A77.out).mono ?_); (case side1 => repeat (first | exact (Kd.R_reads' HO_17.out).2.2 | (with_reducible refine Kd.C_alloc ?_ _) | (with_reducible refine Kd.C_drewN ?_ _) | (with_reducible refine Kd.C_drew ?_))); (case side2 => exact (Kd.R_reads' HO_17.out).2.1); rintro e w87 ⟨v263, rfl, ho0, hb⟩; refine ⟨_, rfl, ?_⟩; have n0_ := Aside0.mk (Kd.R_elder' (by (with_reducible repeat (first | apply Kd.R_alloc | apply Kd.R_drewN | apply Kd.R_drew)); exact HO_17.out) (Kd.R_base ho0) hb); have n1_ := Aside0.mk (Kd.R_elder' (by (with_reducible repeat (first | apply Kd.R_alloc | apply Kd.R_drewN | apply Kd.R_drew)); exact HO259.out) (Kd.R_base ho0) hb); have n2_ := Aside0.mk (Kd.R_lower (Kd.R_new' (Kd.R_new' ho0 (Kd.R_lt (by (with_reducible repeat (first | apply Kd.R_alloc | apply Kd.R_drewN | apply Kd.R_drew)); exact HO_17.out))) (Kd.R_lt (by (with_reducible repeat (first | apply Kd.R_alloc | apply Kd.R_drewN | apply Kd.R_drew)); exact HO259.out))) (below_size (by repeat (first | (with_reducible first | exact HB.out | apply below_alloc | apply pw_below_drewN | apply below_drew1) | exact HB.out)))); have n3_ := Aside0.mk (below_step (by repeat (first | (with_reducible first | exact HB.out | apply below_alloc | apply pw_below_drewN | apply below_drew1) | exact HB.out)) hb); clear HO_17; clear HO259; clear HB; have HO_17 := n0_; have HO259 := n1_; have HO264 := n2_; have HB := n3_; clear n0_ n1_ n2_ n3_; (try clear hb); (try clear hb2); (try clear hk); (try clear hi); (try clear ho0)) | ((with_reducible refine gate_callee (f := 15) rfl ?_); refine goesL_ (some 130) rfl rfl Try.func15 (by kernel_rfl) rfl #[] rfl (by (try simp only [List.map_toArray, List.map_cons, List.map_nil]); first | done | rfl | (simp only [List.length_drop, List.length_take]; rfl)) ?_; (with_reducible refine (corbellaw6_known.calls kj36  true _ A78.out).mono ?_); rintro e w88 ⟨rfl, hb⟩; refine ⟨_, rfl, ?_⟩; have n0_ := Aside0.mk (Kd.R_below (by (with_reducible repeat (first | apply Kd.R_alloc | apply Kd.R_drewN | apply Kd.R_drew)); exact HO_17.out) hb); have n1_ := Aside0.mk (Kd.R_below (by (with_reducible repeat (first | apply Kd.R_alloc | apply Kd.R_drewN | apply Kd.R_drew)); exact HO259.out) hb); have n2_ := Aside0.mk (Kd.R_below (by (with_reducible repeat (first | apply Kd.R_alloc | apply Kd.R_drewN | apply Kd.R_drew)); exact HO264.out) hb); have n3_ := Aside0.mk (below_step (by repeat (first | (with_reducible first | exact HB.out | apply below_alloc | apply pw_below_drewN | apply below_drew1) | exact HB.out)) hb); clear HO_17; clear HO259; clear HO264; clear HB; have HO_17 := n0_; have HO259 := n1_; have HO264 := n2_; have HB := n3_; clear n0_ n1_ n2_ n3_; (try clear hb); (try clear hb2); (try clear hk); (try clear hi)) | (go_at_call 22; (with_reducible refine (mark_Sum.calls kj36 _ _ l1 t266 _ ?side1 ?side2 A80.out).mono ?_); (case side1 => repeat (first | exact (Kd.C_below HR1.out HB.out) | (with_reducible refine Kd.C_alloc ?_ _) | (with_reducible refine Kd.C_drewN ?_ _) | (with_reducible refine Kd.C_drew ?_))); (case side2 => exact HC1.out); rintro e w' ⟨rfl, ⟨nd, rfl⟩⟩) | (go_at_call 20; (with_reducible refine (corbelref3_Sum.calls kj36 _ _ l1 t267 _ ?side1 ?side2 A81.out).mono ?_); (case side1 => repeat (first | exact (Kd.C_below HR1.out (by repeat (first | (with_reducible first | exact HB.out | apply below_alloc | apply pw_below_drewN | apply below_drew1) | exact HB.out))) | (with_reducible refine Kd.C_alloc ?_ _) | (with_reducible refine Kd.C_drewN ?_ _) | (with_reducible refine Kd.C_drew ?_))); (case side2 => exact HC1.out); rintro e w' ⟨rfl, ⟨nd, rfl⟩⟩; have hcv89 := own_string (P := Try.prog) Try.underlying22 Try.underlying5 Try.underlying9 (Kd.own_of_R HO259.out); have hcvd90 := fun (nq_ : Nat) => own_string (P := Try.prog) Try.underlying22 Try.underlying5 Try.underlying9 (Kd.own_of_R (Kd.R_drewN HO259.out nq_)); have hcv91 := own_string (P := Try.prog) Try.underlying22 Try.underlying5 Try.underlying9 (Kd.own_of_R HO264.out); have hcvd92 := fun (nq_ : Nat) => own_string (P := Try.prog) Try.underlying22 Try.underlying5 Try.underlying9 (Kd.own_of_R (Kd.R_drewN HO264.out nq_))))
                        go_ret
                        exact ⟨by first | rfl | (simp [errW_none, errW_some] <;> rfl) | (simp [*, errW_none, errW_some] <;> rfl), by repeat (first | (with_reducible first | exact HB.out | apply below_alloc | apply pw_below_drewN | apply below_drew1) | exact HB.out)⟩
                      · rw [if_neg c84] at H
                        have c84b0 : ((strOfNums t256).toList == (strOfNums t261).toList) = false := beq_eq_false_iff_ne.mpr c84
                        have c84b1 : ((strOfNums t256).toList != (strOfNums t261).toList) = true := bne_iff_ne.mpr c84
                        obtain rfl := Option.some.inj H
                        obtain ⟨Ao93, co93, eo93⟩ := Kd.R_slice HO_17.out
                        subst eo93
                        go_wp2_with (first | ((with_reducible refine gate_callee (f := 16) rfl ?_); refine goesL_ (some 120) rfl rfl Try.func16 (by kernel_rfl) rfl #[.slice Ao93 x17_36.length co93] rfl (by (try simp only [List.map_toArray, List.map_cons, List.map_nil]); first | done | rfl | (simp only [List.length_drop, List.length_take]; rfl)) ?_; (with_reducible refine (mark_Open.calls kj36 _ _ x17_36 t255 t256 t257 _ ?side1 ?side2 A76.out).mono ?_); (case side1 => repeat (first | exact (Kd.R_reads' HO_17.out).2.2 | (with_reducible refine Kd.C_alloc ?_ _) | (with_reducible refine Kd.C_drewN ?_ _) | (with_reducible refine Kd.C_drew ?_))); (case side2 => exact (Kd.R_reads' HO_17.out).2.1); rintro e w94 ⟨v258, rfl, ho0, hb⟩; refine ⟨_, rfl, ?_⟩; have n0_ := Aside0.mk (Kd.R_elder' (by (with_reducible repeat (first | apply Kd.R_alloc | apply Kd.R_drewN | apply Kd.R_drew)); exact HO_17.out) (Kd.R_base ho0) hb); have n1_ := Aside0.mk (Kd.R_lower (Kd.R_new' ho0 (Kd.R_lt (by (with_reducible repeat (first | apply Kd.R_alloc | apply Kd.R_drewN | apply Kd.R_drew)); exact HO_17.out))) (below_size (by repeat (first | (with_reducible first | exact HB.out | apply below_alloc | apply pw_below_drewN | apply below_drew1) | exact HB.out)))); have n2_ := Aside0.mk (below_step (by repeat (first | (with_reducible first | exact HB.out | apply below_alloc | apply pw_below_drewN | apply below_drew1) | exact HB.out)) hb); clear HO_17; clear HB; have HO_17 := n0_; have HO259 := n1_; have HB := n2_; clear n0_ n1_ n2_; (try clear hb); (try clear hb2); (try clear hk); (try clear hi); (try clear ho0)) | ((with_reducible refine gate_callee (f := 21) rfl ?_); refine goesL_ (some 126) rfl rfl Try.func21 (by kernel_rfl) rfl #[.slice Ao93 x17_36.length co93] rfl (by (try simp only [List.map_toArray, List.map_cons, List.map_nil]); first | done | rfl | (simp only [List.length_drop, List.length_take]; rfl)) ?_; (with_reducible refine (corbelref3_Open.calls kj36 _ _ x17_36 t260 t261 t262 _ ?side1 ?side2 A77.out).mono ?_); (case side1 => repeat (first | exact (Kd.R_reads' HO_17.out).2.2 | (with_reducible refine Kd.C_alloc ?_ _) | (with_reducible refine Kd.C_drewN ?_ _) | (with_reducible refine Kd.C_drew ?_))); (case side2 => exact (Kd.R_reads' HO_17.out).2.1); rintro e w95 ⟨v263, rfl, ho0, hb⟩; refine ⟨_, rfl, ?_⟩; have n0_ := Aside0.mk (Kd.R_elder' (by (with_reducible repeat (first | apply Kd.R_alloc | apply Kd.R_drewN | apply Kd.R_drew)); exact HO_17.out) (Kd.R_base ho0) hb); have n1_ := Aside0.mk (Kd.R_elder' (by (with_reducible repeat (first | apply Kd.R_alloc | apply Kd.R_drewN | apply Kd.R_drew)); exact HO259.out) (Kd.R_base ho0) hb); have n2_ := Aside0.mk (Kd.R_lower (Kd.R_new' (Kd.R_new' ho0 (Kd.R_lt (by (with_reducible repeat (first | apply Kd.R_alloc | apply Kd.R_drewN | apply Kd.R_drew)); exact HO_17.out))) (Kd.R_lt (by (with_reducible repeat (first | apply Kd.R_alloc | apply Kd.R_drewN | apply Kd.R_drew)); exact HO259.out))) (below_size (by repeat (first | (with_reducible first | exact HB.out | apply below_alloc | apply pw_below_drewN | apply below_drew1) | exact HB.out)))); have n3_ := Aside0.mk (below_step (by repeat (first | (with_reducible first | exact HB.out | apply below_alloc | apply pw_below_drewN | apply below_drew1) | exact HB.out)) hb); clear HO_17; clear HO259; clear HB; have HO_17 := n0_; have HO259 := n1_; have HO264 := n2_; have HB := n3_; clear n0_ n1_ n2_ n3_; (try clear hb); (try clear hb2); (try clear hk); (try clear hi); (try clear ho0)) | ((with_reducible refine gate_callee (f := 15) rfl ?_); refine goesL_ (some 130) rfl rfl Try.func15 (by kernel_rfl) rfl #[] rfl (by (try simp only [List.map_toArray, List.map_cons, List.map_nil]); first | done | rfl | (simp only [List.length_drop, List.length_take]; rfl)) ?_; (with_reducible refine (corbellaw6_known.calls kj36  true _ A78.out).mono ?_); rintro e w96 ⟨rfl, hb⟩; refine ⟨_, rfl, ?_⟩; have n0_ := Aside0.mk (Kd.R_below (by (with_reducible repeat (first | apply Kd.R_alloc | apply Kd.R_drewN | apply Kd.R_drew)); exact HO_17.out) hb); have n1_ := Aside0.mk (Kd.R_below (by (with_reducible repeat (first | apply Kd.R_alloc | apply Kd.R_drewN | apply Kd.R_drew)); exact HO259.out) hb); have n2_ := Aside0.mk (Kd.R_below (by (with_reducible repeat (first | apply Kd.R_alloc | apply Kd.R_drewN | apply Kd.R_drew)); exact HO264.out) hb); have n3_ := Aside0.mk (below_step (by repeat (first | (with_reducible first | exact HB.out | apply below_alloc | apply pw_below_drewN | apply below_drew1) | exact HB.out)) hb); clear HO_17; clear HO259; clear HO264; clear HB; have HO_17 := n0_; have HO259 := n1_; have HO264 := n2_; have HB := n3_; clear n0_ n1_ n2_ n3_; (try clear hb); (try clear hb2); (try clear hk); (try clear hi)) | (go_at_call 22; (with_reducible refine (mark_Sum.calls kj36 _ _ l1 t266 _ ?side1 ?side2 A80.out).mono ?_); (case side1 => repeat (first | exact (Kd.C_below HR1.out HB.out) | (with_reducible refine Kd.C_alloc ?_ _) | (with_reducible refine Kd.C_drewN ?_ _) | (with_reducible refine Kd.C_drew ?_))); (case side2 => exact HC1.out); rintro e w' ⟨rfl, ⟨nd, rfl⟩⟩) | (go_at_call 20; (with_reducible refine (corbelref3_Sum.calls kj36 _ _ l1 t267 _ ?side1 ?side2 A81.out).mono ?_); (case side1 => repeat (first | exact (Kd.C_below HR1.out (by repeat (first | (with_reducible first | exact HB.out | apply below_alloc | apply pw_below_drewN | apply below_drew1) | exact HB.out))) | (with_reducible refine Kd.C_alloc ?_ _) | (with_reducible refine Kd.C_drewN ?_ _) | (with_reducible refine Kd.C_drew ?_))); (case side2 => exact HC1.out); rintro e w' ⟨rfl, ⟨nd, rfl⟩⟩; have hcv97 := own_string (P := Try.prog) Try.underlying22 Try.underlying5 Try.underlying9 (Kd.own_of_R HO259.out); have hcvd98 := fun (nq_ : Nat) => own_string (P := Try.prog) Try.underlying22 Try.underlying5 Try.underlying9 (Kd.own_of_R (Kd.R_drewN HO259.out nq_)); have hcv99 := own_string (P := Try.prog) Try.underlying22 Try.underlying5 Try.underlying9 (Kd.own_of_R HO264.out); have hcvd100 := fun (nq_ : Nat) => own_string (P := Try.prog) Try.underlying22 Try.underlying5 Try.underlying9 (Kd.own_of_R (Kd.R_drewN HO264.out nq_))))
                        go_ret
                        exact ⟨by first | rfl | (simp [errW_none, errW_some] <;> rfl) | (simp [*, errW_none, errW_some] <;> rfl), by repeat (first | (with_reducible first | exact HB.out | apply below_alloc | apply pw_below_drewN | apply below_drew1) | exact HB.out)⟩
                    · rw [if_neg c83] at H
                      have c83b0 : (t255 == t260) = false := beq_eq_false_iff_ne.mpr c83
                      have c83b1 : (t255 != t260) = true := bne_iff_ne.mpr c83
                      obtain rfl := Option.some.inj H
                      obtain ⟨Ao101, co101, eo101⟩ := Kd.R_slice HO_17.out
                      subst eo101
                      go_wp2_with (first | ((with_reducible refine gate_callee (f := 16) rfl ?_); refine goesL_ (some 120) rfl rfl Try.func16 (by kernel_rfl) rfl #[.slice Ao101 x17_36.length co101] rfl (by (try simp only [List.map_toArray, List.map_cons, List.map_nil]); first | done | rfl | (simp only [List.length_drop, List.length_take]; rfl)) ?_; (with_reducible refine (mark_Open.calls kj36 _ _ x17_36 t255 t256 t257 _ ?side1 ?side2 A76.out).mono ?_); (case side1 => repeat (first | exact (Kd.R_reads' HO_17.out).2.2 | (with_reducible refine Kd.C_alloc ?_ _) | (with_reducible refine Kd.C_drewN ?_ _) | (with_reducible refine Kd.C_drew ?_))); (case side2 => exact (Kd.R_reads' HO_17.out).2.1); rintro e w102 ⟨v258, rfl, ho0, hb⟩; refine ⟨_, rfl, ?_⟩; have n0_ := Aside0.mk (Kd.R_elder' (by (with_reducible repeat (first | apply Kd.R_alloc | apply Kd.R_drewN | apply Kd.R_drew)); exact HO_17.out) (Kd.R_base ho0) hb); have n1_ := Aside0.mk (Kd.R_lower (Kd.R_new' ho0 (Kd.R_lt (by (with_reducible repeat (first | apply Kd.R_alloc | apply Kd.R_drewN | apply Kd.R_drew)); exact HO_17.out))) (below_size (by repeat (first | (with_reducible first | exact HB.out | apply below_alloc | apply pw_below_drewN | apply below_drew1) | exact HB.out)))); have n2_ := Aside0.mk (below_step (by repeat (first | (with_reducible first | exact HB.out | apply below_alloc | apply pw_below_drewN | apply below_drew1) | exact HB.out)) hb); clear HO_17; clear HB; have HO_17 := n0_; have HO259 := n1_; have HB := n2_; clear n0_ n1_ n2_; (try clear hb); (try clear hb2); (try clear hk); (try clear hi); (try clear ho0)) | ((with_reducible refine gate_callee (f := 21) rfl ?_); refine goesL_ (some 126) rfl rfl Try.func21 (by kernel_rfl) rfl #[.slice Ao101 x17_36.length co101] rfl (by (try simp only [List.map_toArray, List.map_cons, List.map_nil]); first | done | rfl | (simp only [List.length_drop, List.length_take]; rfl)) ?_; (with_reducible refine (corbelref3_Open.calls kj36 _ _ x17_36 t260 t261 t262 _ ?side1 ?side2 A77.out).mono ?_); (case side1 => repeat (first | exact (Kd.R_reads' HO_17.out).2.2 | (with_reducible refine Kd.C_alloc ?_ _) | (with_reducible refine Kd.C_drewN ?_ _) | (with_reducible refine Kd.C_drew ?_))); (case side2 => exact (Kd.R_reads' HO_17.out).2.1); rintro e w103 ⟨v263, rfl, ho0, hb⟩; refine ⟨_, rfl, ?_⟩; have n0_ := Aside0.mk (Kd.R_elder' (by (with_reducible repeat (first | apply Kd.R_alloc | apply Kd.R_drewN | apply Kd.R_drew)); exact HO_17.out) (Kd.R_base ho0) hb); have n1_ := Aside0.mk (Kd.R_elder' (by (with_reducible repeat (first | apply Kd.R_alloc | apply Kd.R_drewN | apply Kd.R_drew)); exact HO259.out) (Kd.R_base ho0) hb); have n2_ := Aside0.mk (Kd.R_lower (Kd.R_new' (Kd.R_new' ho0 (Kd.R_lt (by (with_reducible repeat (first | apply Kd.R_alloc | apply Kd.R_drewN | apply Kd.R_drew)); exact HO_17.out))) (Kd.R_lt (by (with_reducible repeat (first | apply Kd.R_alloc | apply Kd.R_drewN | apply Kd.R_drew)); exact HO259.out))) (below_size (by repeat (first | (with_reducible first | exact HB.out | apply below_alloc | apply pw_below_drewN | apply below_drew1) | exact HB.out)))); have n3_ := Aside0.mk (below_step (by repeat (first | (with_reducible first | exact HB.out | apply below_alloc | apply pw_below_drewN | apply below_drew1) | exact HB.out)) hb); clear HO_17; clear HO259; clear HB; have HO_17 := n0_; have HO259 := n1_; have HO264 := n2_; have HB := n3_; clear n0_ n1_ n2_ n3_; (try clear hb); (try clear hb2); (try clear hk); (try clear hi); (try clear ho0)) | ((with_reducible refine gate_callee (f := 15) rfl ?_); refine goesL_ (some 130) rfl rfl Try.func15 (by kernel_rfl) rfl #[] rfl (by (try simp only [List.map_toArray, List.map_cons, List.map_nil]); first | done | rfl | (simp only [List.length_drop, List.length_take]; rfl)) ?_; (with_reducible refine (corbellaw6_known.calls kj36  true _ A78.out).mono ?_); rintro e w104 ⟨rfl, hb⟩; refine ⟨_, rfl, ?_⟩; have n0_ := Aside0.mk (Kd.R_below (by (with_reducible repeat (first | apply Kd.R_alloc | apply Kd.R_drewN | apply Kd.R_drew)); exact HO_17.out) hb); have n1_ := Aside0.mk (Kd.R_below (by (with_reducible repeat (first | apply Kd.R_alloc | apply Kd.R_drewN | apply Kd.R_drew)); exact HO259.out) hb); have n2_ := Aside0.mk (Kd.R_below (by (with_reducible repeat (first | apply Kd.R_alloc | apply Kd.R_drewN | apply Kd.R_drew)); exact HO264.out) hb); have n3_ := Aside0.mk (below_step (by repeat (first | (with_reducible first | exact HB.out | apply below_alloc | apply pw_below_drewN | apply below_drew1) | exact HB.out)) hb); clear HO_17; clear HO259; clear HO264; clear HB; have HO_17 := n0_; have HO259 := n1_; have HO264 := n2_; have HB := n3_; clear n0_ n1_ n2_ n3_; (try clear hb); (try clear hb2); (try clear hk); (try clear hi)) | (go_at_call 22; (with_reducible refine (mark_Sum.calls kj36 _ _ l1 t266 _ ?side1 ?side2 A80.out).mono ?_); (case side1 => repeat (first | exact (Kd.C_below HR1.out HB.out) | (with_reducible refine Kd.C_alloc ?_ _) | (with_reducible refine Kd.C_drewN ?_ _) | (with_reducible refine Kd.C_drew ?_))); (case side2 => exact HC1.out); rintro e w' ⟨rfl, ⟨nd, rfl⟩⟩) | (go_at_call 20; (with_reducible refine (corbelref3_Sum.calls kj36 _ _ l1 t267 _ ?side1 ?side2 A81.out).mono ?_); (case side1 => repeat (first | exact (Kd.C_below HR1.out (by repeat (first | (with_reducible first | exact HB.out | apply below_alloc | apply pw_below_drewN | apply below_drew1) | exact HB.out))) | (with_reducible refine Kd.C_alloc ?_ _) | (with_reducible refine Kd.C_drewN ?_ _) | (with_reducible refine Kd.C_drew ?_))); (case side2 => exact HC1.out); rintro e w' ⟨rfl, ⟨nd, rfl⟩⟩))
                      go_ret
                      exact ⟨by first | rfl | (simp [errW_none, errW_some] <;> rfl) | (simp [*, errW_none, errW_some] <;> rfl), by repeat (first | (with_reducible first | exact HB.out | apply below_alloc | apply pw_below_drewN | apply below_drew1) | exact HB.out)⟩
                  · rw [if_neg c82] at H
                    have c82b0 : (t266 == t267) = false := beq_eq_false_iff_ne.mpr c82
                    have c82b1 : (t266 != t267) = true := bne_iff_ne.mpr c82
                    obtain rfl := Option.some.inj H
                    obtain ⟨Ao105, co105, eo105⟩ := Kd.R_slice HO_17.out
                    subst eo105
                    go_wp2_with (first | ((with_reducible refine gate_callee (f := 16) rfl ?_); refine goesL_ (some 120) rfl rfl Try.func16 (by kernel_rfl) rfl #[.slice Ao105 x17_36.length co105] rfl (by (try simp only [List.map_toArray, List.map_cons, List.map_nil]); first | done | rfl | (simp only [List.length_drop, List.length_take]; rfl)) ?_; (with_reducible refine (mark_Open.calls kj36 _ _ x17_36 t255 t256 t257 _ ?side1 ?side2 A76.out).mono ?_); (case side1 => repeat (first | exact (Kd.R_reads' HO_17.out).2.2 | (with_reducible refine Kd.C_alloc ?_ _) | (with_reducible refine Kd.C_drewN ?_ _) | (with_reducible refine Kd.C_drew ?_))); (case side2 => exact (Kd.R_reads' HO_17.out).2.1); rintro e w106 ⟨v258, rfl, ho0, hb⟩; refine ⟨_, rfl, ?_⟩; have n0_ := Aside0.mk (Kd.R_elder' (by (with_reducible repeat (first | apply Kd.R_alloc | apply Kd.R_drewN | apply Kd.R_drew)); exact HO_17.out) (Kd.R_base ho0) hb); have n1_ := Aside0.mk (Kd.R_lower (Kd.R_new' ho0 (Kd.R_lt (by (with_reducible repeat (first | apply Kd.R_alloc | apply Kd.R_drewN | apply Kd.R_drew)); exact HO_17.out))) (below_size (by repeat (first | (with_reducible first | exact HB.out | apply below_alloc | apply pw_below_drewN | apply below_drew1) | exact HB.out)))); have n2_ := Aside0.mk (below_step (by repeat (first | (with_reducible first | exact HB.out | apply below_alloc | apply pw_below_drewN | apply below_drew1) | exact HB.out)) hb); clear HO_17; clear HB; have HO_17 := n0_; have HO259 := n1_; have HB := n2_; clear n0_ n1_ n2_; (try clear hb); (try clear hb2); (try clear hk); (try clear hi); (try clear ho0)) | ((with_reducible refine gate_callee (f := 21) rfl ?_); refine goesL_ (some 126) rfl rfl Try.func21 (by kernel_rfl) rfl #[.slice Ao105 x17_36.length co105] rfl (by (try simp only [List.map_toArray, List.map_cons, List.map_nil]); first | done | rfl | (simp only [List.length_drop, List.length_take]; rfl)) ?_; (with_reducible refine (corbelref3_Open.calls kj36 _ _ x17_36 t260 t261 t262 _ ?side1 ?side2 A77.out).mono ?_); (case side1 => repeat (first | exact (Kd.R_reads' HO_17.out).2.2 | (with_reducible refine Kd.C_alloc ?_ _) | (with_reducible refine Kd.C_drewN ?_ _) | (with_reducible refine Kd.C_drew ?_))); (case side2 => exact (Kd.R_reads' HO_17.out).2.1); rintro e w107 ⟨v263, rfl, ho0, hb⟩; refine ⟨_, rfl, ?_⟩; have n0_ := Aside0.mk (Kd.R_elder' (by (with_reducible repeat (first | apply Kd.R_alloc | apply Kd.R_drewN | apply Kd.R_drew)); exact HO_17.out) (Kd.R_base ho0) hb); have n1_ := Aside0.mk (Kd.R_elder' (by (with_reducible repeat (first | apply Kd.R_alloc | apply Kd.R_drewN | apply Kd.R_drew)); exact HO259.out) (Kd.R_base ho0) hb); have n2_ := Aside0.mk (Kd.R_lower (Kd.R_new' (Kd.R_new' ho0 (Kd.R_lt (by (with_reducible repeat (first | apply Kd.R_alloc | apply Kd.R_drewN | apply Kd.R_drew)); exact HO_17.out))) (Kd.R_lt (by (with_reducible repeat (first | apply Kd.R_alloc | apply Kd.R_drewN | apply Kd.R_drew)); exact HO259.out))) (below_size (by repeat (first | (with_reducible first | exact HB.out | apply below_alloc | apply pw_below_drewN | apply below_drew1) | exact HB.out)))); have n3_ := Aside0.mk (below_step (by repeat (first | (with_reducible first | exact HB.out | apply below_alloc | apply pw_below_drewN | apply below_drew1) | exact HB.out)) hb); clear HO_17; clear HO259; clear HB; have HO_17 := n0_; have HO259 := n1_; have HO264 := n2_; have HB := n3_; clear n0_ n1_ n2_ n3_; (try clear hb); (try clear hb2); (try clear hk); (try clear hi); (try clear ho0)) | ((with_reducible refine gate_callee (f := 15) rfl ?_); refine goesL_ (some 130) rfl rfl Try.func15 (by kernel_rfl) rfl #[] rfl (by (try simp only [List.map_toArray, List.map_cons, List.map_nil]); first | done | rfl | (simp only [List.length_drop, List.length_take]; rfl)) ?_; (with_reducible refine (corbellaw6_known.calls kj36  true _ A78.out).mono ?_); rintro e w108 ⟨rfl, hb⟩; refine ⟨_, rfl, ?_⟩; have n0_ := Aside0.mk (Kd.R_below (by (with_reducible repeat (first | apply Kd.R_alloc | apply Kd.R_drewN | apply Kd.R_drew)); exact HO_17.out) hb); have n1_ := Aside0.mk (Kd.R_below (by (with_reducible repeat (first | apply Kd.R_alloc | apply Kd.R_drewN | apply Kd.R_drew)); exact HO259.out) hb); have n2_ := Aside0.mk (Kd.R_below (by (with_reducible repeat (first | apply Kd.R_alloc | apply Kd.R_drewN | apply Kd.R_drew)); exact HO264.out) hb); have n3_ := Aside0.mk (below_step (by repeat (first | (with_reducible first | exact HB.out | apply below_alloc | apply pw_below_drewN | apply below_drew1) | exact HB.out)) hb); clear HO_17; clear HO259; clear HO264; clear HB; have HO_17 := n0_; have HO259 := n1_; have HO264 := n2_; have HB := n3_; clear n0_ n1_ n2_ n3_; (try clear hb); (try clear hb2); (try clear hk); (try clear hi)) | (go_at_call 22; (with_reducible refine (mark_Sum.calls kj36 _ _ l1 t266 _ ?side1 ?side2 A80.out).mono ?_); (case side1 => repeat (first | exact (Kd.C_below HR1.out HB.out) | (with_reducible refine Kd.C_alloc ?_ _) | (with_reducible refine Kd.C_drewN ?_ _) | (with_reducible refine Kd.C_drew ?_))); (case side2 => exact HC1.out); rintro e w' ⟨rfl, ⟨nd, rfl⟩⟩) | (go_at_call 20; (with_reducible refine (corbelref3_Sum.calls kj36 _ _ l1 t267 _ ?side1 ?side2 A81.out).mono ?_); (case side1 => repeat (first | exact (Kd.C_below HR1.out (by repeat (first | (with_reducible first | exact HB.out | apply below_alloc | apply pw_below_drewN | apply below_drew1) | exact HB.out))) | (with_reducible refine Kd.C_alloc ?_ _) | (with_reducible refine Kd.C_drewN ?_ _) | (with_reducible refine Kd.C_drew ?_))); (case side2 => exact HC1.out); rintro e w' ⟨rfl, ⟨nd, rfl⟩⟩))
                    go_ret
                    exact ⟨by first | rfl | (simp [errW_none, errW_some] <;> rfl) | (simp [*, errW_none, errW_some] <;> rfl), by repeat (first | (with_reducible first | exact HB.out | apply below_alloc | apply pw_below_drewN | apply below_drew1) | exact HB.out)⟩
                · replace c79 := Bool.eq_false_iff.mpr c79
                  subst c79
                  have H1 : (some false) = some r := by rw [if_neg (show ¬ (false = true) by decide)] at H; exact H
                  clear H
                  have H := H1
                  clear H1
                  obtain rfl := Option.some.inj H
                  obtain ⟨Ao109, co109, eo109⟩ := Kd.R_slice HO_17.out
                  subst eo109
                  go_wp2_with (first | ((with_reducible refine gate_callee (f := 16) rfl ?_); refine goesL_ (some 120) rfl rfl Try.func16 (by kernel_rfl) rfl #[.slice Ao109 x17_36.length co109] rfl (by (try simp only [List.map_toArray, List.map_cons, List.map_nil]); first | done | rfl | (simp only [List.length_drop, List.length_take]; rfl)) ?_; (with_reducible refine (mark_Open.calls kj36 _ _ x17_36 t255 t256 t257 _ ?side1 ?side2 A76.out).mono ?_); (case side1 => repeat (first | exact (Kd.R_reads' HO_17.out).2.2 | (with_reducible refine Kd.C_alloc ?_ _) | (with_reducible refine Kd.C_drewN ?_ _) | (with_reducible refine Kd.C_drew ?_))); (case side2 => exact (Kd.R_reads' HO_17.out).2.1); rintro e w110 ⟨v258, rfl, ho0, hb⟩; refine ⟨_, rfl, ?_⟩; have n0_ := Aside0.mk (Kd.R_elder' (by (with_reducible repeat (first | apply Kd.R_alloc | apply Kd.R_drewN | apply Kd.R_drew)); exact HO_17.out) (Kd.R_base ho0) hb); have n1_ := Aside0.mk (Kd.R_lower (Kd.R_new' ho0 (Kd.R_lt (by (with_reducible repeat (first | apply Kd.R_alloc | apply Kd.R_drewN | apply Kd.R_drew)); exact HO_17.out))) (below_size (by repeat (first | (with_reducible first | exact HB.out | apply below_alloc | apply pw_below_drewN | apply below_drew1) | exact HB.out)))); have n2_ := Aside0.mk (below_step (by repeat (first | (with_reducible first | exact HB.out | apply below_alloc | apply pw_below_drewN | apply below_drew1) | exact HB.out)) hb); clear HO_17; clear HB; have HO_17 := n0_; have HO259 := n1_; have HB := n2_; clear n0_ n1_ n2_; (try clear hb); (try clear hb2); (try clear hk); (try clear hi); (try clear ho0)) | ((with_reducible refine gate_callee (f := 21) rfl ?_); refine goesL_ (some 126) rfl rfl Try.func21 (by kernel_rfl) rfl #[.slice Ao109 x17_36.length co109] rfl (by (try simp only [List.map_toArray, List.map_cons, List.map_nil]); first | done | rfl | (simp only [List.length_drop, List.length_take]; rfl)) ?_; (with_reducible refine (corbelref3_Open.calls kj36 _ _ x17_36 t260 t261 t262 _ ?side1 ?side2 A77.out).mono ?_); (case side1 => repeat (first | exact (Kd.R_reads' HO_17.out).2.2 | (with_reducible refine Kd.C_alloc ?_ _) | (with_reducible refine Kd.C_drewN ?_ _) | (with_reducible refine Kd.C_drew ?_))); (case side2 => exact (Kd.R_reads' HO_17.out).2.1); rintro e w111 ⟨v263, rfl, ho0, hb⟩; refine ⟨_, rfl, ?_⟩; have n0_ := Aside0.mk (Kd.R_elder' (by (with_reducible repeat (first | apply Kd.R_alloc | apply Kd.R_drewN | apply Kd.R_drew)); exact HO_17.out) (Kd.R_base ho0) hb); have n1_ := Aside0.mk (Kd.R_elder' (by (with_reducible repeat (first | apply Kd.R_alloc | apply Kd.R_drewN | apply Kd.R_drew)); exact HO259.out) (Kd.R_base ho0) hb); have n2_ := Aside0.mk (Kd.R_lower (Kd.R_new' (Kd.R_new' ho0 (Kd.R_lt (by (with_reducible repeat (first | apply Kd.R_alloc | apply Kd.R_drewN | apply Kd.R_drew)); exact HO_17.out))) (Kd.R_lt (by (with_reducible repeat (first | apply Kd.R_alloc | apply Kd.R_drewN | apply Kd.R_drew)); exact HO259.out))) (below_size (by repeat (first | (with_reducible first | exact HB.out | apply below_alloc | apply pw_below_drewN | apply below_drew1) | exact HB.out)))); have n3_ := Aside0.mk (below_step (by repeat (first | (with_reducible first | exact HB.out | apply below_alloc | apply pw_below_drewN | apply below_drew1) | exact HB.out)) hb); clear HO_17; clear HO259; clear HB; have HO_17 := n0_; have HO259 := n1_; have HO264 := n2_; have HB := n3_; clear n0_ n1_ n2_ n3_; (try clear hb); (try clear hb2); (try clear hk); (try clear hi); (try clear ho0)) | ((with_reducible refine gate_callee (f := 15) rfl ?_); refine goesL_ (some 130) rfl rfl Try.func15 (by kernel_rfl) rfl #[] rfl (by (try simp only [List.map_toArray, List.map_cons, List.map_nil]); first | done | rfl | (simp only [List.length_drop, List.length_take]; rfl)) ?_; (with_reducible refine (corbellaw6_known.calls kj36  false _ A78.out).mono ?_); rintro e w112 ⟨rfl, hb⟩; refine ⟨_, rfl, ?_⟩; have n0_ := Aside0.mk (Kd.R_below (by (with_reducible repeat (first | apply Kd.R_alloc | apply Kd.R_drewN | apply Kd.R_drew)); exact HO_17.out) hb); have n1_ := Aside0.mk (Kd.R_below (by (with_reducible repeat (first | apply Kd.R_alloc | apply Kd.R_drewN | apply Kd.R_drew)); exact HO259.out) hb); have n2_ := Aside0.mk (Kd.R_below (by (with_reducible repeat (first | apply Kd.R_alloc | apply Kd.R_drewN | apply Kd.R_drew)); exact HO264.out) hb); have n3_ := Aside0.mk (below_step (by repeat (first | (with_reducible first | exact HB.out | apply below_alloc | apply pw_below_drewN | apply below_drew1) | exact HB.out)) hb); clear HO_17; clear HO259; clear HO264; clear HB; have HO_17 := n0_; have HO259 := n1_; have HO264 := n2_; have HB := n3_; clear n0_ n1_ n2_ n3_; (try clear hb); (try clear hb2); (try clear hk); (try clear hi)))
                  go_ret
                  exact ⟨by first | rfl | (simp [errW_none, errW_some] <;> rfl) | (simp [*, errW_none, errW_some] <;> rfl), by repeat (first | (with_reducible first | exact HB.out | apply below_alloc | apply pw_below_drewN | apply below_drew1) | exact HB.out)⟩

/-- THE ONE PURE STATEMENT of corbellaw6_MarkTells: yours. -/
def corbellaw6_MarkTells.Pure : Prop := ∀ (a0 : Int) (l1 : List Int) (l2 : List Int) (a3 : Int) (l4 : List Int) (a5 : Int), (Lit.int .i64 a0).wf = true → l1.length ≤ maxLen → l1.length * 1 ≤ 140737488351232 → (∀ x ∈ l1, (Lit.int .u8 x).wf = true) → l2.length ≤ maxLen → l2.length * 1 ≤ 140737488351232 → (∀ x ∈ l2, (Lit.int .u8 x).wf = true) → (Lit.int .i64 a3).wf = true → l4.length ≤ maxLen → l4.length * 8 ≤ 140737488351232 → (∀ x ∈ l4, (Lit.int .i64 x).wf = true) → (Lit.int .u8 a5).wf = true → ∃ k, corbellaw6_MarkTells.f k a0 l1 l2 a3 l4 a5 = some true
theorem corbellaw6_MarkTells.walk (P : corbellaw6_MarkTells.Pure) (a0 : Int) (a1 : Option Addr) (len1 cap1 : Nat) (z1 : List Int) (a2 : Option Addr) (len2 cap2 : Nat) (z2 : List Int) (a3 : Int) (a4 : Option Addr) (len4 cap4 : Nat) (z4 : List Int) (a5 : Int) (w : World) (w0 : (Lit.int .i64 a0).wf = true) (w1 : (a1 = none ∧ len1 = 0 ∧ cap1 = 0 ∧ z1 = []) ∨ ∃ x, a1 = some x ∧ len1 ≤ cap1 ∧ cap1 ≤ maxLen ∧ z1.length = cap1 ∧ (∀ i, i < z1.length → w.cell? (x.add i) = some (.int .u8 (z1.getD i 0))) ∧ ∀ n ∈ z1, (Lit.int .u8 n).wf = true) (y1 : len1 * 1 ≤ 140737488351232) (w2 : (a2 = none ∧ len2 = 0 ∧ cap2 = 0 ∧ z2 = []) ∨ ∃ x, a2 = some x ∧ len2 ≤ cap2 ∧ cap2 ≤ maxLen ∧ z2.length = cap2 ∧ (∀ i, i < z2.length → w.cell? (x.add i) = some (.int .u8 (z2.getD i 0))) ∧ ∀ n ∈ z2, (Lit.int .u8 n).wf = true) (y2 : len2 * 1 ≤ 140737488351232) (w3 : (Lit.int .i64 a3).wf = true) (w4 : (a4 = none ∧ len4 = 0 ∧ cap4 = 0 ∧ z4 = []) ∨ ∃ x, a4 = some x ∧ len4 ≤ cap4 ∧ cap4 ≤ maxLen ∧ z4.length = cap4 ∧ (∀ i, i < z4.length → w.cell? (x.add i) = some (.int .i64 (z4.getD i 0))) ∧ ∀ n ∈ z4, (Lit.int .i64 n).wf = true) (y4 : len4 * 8 ≤ 140737488351232) (w5 : (Lit.int .u8 a5).wf = true) :
    Calls Try.prog 4 #[.int .i64 a0, .slice a1 len1 cap1, .slice a2 len2 cap2, .int .i64 a3, .slice a4 len4 cap4, .int .u8 a5] w fun e w' => e = .returned (.bool true) ∧ Below w.heap.size w w' := by
  obtain ⟨l1, rfl, hr1, hm1, hw1, hc1⟩ := ReadsInt.ofRowC w1
  obtain ⟨l2, rfl, hr2, hm2, hw2, hc2⟩ := ReadsInt.ofRowC w2
  obtain ⟨l4, rfl, hr4, hm4, hw4, hc4⟩ := ReadsInt.ofRowC w4
  obtain ⟨k, h⟩ := P a0 l1 l2 a3 l4 a5 w0 hm1 y1 hw1 hm2 y2 hw2 w3 hm4 y4 hw4 w5
  refine (corbellaw6_MarkTells.calls k a0 _ _ l1 _ _ l2 a3 _ _ l4 a5 true w (Kd.C_of_reads (d := (0 : Int)) (h1 := fun _ => rfl) hr1) hc1 (Kd.C_of_reads (d := (0 : Int)) (h1 := fun _ => rfl) hr2) hc2 (Kd.C_of_reads (d := (0 : Int)) (h1 := fun _ => rfl) hr4) hc4 h).mono ?_
  rintro e w' ⟨rfl, hd⟩
  exact ⟨rfl, hd⟩

end Go.Proofs.Ytbegaeohggkblaa.PMarkTells
