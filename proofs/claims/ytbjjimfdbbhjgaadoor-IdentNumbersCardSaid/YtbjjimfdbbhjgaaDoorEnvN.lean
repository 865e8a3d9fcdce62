/- What the row of IdentNumbers lists: its world for the witness, and what it gives the calls. -/
import Derived.Test.YtbjjimfdbbhjgaaDoorEnv
import Derived.Test.YtbjjimfdbbhjgaaDoorNum2
namespace Go.Proofs.YtbjjimfdbbhjgaaDoor
open Go Go.RowKit Go.ChangeShapes Go.WideShapes Go.ChangeAt

/-- A WORLD FOR THE WITNESS: the one of the other rows, with five tables and two errors more. -/
noncomputable def laidWorldN (os : Os) : World :=
  { laidWorld os with heap :=
      ((((((laidWorld os).heap.modify 8 (fillObj (flatD 8 Rows.laid_math_bits_deBruijn32tab))).modify 9 (fillObj (flatD 8 Rows.laid_math_bits_deBruijn64tab))).modify
        7 (fillObj (flatD 8 Rows.laid_internal_strconv_uint64pow10))).modify 4 (fillObj [.iface 122 (.pointer (some ⟨(laidWorld os).heap.size, 0, none⟩))])).modify
        3 (fillObj [.iface 122 (.pointer (some ⟨(laidWorld os).heap.size + 1, 0, none⟩))])) ++
      #[Obj.cells #[.string ⟨#[118, 97, 108, 117, 101, 32, 111, 117, 116, 32, 111, 102, 32, 114, 97, 110, 103, 101]⟩] 124 (0, 0), Obj.cells #[.string ⟨#[105, 110, 118, 97, 108, 105, 100, 32, 115, 121, 110, 116, 97, 120]⟩] 124 (0, 0)] }
theorem laid_metN1 (os : Os) (args : Array Value) : laidMet Tryd.prog Rows.identNumbersRow.laid ((laidWorldN os).forCall (fun _ _ => 0) ⟨#[], args, []⟩).memory :=
  laidMet_by 8 (by kernel_rfl) (by kernel_rfl)
theorem laid_metN (os : Os) (args : Array Value) : laidMetH Tryd.prog Rows.identNumbersRow.laid ((laidWorldN os).forCall (fun _ _ => 0) ⟨#[], args, []⟩).memory := by
  rw [MakeChecks.laidMetH_plain _ _ _ (by kernel_rfl)]; exact laid_metN1 os args

theorem gErr : Tryd.prog.globalNamed "strconv.ErrRange" = some 4 := by kernel_rfl
theorem tErr : (Tryd.prog.globals[4]?).map (·.type) = some 65 := by kernel_rfl
theorem envOfN {W : World} (h : W.ShapedOpen Tryd.prog) (hl : laidMetH Tryd.prog Rows.identNumbersRow.laid W) : EnvN W := by
  rw [MakeChecks.laidMetH_plain _ _ _ (by kernel_rfl)] at hl
  refine ⟨⟨spaceTab (Lib.laidMet.reads hl (by simp [Rows.identNumbersRow])), ?_, ?_⟩, ?_⟩
  · exact Go.Proofs.cell_of_shapedOpen_int (zero := #[.int .i64 0]) (t := 3) h (of_decide_eq_true (by kernel_rfl)) (by kernel_rfl) rfl (by kernel_rfl) (by kernel_rfl) Tryd.underlying3
  · obtain ⟨m, hm⟩ : ∃ m : Int, W.cell? ⟨0, 0, none⟩ = some (.int .i64 m) :=
      Go.Proofs.cell_of_shapedOpen_int (zero := #[.int .i64 0]) (t := 3) h (of_decide_eq_true (by kernel_rfl)) (by kernel_rfl) rfl (by kernel_rfl) (by kernel_rfl) Tryd.underlying3
    rcases Nat.lt_or_ge 0 W.heap.size with h' | h'
    · exact h'
    · simp [World.cell?, Array.getElem?_eq_none h'] at hm
  · obtain ⟨g, t, cs, fuel, p, hg, ht, hvar, hd⟩ : Lib.VarReads Tryd.prog W "strconv.ErrRange" Rows.laid_strconv_ErrRange := Lib.laidMet.reads hl (by simp [Rows.identNumbersRow])
    obtain rfl := Option.some.inj (gErr.symm.trans hg)
    obtain rfl := Option.some.inj (tErr.symm.trans ht)
    obtain ⟨_, u, v, hcs, _⟩ := iface_of_trod Tryd.underlying65 hd
    refine ⟨u, v, ?_⟩
    rw [hvar]
    congr 1
    exact Array.toList_inj.1 hcs
end Go.Proofs.YtbjjimfdbbhjgaaDoor
