/- CompileRuns returns true for every list of flat functions and every number: what is compiled does what the functions do. No condition: what does not fit is let off by the law itself -/
import Derived.Test.YtbcfdebdikgijaaGreatDoorLaw
import Derived.Test.YtbcfdebdikgijaaGreatDoorCards
import Derived.Test.YtbcfdebdikgijaaGreatDoorTie
import Derived.Deep.DeepHandedRow
import Derived.Deep.DeepWitnessRowRef
import Derived.MakeChecks
import Derived.Lib.LaidU8
import Derived.Test.YtbcfdebdikgijaaGreatDoorS37
import Derived.Test.YtbcfdebdikgijaaGreatDoorS45
set_option maxRecDepth 100000
set_option linter.unusedVariables false
set_option linter.unusedSimpArgs false
namespace Go.Proofs.YtbcfdebdikgijaaGreatDoor.compileRuns
open Go Go.RowKit Go.ChangeShapes Go.WideShapes Go.ChangeAt
theorem own : ownKnob Tryz.prog.godebug = none := by kernel_rfl
theorem laidOut : laidOutB Tryz.prog = true := by kernel_rfl
def Af : Nat -> DataW Unit -> List Value
 | _ + 1, .lit l => [l.value]
 | n + 1, .agg ds => ds.flatMap (Af n)
 | _, _ => []
def Hl (cs : List Value) : Obj -> Obj
 | .cells _ t frozen => .cells cs.toArray t frozen
 | o => o
def nodupB : List Nat -> Nat -> Bool
 | [], _ => true
 | c :: l, acc => !(acc.testBit c) && nodupB l (acc ||| (1 <<< c))
theorem Jp : ∀ (l : List Nat) (acc : Nat), nodupB l acc = true -> l.Nodup /\ ∀ c ∈ l, acc.testBit c = false
 | [], _, _ => ⟨List.nodup_nil, fun _ h => by cases h⟩
 | c :: l, acc, h => by
   simp only [nodupB, Bool.and_eq_true, Bool.not_eq_true'] at h; obtain ⟨h1, h2⟩ := Jp l _ h.2; refine ⟨List.nodup_cons.2 ⟨fun hc => ?_, h1⟩, fun x hx => ?_⟩
   ·have := h2 c hc
    rw [Nat.testBit_or] at this; simp [Nat.testBit_shiftLeft] at this
   ·rcases List.mem_cons.1 hx with rfl | hx
    ·exact h.1
    ·have := h2 x hx
     rw [Nat.testBit_or, Bool.or_eq_false_iff] at this; exact this.1
def mY : MemPlace -> Nat
 | .cell b o => b * 1024 + o
 | .map b => b * 1024 + 1023
theorem G9 {ps : List MemPlace} (h : nodupB (ps.map mY) 0 = true) : ps.Nodup := by
 have := (Jp _ _ h).1
 unfold List.Nodup at this ⊢
 exact (List.pairwise_map.1 this).imp fun hne he => hne (by rw [he])
theorem BI {P : Program} {w : World} {l : List (String × DataW Unit)} (fuel : Nat) (h : (DataW.laidRun P w fuel (l.map (·.1))).map (·.1) = some l)
 (hn : (DataW.laidRun P w fuel (l.map (·.1))).map (fun x => nodupB (x.2.map mY) 0 && laidRowsB P w x.2) = some true) : laidMet P l w := by
 refine laidMet_of_run' fuel h ?_
 cases hx : DataW.laidRun P w fuel (l.map (·.1)) with
 | none => simp [hx] at hn
 | some x =>
   rw [hx] at hn; simp only [Option.map_some, Option.some.injEq, Bool.and_eq_true] at hn ⊢; exact ⟨decide_eq_true (G9 hn.1), hn.2⟩
noncomputable def Qh (os : Os) : World :=
 { World.holding Tryz.prog os ⟨#[], #[], []⟩ with heap :=
  ((((World.holding Tryz.prog os ⟨#[], #[], []⟩).heap.modify 1 (Hl (Af 8 Rows.laid_math_bits_deBruijn32tab))).modify 2 (Hl (Af 8 Rows.laid_math_bits_deBruijn64tab))).modify 0 (Hl (Af 8 Rows.laid_internal_strconv_uint64pow10))) }
theorem xI (os : Os) (args : Array Value) : laidMet Tryz.prog Rows.compileRunsRow.laid ((Qh os).forCall (fun _ _ => 0) ⟨#[], args, []⟩).memory :=
 BI 8 (by kernel_rfl) (by kernel_rfl)
theorem rE (os : Os) (args : Array Value) : laidMetH Tryz.prog Rows.compileRunsRow.laid ((Qh os).forCall (fun _ _ => 0) ⟨#[], args, []⟩).memory := by
 rw [MakeChecks.laidMetH_plain _ _ _ (by kernel_rfl)]; exact xI os args
theorem cK {W : World} (hl : laidMetH Tryz.prog Rows.compileRunsRow.laid W) : Pv W /\ 0 < W.heap.size := by
 rw [MakeChecks.laidMetH_plain _ _ _ (by kernel_rfl)] at hl
 have h : Lib.VarReads Tryz.prog W "internal/strconv.uint64pow10" Rows.laid_internal_strconv_uint64pow10 := Lib.laidMet.reads hl (by simp [Rows.compileRunsRow])
 have e : (Rows.laid_internal_strconv_uint64pow10 : DataW Unit) = Lib.tabData .u64 Lib.pow10Tab := by kernel_rfl
 rw [e] at h
 obtain ⟨g, t, cs, fuel, p, hg, ht, hvar, hd⟩ := h
 obtain rfl := Option.some.inj (kM.symm.trans hg)
 obtain rfl := Option.some.inj ((show (Tryz.prog.globals[0]?).map (·.type) = some 216 by kernel_rfl).symm.trans ht)
 have hT : Pv W := by
  unfold Pv Lib.TabIs; rw [hvar, <- Lib.cells_of_tab Tryz.underlying216 Tryz.underlying209 (by kernel_rfl) (by kernel_rfl) hd]
 exact ⟨hT, by
  have := Lib.TabIs.cell hT kM 0 (by decide); exact World.block_lt_of_cell? W _ this⟩
theorem contract (H : Type) (enc : TypeId × Value -> H) (W : World) (base : Nat) (args : Array Value) (ds gs : List (DataW H)) (before : List MemPlace)
 (hval : ∀ (j : Nat) t v, Tryz.f3.params[j]? = some t -> args[j]? = some v -> Value.okWide Tryz.prog W .any base t v)
 (hW : DataW.Whole enc Tryz.prog Tryz.f3.params.toList Rows.compileRunsSpec.vars false W args.toList ds gs before) (hE : Pv W) (hg : 0 < W.heap.size) :
 Calls Tryz.prog 3 args W fun e W' => ∃ v, e = .returned v /\ Rows.compileRunsSpec.post enc Tryz.prog Tryz.f3 false true false false W args v W' := by
 have hW' := hW
 obtain ⟨p, q, hA0, hV, rfl, hfz, hnd⟩ := hW
 have hA : DataW.TrodAll enc Tryz.prog W 0 (fun _ => true) true Tryz.f3.params.toList args.toList ds p := hA0
 rw [Tryz.params3] at hA hval
 obtain ⟨v0, vs0, d0, ds0, p0, q0, hargs, rfl, rfl, h0, r0⟩ := trodAll_cons hA
 obtain ⟨v1, vs1, d1, ds1, p1, q1, rfl, rfl, rfl, h1, r1⟩ := trodAll_cons r0
 obtain ⟨rfl, rfl, rfl⟩ := trodAll_nil r1
 obtain rfl : args = #[v0, v1] := by cases args; simp_all
 obtain ⟨rfl, rfl⟩ := trodVars_none hV
 obtain ⟨n0, t0⟩ := h0
 obtain ⟨n1, t1⟩ := h1
 obtain ⟨bv0, fl, hc0, hr0⟩ := DR t0
 obtain ⟨main, hc1⟩ := OV t1
 obtain ⟨sa0, sn0, sc0, rfl⟩ := okWide_slice Tryz.underlying22 (hval 0 22 v0 rfl rfl)
 obtain rfl : Value.slice sa0 sn0 sc0 = bv0 := (List.cons.inj hc0).1
 obtain ⟨k1, rfl⟩ := okWide_int Tryz.underlying3 (hval 1 3 v1 rfl rfl)
 obtain rfl : k1 = main := by
  have := (List.cons.inj hc1).1; injection this
 refine (xS (fun p hp G => rF hp 20000 (by decide) G) _ k1 fl W hr0 hE hg).mono fun e W' ⟨he, hb⟩ => ?_
 subst he
 exact ⟨_, rfl, law_post (t := 4) laidOut (by kernel_rfl) rfl rfl Tryz.underlying4 hW' ⟨rfl, rfl, rfl⟩ hb⟩
theorem reads (os : Os) {H : Type} (enc : TypeId × Value -> H) : ∃ places, DataW.whole enc Tryz.prog ((Qh os).forCall (fun _ _ => 0) ⟨#[], #[.slice none 0 0, .int .i64 0], []⟩).memory Tryz.f3.params.toList Rows.compileRunsSpec.vars false (#[.slice none 0 0, .int .i64 0] : Array Value).toList 8 = some ([.nil, .lit (.int .i64 0)], [], places) :=
 ⟨[], by kernel_rfl⟩
theorem lifted (os : Os) (started : os.Started) (H : Type) (enc : TypeId × Value -> H) (F : Stop.Interp) :
 ReturnsInHanded {} Tryz.checked os 3 .any ((OpenSpec.ofChange Rows.compileRunsSpec).preRow enc Tryz.prog Tryz.f3 Rows.compileRunsRow.domain false Rows.compileRunsRow.laid) (((OpenSpec.ofChange Rows.compileRunsSpec).at F).post enc Tryz.prog Tryz.f3 false true false false) := by
 obtain ⟨places, hx⟩ := reads os enc
 refine returnsInHanded_of_row (C := Tryz.checked) (s := OpenSpec.ofChange Rows.compileRunsSpec) own started (by kernel_rfl) Tryz.func3
  (witness_row_atRef (enc := enc) (C := Tryz.checked) false (Qh os) #[.slice none 0 0, .int .i64 0] rfl (by kernel_rfl) (by kernel_rfl) (by kernel_rfl)
    (OpenSpec.preRow_of_cond 8 hx (by kernel_rfl) (fun k hk => by cases hk) (by kernel_rfl) (rE os _))) ?_
 intro W base args ds gs before hval hW _ _ _ hL hsh _
 obtain ⟨h1, h2⟩ := cK hL
 exact contract H enc W base args ds gs before hval hW h1 h2
theorem said : Rows.CompileRunsSaid :=
 OpenClaim.holds_of_cond 3 Tryz.f3 rfl rfl rfl rfl rfl rfl rfl ⟨rfl, rfl, rfl, rfl, rfl⟩ rfl rfl rfl rfl rfl (by kernel_rfl) Tryz.func3 (by kernel_rfl)
  (of_decide_eq_true (by kernel_rfl)) (by unfold Func.isWrapper; first | (rw [ZY (by decide +kernel)]; kernel_rfl) | (rw [Z7 (by decide +kernel)]; exact ⟨rfl, rfl⟩))
  (fun os started H enc _ F => by rw [OpenClaim.pre_eq_preRow]; exact lifted os started H enc F)
theorem plain (f : FuncId) (fn : Func) (hf : Tryz.pinned.checked.prog.funcNamed "pilaster/pilasterlaw47.CompileRuns" = some f) (hfn : Tryz.pinned.checked.prog.funcs[f]? = some fn) :
 true = Tryz.pinned.checked.prog.looks [] /\ ∀ (j : Nat) t, fn.params[j]? = some t -> Tryz.pinned.checked.prog.wantsStandIn t = false := by
 obtain rfl : f = 3 := Option.some.inj ((show Tryz.prog.funcNamed "pilaster/pilasterlaw47.CompileRuns" = some 3 by kernel_rfl).symm.trans hf) |>.symm
 obtain rfl : fn = Tryz.f3 := (Option.some.inj (Tryz.func3.symm.trans hfn)).symm
 refine ⟨by kernel_rfl, fun j t ht => ?_⟩
 have hall : (Tryz.f3.params.all fun t => !Tryz.prog.wantsStandIn t) = true := by kernel_rfl
 have := Array.all_eq_true'.1 hall t (Array.mem_of_getElem? ht)
 exact (by simpa using this : Tryz.prog.wantsStandIn t = false)
theorem card : Rows.CompileRunsCardSaid :=
 Claim7.holds_tied_plain_at .later [] _ _ _ _ said (fun _ h => by cases h) (by kernel_rfl) (fun _ h => by cases h) compileRuns_row_tie rfl ⟨rfl, rfl⟩ (by kernel_rfl) rfl plain (by kernel_rfl)
end Go.Proofs.YtbcfdebdikgijaaGreatDoor.compileRuns
