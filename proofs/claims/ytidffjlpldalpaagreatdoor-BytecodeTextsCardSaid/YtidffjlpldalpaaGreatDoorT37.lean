/- BytecodeBack: the walk. What the rows of BytecodeTexts and BytecodeBack list: their world for the witness, and what they give the calls. BytecodeTexts: the walk. -/
import Derived.Test.YtidffjlpldalpaaGreatDoorT31
import Derived.Test.YtidffjlpldalpaaGreatDoorT35
import Derived.Test.YtidffjlpldalpaaGreatDoorT22
import Derived.Test.YtidffjlpldalpaaGreatDoorT14
import Derived.Test.YtidffjlpldalpaaGreatDoorT13
import Derived.Test.YtidffjlpldalpaaGreatDoorT33
import Derived.Test.YtidffjlpldalpaaGreatDoorT36
import Derived.Test.YtidffjlpldalpaaGreatDoorLaw
import Derived.Lib.LaidTab
import Derived.Lib.LaidU8
import Derived.Test.YtidffjlpldalpaaGreatDoorCards
import Derived.Test.YtidffjlpldalpaaGreatDoorTie
import Derived.Deep.DeepHandedRow
import Derived.Deep.DeepWitnessRowRef
set_option linter.unusedVariables false
set_option linter.unusedSimpArgs false
namespace Go.Proofs.YtidffjlpldalpaaGreatDoor
open Go Go.RowKit

/-- What the walk needs of the world. -/
structure EnvB (w : World) : Prop where
  env : EnvN w
  tab : ITab w
theorem EnvB.below {w w' : World} (h : EnvB w) (hb : Below w.heap.size w w') : EnvB w' := ⟨h.env.below hb, h.tab.below hb⟩
end Go.Proofs.YtidffjlpldalpaaGreatDoor
namespace Go.Proofs.YtidffjlpldalpaaGreatDoor
open Go Go.RowKit Go.ChangeShapes Go.WideShapes Go.ChangeAt

theorem own : ownKnob Tryz.prog.godebug = none := by kernel_rfl
theorem laidOut : laidOutB Tryz.prog = true := by kernel_rfl

/-- Plain data as cells. -/
def flatD : Nat → DataW Unit → List Value
  | _ + 1, .lit l => [l.value]
  | n + 1, .agg ds => ds.flatMap (flatD n)
  | _, _ => []
def fillObj (cs : List Value) : Obj → Obj
  | .cells _ t frozen => .cells cs.toArray t frozen
  | o => o

/-- No number twice, by a set of bits. -/
def nodupB : List Nat → Nat → Bool
  | [], _ => true
  | c :: l, acc => !(acc.testBit c) && nodupB l (acc ||| (1 <<< c))
theorem nodupB_ok : ∀ (l : List Nat) (acc : Nat), nodupB l acc = true → l.Nodup ∧ ∀ c ∈ l, acc.testBit c = false
  | [], _, _ => ⟨List.nodup_nil, fun _ h => by cases h⟩
  | c :: l, acc, h => by
    simp only [nodupB, Bool.and_eq_true, Bool.not_eq_true'] at h
    obtain ⟨h1, h2⟩ := nodupB_ok l _ h.2
    refine ⟨List.nodup_cons.2 ⟨fun hc => ?_, h1⟩, fun x hx => ?_⟩
    · have := h2 c hc
      rw [Nat.testBit_or] at this
      simp [Nat.testBit_shiftLeft] at this
    · rcases List.mem_cons.1 hx with rfl | hx
      · exact h.1
      · have := h2 x hx
        rw [Nat.testBit_or, Bool.or_eq_false_iff] at this
        exact this.1
def codeP : MemPlace → Nat
  | .cell b o => b * 1024 + o
  | .map b => b * 1024 + 1023
theorem nodup_places {ps : List MemPlace} (h : nodupB (ps.map codeP) 0 = true) : ps.Nodup := by
  have := (nodupB_ok _ _ h).1
  unfold List.Nodup at this ⊢
  exact (List.pairwise_map.1 this).imp fun hne he => hne (by rw [he])
/-- The listed variables read so: three closed facts. -/
theorem laidMet_by {P : Program} {w : World} {l : List (String × DataW Unit)} (fuel : Nat) (h : (DataW.laidRun P w fuel (l.map (·.1))).map (·.1) = some l)
    (hn : (DataW.laidRun P w fuel (l.map (·.1))).map (fun x => nodupB (x.2.map codeP) 0 && laidRowsB P w x.2) = some true) : laidMet P l w := by
  refine laidMet_of_run' fuel h ?_
  cases hx : DataW.laidRun P w fuel (l.map (·.1)) with
  | none => simp [hx] at hn
  | some x =>
    rw [hx] at hn
    simp only [Option.map_some, Option.some.injEq, Bool.and_eq_true] at hn ⊢
    exact ⟨decide_eq_true (nodup_places hn.1), hn.2⟩

/-- A WORLD FOR THE WITNESS: the settled one, with the listed tables and errors laid. -/
noncomputable def laidWorld (os : Os) : World :=
  { World.holding Tryz.prog os ⟨#[], #[], []⟩ with heap :=
      ((((((((World.holding Tryz.prog os ⟨#[], #[], []⟩).heap.modify 4 (fillObj (flatD 8 Rows.laid_math_bits_deBruijn32tab))).modify 5 (fillObj (flatD 8 Rows.laid_math_bits_deBruijn64tab))).modify 0 (fillObj (flatD 8 Rows.laid_internal_strconv_uint64pow10))).modify 3 (fillObj (flatD 8 Rows.laid_unicode_utf8_acceptRanges))).modify 2 (fillObj (flatD 8 Rows.laid_unicode_utf8_first))).modify 7 (fillObj [.iface 165 (.pointer (some ⟨(World.holding Tryz.prog os ⟨#[], #[], []⟩).heap.size, 0, none⟩))])).modify 6 (fillObj [.iface 165 (.pointer (some ⟨(World.holding Tryz.prog os ⟨#[], #[], []⟩).heap.size + 1, 0, none⟩))])) ++
      #[Obj.cells #[.string ⟨#[118, 97, 108, 117, 101, 32, 111, 117, 116, 32, 111, 102, 32, 114, 97, 110, 103, 101]⟩] 167 (0, 0), Obj.cells #[.string ⟨#[105, 110, 118, 97, 108, 105, 100, 32, 115, 121, 110, 116, 97, 120]⟩] 167 (0, 0)] }
theorem laid_met1 (os : Os) (args : Array Value) : laidMet Tryz.prog Rows.bytecodeBackRow.laid ((laidWorld os).forCall (fun _ _ => 0) ⟨#[], args, []⟩).memory :=
  laidMet_by 8 (by kernel_rfl) (by kernel_rfl)
theorem laid_met (os : Os) (args : Array Value) : laidMetH Tryz.prog Rows.bytecodeBackRow.laid ((laidWorld os).forCall (fun _ _ => 0) ⟨#[], args, []⟩).memory := by
  rw [MakeChecks.laidMetH_plain _ _ _ (by kernel_rfl)]; exact laid_met1 os args
theorem gPow : Tryz.prog.globalNamed "internal/strconv.uint64pow10" = some 0 := by kernel_rfl
theorem gErr : Tryz.prog.globalNamed "strconv.ErrRange" = some 7 := by kernel_rfl
theorem tErr : (Tryz.prog.globals[7]?).map (·.type) = some 54 := by kernel_rfl
theorem envOf {W : World} (h : W.ShapedOpen Tryz.prog) (hl : laidMetH Tryz.prog Rows.bytecodeBackRow.laid W) : EnvB W := by
  rw [MakeChecks.laidMetH_plain _ _ _ (by kernel_rfl)] at hl
  refine ⟨⟨?_, ?_, ?_⟩, ?_⟩
  · exact Go.Proofs.cell_of_shapedOpen_int (zero := #[.int .i64 0]) (t := 3) h (of_decide_eq_true (by kernel_rfl)) (by kernel_rfl) rfl (by kernel_rfl) (by kernel_rfl) Tryz.underlying3
  · obtain ⟨m, hm⟩ : ∃ m : Int, W.cell? ⟨1, 0, none⟩ = some (.int .i64 m) :=
      Go.Proofs.cell_of_shapedOpen_int (zero := #[.int .i64 0]) (t := 3) h (of_decide_eq_true (by kernel_rfl)) (by kernel_rfl) rfl (by kernel_rfl) (by kernel_rfl) Tryz.underlying3
    rcases Nat.lt_or_ge 1 W.heap.size with h' | h'
    · exact h'
    · simp [World.cell?, Array.getElem?_eq_none h'] at hm
  · obtain ⟨g, t, cs, fuel, p, hg, ht, hvar, hd⟩ : Lib.VarReads Tryz.prog W "strconv.ErrRange" Rows.laid_strconv_ErrRange := Lib.laidMet.reads hl (by simp [Rows.bytecodeBackRow])
    obtain rfl := Option.some.inj (gErr.symm.trans hg)
    obtain rfl := Option.some.inj (tErr.symm.trans ht)
    obtain ⟨_, u, v, hcs, _⟩ := iface_of_trod Tryz.underlying54 hd
    refine ⟨u, v, ?_⟩
    rw [hvar]
    congr 1
    exact Array.toList_inj.1 hcs
  · have h : Lib.VarReads Tryz.prog W "internal/strconv.uint64pow10" Rows.laid_internal_strconv_uint64pow10 := Lib.laidMet.reads hl (by simp [Rows.bytecodeBackRow])
    have e : (Rows.laid_internal_strconv_uint64pow10 : DataW Unit) = Lib.tabData .u64 Lib.pow10Tab := by kernel_rfl
    rw [e] at h
    obtain ⟨g, t, cs, fuel, p, hg, ht, hvar, hd⟩ := h
    obtain rfl := Option.some.inj (gPow.symm.trans hg)
    obtain rfl := Option.some.inj ((show (Tryz.prog.globals[0]?).map (·.type) = some 138 by kernel_rfl).symm.trans ht)
    unfold ITab Lib.TabIs
    rw [hvar, ← Lib.cells_of_tab Tryz.underlying138 Tryz.underlying127 (by kernel_rfl) (by kernel_rfl) hd]
end Go.Proofs.YtidffjlpldalpaaGreatDoor
namespace Go.Proofs.YtidffjlpldalpaaGreatDoor
open Go Go.RowKit

theorem chk_sizes (ok : Bool) (q : ProgS) : (chkT ok q).1.funs.length ≤ 1000000 ∧ (chkT ok q).1.texts.length ≤ 1000000 ∧ ∀ f ∈ (chkT ok q).1.funs, f.code.length ≤ 1000000 := by
  have hz : zeroS.funs.length ≤ 1000000 ∧ zeroS.texts.length ≤ 1000000 ∧ ∀ f ∈ zeroS.funs, f.code.length ≤ 1000000 := ⟨by decide, by decide, fun f hf => by cases hf⟩
  unfold chkT
  split
  · split
    · rename_i hv
      obtain ⟨v1, _, v3, v4, _⟩ := valid_parts _ hv
      refine ⟨?_, ?_, fun f hf => ?_⟩
      · simp only [List.length_map] at v1; exact Nat.le_trans v1 (by decide)
      · exact Nat.le_trans v3 (by decide)
      · have := v4 (fill f) (List.mem_map_of_mem hf)
        simp only [headB, inB, Bool.and_eq_true, decide_eq_true_eq] at this
        have e : (fill f).code.length = f.code.length := rfl
        omega
    · exact hz
  · exact hz
theorem parT_sizes (l : List UInt8) : (parT l).1.funs.length ≤ 1000000 ∧ (parT l).1.texts.length ≤ 1000000 ∧ ∀ f ∈ (parT l).1.funs, f.code.length ≤ 1000000 := by
  unfold parT
  split <;> exact chk_sizes _ _
set_option maxHeartbeats 4000000 in
set_option maxRecDepth 100000 in
theorem texts_walk (fv tv : Value) (p : ProgD) (s : ByteArray) (w : World) (h : IsProg w fv tv p) (hfl : p.funs.length ≤ maxLen) (htl : p.texts.length ≤ maxLen) (hsl : s.size ≤ maxLen) (hE : EnvB w) :
    Calls Tryz.prog 3 #[.agg #[fv, tv, .int .i64 p.main], .string s] w fun e w' => e = .returned (.bool true) ∧ Below w.heap.size w w' := by
  have Hp := Lib.hid h
  have hs0 : Below w.heap.size w (w.alloc (.cells #[fv, tv, .int .i64 p.main] 25)) := (Below.refl _ _).alloc (Nat.le_refl _) _
  have hP : (w.alloc (.cells #[fv, tv, .int .i64 p.main] 25)).heap[w.heap.size]? = some (.cells #[fv, tv, .int .i64 p.main] 25 (0, 0)) := new_heap w _
  obtain ⟨fa, fc, ta, tc, rfl, rfl⟩ := isProg_slices h
  have hm : maxLen = 9223372036854775807 := by decide
  rw [hm] at hfl htl hsl
  clear hm
  go_enter Tryz.func3, Tryz.ntmps3
  go_wp2_with fail
  generalize w.alloc (.cells #[.slice fa p.funs.length fc, .slice ta p.texts.length tc, .int .i64 p.main] 25) = W0 at *
  refine (awake_any _).mono ?_
  rintro e w1 ⟨rfl, hb1⟩
  have hbb1 : Below w.heap.size w w1 := hs0.trans (hb1.mono hs0.size)
  have hP1 := (hb1.block _ (heap_lt hP)).trans hP
  obtain ⟨p0, p1, p2⟩ := ins_cells hP1
  have HG := Lib.hid (great_any (.slice fa p.funs.length fc) (.slice ta p.texts.length tc) p w1 (Hp.out.below hbb1) hfl htl)
  clear hs0 hP hb1
  go_wp2_with fail
  refine HG.out.mono ?_
  rintro e w2 ⟨rfl, hb2⟩
  have hbb2 : Below w.heap.size w w2 := hbb1.trans (hb2.mono hbb1.size)
  have hP2 := (hb2.block _ (heap_lt hP1)).trans hP1
  obtain ⟨g, hg⟩ : ∃ g, greatB p = g := ⟨_, rfl⟩
  have Hg := Lib.hid hg
  rw [hg]
  clear hg HG hbb1 hP1 hb2 p0 p1 p2
  cases g
  rotate_left
  · go_wp2_with fail
    go_ret
    exact ⟨rfl, hbb2⟩
  · by_cases hs3 : (3000 : Int) < (s.size : Int)
    · have hs3' : ((3000 : Int) < (s.size : Int)) = True := eq_true hs3
      clear hs3
      go_wp2_with fail
      go_ret
      exact ⟨rfl, hbb2⟩
    · have hs3' : ((3000 : Int) < (s.size : Int)) = False := eq_false hs3
      have hsz : s.size ≤ 1000000 := by omega
      obtain ⟨n1, n2, n3, _⟩ := great_no p Hg.out
      obtain ⟨p0, p1, p2⟩ := ins_cells hP2
      have hEB := hE.below hbb2
      clear n3
      obtain ⟨q, hq⟩ : ∃ q, validB p = q := ⟨_, rfl⟩
      have hT : ∃ S er, Calls Tryz.prog 7 #[.agg #[.slice fa p.funs.length fc, .slice ta p.texts.length tc, .int .i64 p.main]] w2 (fun e w' => e = .returned (.tuple #[.string S, .int .i64 er]) ∧ Below w2.heap.size w2 w') ∧ (q = false → S = ⟨#[]⟩ ∧ er = 1) ∧ (q = true → S = ⟨(textA p).toArray⟩ ∧ er = 0) := by
        cases q
        · exact ⟨_, _, text_no _ _ p w2 (Hp.out.below hbb2) (by omega) (by omega) hq, fun _ => ⟨rfl, rfl⟩, by nofun⟩
        · exact ⟨_, _, (textA_any Num52 _ _ p w2 (Hp.out.below hbb2) (by omega) hq (nums52 p hq) (itoa52 w2 hEB.tab) (textA_len p Hg.out hq)).mono (fun e w' h => h), by nofun, fun _ => ⟨rfl, rfl⟩⟩
      obtain ⟨S, er, hT, hno, hyes⟩ := hT
      have HT := Lib.hid hT
      have Hno := Lib.hid hno
      have Hyes := Lib.hid hyes
      clear hT hno hyes
      go_wp2_with fail
      refine HT.out.mono ?_
      clear HT
      rintro e w3 ⟨rfl, hb3⟩
      have hbb3 := hbb2.trans (hb3.mono hbb2.size)
      have hP3 := (hb3.block _ (heap_lt hP2)).trans hP2
      have HRV := Lib.hid (rvalid_any (.slice fa p.funs.length fc) (.slice ta p.texts.length tc) p w3 (Hp.out.below hbb3) (by omega) (by omega))
      clear p0 p1 p2 hb3 hP2 hbb2
      obtain ⟨p0, p1, p2⟩ := ins_cells hP3
      go_wp2_with fail
      refine HRV.out.mono ?_
      clear HRV
      rintro e w4 ⟨rfl, hb4⟩
      have hbb4 := hbb3.trans (hb4.mono hbb3.size)
      have hP4 := (hb4.block _ (heap_lt hP3)).trans hP3
      have HV := Lib.hid (valid_any (.slice fa p.funs.length fc) (.slice ta p.texts.length tc) p w4 (Hp.out.below hbb4) (by omega) (by omega) (fun s _ => quoted_any s))
      clear p0 p1 p2 hb4 hP3 hbb3
      obtain ⟨p0, p1, p2⟩ := ins_cells hP4
      go_wp2_with fail
      refine HV.out.mono ?_
      clear HV
      rintro e w5 ⟨rfl, hb5⟩
      have hbb5 := hbb4.trans (hb5.mono hbb4.size)
      have hP5 := (hb5.block _ (heap_lt hP4)).trans hP4
      clear p0 p1 p2 hb5 hP4 hbb4
      obtain ⟨p0, p1, p2⟩ := ins_cells hP5
      have HTL := Lib.hid (fun (h : q = true) => rtext_any (.slice fa p.funs.length fc) (.slice ta p.texts.length tc) p w5 (Hp.out.below hbb5) (hq.trans h) (textA_len p Hg.out (hq.trans h)))
      rw [hq]
      clear hq
      have HEnd : Hid (∀ V, Below w.heap.size w V → Calls Tryz.prog 11 #[.string s] V (AnsOk (parT s.data.toList) V)) := fun V hb => parse_any s V (hE.below hb).env hsz
      have HRP : Hid (∀ V, Calls Tryz.prog 12 #[.string s] V (AnsOk (parT s.data.toList) V)) := fun V => rparse_any s V hsz
      cases q
      · obtain ⟨rfl, rfl⟩ := Hno.out rfl
        clear Hno Hyes HTL
        go_wp2_with fail
        clear hP5 p0 p1 p2
        refine (HEnd.out _ hbb5).mono ?_
        rintro e w7 ⟨fv1, tv1, p1, err1, rfl, hb7, hp1, ht1⟩
        obtain ⟨fa1, fc1, ta1, tc1, rfl, rfl⟩ := isProg_slices hp1
        have hb5' := hbb5.trans (hb7.mono hbb5.size)
        have hga5 := grown_alloc w7 (.cells #[.slice fa1 p1.funs.length fc1, .slice ta1 p1.texts.length tc1, .int .i64 p1.main] 25)
        have gA5 := new_heap w7 (.cells #[.slice fa1 p1.funs.length fc1, .slice ta1 p1.texts.length tc1, .int .i64 p1.main] 25)
        have hgb5 := grown_under hga5 (Nat.le_refl _) (by nofun)
        have HP5 := Lib.hid (hp1.below hgb5)
        have hb6 := hb5'.trans (hgb5.mono hb5'.size)
        have Ht1 := Lib.hid ht1
        clear hb7 hp1 hb5' hga5 hgb5 HEnd hbb5 ht1
        go_upto_region 10 with fail
        generalize hA5 : w7.heap.size = A5 at *
        generalize w7.alloc (.cells #[.slice fa1 p1.funs.length fc1, .slice ta1 p1.texts.length tc1, .int .i64 p1.main] 25) = V6 at *
        have HRe := Lib.hid (HRP.out V6)
        clear HRP
        go_wp2_with fail
        refine HRe.out.mono ?_
        rintro e w8 ⟨fv2, tv2, p2', err2, rfl, hb8, hp2, ht2⟩
        obtain ⟨fa2, fc2, ta2, tc2, rfl, rfl⟩ := isProg_slices hp2
        have hb7' := hb6.trans (hb8.mono hb6.size)
        have HP7 := Lib.hid (HP5.out.below hb8)
        have gA7 := (hb8.block _ (heap_lt gA5)).trans gA5
        have hga8 := grown_alloc w8 (.cells #[.slice fa2 p2'.funs.length fc2, .slice ta2 p2'.texts.length tc2, .int .i64 p2'.main] 25)
        have gB8 := new_heap w8 (.cells #[.slice fa2 p2'.funs.length fc2, .slice ta2 p2'.texts.length tc2, .int .i64 p2'.main] 25)
        have gA8 := (hga8.block _ (heap_lt gA7) (by nofun)).trans gA7
        have hgb8 := grown_under hga8 (Nat.le_refl _) (by nofun)
        have HP8 := Lib.hid (HP7.out.below hgb8)
        have HQ8 := Lib.hid (hp2.below hgb8)
        have hb8' := hb7'.trans (hgb8.mono hb7'.size)
        have ht := Ht1.out.trans ht2.symm
        have hst : strip p1 = strip p2' := (Prod.mk.inj ht).1
        have her : err1 = err2 := (Prod.mk.inj ht).2
        obtain ⟨z1, z2, z3⟩ := strip_sizes p1 1000000 (by rw [(show strip p1 = (parT s.data.toList).1 from congrArg Prod.fst Ht1.out)]; exact parT_sizes _)
        subst her
        go_upto_region 11 with fail
        generalize hA7 : w8.heap.size = A7 at *
        generalize w8.alloc (.cells #[.slice fa2 p2'.funs.length fc2, .slice ta2 p2'.texts.length tc2, .int .i64 p2'.main] 25) = V8 at *
        have HS := Lib.hid (sameP_any _ _ _ _ p1 p2' V8 HP8.out HQ8.out hst z1 z2 z3)
        obtain ⟨m0, m1, m2⟩ := ins_cells gA8
        obtain ⟨o0, o1, o2⟩ := ins_cells gB8
        clear gA5 hb6 HRe hb8 hp2 hb7' HP7 gA7 hga8 gB8 gA8 hgb8 ht hst z1 z2 z3 ht2
        go_wp2_with fail
        refine HS.out.mono ?_
        rintro e w9 ⟨rfl, hb9⟩
        have hb9' := hb8'.trans (hb9.mono hb8'.size)
        go_wp2_with fail
        go_ret
        exact ⟨rfl, hb9'⟩
      · obtain ⟨rfl, rfl⟩ := Hyes.out rfl
        have HRT := Lib.hid (HTL.out rfl)
        clear Hno Hyes HTL
        generalize (⟨(textA p).toArray⟩ : ByteArray) = S at *
        go_wp2_with fail
        refine HRT.out.mono ?_
        clear HRT
        rintro e w6 ⟨rfl, hb6⟩
        have hbb5 := hbb5.trans (hb6.mono hbb5.size)
        clear hb6 hP5 p0 p1 p2
        go_wp2_with fail
        refine (HEnd.out _ hbb5).mono ?_
        rintro e w7 ⟨fv1, tv1, p1, err1, rfl, hb7, hp1, ht1⟩
        obtain ⟨fa1, fc1, ta1, tc1, rfl, rfl⟩ := isProg_slices hp1
        have hb5' := hbb5.trans (hb7.mono hbb5.size)
        have hga5 := grown_alloc w7 (.cells #[.slice fa1 p1.funs.length fc1, .slice ta1 p1.texts.length tc1, .int .i64 p1.main] 25)
        have gA5 := new_heap w7 (.cells #[.slice fa1 p1.funs.length fc1, .slice ta1 p1.texts.length tc1, .int .i64 p1.main] 25)
        have hgb5 := grown_under hga5 (Nat.le_refl _) (by nofun)
        have HP5 := Lib.hid (hp1.below hgb5)
        have hb6 := hb5'.trans (hgb5.mono hb5'.size)
        have Ht1 := Lib.hid ht1
        clear hb7 hp1 hb5' hga5 hgb5 HEnd hbb5 ht1
        go_upto_region 10 with fail
        generalize hA5 : w7.heap.size = A5 at *
        generalize w7.alloc (.cells #[.slice fa1 p1.funs.length fc1, .slice ta1 p1.texts.length tc1, .int .i64 p1.main] 25) = V6 at *
        have HRe := Lib.hid (HRP.out V6)
        clear HRP
        go_wp2_with fail
        refine HRe.out.mono ?_
        rintro e w8 ⟨fv2, tv2, p2', err2, rfl, hb8, hp2, ht2⟩
        obtain ⟨fa2, fc2, ta2, tc2, rfl, rfl⟩ := isProg_slices hp2
        have hb7' := hb6.trans (hb8.mono hb6.size)
        have HP7 := Lib.hid (HP5.out.below hb8)
        have gA7 := (hb8.block _ (heap_lt gA5)).trans gA5
        have hga8 := grown_alloc w8 (.cells #[.slice fa2 p2'.funs.length fc2, .slice ta2 p2'.texts.length tc2, .int .i64 p2'.main] 25)
        have gB8 := new_heap w8 (.cells #[.slice fa2 p2'.funs.length fc2, .slice ta2 p2'.texts.length tc2, .int .i64 p2'.main] 25)
        have gA8 := (hga8.block _ (heap_lt gA7) (by nofun)).trans gA7
        have hgb8 := grown_under hga8 (Nat.le_refl _) (by nofun)
        have HP8 := Lib.hid (HP7.out.below hgb8)
        have HQ8 := Lib.hid (hp2.below hgb8)
        have hb8' := hb7'.trans (hgb8.mono hb7'.size)
        have ht := Ht1.out.trans ht2.symm
        have hst : strip p1 = strip p2' := (Prod.mk.inj ht).1
        have her : err1 = err2 := (Prod.mk.inj ht).2
        obtain ⟨z1, z2, z3⟩ := strip_sizes p1 1000000 (by rw [(show strip p1 = (parT s.data.toList).1 from congrArg Prod.fst Ht1.out)]; exact parT_sizes _)
        subst her
        go_upto_region 11 with fail
        generalize hA7 : w8.heap.size = A7 at *
        generalize w8.alloc (.cells #[.slice fa2 p2'.funs.length fc2, .slice ta2 p2'.texts.length tc2, .int .i64 p2'.main] 25) = V8 at *
        have HS := Lib.hid (sameP_any _ _ _ _ p1 p2' V8 HP8.out HQ8.out hst z1 z2 z3)
        obtain ⟨m0, m1, m2⟩ := ins_cells gA8
        obtain ⟨o0, o1, o2⟩ := ins_cells gB8
        clear gA5 hb6 HRe hb8 hp2 hb7' HP7 gA7 hga8 gB8 gA8 hgb8 ht hst z1 z2 z3 ht2
        go_wp2_with fail
        refine HS.out.mono ?_
        rintro e w9 ⟨rfl, hb9⟩
        have hb9' := hb8'.trans (hb9.mono hb8'.size)
        go_wp2_with fail
        go_ret
        exact ⟨rfl, hb9'⟩
end Go.Proofs.YtidffjlpldalpaaGreatDoor
