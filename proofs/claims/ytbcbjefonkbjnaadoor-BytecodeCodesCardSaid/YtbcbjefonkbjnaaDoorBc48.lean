/- BytecodeCodes: the walk. -/
import Derived.Test.YtbcbjefonkbjnaaDoorBc47
import Derived.Test.YtbcbjefonkbjnaaDoorBc34
import Derived.Test.YtbcbjefonkbjnaaDoorBc39
import Derived.Test.YtbcbjefonkbjnaaDoorBc29
namespace Go.Proofs.YtbcbjefonkbjnaaDoor
open Go Go.RowKit Go.ChangeShapes Go.WideShapes

theorem decT_sizes (l : List Int) (h : Small l) : (decT l).1.funs.length ≤ 1000000 ∧ (decT l).1.texts.length ≤ 1000000 ∧ ∀ f ∈ (decT l).1.funs, f.code.length ≤ 1000000 := by
  have hz : zeroS.funs.length ≤ 1000000 ∧ zeroS.texts.length ≤ 1000000 ∧ ∀ f ∈ zeroS.funs, f.code.length ≤ 1000000 := ⟨by decide, by decide, fun f hf => by cases hf⟩
  unfold decT
  split
  · exact hz
  · split
    · exact hz
    · split
      · exact hz
      · rename_i s hs
        have h1 := pBody_sizes _ _ hs
        rw [List.length_take] at h1
        have := h.2
        unfold chkT
        rw [if_pos rfl]
        split
        · exact ⟨by have := h1.1; simp only; omega, by have := h1.2.1; simp only; omega, fun f hf => by have := h1.2.2 f hf; omega⟩
        · exact hz
theorem u8s_flat : ∀ l : List Int, l.flatMap (fun z : Int => [Value.int .u8 z]) = u8s l
  | [] => rfl
  | x :: l => by rw [List.flatMap_cons, u8s_flat l]; rfl
theorem cells_u8 : Tryd.prog.cellsOf 5 = 1 := by kernel_rfl
theorem bytes_open {H : Type} {enc : TypeId × Value → H} {W : World} {sp : Nat → Bool} {n : Nat} {cs : List Value} {x : DataW H × List MemPlace} (h : DataW.trod enc Tryd.prog W 0 sp true n 47 cs = some x) : ∃ v l, cs = [v] ∧ IsRow W v l.length (u8s l) ∧ AreBytes l ∧ l.length ≤ maxLen := by
  obtain ⟨v, l, hv, hr, hq, hm⟩ := row_open (fun z : Int => [.int .u8 z]) (fun z => 0 ≤ z ∧ z < 256) 1 (by decide) (fun _ => rfl) Tryd.underlying47 cells_u8 (fun n cs x h => by
    obtain ⟨k, rfl, _, hk⟩ := DataW.trod_int Tryd.underlying5 h
    exact ⟨k, rfl, wf_u8 k hk⟩) h
  rw [u8s_flat] at hr
  exact ⟨v, l, hv, hr, hq, hm⟩
set_option maxHeartbeats 4000000 in
set_option maxRecDepth 100000 in
theorem codes_walk (fv tv : Value) (p : ProgD) (v : Value) (l : List Int) (w : World) (h : IsProg w fv tv p) (hfl : p.funs.length ≤ maxLen) (htl : p.texts.length ≤ maxLen) (hv : IsRow w v l.length (u8s l)) (hby : AreBytes l) (hbl : l.length ≤ maxLen) :
    Calls Tryd.prog 5 #[.agg #[fv, tv, .int .i64 p.main], v] w fun e w' => e = .returned (.bool true) ∧ Below w.heap.size w w' := by
  have Hp := Lib.hid h
  have Hv := Lib.hid hv
  obtain ⟨va, vc, rfl, hvc, _⟩ := hv
  have hs0 : Below w.heap.size w (w.alloc (.cells #[fv, tv, .int .i64 p.main] 25)) := (Below.refl _ _).alloc (Nat.le_refl _) _
  have hP : (w.alloc (.cells #[fv, tv, .int .i64 p.main] 25)).heap[w.heap.size]? = some (.cells #[fv, tv, .int .i64 p.main] 25 (0, 0)) := new_heap w _
  obtain ⟨⟨⟨fa, fc, rfl, hfc, _⟩, _⟩, ⟨ta, tc, rfl, htc, _⟩⟩ := h
  have hm : maxLen = 9223372036854775807 := by decide
  rw [hm] at hfl htl hbl
  clear hm
  go_enter Tryd.func5, Tryd.ntmps5
  go_wp2_with fail
  generalize w.alloc (.cells #[.slice fa p.funs.length fc, .slice ta p.texts.length tc, .int .i64 p.main] 25) = W0 at *
  refine (awake_any _).mono ?_
  rintro e w1 ⟨rfl, hb1⟩
  have hbb1 : Below w.heap.size w w1 := hs0.trans (hb1.mono hs0.size)
  have hP1 := (hb1.block _ (heap_lt hP)).trans hP
  obtain ⟨p0, p1, p2⟩ := ins_cells hP1
  have HG := Lib.hid (great_any (.slice fa p.funs.length fc) (.slice ta p.texts.length tc) p w1 (Hp.out.below hbb1) hfl htl)
  clear hs0 hP hb1
  go_wp2_with fail
  refine HG.out.mono ?_
  rintro e w2 ⟨rfl, hb2⟩
  have hbb2 : Below w.heap.size w w2 := hbb1.trans (hb2.mono hbb1.size)
  have hP2 := (hb2.block _ (heap_lt hP1)).trans hP1
  obtain ⟨g, hg⟩ : ∃ g, greatB p = g := ⟨_, rfl⟩
  have Hg := Lib.hid hg
  rw [hg]
  clear hg HG hbb1 hP1 hb2 p0 p1 p2
  cases g
  rotate_left
  · go_wp2_with fail
    go_ret
    exact ⟨rfl, hbb2⟩
  · by_cases hl3 : (3000 : Int) < (l.length : Int)
    · have hl3' : ((3000 : Int) < (l.length : Int)) = True := eq_true hl3
      clear hl3
      go_wp2_with fail
      go_ret
      exact ⟨rfl, hbb2⟩
    · have hl3' : ((3000 : Int) < (l.length : Int)) = False := eq_false hl3
      have Hs : Hid (Small l) := ⟨hby, by omega⟩
      obtain ⟨n1, n2, n3, _⟩ := great_no p Hg.out
      clear n3 hl3 hby
      have hbl' := body_len p Hg.out
      obtain ⟨p0, p1, p2⟩ := ins_cells hP2
      have HE := Lib.hid (encode_any (.slice fa p.funs.length fc) (.slice ta p.texts.length tc) p w2 (Hp.out.below hbb2) (by omega) (by omega) (fun s _ => quoted_any s) hbl')
      have Hbl := Lib.hid hbl'
      clear hbl'
      go_wp2_with fail
      refine HE.out.mono ?_
      rintro e w3 ⟨vE, rfl, hrow, hb3⟩
      have hbb3 : Below w.heap.size w w3 := hbb2.trans (hb3.mono hbb2.size)
      have hP3 := (hb3.block _ (heap_lt hP2)).trans hP2
      clear HE hbb2 hP2 p0 p1 p2
      obtain ⟨p0, p1, p2⟩ := ins_cells hP3
      have HV := Lib.hid (rvalid_any (.slice fa p.funs.length fc) (.slice ta p.texts.length tc) p w3 (Hp.out.below hbb3) (by omega) (by omega))
      have Hrow := Lib.hid hrow
      have hrow0 := hrow
      obtain ⟨ea, ec, rfl, hec, _⟩ := hrow0
      clear hrow
      go_wp2_with fail
      refine HV.out.mono ?_
      rintro e w4 ⟨rfl, hb4⟩
      have hbV : Below w.heap.size w w4 := hbb3.trans (hb4.mono hbb3.size)
      have hP4 := (hb4.block _ (heap_lt hP3)).trans hP3
      have Hrow4 := Lib.hid (Hrow.out.below hb4)
      clear HV hbb3 hb3 hb4 hP3 Hrow p0 p1 p2
      obtain ⟨q, hq⟩ : ∃ q, validB p = q := ⟨_, rfl⟩
      cases q
      · rw [enc_no p hq] at Hrow4 hec ⊢
        rw [hq]
        have Hq := Lib.hid hq
        simp only
        clear hq
        rename World => V
        have HDe := Lib.hid (decode_any _ l V Hs.out (Hv.out.below hbV))
        go_wp2_with fail
        refine HDe.out.mono ?_
        rintro e w5 ⟨fv1, tv1, p1, err1, rfl, hb5, hp1, ht1⟩
        obtain ⟨fa1, fc1, ta1, tc1, rfl, rfl⟩ := isProg_slices hp1
        have hb5' := hbV.trans (hb5.mono hbV.size)
        have hga5 := grown_alloc w5 (.cells #[.slice fa1 p1.funs.length fc1, .slice ta1 p1.texts.length tc1, .int .i64 p1.main] 25)
        have gA5 := new_heap w5 (.cells #[.slice fa1 p1.funs.length fc1, .slice ta1 p1.texts.length tc1, .int .i64 p1.main] 25)
        have hgb5 := grown_under hga5 (Nat.le_refl _) (by nofun)
        have HP5 := Lib.hid (hp1.below hgb5)
        have hb6 := hb5'.trans (hgb5.mono hb5'.size)
        have Ht1 := Lib.hid ht1
        clear hb5 hp1 hb5' hga5 hgb5 HDe hbV ht1
        go_upto_region 12 with fail
        generalize hA5 : w5.heap.size = A5 at *
        generalize w5.alloc (.cells #[.slice fa1 p1.funs.length fc1, .slice ta1 p1.texts.length tc1, .int .i64 p1.main] 25) = V6 at *
        have HRe := Lib.hid (rdecode_any _ l V6 Hs.out (Hv.out.below hb6))
        go_wp2_with fail
        refine HRe.out.mono ?_
        rintro e w7 ⟨fv2, tv2, p2, err2, rfl, hb7, hp2, ht2⟩
        obtain ⟨fa2, fc2, ta2, tc2, rfl, rfl⟩ := isProg_slices hp2
        have hb7' := hb6.trans (hb7.mono hb6.size)
        have HP7 := Lib.hid (HP5.out.below hb7)
        have gA7 := (hb7.block _ (heap_lt gA5)).trans gA5
        have hga8 := grown_alloc w7 (.cells #[.slice fa2 p2.funs.length fc2, .slice ta2 p2.texts.length tc2, .int .i64 p2.main] 25)
        have gB8 := new_heap w7 (.cells #[.slice fa2 p2.funs.length fc2, .slice ta2 p2.texts.length tc2, .int .i64 p2.main] 25)
        have gA8 := (hga8.block _ (heap_lt gA7) (by nofun)).trans gA7
        have hgb8 := grown_under hga8 (Nat.le_refl _) (by nofun)
        have HP8 := Lib.hid (HP7.out.below hgb8)
        have HQ8 := Lib.hid (hp2.below hgb8)
        have hb8 := hb7'.trans (hgb8.mono hb7'.size)
        have ht := Ht1.out.trans ht2.symm
        have hst : strip p1 = strip p2 := (Prod.mk.inj ht).1
        have her : err1 = err2 := (Prod.mk.inj ht).2
        obtain ⟨z1, z2, z3⟩ := strip_sizes p1 1000000 (by rw [(show strip p1 = (decT l).1 from congrArg Prod.fst Ht1.out)]; exact decT_sizes l Hs.out)
        subst her
        go_upto_region 13 with fail
        generalize hA7 : w7.heap.size = A7 at *
        generalize w7.alloc (.cells #[.slice fa2 p2.funs.length fc2, .slice ta2 p2.texts.length tc2, .int .i64 p2.main] 25) = V8 at *
        have HS := Lib.hid (sameP_any _ _ _ _ p1 p2 V8 HP8.out HQ8.out hst z1 z2 z3)
        obtain ⟨m0, m1, m2⟩ := ins_cells gA8
        obtain ⟨o0, o1, o2⟩ := ins_cells gB8
        clear gA5 hb6 HRe hb7 hp2 hb7' HP7 gA7 hga8 gB8 gA8 hgb8 ht hst z1 z2 z3 ht2
        go_wp2_with fail
        refine HS.out.mono ?_
        rintro e w9 ⟨rfl, hb9⟩
        have hb9' := hb8.trans (hb9.mono hb8.size)
        go_wp2_with fail
        go_ret
        exact ⟨rfl, hb9'⟩
      · rw [enc_yes p hq] at Hrow4 hec ⊢
        rw [hq]
        have HRE := Lib.hid (rencode_any (.slice fa p.funs.length fc) (.slice ta p.texts.length tc) p w4 (Hp.out.below hbV) hq Hbl.out)
        have Hq := Lib.hid hq
        have hbig : (encL p).length ≤ 1000002 := by have := Hbl.out; unfold encL; simp; omega
        simp only
        clear hq
        obtain ⟨p0, p1, p2⟩ := ins_cells hP4
        go_wp2_with fail
        refine HRE.out.mono ?_
        rintro e V0 ⟨vR, rfl, hrR, hbR⟩
        have hrE : IsRow V0 _ _ _ := Hrow4.out.below hbR
        have hbV := hbV.trans (hbR.mono hbV.size)
        obtain ⟨ra, rc, rfl, hrc, hrx⟩ := hrR
        obtain ⟨ea', ec', hee, hec', hex⟩ := hrE
        obtain ⟨rfl, rfl⟩ : ea = ea' ∧ ec = ec' := by have := Value.slice.inj hee; exact ⟨this.1, this.2.2⟩
        have HBE := Lib.hid (Tryd.bytes_Equal_all ea ra (encL p).length ec (encL p).length rc (encL p) (encL p) V0 rfl rfl (fun h0 => by
          obtain ⟨b, o, hb, _, hc⟩ := hex h0
          exact ⟨b, o, hb, fun i hi => (hc i (by rw [u8s_length]; exact hi)).trans (congrArg some (u8s_at _ i hi))⟩) (fun h0 => by
          obtain ⟨b, o, hb, _, hc⟩ := hrx h0
          exact ⟨b, o, hb, fun i hi => (hc i (by rw [u8s_length]; exact hi)).trans (congrArg some (u8s_at _ i hi))⟩))
        clear hee hex hrx HRE p0 p1 p2
        go_wp2_with fail
        refine HBE.out.mono ?_
        rintro e w' ⟨rfl, rfl⟩
        simp only [beq_self_eq_true]
        rename World => V
        have HDe := Lib.hid (decode_any _ l V Hs.out (Hv.out.below hbV))
        go_wp2_with fail
        refine HDe.out.mono ?_
        rintro e w5 ⟨fv1, tv1, p1, err1, rfl, hb5, hp1, ht1⟩
        obtain ⟨fa1, fc1, ta1, tc1, rfl, rfl⟩ := isProg_slices hp1
        have hb5' := hbV.trans (hb5.mono hbV.size)
        have hga5 := grown_alloc w5 (.cells #[.slice fa1 p1.funs.length fc1, .slice ta1 p1.texts.length tc1, .int .i64 p1.main] 25)
        have gA5 := new_heap w5 (.cells #[.slice fa1 p1.funs.length fc1, .slice ta1 p1.texts.length tc1, .int .i64 p1.main] 25)
        have hgb5 := grown_under hga5 (Nat.le_refl _) (by nofun)
        have HP5 := Lib.hid (hp1.below hgb5)
        have hb6 := hb5'.trans (hgb5.mono hb5'.size)
        have Ht1 := Lib.hid ht1
        clear hb5 hp1 hb5' hga5 hgb5 HDe hbV ht1
        go_upto_region 12 with fail
        generalize hA5 : w5.heap.size = A5 at *
        generalize w5.alloc (.cells #[.slice fa1 p1.funs.length fc1, .slice ta1 p1.texts.length tc1, .int .i64 p1.main] 25) = V6 at *
        have HRe := Lib.hid (rdecode_any _ l V6 Hs.out (Hv.out.below hb6))
        go_wp2_with fail
        refine HRe.out.mono ?_
        rintro e w7 ⟨fv2, tv2, p2, err2, rfl, hb7, hp2, ht2⟩
        obtain ⟨fa2, fc2, ta2, tc2, rfl, rfl⟩ := isProg_slices hp2
        have hb7' := hb6.trans (hb7.mono hb6.size)
        have HP7 := Lib.hid (HP5.out.below hb7)
        have gA7 := (hb7.block _ (heap_lt gA5)).trans gA5
        have hga8 := grown_alloc w7 (.cells #[.slice fa2 p2.funs.length fc2, .slice ta2 p2.texts.length tc2, .int .i64 p2.main] 25)
        have gB8 := new_heap w7 (.cells #[.slice fa2 p2.funs.length fc2, .slice ta2 p2.texts.length tc2, .int .i64 p2.main] 25)
        have gA8 := (hga8.block _ (heap_lt gA7) (by nofun)).trans gA7
        have hgb8 := grown_under hga8 (Nat.le_refl _) (by nofun)
        have HP8 := Lib.hid (HP7.out.below hgb8)
        have HQ8 := Lib.hid (hp2.below hgb8)
        have hb8 := hb7'.trans (hgb8.mono hb7'.size)
        have ht := Ht1.out.trans ht2.symm
        have hst : strip p1 = strip p2 := (Prod.mk.inj ht).1
        have her : err1 = err2 := (Prod.mk.inj ht).2
        obtain ⟨z1, z2, z3⟩ := strip_sizes p1 1000000 (by rw [(show strip p1 = (decT l).1 from congrArg Prod.fst Ht1.out)]; exact decT_sizes l Hs.out)
        subst her
        go_upto_region 13 with fail
        generalize hA7 : w7.heap.size = A7 at *
        generalize w7.alloc (.cells #[.slice fa2 p2.funs.length fc2, .slice ta2 p2.texts.length tc2, .int .i64 p2.main] 25) = V8 at *
        have HS := Lib.hid (sameP_any _ _ _ _ p1 p2 V8 HP8.out HQ8.out hst z1 z2 z3)
        obtain ⟨m0, m1, m2⟩ := ins_cells gA8
        obtain ⟨o0, o1, o2⟩ := ins_cells gB8
        clear gA5 hb6 HRe hb7 hp2 hb7' HP7 gA7 hga8 gB8 gA8 hgb8 ht hst z1 z2 z3 ht2
        go_wp2_with fail
        refine HS.out.mono ?_
        rintro e w9 ⟨rfl, hb9⟩
        have hb9' := hb8.trans (hb9.mono hb8.size)
        go_wp2_with fail
        go_ret
        exact ⟨rfl, hb9'⟩
end Go.Proofs.YtbcbjefonkbjnaaDoor
