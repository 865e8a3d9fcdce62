/- with, in general: the texts of bodies, each once, behind those that are there. The example of law 47: compile.Fun as a whole. -/
import Derived.Test.YtidolpcbbbakmaaGreatM37
import Derived.Test.YtidolpcbbbakmaaGreatM13
namespace Go.Proofs.YtidolpcbbbakmaaGreat
open Go Go.RowKit
open Go.Maps

theorem concat_any (g : Nat) (ta : Option Addr) (tc : Nat) (ts : List ByteArray) (a : Option Addr) (c : Nat) (all : List ByteArray) (w : World) (h : w.heap[g]? = some (.cells #[.slice ta ts.length tc, .slice a all.length c] 34 (0, 0))) (B0 B : Nat) (hT : OwnS w B0 (.slice ta ts.length tc) ts) (hO : OwnS w B (.slice a all.length c) all) (htl : ts.length ≤ 1000) (hl : all.length ≤ 100000) :
    Calls Tryz.prog 47 #[.slice (some ⟨g, 0, none⟩) 2 2] w fun e w' => ∃ v, e = .returned v ∧ w'.ownsRow w.heap.size 9 1 v (ts ++ all).length (strCells (ts ++ all)) ∧ w.grownBy w' none := by
  by_cases hn : 0 < ts.length + all.length
  · exact concat_2 g ta tc ts a c all w h B0 B hT hO htl hl hn
  · obtain rfl : ts = [] := List.eq_nil_of_length_eq_zero (by omega)
    obtain rfl : all = [] := List.eq_nil_of_length_eq_zero (by omega)
    have h1 := hT.2 rfl
    have h2 := hO.2 rfl
    rw [h1, h2] at h
    refine (concat_0 g w h).mono ?_
    rintro e w' ⟨rfl, rfl⟩
    exact ⟨_, rfl, World.ownsRow_nil _ _ _ _, ⟨rfl, rfl, rfl, Nat.le_refl _, fun _ _ _ => rfl⟩⟩
theorem clone_own {w : World} {B : Nat} {v : Value} {l : List ByteArray} (h : OwnS w B v l) (hl : l.length ≤ 1000) :
    Calls Tryz.prog 49 #[v] w fun e w' => ∃ v', e = .returned v' ∧ OwnS w' w.heap.size v' l ∧ Below w.heap.size w w' := by
  by_cases hn : l = []
  · obtain rfl := h.2 hn
    subst hn
    refine (Tryz.slices_Clone_string_nil 0 0 w).mono ?_
    rintro e w' ⟨rfl, rfl⟩
    exact ⟨_, rfl, OwnS.nil _ _, Below.refl _ _⟩
  · obtain ⟨g, c, rfl, hgB, cur, hcur⟩ := own_some h.1 (List.length_pos_iff.2 hn)
    refine (Tryz.slices_Clone_string g 0 l.length c l w (Nat.le_refl _) (by omega) (fun j hj => ?_)).mono ?_
    · have hu : (strCells l)[j]? = some (.string (l.getD j ByteArray.empty)) := by simp [strCells, List.getD, List.getElem?_eq_getElem hj]
      have := h.1.cells rfl j _ hu
      rwa [Addr.add_lit] at this
    · rintro e w' ⟨v', rfl, hown, _, hb⟩
      rw [List.take_length] at hown
      exact ⟨v', rfl, ⟨hown, fun e => absurd e hn⟩, hb⟩
theorem foldT_le (l acc : List ByteArray) : (l.foldl addT acc).length ≤ acc.length + l.length := by
  induction l generalizing acc with
  | nil => simp
  | cons x r ih => rw [List.foldl_cons]; have := ih (addT acc x); have := addT_len acc x; simp; omega
theorem foldT_take (l acc : List ByteArray) (k : Nat) (h : k < l.length) : (l.take (k + 1)).foldl addT acc = addT ((l.take k).foldl addT acc) (l.getD k default) := by
  rw [take_one default l k h, List.foldl_append]; rfl
theorem OwnS.less {w : World} {B B' : Nat} {v : Value} {l : List ByteArray} (h : OwnS w B v l) (hB : B' ≤ B) : OwnS w B' v l := by
  obtain ⟨⟨h1, h2⟩, h3⟩ := h
  refine ⟨⟨h1, ?_⟩, h3⟩
  rcases h2 with h2 | ⟨g, cap, cur, hv, hb, hr⟩
  · exact .inl h2
  · exact .inr ⟨g, cap, cur, hv, by omega, hr⟩
/-- What with answers of these texts. -/
def WithAny (ts all : List ByteArray) (w : World) (e : Ending) (w' : World) : Prop :=
  Below w.heap.size w w' ∧ (((ts ++ all).any notQ = true ∧ e = .returned (.tuple #[.slice none 0 0, .int .i64 3])) ∨ ((ts ++ all).any notQ = false ∧ 1000 < (all.foldl addT ts).length ∧ e = .returned (.tuple #[.slice none 0 0, .int .i64 5])) ∨
    ((ts ++ all).any notQ = false ∧ (all.foldl addT ts).length ≤ 1000 ∧ ∃ v, e = .returned (.tuple #[v, .int .i64 0]) ∧ OwnS w' w.heap.size v (all.foldl addT ts)))
set_option maxHeartbeats 4000000 in
set_option maxRecDepth 100000 in
theorem with_more (tv : Value) (ts : List ByteArray) (B : Nat) (bv : Value) (bodies : List ExpD) (w : World) (hR : RowB w.heap.size w bv bodies.length (expCells bodies)) (hY : ∀ y ∈ bodies, IsExp w.heap.size w y) (hs : sizeL bodies ≤ 10000) (hsz : ∀ s ∈ textsL bodies, s.size ≤ maxLen) (hT : OwnS w B tv ts) (htsl : ts.length ≤ 1000) (htsz : ∀ s ∈ ts, s.size ≤ maxLen) :
    Calls Tryz.prog 23 #[tv, bv] w (WithAny ts (textsL bodies) w) := by
  have hmm := @run_makeMap Tryz.prog
  have hll := length_le bodies
  have HR := Lib.hid hR
  have HY := Lib.hid hY
  have HSZ := Lib.hid hsz
  have HT := Lib.hid hT
  have HTSZ := Lib.hid htsz
  obtain ⟨ta, tc, rfl, htn⟩ := own_nil hT
  have HTN := Lib.hid htn
  obtain ⟨ba, bc, rfl, hbc, _⟩ := hR
  obtain ⟨is0, his, isz0, isz1, isz2⟩ := info_parts info_str
  have htl : (textsL bodies).length ≤ 10000 := by have := textsL_le bodies fun y _ => textsX_le y; omega
  have HB0 := Lib.hid (Below.refl w.heap.size w)
  clear hY hsz hT htsz htn
  go_enter Tryz.func23, Tryz.ntmps23
  go_wp2_with fail
  go_loopw [6, 21] (fun lv i wr => ∃ k : Nat, k ≤ bodies.length ∧ i = .int .i64 k ∧ Hid (OwnS wr w.heap.size lv (textsL (bodies.take k))) ∧ Hid (Below w.heap.size w wr)) (fun _ i _ => bodies.length - (intOf i).toNat)
  case atStart => exact ⟨0, Nat.zero_le _, rfl, by rw [List.take_zero, textsL_nil]; exact OwnS.nil _ _, HB0⟩
  case round =>
    obtain ⟨k, hk, rfl, HO, HB⟩ := hrel
    by_cases hkl : k < bodies.length
    · obtain ⟨b, off, rfl, hbB2, c0, c1, c2, c3⟩ := parts_at HR.out HB.out k hkl
      have hmem := getD_mem default bodies k hkl
      have HT := Lib.hid (show textsL (bodies.take (k + 1)) = textsL (bodies.take k) ++ textsX (bodies.getD k default) from by rw [take_one default bodies k hkl, textsL_snoc])
      have hyk := (HY.out _ hmem).under HB.out
      have hlen : (textsL (bodies.take k)).length + sizeX (bodies.getD k default) ≤ 100000 := by
        have h1 := textsL_le (bodies.take k) fun y _ => textsX_le y
        have h2 := sizeL_take bodies (k + 1)
        rw [take_one default bodies k hkl, sizeL_snoc] at h2
        omega
      clear hmem
      generalize bodies.getD k default = x at *
      obtain ⟨xo, xn, xs, xv, xl⟩ := x
      obtain ⟨xa, xc, rfl, _⟩ := hyk.parts.1
      simp only [ExpD.op, ExpD.n, ExpD.s, ExpD.lv] at c0 c1 c2 c3
      have hg3 := grown_alloc wr (.cells #[.int .i64 xo, .int .i64 xn, .string xs, .slice xa xl.length xc] 29)
      have gX := new_heap wr (.cells #[.int .i64 xo, .int .i64 xn, .string xs, .slice xa xl.length xc] 29)
      obtain ⟨e0, e1, e2, e3⟩ := exp_box gX
      have hszr := HB.out.size
      have hszg := hg3.size
      have hlv := owns_lt HO.out.1
      have HM := Lib.hid (strings_any w.heap.size w.heap.size (Nat.le_refl _) _ u6 _ (wr.alloc (.cells #[.int .i64 xo, .int .i64 xn, .string xs, .slice xa xl.length xc] 29)) (by omega) (hyk.grown hg3 hszr (by nofun)) (HO.out.grown hg3 (by nofun)) hlen)
      have HB2 := Lib.hid (HB.out.trans (grown_under hg3 hszr (by nofun)))
      rw [expV_mk] at HM
      clear hyk gX hg3 hlen
      go_wp2_with fail
      refine HM.out.mono ?_
      rintro e w2 ⟨lv2, rfl, hO2, hg4, hf4⟩
      have HO2 : Hid (OwnS w2 w.heap.size lv2 (textsL (bodies.take (k + 1)))) := by rw [HT.out]; exact hO2
      have HB3 := Lib.hid (HB2.out.trans (grown_under (B := w.heap.size) hg4 (by omega) (fun j hj => (hlv j hj).1)))
      clear hO2 hg4 hf4 HM c0 c1 c2 c3 e0 e1 e2 e3
      go_wp2_with fail
      go_roundw
      case rel => exact ⟨k + 1, by omega, by go_num, HO2, HB3⟩
      case measure => simp [intOf]; omega
    · have hO2 := HO.out
      rw [List.take_of_length_le (by omega)] at hO2
      obtain ⟨la, lc, rfl⟩ := own_shape hO2.1
      obtain ⟨all, hall⟩ : ∃ all, textsL bodies = all := ⟨_, rfl⟩
      rw [hall] at hO2 htl HSZ
      simp only [hall]
      have hlv := owns_lt hO2.1
      have hg3 := grown_alloc wr (.cells #[.slice ta ts.length tc, .slice la all.length lc] 34)
      have gA := new_heap wr (.cells #[.slice ta ts.length tc, .slice la all.length lc] 34)
      have HO3 := Lib.hid (hO2.grown hg3 (by nofun))
      have HT3 := Lib.hid ((HT.out.grown (grown_below HB.out) (by nofun)).grown hg3 (by nofun))
      have HC := Lib.hid (concat_any _ ta tc ts la lc all _ gA B w.heap.size HT3.out HO3.out (by omega) (by omega))
      have HB3 := Lib.hid (HB.out.trans (grown_under hg3 HB.out.size (by nofun)))
      have hsz3 := hg3.size
      clear gA hg3 hO2
      go_wp2_with fail
      refine HC.out.mono ?_
      rintro e w2 ⟨cv, rfl, hcv, hgc⟩
      obtain ⟨ca, cc, rfl⟩ := own_shape hcv
      obtain ⟨two, htwo⟩ : ∃ two, ts ++ all = two := ⟨_, rfl⟩
      have htwol : two.length = ts.length + all.length := by rw [← htwo, List.length_append]
      rw [htwo] at hcv
      have hT2 : IsTexts w2 (.slice ca two.length cc) two := isRow_owns hcv
      have HT2 := Lib.hid hT2
      have HB4 := Lib.hid (HB3.out.trans (grown_under (B := w.heap.size) hgc HB3.out.size (by nofun)))
      have HO4 := Lib.hid (HO3.out.grown hgc (by nofun))
      have HT4 := Lib.hid (HT3.out.grown hgc (by nofun))
      have HBR := Lib.hid (Below.refl w2.heap.size w2)
      have HTW := Lib.hid htwo
      rw [htwo]
      clear hcv hgc HC hT2 HT3 htwo
      have ham : two.length ≤ 9223372036854775807 := by omega
      go_wp2_with fail
      go_loopw [34] (fun i wr => ∃ k : Nat, k ≤ two.length ∧ i = .int .i64 k ∧ Hid ((two.take k).any notQ = false) ∧ Hid (Below w2.heap.size w2 wr)) (fun i _ => two.length - (intOf i).toNat)
      case atStart => exact ⟨0, Nat.zero_le _, rfl, rfl, HBR⟩
      case round =>
        obtain ⟨k, hk, rfl, hno, HB⟩ := hrel
        by_cases hkl : k < two.length
        · obtain ⟨tb, toff, tc', hta, _, _, t0⟩ := texts_at (IsRow.below HT2.out HB.out) k hkl
          obtain rfl := (Value.slice.inj hta).1
          have HQ := Lib.hid (quote_any (two.getD k default) wr)
          have Hn := Lib.hid (any_next default two notQ k hkl hno.out)
          have Hy := Lib.hid (any_hit default two notQ k hkl)
          have hq := quote_notQ (two.getD k default)
          generalize two.getD k default = x at *
          clear hta
          obtain ⟨q1, hq1⟩ : ∃ q1, (quoteT x).1 = q1 := ⟨_, rfl⟩
          obtain ⟨q2, hq2⟩ : ∃ q2, (quoteT x).2 = q2 := ⟨_, rfl⟩
          unfold QuoteOk at HQ
          rw [hq1, hq2] at HQ
          rw [hq2] at hq
          clear hq1 hq2
          rcases hq with ⟨rfl, hq⟩ | ⟨hqe, hq⟩
          · have HN := Lib.hid (Hn.out hq)
            go_wp2_with fail
            refine HQ.out.mono ?_
            rintro e w3 ⟨rfl, hb3⟩
            have HB5 := Lib.hid (HB.out.trans (hb3.mono HB.out.size))
            clear hb3
            go_wp2_with fail
            go_roundw
            case rel => exact ⟨k + 1, by omega, by go_num, HN, HB5⟩
            case measure => simp [intOf]; omega
          · have HN := Lib.hid (Hy.out hq)
            have hqe2 : (q2 == 0) = false := beq_eq_false_iff_ne.2 hqe
            go_wp2_with fail
            refine HQ.out.mono ?_
            rintro e w3 ⟨rfl, hb3⟩
            have HB5 := Lib.hid (HB4.out.trans ((HB.out.trans (hb3.mono HB.out.size)).mono HB4.out.size))
            clear hb3
            go_wp2_with fail
            go_ret2
            exact ⟨HB5.out, .inl ⟨by rw [hall, HTW.out]; exact HN.out, rfl⟩⟩
        · have hno2 := hno.out
          rw [List.take_of_length_le (by omega)] at hno2
          have HNO := Lib.hid hno2
          have HB5 := Lib.hid (HB4.out.trans (HB.out.mono HB4.out.size))
          have HO5 := Lib.hid (HO4.out.grown (grown_below HB.out) (by nofun))
          have HT5 := Lib.hid (HT4.out.grown (grown_below HB.out) (by nofun))
          have HCL := Lib.hid (clone_own HT5.out htsl)
          have hszw := HB5.out.size
          clear hno2
          go_wp2_with fail
          refine HCL.out.mono ?_
          rintro e w4 ⟨dv, rfl, hcl, hbc⟩
          have HO6 := Lib.hid (HO5.out.grown (grown_below hbc) (by nofun))
          have HT6 := Lib.hid (HT5.out.grown (grown_below hbc) (by nofun))
          have HB6 := Lib.hid (HB5.out.trans (hbc.mono hszw))
          have HCV := Lib.hid hcl
          have hsz4 := hbc.size
          have hlvm := owns_lt HO5.out.1
          have hltm := owns_lt HT5.out.1
          clear hcl hbc HCL
          have hgm := grown_alloc w4 (.map #[] 0)
          have HS7 : Hid (SeenT (w4.alloc (.map #[] 0)) w4.heap.size [] 0) := SeenT.start
          have HO7 := Lib.hid (HO6.out.grown hgm (by nofun))
          have HT7 := Lib.hid (HT6.out.grown hgm (by nofun))
          have HCV7 := Lib.hid (HCV.out.grown hgm (by nofun))
          have HB7 := Lib.hid (HB6.out.trans (grown_under (B := w.heap.size) hgm HB6.out.size (by nofun)))
          have hszm : (w4.alloc (.map #[] 0)).heap.size = w4.heap.size + 1 := by simp
          have hdv := fun j hj => (owns_lt HCV.out.1 j hj).2
          clear hgm
          go_wp2_with fail
          generalize w4.alloc (.map #[] 0) = W at *
          generalize w4.heap.size = mb at *
          generalize wr.heap.size = cB at *
          have HBW := Lib.hid (Below.refl mb W)
          go_loopw [51] (fun i wr => ∃ k : Nat, k ≤ ts.length ∧ i = .int .i64 k ∧ Hid (SeenT wr mb (ts.take k) k) ∧ Hid (Below mb W wr)) (fun i _ => ts.length - (intOf i).toNat)
          case atStart => exact ⟨0, Nat.zero_le _, rfl, by rw [List.take_zero]; exact HS7, HBW⟩
          case round =>
            obtain ⟨k, hk, rfl, HS, HB⟩ := hrel
            have hszq := HB.out.size
            by_cases hkl : k < ts.length
            · have HT8 : Hid (OwnS wr B (.slice ta ts.length tc) ts) := ⟨by
                obtain ⟨h1, h2⟩ := HT7.out.1
                refine ⟨h1, ?_⟩
                rcases h2 with h2 | ⟨g, cap, cur, hv, hb, hh, hrest⟩
                · exact .inl h2
                · exact .inr ⟨g, cap, cur, hv, hb, (HB.out.block g (by
                    have := (hltm g (by rw [hv]; rfl)).2
                    omega)).trans hh, hrest⟩, HT7.out.2⟩
              obtain ⟨tb, toff, tc', hta, _, _, t0⟩ := texts_at HT8.out.texts k hkl
              obtain rfl := (Value.slice.inj hta).1
              have hsx := HTSZ.out _ (getD_mem default ts k hkl)
              have HDT := Lib.hid (take_one default ts k hkl)
              have HPUT := Lib.hid (HS.out.put (by omega) (ts.getD k default) hsx)
              generalize ts.getD k default = x at *
              clear hta hsx HT8
              obtain ⟨V', hput, hS2, hg2⟩ := HPUT.out
              rw [← HDT.out] at hS2
              have HS2 := Lib.hid hS2
              have HB8 := Lib.hid (HB.out.trans (grown_under (B := mb) hg2 (by omega) (fun j hj => by cases hj; exact Nat.le_refl _)))
              clear hS2 hg2 HPUT
              go_wp2_with fail
              go_roundw
              case rel => exact ⟨k + 1, by omega, by go_num, HS2, HB8⟩
              case measure => simp [intOf]; omega
            · generalize wr = wq at *
              have hS8 := HS.out
              rw [List.take_of_length_le (by omega)] at hS8
              obtain rfl : k = ts.length := by omega
              have HS8 := Lib.hid hS8
              have HO8 : Hid (OwnS wq w.heap.size (.slice la all.length lc) all) := ⟨by
                obtain ⟨h1, h2⟩ := HO7.out.1
                refine ⟨h1, ?_⟩
                rcases h2 with h2 | ⟨g, cap, cur, hv, hb, hh, hrest⟩
                · exact .inl h2
                · exact .inr ⟨g, cap, cur, hv, hb, (HB.out.block g (by
                    have := (hlvm g (by rw [hv]; rfl)).2
                    omega)).trans hh, hrest⟩, HO7.out.2⟩
              have HV8 : Hid (OwnS wq cB dv ts) := ⟨by
                obtain ⟨h1, h2⟩ := HCV7.out.1
                refine ⟨h1, ?_⟩
                rcases h2 with h2 | ⟨g, cap, cur, hv, hb, hh, hrest⟩
                · exact .inl h2
                · exact .inr ⟨g, cap, cur, hv, hb, (HB.out.block g (by
                    have := hdv g (by rw [hv]; rfl)
                    omega)).trans hh, hrest⟩, HCV7.out.2⟩
              have HBQ := Lib.hid (Below.refl cB wq)
              have HNE : Hid (dv.ownBlock ≠ some mb) := fun e => by have := hdv mb e; omega
              have HB9 := Lib.hid (HB7.out.trans (HB.out.mono (show w.heap.size ≤ mb by omega)))
              clear hS8 HS
              go_wp2_with fail
              go_loopw [13, 60] (fun ov i wr => ∃ k : Nat, k ≤ all.length ∧ i = .int .i64 k ∧ Hid (OwnS wr cB ov ((all.take k).foldl addT ts)) ∧ Hid (ov.ownBlock ≠ some mb) ∧ Hid (SeenT wr mb ((all.take k).foldl addT ts) (ts.length + k)) ∧ Hid (Below cB wq wr)) (fun _ i _ => all.length - (intOf i).toNat)
              case atStart => exact ⟨0, Nat.zero_le _, rfl, by rw [List.take_zero]; exact HV8, HNE, by rw [List.take_zero]; exact HS8, HBQ⟩
              case round =>
                obtain ⟨k, hk, rfl, HOv, HNe, HS, HB⟩ := hrel
                have hszr := HB.out.size
                have hdl := foldT_le (all.take k) ts
                have htk : (all.take k).length ≤ k := by rw [List.length_take]; omega
                have hovl := owns_lt HOv.out.1
                by_cases hkl : k < all.length
                · have HO9 : Hid (OwnS wr w.heap.size (.slice la all.length lc) all) := ⟨by
                    obtain ⟨h1, h2⟩ := HO8.out.1
                    refine ⟨h1, ?_⟩
                    rcases h2 with h2 | ⟨g, cap, cur, hv, hb, hh, hrest⟩
                    · exact .inl h2
                    · exact .inr ⟨g, cap, cur, hv, hb, (HB.out.block g (by
                        have := (hlvm g (by rw [hv]; rfl)).2
                        omega)).trans hh, hrest⟩, HO8.out.2⟩
                  obtain ⟨tb, toff, tc', hta, _, _, t0⟩ := texts_at HO9.out.texts k hkl
                  obtain rfl := (Value.slice.inj hta).1
                  have hsx := HSZ.out _ (getD_mem default all k hkl)
                  have hlook := HS.out.look (all.getD k default) hsx
                  have hdt : (all.take (k + 1)).foldl addT ts = if (findT ((all.take k).foldl addT ts) (all.getD k default)).isSome = true then (all.take k).foldl addT ts else (all.take k).foldl addT ts ++ [all.getD k default] := foldT_take all ts k hkl
                  have HPUT := Lib.hid (HS.out.put (by omega) (all.getD k default) hsx)
                  generalize all.getD k default = x at *
                  generalize (all.take k).foldl addT ts = acc at *
                  obtain ⟨bb, hbb⟩ : ∃ bb, (findT acc x).isSome = bb := ⟨_, rfl⟩
                  rw [hbb] at hlook hdt
                  clear hta hbb hsx HO9
                  cases bb
                  · rw [if_neg (by simp)] at hdt
                    obtain ⟨V', hput, hS2, hg2⟩ := HPUT.out
                    rw [← hdt] at hS2
                    have hOv2 := HOv.out.grown hg2 (fun j hj e => by cases hj; exact HNe.out e)
                    obtain ⟨oa, oc, rfl⟩ := own_shape HOv.out.1
                    have HBP := Lib.hid (HB.out.trans (grown_under (B := cB) hg2 (by omega) (fun j hj => by cases hj; omega)))
                    have HS2 := Lib.hid hS2
                    have HOv2 := Lib.hid hOv2
                    have hszv := hg2.size
                    have HDT := Lib.hid hdt
                    clear hS2 hOv2 hg2 hdt HPUT
                    go_wp2_with (at_builtin; refine wpList_append_lies _ rfl _ _ 34 rfl cB 9 is0 (.string ByteArray.empty) 1 16 Tryz.underlying34 his isz0 isz1 isz2 rfl (by decide) _ acc.length (strCells acc) rfl (HOv2.out.1.alloc _) ⟨V'.heap.size, 0, none⟩ 1 1 [.string x] rfl rfl ?c1 ?c2 (by decide) ?c3 ?c4 ?c5 _ rfl ?_)
                    case c1 => exact World.news_of_block (cs := #[.string x]) (new_heap V' _)
                    case c2 => intro u hu; simp at hu; subst hu; rfl
                    case c3 => unfold maxLen; omega
                    case c4 => omega
                    case c5 => simp; omega
                    intro g8 cap8 w8 hown8 hgrow8 hat8 hlt8
                    have hg7 := grown_alloc V' (.cells #[.string x] 9)
                    have hov7 := owns_lt (HOv2.out.grown hg7 (by nofun)).1
                    have hmbV := HS2.out.lt
                    have HO8 : Hid (OwnS w8 cB (.slice (some ⟨g8, 0, none⟩) (acc.length + 1) cap8) ((all.take (k + 1)).foldl addT ts)) := ⟨by rw [HDT.out, strCells_snoc, List.length_append, List.length_singleton]; exact hown8, fun e => by rw [HDT.out] at e; simp at e⟩
                    have HNe8 : Hid ((Value.slice (some ⟨g8, 0, none⟩) (acc.length + 1) cap8).ownBlock ≠ some mb) := fun e => by
                      obtain rfl : g8 = mb := Option.some.inj e
                      rcases hat8 with h | h
                      · exact HNe.out h
                      · omega
                    have HS8 := Lib.hid (HS2.out.stays ((hgrow8.block mb (by have := HS2.out.lt; simp; omega) (fun e => HNe.out e.symm)).trans (hg7.block mb HS2.out.lt (by nofun))))
                    have HB8 := Lib.hid ((HBP.out.trans (grown_under (B := cB) hg7 (by omega) (by nofun))).trans (grown_under (B := cB) hgrow8 (by have := hg7.size; omega) (fun j hj => (hov7 j hj).1)))
                    clear hg7 hov7 hown8 hgrow8 hat8
                    go_wp2_with fail
                    go_roundw
                    case rel => exact ⟨k + 1, by omega, by go_num, HO8, HNe8, HS8, HB8⟩
                    case measure => simp [intOf]; omega
                  · rw [if_pos rfl] at hdt
                    have HO8 : Hid (OwnS wr cB u13 ((all.take (k + 1)).foldl addT ts)) := by rw [hdt]; exact HOv
                    have HS8 : Hid (SeenT wr mb ((all.take (k + 1)).foldl addT ts) (ts.length + (k + 1))) := by rw [hdt]; exact HS.out.mono
                    clear hdt HPUT
                    go_wp2_with fail
                    go_roundw
                    case rel => exact ⟨k + 1, by omega, by go_num, HO8, HNe, HS8, HB⟩
                    case measure => simp [intOf]; omega
                · have hO8 := HOv.out
                  rw [List.take_of_length_le (by omega)] at hO8
                  obtain ⟨oa, oc, rfl⟩ := own_shape hO8.1
                  have HT8 := Lib.hid (hO8.less (show w.heap.size ≤ cB by omega))
                  have HB8 := Lib.hid (HB9.out.trans (HB.out.mono (show w.heap.size ≤ cB by omega)))
                  have hdl2 := foldT_le all ts
                  clear hO8
                  by_cases h1000 : 1000 < ((all.foldl addT ts).length : Int)
                  · go_wp2_with fail
                    go_ret2
                    refine ⟨HB8.out, ?_⟩
                    exact .inr (.inl ⟨by rw [hall, HTW.out]; exact HNO.out, by rw [hall]; omega, rfl⟩)
                  · go_wp2_with fail
                    go_ret2
                    refine ⟨HB8.out, ?_⟩
                    exact .inr (.inr ⟨by rw [HTW.out]; exact HNO.out, by omega, _, rfl, HT8.out⟩)
end Go.Proofs.YtidolpcbbbakmaaGreat
namespace Go.Proofs.YtidolpcbbbakmaaGreat
open Go Go.RowKit

theorem results_cell_tmp2 {fn : Func} {p u v : Tmp} {ty : TypeId} (h : fn.results = #[.cell p ty, .tmp u, .tmp v]) (tmps : Array Value) (P : Program) (w : World) :
    (results fn tmps).run P w =
      ((asAddr (tmps.getD p undef)).run P w).andThen fun a w₁ => ((loadVar ty a).run P w₁).andThen fun x w₂ => .ok (.tuple #[x, tmps.getD u undef, tmps.getD v undef]) w₂ := by
  simp only [results, h]
  simp [Sem.run_bind, Result.andThen]
/-- What Fun answers at the example. -/
def FunOk (w : World) (e : Ending) (w' : World) : Prop := ∃ ca cc, e = .returned (.tuple #[.agg #[.int .i64 0, .int .i64 1, .int .i64 2, .slice ca 4 cc], .slice none 0 0, .int .i64 0]) ∧ Below w.heap.size w w'
set_option maxHeartbeats 2000000 in
set_option maxRecDepth 100000 in
theorem cFun_any (B0 : Nat) (w : World) (h : NodeAt w B0) : Calls Tryz.prog 11 #[flatV B0, .slice none 0 0] w (FunOk w) := by
  unfold flatV
  have hb : Below w.heap.size w ((w.alloc (.cells #[.int .i64 0, .int .i64 12, .int .i64 1, .string ⟨#[]⟩, .slice (some ⟨B0, 0, none⟩) 2 2] 31)).alloc (.cells #[.int .i64 0, .int .i64 0, .int .i64 0, .slice none 0 0] 43)) := ((Below.refl _ _).alloc (Nat.le_refl _) _).alloc (by simp) _
  have gP : ((w.alloc (.cells #[.int .i64 0, .int .i64 12, .int .i64 1, .string ⟨#[]⟩, .slice (some ⟨B0, 0, none⟩) 2 2] 31)).alloc (.cells #[.int .i64 0, .int .i64 0, .int .i64 0, .slice none 0 0] 43)).heap[w.heap.size]? = some (.cells #[.int .i64 0, .int .i64 12, .int .i64 1, .string ⟨#[]⟩, .slice (some ⟨B0, 0, none⟩) 2 2] 31 (0, 0)) := (Below.heap_alloc _ _ _ (by simp)).trans (new_heap w _)
  have gR : ((w.alloc (.cells #[.int .i64 0, .int .i64 12, .int .i64 1, .string ⟨#[]⟩, .slice (some ⟨B0, 0, none⟩) 2 2] 31)).alloc (.cells #[.int .i64 0, .int .i64 0, .int .i64 0, .slice none 0 0] 43)).heap[w.heap.size + 1]? = some (.cells #[.int .i64 0, .int .i64 0, .int .i64 0, .slice none 0 0] 43 (0, 0)) := (congrArg _ (by simp)).trans (new_heap (w.alloc _) _)
  have hN := h.below hb
  clear h
  go_enter Tryz.func11, Tryz.ntmps11
  go_upto_region 1 with fail
  generalize ((w.alloc (.cells #[.int .i64 0, .int .i64 12, .int .i64 1, .string ⟨#[]⟩, .slice (some ⟨B0, 0, none⟩) 2 2] 31)).alloc (.cells #[.int .i64 0, .int .i64 0, .int .i64 0, .slice none 0 0] 43)) = W at *
  obtain ⟨p0, p1, p2, p3, p4⟩ := flat_cells gP
  go_wp2_with fail
  refine (cLocals_any B0 _ hN).mono ?_
  rintro e w2 ⟨rfl, hb2⟩
  have gP2 := (hb2.block _ (heap_lt gP)).trans gP
  have gR2 := (hb2.block _ (heap_lt gR)).trans gR
  have hN2 := hN.below hb2
  have hbb := hb.trans (hb2.mono hb.size)
  clear gP gR hN hb hb2 p0 p1 p2 p3 p4
  obtain ⟨p0, p1, p2, p3, p4⟩ := flat_cells gP2
  have hg3 := grown_alloc w2 (.cells #[.int .i64 12, .int .i64 1, .string ⟨#[]⟩, .slice (some ⟨B0, 0, none⟩) 2 2] 29)
  have gX := new_heap w2 (.cells #[.int .i64 12, .int .i64 1, .string ⟨#[]⟩, .slice (some ⟨B0, 0, none⟩) 2 2] 29)
  have gP3 := (hg3.block _ (heap_lt gP2) (by nofun)).trans gP2
  have gR3 := (hg3.block _ (heap_lt gR2) (by nofun)).trans gR2
  have hN3 := hN2.below (grown_under hg3 (Nat.le_refl _) (by nofun))
  have hb3 := hbb.trans (grown_under (B := w.heap.size) hg3 hbb.size (by nofun))
  clear hg3
  have HW := Lib.hid (with_any B0 _ _ hN3 gX)
  go_wp2_with fail
  refine HW.out.mono ?_
  rintro e w4 ⟨rfl, hb4⟩
  have gP4 := (hb4.block _ (heap_lt gP3)).trans gP3
  have gR4 := (hb4.block _ (heap_lt gR3)).trans gR3
  have hN4 := hN3.below hb4
  have hbd := hb3.trans (hb4.mono hb3.size)
  clear hb4 hb3 gP3 gR3 hN3 hbb hN2 gX gR2 gP2 HW p0 p1 p2 p3 p4
  obtain ⟨p0, p1, p2, p3, p4⟩ := flat_cells gP4
  have HF := Lib.hid (cfun_any B0 w4 hN4)
  go_wp2_with fail
  refine HF.out.mono ?_
  rintro e w5 ⟨ca, cc, rfl, hb5⟩
  have gR5 := (hb5.block _ (heap_lt gR4)).trans gR4
  have hbe := hbd.trans (hb5.mono hbd.size)
  clear hb5 gP4 gR4 hN4 hbd HF p0 p1 p2 p3 p4
  go_upto_region 10 with fail
  have hg6 := grown_alloc w5 (.cells #[.int .i64 0, .int .i64 1, .int .i64 2, .slice ca 4 cc] 43)
  have gX6 := new_heap w5 (.cells #[.int .i64 0, .int .i64 1, .int .i64 2, .slice ca 4 cc] 43)
  have gR6 := (hg6.block _ (heap_lt gR5) (by nofun)).trans gR5
  have hb6 := hbe.trans (grown_under (B := w.heap.size) hg6 hbe.size (by nofun))
  clear hg6 hbe gR5
  generalize (w5.alloc (.cells #[.int .i64 0, .int .i64 1, .int .i64 2, .slice ca 4 cc] 43)) = w6 at *
  obtain ⟨p0, p1, p2, p3⟩ := fun_cells gX6
  obtain ⟨q0, q1, q2, q3⟩ := fun_cells gR6
  have hfz0 : w6.frozen? ⟨w.heap.size + 1, 0, none⟩ = false := Lib.frozen_of_heap gR6 0
  have hfz1 : w6.frozen? ⟨w.heap.size + 1, 1, none⟩ = false := Lib.frozen_of_heap gR6 1
  have hfz2 : w6.frozen? ⟨w.heap.size + 1, 2, none⟩ = false := Lib.frozen_of_heap gR6 2
  have hfz3 : w6.frozen? ⟨w.heap.size + 1, 3, none⟩ = false := Lib.frozen_of_heap gR6 3
  obtain ⟨gr, hgr⟩ := set4 gR6 (.int .i64 0) (.int .i64 1) (.int .i64 2) (.slice ca 4 cc)
  have hbf := hb6.trans (grown_under (B := w.heap.size) hgr hb6.size (fun k hk => by cases hk; omega))
  have HG := Lib.hid gr
  clear hgr hb6 gr
  go_wp2_with fail
  have hg1 := HG.out
  refine bodyPost_ret (v := .tuple #[.agg #[.int .i64 0, .int .i64 1, .int .i64 2, .slice ca 4 cc], .slice none 0 0, .int .i64 0]) ?_ rfl ⟨ca, cc, rfl, hbf⟩
  rw [results_cell_tmp2 (p := 4) (u := 5) (v := 6) (ty := 43) rfl]
  simp [asAddr, run_loadVar_row _ _ _ _ _ _ _ hg1 Tryz.underlying43 rfl fun_info, Result.andThen]
end Go.Proofs.YtidolpcbbbakmaaGreat
