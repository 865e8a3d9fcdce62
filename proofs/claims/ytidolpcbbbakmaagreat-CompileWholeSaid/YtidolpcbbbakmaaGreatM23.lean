/- compile.function: the function of byte code of a valid function. strings: the texts of an expression. Grow and Concat of texts: nil, and a row of the call. -/
import Derived.Test.YtidolpcbbbakmaaGreatM22
import Derived.Lib.AppendZeros
namespace Go.Proofs.YtidolpcbbbakmaaGreat
open Go Go.RowKit
open Go.Maps

/-- What function answers: the function, whose code is that of the body. -/
def FnOk2 (ts : List ByteArray) (f : FlatD) (w : World) (e : Ending) (w' : World) : Prop :=
  ∃ (code : List Ins) (d : Int) (cv : Value), e = .returned (.tuple #[.agg #[.int .i64 f.caps, .int .i64 (locX 1 f.body), .int .i64 d, cv], .int .i64 0]) ∧ IsCode w' cv code ∧ Whole code (textT ts) f.body ∧ DepOk code d 0 ∧ Below w.heap.size w w' ∧ ∀ g, cv.ownBlock = some g → w.heap.size ≤ g
theorem whole_of {M : List Ins} {T : ByteArray → Int} {x : ExpD} (hw : wideX x) (h : CodeX M T 1 x 0) (hl : M.length = clenX x) : Whole (M ++ [⟨9, 0, 0⟩]) T x := by
  refine ⟨code_stays x hw _ _ h fun i _ hi => List.getElem?_append_left (by omega), by simp [hl], ?_⟩
  rw [← hl, List.getElem?_append_right (Nat.le_refl _), Nat.sub_self]; rfl
set_option maxHeartbeats 4000000 in
set_option maxRecDepth 100000 in
theorem cfunF_any (B : Nat) (fl : List FlatD) (hl : fl.length ≤ 4096) (hcaps : ∀ f ∈ fl, 0 ≤ f.caps ∧ f.caps ≤ 1000) (f : FlatD) (tv : Value) (ts : List ByteArray) (w : World) (hBw : B ≤ w.heap.size) (hx : IsExp B w f.body) (hf : funB (cloV fl) f = true) (hs : sizeX f.body ≤ 600) (hh : heightX f.body ≤ 211) (ht : IsTexts w tv ts) (htl : ts.length ≤ 1000000) (hts : ∀ s ∈ ts, s.size ≤ maxLen) :
    Calls Tryz.prog 24 #[flatDV f, tv] w (FnOk2 ts f w) := by
  have hmm := @run_makeMap Tryz.prog
  have hfx : flatX f.caps (cloV fl) 1 f.body = true := by have := hf; unfold funB at this; rw [Bool.and_eq_true] at this; exact this.2
  have HFX := Lib.hid hfx
  have HWX := Lib.hid (wide_of_flat _ _ hfx)
  have hcl := clen_le f.body
  have hlg := loc_ge f.body 1
  have hll := loc_le f.body 1
  have hlocx : 1 ≤ locX 1 f.body ∧ locX 1 f.body ≤ 300 := ⟨hlg, by omega⟩
  have hcl2 : clenX f.body ≤ 1800 := by omega
  have HLO := Lib.hid (fun (V : World) (hBV : B ≤ V.heap.size) (hxV : IsExp B V f.body) => cLocals_all B fl hl hcaps f V hBV hxV hf hs hh)
  have HEX := Lib.hid (fun (mb : Nat) (hmb : B ≤ mb) => exp_all f.caps (cloV fl) (textT ts) (mb + 1) mb (mb + 1 + 1) B f.body)
  have HT := Lib.hid ht
  have HTS := Lib.hid hts
  have HX := Lib.hid hx
  obtain ⟨ta, tc, rfl, htc, _⟩ := ht
  obtain ⟨caps, ⟨op, n, s, lv, l⟩⟩ := f
  obtain ⟨la, lc, hlv, _⟩ := hx.parts.1
  subst hlv
  rw [show flatDV ⟨caps, .mk op n s (.slice la l.length lc) l⟩ = .agg #[.int .i64 caps, .int .i64 op, .int .i64 n, .string s, .slice la l.length lc] from rfl] at *
  have hb : Below w.heap.size w ((w.alloc (.cells #[.int .i64 caps, .int .i64 op, .int .i64 n, .string s, .slice la l.length lc] 31)).alloc (.cells #[.int .i64 0, .int .i64 0, .int .i64 0, .slice none 0 0] 43)) := ((Below.refl _ _).alloc (Nat.le_refl _) _).alloc (by simp) _
  have gP : ((w.alloc (.cells #[.int .i64 caps, .int .i64 op, .int .i64 n, .string s, .slice la l.length lc] 31)).alloc (.cells #[.int .i64 0, .int .i64 0, .int .i64 0, .slice none 0 0] 43)).heap[w.heap.size]? = some (.cells #[.int .i64 caps, .int .i64 op, .int .i64 n, .string s, .slice la l.length lc] 31 (0, 0)) := (Below.heap_alloc _ _ _ (by simp)).trans (new_heap w _)
  have gR : ((w.alloc (.cells #[.int .i64 caps, .int .i64 op, .int .i64 n, .string s, .slice la l.length lc] 31)).alloc (.cells #[.int .i64 0, .int .i64 0, .int .i64 0, .slice none 0 0] 43)).heap[w.heap.size + 1]? = some (.cells #[.int .i64 0, .int .i64 0, .int .i64 0, .slice none 0 0] 43 (0, 0)) := (congrArg _ (by simp)).trans (new_heap (w.alloc _) _)
  change 1 ≤ locX 1 (.mk op n s (.slice la l.length lc) l) ∧ locX 1 (.mk op n s (.slice la l.length lc) l) ≤ 300 at hlocx
  change clenX (.mk op n s (.slice la l.length lc) l) ≤ 1800 at hcl2
  have HSZ : Hid (sizeX (.mk op n s (.slice la l.length lc) l) ≤ 600 ∧ heightX (.mk op n s (.slice la l.length lc) l) ≤ 211) := ⟨hs, hh⟩
  obtain ⟨lx, hlx⟩ : ∃ lx, locX 1 (.mk op n s (.slice la l.length lc) l) = lx := ⟨_, rfl⟩
  have HLX := Lib.hid hlx
  rw [hlx] at hlocx
  clear hlx hx hf hs hh hts hfx hlg hll hcl hcaps hl
  go_enter Tryz.func24, Tryz.ntmps24
  go_upto_region 1 with fail
  generalize ((w.alloc (.cells #[.int .i64 caps, .int .i64 op, .int .i64 n, .string s, .slice la l.length lc] 31)).alloc (.cells #[.int .i64 0, .int .i64 0, .int .i64 0, .slice none 0 0] 43)) = W at *
  obtain ⟨p0, p1, p2, p3, p4⟩ := five_cells gP
  have HL := Lib.hid (HLO.out W (by have := hb.size; omega) (HX.out.under (hb.mono hBw)))
  rw [show (⟨caps, .mk op n s (.slice la l.length lc) l⟩ : FlatD).body = .mk op n s (.slice la l.length lc) l from rfl, HLX.out] at HL
  go_wp2_with fail
  refine HL.out.mono ?_
  rintro e w2 ⟨rfl, hb2⟩
  have gP2 := (hb2.block _ (heap_lt gP)).trans gP
  have gR2 := (hb2.block _ (heap_lt gR)).trans gR
  have hbb := hb.trans (hb2.mono hb.size)
  clear gP gR hb hb2 p0 p1 p2 p3 p4 HL
  go_wp2_with fail
  generalize hw3 : (w2.alloc (.map #[] 0)) = w3
  generalize hw4 : (w3.alloc (.cells #[.slice none 0 0, .map (some w2.heap.size)] 102)) = w4
  have hg1 : w2.grownBy w3 none := hw3 ▸ grown_alloc w2 _
  have hg2 : w3.grownBy w4 none := hw4 ▸ grown_alloc w3 _
  have hz3 : w3.heap.size = w2.heap.size + 1 := by subst hw3; simp
  have hz4 : w4.heap.size = w2.heap.size + 1 + 1 := by subst hw4; simp [hz3]
  have gW4 : w4.heap[w2.heap.size + 1]? = some (.cells #[.slice none 0 0, .map (some w2.heap.size)] 102 (0, 0)) := by subst hw4; rw [← hz3]; exact new_heap w3 _
  have hM3 : MapT w3 w2.heap.size ts 0 := hw3 ▸ MapT.start ts
  have HM4 := Lib.hid (hM3.stays (hg2.block _ (by omega) (by nofun)))
  clear hw3 hw4 hM3
  have hl0 := hbb.size
  have hl1 := heap_lt gP2
  have hl2 := heap_lt gR2
  have hgN := grown_both hg1 hg2
  have gP4 := (hgN.block _ hl1 (by nofun)).trans gP2
  have gR4 := (hgN.block _ hl2 (by nofun)).trans gR2
  have HB4 := Lib.hid (hbb.trans (grown_under (B := w.heap.size) hgN hl0 (by nofun)))
  have hBz : w2.heap.size + 1 + 1 ≤ w4.heap.size := by omega
  have HGP4 := Lib.hid gP4
  have HGR4 := Lib.hid gR4
  have HGW4 := Lib.hid gW4
  clear hg1 hg2 gW4 hgN gP2 gR2 hbb gP4 gR4 HLO
  generalize w2.heap.size = wm at *
  clear hz3 hz4
  go_loopw [27] (fun i wr => ∃ k : Nat, k ≤ ts.length ∧ i = .int .i64 k ∧ Hid (MapT wr wm ts k) ∧ Hid (w4.grownBy wr (some wm))) (fun i _ => ts.length - (intOf i).toNat)
  case atStart => exact ⟨0, Nat.zero_le _, rfl, HM4, ⟨rfl, rfl, rfl, Nat.le_refl _, fun _ _ _ => rfl⟩⟩
  case round =>
    obtain ⟨k, hk, rfl, HM, HG⟩ := hrel
    have hBr : Below w.heap.size w wr := HB4.out.trans (grown_under (B := w.heap.size) HG.out HB4.out.size (fun j hj => by cases hj; omega))
    have gWr := (HG.out.block _ (heap_lt HGW4.out) (by simp)).trans HGW4.out
    have hzr := HG.out.size
    by_cases hkl : k < ts.length
    · obtain ⟨d0, d1⟩ := w_cells gWr
      have ht2 : IsTexts wr (.slice ta ts.length tc) ts := IsRow.below HT.out hBr
      obtain ⟨tb, toff, tc', hta, _, _, t0⟩ := texts_at ht2 k hkl
      obtain rfl := (Value.slice.inj hta).1
      have hsz := HTS.out _ (getD_mem default ts k hkl)
      obtain ⟨c, hlook⟩ := HM.out.look (ts.getD k default) hsz
      have HSAME := Lib.hid (HM.out.same hkl)
      have HPUT := Lib.hid (fun hm => HM.out.put hkl (by omega) hm hsz)
      obtain ⟨bb, hbb⟩ : ∃ bb, (findT (ts.take k) (ts.getD k default)).isSome = bb := ⟨_, rfl⟩
      rw [hbb] at hlook HSAME HPUT
      generalize ts.getD k default = x at *
      clear hta ht2 hbb hsz
      cases bb
      · obtain ⟨V', hput, hM2, hg2⟩ := HPUT.out rfl
        have HM2 := Lib.hid hM2
        have HG2 := Lib.hid (both HG.out hg2)
        clear hM2 hg2
        go_wp2_with fail
        go_roundw
        case rel => exact ⟨k + 1, by omega, by go_num, HM2, HG2⟩
        case measure => simp [intOf]; omega
      · have HM2 := Lib.hid (HSAME.out rfl)
        go_wp2_with fail
        go_roundw
        case rel => exact ⟨k + 1, by omega, by go_num, HM2, HG⟩
        case measure => simp [intOf]; omega
    · obtain rfl : k = ts.length := by omega
      have hT := HM.out.done
      have gPr := (HG.out.block _ (heap_lt HGP4.out) (by simp; omega)).trans HGP4.out
      have gRr := (HG.out.block _ (heap_lt HGR4.out) (by simp; omega)).trans HGR4.out
      have hWg : Wg wr (wm + 1) wm (wm + 1 + 1) B (.slice none 0 0) [] (textT ts) := ⟨⟨gWr, World.ownsRow_nil _ _ _ _, Nat.lt_succ_self _⟩, hT, by omega, Nat.lt_succ_self _, by omega⟩
      have HWg := Lib.hid hWg
      have HXX := Lib.hid (HEX.out wm (by omega) 1 _ [] wr hWg (HX.out.under (hBr.mono hBw)) HFX.out (by omega) (by have h1 := HSZ.out.2; show 1 + (heightX (.mk op n s (.slice la l.length lc) l) : Int) ≤ 100000; omega) (by show 0 + clenX (.mk op n s (.slice la l.length lc) l) ≤ 100000; omega))
      rw [expV_mk] at HXX
      have HBr := Lib.hid hBr
      obtain ⟨p0, p1, p2, p3, p4⟩ := five_cells gPr
      clear hWg hT hBr gWr HEX
      go_wp2_with fail
      refine HXX.out.mono ?_
      rintro e w5 ⟨rfl, cv5, L5, hW5, hE5, hl5, _, hc5⟩
      have gP5 := (hE5.kept _ (heap_lt gPr) (by omega) (by nofun)).trans gPr
      have gR5 := (hE5.kept _ (heap_lt gRr) (by omega) (by nofun)).trans gRr
      have hs5 := hE5.size
      have hb5 := HBr.out.trans (hE5.below (B := w.heap.size) (by omega) (by omega) (by nofun))
      have hcc5 := owns_lt hW5.own
      have HM := Lib.hid (emit2_any (wm + 1) wm (wm + 1 + 1) cv5 L5 9 0 0 w5 hW5 (by omega) (by rw [hl5]; show 0 + _ ≤ _; omega))
      have hl5' : L5.length = clenX (.mk op n s (.slice la l.length lc) l) := by rw [hl5]; show 0 + _ = _; omega
      have HWH := Lib.hid (whole_of HWX.out hc5 hl5')
      clear p0 p1 p2 p3 p4 gPr gRr hE5 hW5 HXX hc5 hl5
      go_wp2_with fail
      refine HM.out.mono ?_
      rintro e w6 ⟨rfl, cv6, hW6, hE6⟩
      have gP6 := (hE6.kept _ (heap_lt gP5) (by omega) (fun e => by have := (hcc5 _ e).1; omega)).trans gP5
      have gR6 := (hE6.kept _ (heap_lt gR5) (by omega) (fun e => by have := (hcc5 _ e).1; omega)).trans gR5
      have hs6 := hE6.size
      have hb6 := hb5.trans (hE6.below (B := w.heap.size) (by omega) (by omega) (fun k e => by have := (hcc5 _ e).1; omega))
      obtain ⟨code, hcode⟩ : ∃ code, L5 ++ [⟨9, 0, 0⟩] = code := ⟨_, rfl⟩
      have hcl6 : code.length ≤ 2000 := by rw [← hcode, List.length_append, hl5']; simp; omega
      rw [hcode] at hW6 HWH
      have hI6 : IsCode w6 cv6 code := isRow_owns hW6.own
      have hd6 := depth_any cv6 code w6 hI6 (by omega)
      have gW6 := hW6.blk
      have HI6 := Lib.hid hI6
      have HO6 := Lib.hid hW6.own
      obtain ⟨ca, cc, rfl, _⟩ := hI6
      have HD := Lib.hid hd6
      obtain ⟨s0, s1⟩ := w_cells gW6
      clear hd6 hE6 hW6 HM gP5 gR5 hb5 hcc5 hcode
      go_wp2_with fail
      refine HD.out.mono ?_
      rintro e w7 ⟨r, er, rfl, hdep, hb7⟩
      obtain ⟨he0, hr0, hr1⟩ := code_depth HFX.out HWH.out hdep
      subst he0
      have hr2 : r ≤ 700 := by
        have := HSZ.out.1
        have h2 : r ≤ (sizeX (.mk op n s (.slice la l.length lc) l) : Int) + 1 := hr1
        omega
      have gP7 := (hb7.block _ (heap_lt gP6)).trans gP6
      have gR7 := (hb7.block _ (heap_lt gR6)).trans gR6
      have gW7 := (hb7.block _ (heap_lt gW6)).trans gW6
      have hbe := hb6.trans (hb7.mono hb6.size)
      have HO7 := Lib.hid (owns_grown HO6.out (grown_below hb7) (by nofun))
      have HDEP := Lib.hid hdep
      clear gP6 gR6 gW6 s0 s1 hb6 hb7 HD hdep hr1
      obtain ⟨p0, p1, p2, p3, p4⟩ := five_cells gP7
      obtain ⟨s0, s1⟩ := w_cells gW7
      have hfz : w7.frozen? ⟨w.heap.size + 1, 0, none⟩ = false := Lib.frozen_of_heap gR7 0
      obtain ⟨q0, q1, q2, q3⟩ := fun_cells gR7
      obtain ⟨cn, hcn⟩ : ∃ cn, code.length = cn := ⟨_, rfl⟩
      rw [hcn] at hcl6
      have HCN := Lib.hid hcn
      go_upto_region 17 with fail
      obtain ⟨gr, hgr⟩ := set4 gR7 (.int .i64 caps) (.int .i64 lx) (.int .i64 r) (.slice ca cn cc)
      have hbf := hbe.trans (grown_under (B := w.heap.size) hgr (by have := hbe.size; omega) (fun k hk => by cases hk; omega))
      have hfz1 : w7.frozen? ⟨w.heap.size + 1, 1, none⟩ = false := Lib.frozen_of_heap gR7 1
      have hfz2 : w7.frozen? ⟨w.heap.size + 1, 2, none⟩ = false := Lib.frozen_of_heap gR7 2
      have hfz3 : w7.frozen? ⟨w.heap.size + 1, 3, none⟩ = false := Lib.frozen_of_heap gR7 3
      have HG := Lib.hid gr
      have HBF := Lib.hid hbf
      have HIF : Hid (IsCode (((((w7.setCell ⟨w.heap.size + 1, 0, none⟩ (.int .i64 caps)).setCell ⟨w.heap.size + 1, 1, none⟩ (.int .i64 lx)).setCell ⟨w.heap.size + 1, 2, none⟩ (.int .i64 r)).setCell ⟨w.heap.size + 1, 3, none⟩ (.slice ca cn cc)).drew) (.slice ca cn cc) code) := IsRow.below (by have h := isRow_owns (owns_grown HO7.out hgr (fun k hk e => by cases hk; have := (owns_lt HO7.out _ e).1; omega)); rw [hcn] at h; rw [hcn]; exact h) (Below.refl _ _).drew
      clear hgr hbe gr hbf
      go_region
      all_goals go_wp2_with fail
      all_goals
        have hg1 := HG.out
        refine bodyPost_ret (v := .tuple #[.agg #[.int .i64 caps, .int .i64 lx, .int .i64 r, .slice ca cn cc], .int .i64 0]) ?_ rfl ⟨code, r, .slice ca cn cc, by rw [← HLX.out], HIF.out, HWH.out, HDEP.out, HBF.out.drew, fun g hg => by have := (owns_lt HO7.out g (by rw [hcn]; exact hg)).1; omega⟩
        rw [results_cell_tmp (p := 4) (u := 5) (ty := 43) rfl]
        simp [asAddr, run_loadVar_row (((((w7.setCell { block := w.heap.size + 1, off := 0 } (Value.int IntKind.i64 caps)).setCell
                      { block := w.heap.size + 1, off := 1 } (Value.int IntKind.i64 lx)).setCell
                  { block := w.heap.size + 1, off := 2 } (Value.int IntKind.i64 r)).setCell
              { block := w.heap.size + 1, off := 3 } (Value.slice ca cn cc)).drew) _ _ _ _ _ _ hg1 Tryz.underlying43 rfl fun_info, Result.andThen]
        try rfl

mutual
/-- The texts of an expression, from left to right. -/
def textsX : ExpD → List ByteArray
  | .mk op _ s _ l => if op = 3 then [s] else textsL l
def textsL : List ExpD → List ByteArray
  | [] => []
  | x :: r => textsX x ++ textsL r
end
theorem textsL_nil : textsL [] = [] := by rw [textsL]
theorem textsL_cons (x : ExpD) (r : List ExpD) : textsL (x :: r) = textsX x ++ textsL r := by rw [textsL]
theorem textsX_mk (op n : Int) (s : ByteArray) (v : Value) (l : List ExpD) : textsX (.mk op n s v l) = if op = 3 then [s] else textsL l := by rw [textsX]
theorem textsL_snoc (x : ExpD) (l : List ExpD) : textsL (l ++ [x]) = textsL l ++ textsX x := by
  induction l with
  | nil => rw [List.nil_append, textsL_cons, textsL_nil]; simp
  | cons y l ih => rw [List.cons_append, textsL_cons, textsL_cons, ih]; simp
theorem textsL_le (l : List ExpD) (h : ∀ y ∈ l, (textsX y).length ≤ sizeX y) : (textsL l).length ≤ sizeL l := by
  induction l with
  | nil => rw [textsL_nil, sizeL_nil]; simp
  | cons x r ih => rw [textsL_cons, sizeL_cons, List.length_append]; have := h x (by simp); have := ih fun y hy => h y (by simp [hy]); omega
theorem textsX_le (x : ExpD) : (textsX x).length ≤ sizeX x := by
  induction x using ExpD.induct with
  | h op n s lv l ih =>
    rw [textsX_mk, sizeX_mk]
    split
    · simp
    · have := textsL_le l ih; omega
/-- A row of texts that the call has made; nil as long as there is none. -/
def OwnS (V : World) (B : Nat) (lv : Value) (acc : List ByteArray) : Prop := V.ownsRow B 9 1 lv acc.length (strCells acc) ∧ (acc = [] → lv = .slice none 0 0)
theorem OwnS.grown {V V' : World} {B : Nat} {lv : Value} {acc : List ByteArray} {r : Option Nat} (h : OwnS V B lv acc) (hg : V.grownBy V' r) (hr : ∀ k, r = some k → lv.ownBlock ≠ some k) : OwnS V' B lv acc := ⟨owns_grown h.1 hg hr, h.2⟩
theorem OwnS.texts {V : World} {B : Nat} {lv : Value} {acc : List ByteArray} (h : OwnS V B lv acc) : IsTexts V lv acc := isRow_owns h.1
theorem OwnS.nil (V : World) (B : Nat) : OwnS V B (.slice none 0 0) [] := ⟨World.ownsRow_nil _ _ _ _, fun _ => rfl⟩
def FreshOr (w : World) (r r' : Option Nat) : Prop := r' = r ∨ ∃ g, r' = some g ∧ w.heap.size ≤ g
theorem both_fresh {a b c : World} {r s : Option Nat} (h : a.grownBy b r) (hs : FreshOr a r s) (k : b.grownBy c s) : a.grownBy c r :=
  ⟨k.os.trans h.os, k.tape.trans h.tape, k.output.trans h.output, Nat.le_trans h.size k.size, fun q hq hr => (k.block q (Nat.lt_of_lt_of_le hq h.size) (fun e => by
    rcases hs with e2 | ⟨g, e2, hg⟩
    · rw [e2] at e; exact hr e
    · rw [e2] at e; cases e; omega)).trans (h.block q hq hr)⟩
theorem FreshOr.trans {a b : World} {r s t : Option Nat} (h : FreshOr a r s) (k : FreshOr b s t) (hs : a.heap.size ≤ b.heap.size) : FreshOr a r t := by
  rcases k with e | ⟨g, e, hg⟩
  · rw [e]; exact h
  · exact .inr ⟨g, e, Nat.le_trans hs hg⟩
def StrOk (B1 : Nat) (acc new : List ByteArray) (lv : Value) (w : World) (e : Ending) (w' : World) : Prop :=
  ∃ lv', e = .returned lv' ∧ OwnS w' B1 lv' (acc ++ new) ∧ w.grownBy w' lv.ownBlock ∧ FreshOr w lv.ownBlock lv'.ownBlock
theorem strCells_snoc (l : List ByteArray) (s : ByteArray) : strCells (l ++ [s]) = strCells l ++ [.string s] := by simp [strCells]
set_option maxHeartbeats 4000000 in
set_option maxRecDepth 100000 in
theorem strings_any (B B1 : Nat) (hB1 : B ≤ B1) (x : ExpD) : ∀ (lv : Value) (acc : List ByteArray) (w : World), B1 ≤ w.heap.size → IsExp B w x → OwnS w B1 lv acc → acc.length + sizeX x ≤ 100000 →
    Calls Tryz.prog 46 #[lv, expV x] w (StrOk B1 acc (textsX x) lv w) := by
  induction x using ExpD.induct with
  | h op n s xv l ih =>
    intro lv acc w hBw hx hO hsz
    rw [expV_mk]
    have HIH := Lib.hid ih
    obtain ⟨hr, hm, hy⟩ := hx.parts
    have HY := Lib.hid hy
    have HR := Lib.hid hr
    have hm' : l.length ≤ 9223372036854775807 := by unfold maxLen at hm; omega
    rw [sizeX_mk] at hsz
    obtain ⟨a, c, rfl, hlc, _⟩ := hr
    obtain ⟨oa, oc, rfl⟩ := own_shape hO.1
    have hown0 := owns_lt hO.1
    have hg1 := grown_alloc w (.cells #[.int .i64 op, .int .i64 n, .string s, .slice a l.length c] 29)
    have gP := new_heap w (.cells #[.int .i64 op, .int .i64 n, .string s, .slice a l.length c] 29)
    obtain ⟨p0, p1, p2, p3⟩ := exp_box gP
    have HO1 := Lib.hid (hO.grown hg1 (by nofun))
    have HG1 := Lib.hid (free_of hg1 (Value.slice oa acc.length oc).ownBlock)
    have HGP := Lib.hid gP
    have hsz1 := hg1.size
    clear ih hx hy hm gP hO hg1
    by_cases h3 : op = 3
    · subst h3
      obtain ⟨is0, his, isz0, isz1, isz2⟩ := info_parts info_str
      generalize hW0 : w.alloc (.cells #[.int .i64 3, .int .i64 n, .string s, .slice a l.length c] 29) = W at *
      have hst : textsX (.mk 3 n s (.slice a l.length c) l) = [s] := by rw [textsX_mk, if_pos rfl]
      rw [hst]
      clear hst
      go_enter Tryz.func46, Tryz.ntmps46
      go_wp2_with (at_builtin; refine wpList_append_lies _ rfl _ _ 34 rfl B1 9 is0 (.string ByteArray.empty) 1 16 Tryz.underlying34 his isz0 isz1 isz2 rfl (by decide) _ acc.length (strCells acc) rfl (HO1.out.1.alloc _) ⟨W.heap.size, 0, none⟩ 1 1 [.string s] rfl rfl ?c1 ?c2 (by decide) ?c3 ?c4 ?c5 _ rfl ?_)
      case c1 => exact World.news_of_block (cs := #[.string s]) (new_heap W _)
      case c2 => intro u hu; simp at hu; subst hu; rfl
      case c3 => unfold maxLen; omega
      case c4 => omega
      case c5 => simp; omega
      intro g cap w4 hown4 hgrow4 hat4 hlt4
      have hg3 := grown_alloc W (.cells #[.string s] 9)
      have HG4 := Lib.hid (both (both HG1.out (free_of hg3 _)) hgrow4)
      have HO4 : Hid (OwnS w4 B1 (.slice (some ⟨g, 0, none⟩) (acc.length + 1) cap) (acc ++ [s])) := ⟨by rw [strCells_snoc, List.length_append, List.length_singleton]; exact hown4, fun e => by simp at e⟩
      have HF4 : Hid (FreshOr w (Value.slice oa acc.length oc).ownBlock (Value.slice (some ⟨g, 0, none⟩) (acc.length + 1) cap).ownBlock) := by
        rcases hat4 with e | e
        · exact .inl e.symm
        · exact .inr ⟨g, rfl, by omega⟩
      clear hg3 hown4 hgrow4 hat4
      go_wp2_with fail
      go_ret
      exact ⟨_, rfl, HO4.out, HG4.out, HF4.out⟩
    · have hst : textsX (.mk op n s (.slice a l.length c) l) = textsL l := by rw [textsX_mk, if_neg h3]
      rw [hst]
      clear hst
      have h3' : (op == 3) = false := beq_eq_false_iff_ne.2 h3
      have HF1 : Hid (FreshOr w (Value.slice oa acc.length oc).ownBlock (Value.slice oa acc.length oc).ownBlock) := .inl rfl
      go_enter Tryz.func46, Tryz.ntmps46
      go_wp2_with fail
      generalize w.alloc (.cells #[.int .i64 op, .int .i64 n, .string s, .slice a l.length c] 29) = W at *
      go_loopw [0, 18] (fun lv i wr => ∃ (k : Nat), k ≤ l.length ∧ i = .int .i64 k ∧ Hid (OwnS wr B1 lv (acc ++ textsL (l.take k))) ∧ Hid (w.grownBy wr (Value.slice oa acc.length oc).ownBlock) ∧ Hid (FreshOr w (Value.slice oa acc.length oc).ownBlock lv.ownBlock)) (fun _ i _ => l.length - (intOf i).toNat)
      case atStart => exact ⟨0, Nat.zero_le _, rfl, by rw [List.take_zero, textsL_nil, List.append_nil]; exact HO1, HG1, HF1⟩
      case round =>
        obtain ⟨k, hk, rfl, HO, HG, HF⟩ := hrel
        by_cases hkl : k < l.length
        · have hbB : Below B w wr := grown_under HG.out (by omega) (fun j hj => by have := (hown0 j hj).1; omega)
          obtain ⟨b, off, rfl, hbB2, c0, c1, c2, c3⟩ := parts_at HR.out hbB k hkl
          have hmem := getD_mem default l k hkl
          have hsy := sizeL_mem hmem
          have HT := Lib.hid (show textsL (l.take (k + 1)) = textsL (l.take k) ++ textsX (l.getD k default) from by rw [take_one default l k hkl, textsL_snoc])
          have hyk := (HY.out _ hmem).under hbB
          have hih := HIH.out _ hmem
          have hlen : (acc ++ textsL (l.take k)).length + sizeX (l.getD k default) ≤ 100000 := by
            have h1 := textsL_le (l.take k) fun y _ => textsX_le y
            have h2 := sizeL_take l (k + 1)
            rw [take_one default l k hkl, sizeL_snoc] at h2
            rw [List.length_append]; omega
          clear hmem
          generalize l.getD k default = x at *
          obtain ⟨xo, xn, xs, xv, xl⟩ := x
          obtain ⟨xa, xc, rfl, _⟩ := hyk.parts.1
          simp only [ExpD.op, ExpD.n, ExpD.s, ExpD.lv] at c0 c1 c2 c3
          have hg3 := grown_alloc wr (.cells #[.int .i64 xo, .int .i64 xn, .string xs, .slice xa xl.length xc] 29)
          have gX := new_heap wr (.cells #[.int .i64 xo, .int .i64 xn, .string xs, .slice xa xl.length xc] 29)
          obtain ⟨e0, e1, e2, e3⟩ := exp_box gX
          have hszr := HG.out.size
          have HM := Lib.hid (hih u0 _ (wr.alloc (.cells #[.int .i64 xo, .int .i64 xn, .string xs, .slice xa xl.length xc] 29)) (by have := hg3.size; omega) (hyk.grown hg3 (by omega) (by nofun)) (HO.out.grown hg3 (by nofun)) hlen)
          have HG2 := Lib.hid (both HG.out (free_of hg3 _))
          have hszg := hg3.size
          rw [expV_mk] at HM
          clear hih hyk gX hg3 hlen
          go_wp2_with fail
          refine HM.out.mono ?_
          rintro e w2 ⟨lv2, rfl, hO2, hg4, hf4⟩
          have HO2 : Hid (OwnS w2 B1 lv2 (acc ++ textsL (l.take (k + 1)))) := by rw [HT.out, ← List.append_assoc]; exact hO2
          have HG3 := Lib.hid (both_fresh HG2.out HF.out hg4)
          have HF3 := Lib.hid (HF.out.trans hf4 (by omega))
          clear hO2 hg4 hf4 HM c0 c1 c2 c3 e0 e1 e2 e3
          go_wp2_with fail
          go_roundw
          case rel => exact ⟨k + 1, by omega, by go_num, HO2, HG3, HF3⟩
          case measure => simp [intOf]; omega
        · have HO2 := HO.out
          rw [List.take_of_length_le (by omega)] at HO2
          have HO3 := Lib.hid HO2
          clear HO2
          go_wp2_with fail
          go_ret
          exact ⟨_, rfl, HO3.out, HG.out, HF.out⟩

set_option maxHeartbeats 2000000 in
set_option maxRecDepth 100000 in
theorem grow_n (n : Nat) (hn : 0 < n) (h1 : n ≤ 1000000) (w : World) : Calls Tryz.prog 72 #[.slice none 0 0, .int .i64 n] w fun e w' => ∃ g cap, e = .returned (.slice (some ⟨g, 0, none⟩) 0 cap) ∧ w'.ownsRow w.heap.size 9 1 (.slice (some ⟨g, 0, none⟩) 0 cap) 0 [] ∧ w.grownBy w' none := by
  obtain ⟨is0, his, isz0, isz1, isz2⟩ := info_parts info_str
  have hrz : ∀ ty, (Builtin.append_ #[34, 3] ty #[.slice none 0 0, .int .i64 (n : Int)]).run Tryz.prog w = .ok (.slice (some ⟨w.heap.size, 0, none⟩) n (grownCap w n 0 9)) (w.drew.alloc (.cells (Builtin.zeroCells (Value.string ByteArray.empty).cells n ++ Builtin.zeroCells (Value.string ByteArray.empty).cells (grownCap w n 0 9 - n)) 9)) := fun ty =>
    Lib.run_append_nil_zeros w 34 3 ty 9 is0 (.string ByteArray.empty) .i64 .i64 Tryz.underlying34 Tryz.underlying3 his isz0 n hn (by omega) (by omega) (by rw [isz2]; omega)
  have hge := grownCap_ge w n 0 9
  have hle := grownCap_le_maxLen w n 0 9 (by unfold maxLen; omega)
  have hown : (w.drew.alloc (.cells (Builtin.zeroCells (Value.string ByteArray.empty).cells n ++ Builtin.zeroCells (Value.string ByteArray.empty).cells (grownCap w n 0 9 - n)) 9)).ownsRow w.heap.size 9 1 (.slice (some ⟨w.heap.size, 0, none⟩) 0 (grownCap w n 0 9)) 0 [] := by
    refine ⟨rfl, .inr ⟨_, _, _, rfl, Nat.le_refl _, new_heap w.drew _, Nat.zero_le _, hle, ?_, by simp⟩⟩
    rw [Array.size_append, size_zeroCells, size_zeroCells, show (Value.string ByteArray.empty).cells.size = 1 from rfl]
    omega
  have HG := Lib.hid (both (grown_drew w) (grown_alloc w.drew (.cells (Builtin.zeroCells (Value.string ByteArray.empty).cells n ++ Builtin.zeroCells (Value.string ByteArray.empty).cells (grownCap w n 0 9 - n)) 9)))
  have HO := Lib.hid hown
  have hG63 : grownCap w n 0 9 ≤ 9223372036854775807 := by unfold maxLen at hle; omega
  clear hown hle
  generalize grownCap w n 0 9 = G at *
  generalize w.drew.alloc (.cells (Builtin.zeroCells (Value.string ByteArray.empty).cells n ++ Builtin.zeroCells (Value.string ByteArray.empty).cells (G - n)) 9) = W at *
  have hn0 : ¬ (n : Int) < 0 := by omega
  have hn1 : (0 : Int) < (n : Int) := by omega
  go_enter Tryz.func72, Tryz.ntmps72
  go_wp2_with (at_builtin; refine Lib.wpList_append_run _ rfl _ _ _ _ rfl _ _ rfl rfl _ _ (hrz _) ?_)
  all_goals
    go_ret
    exact ⟨_, _, rfl, HO.out, HG.out⟩
set_option maxHeartbeats 2000000 in
set_option maxRecDepth 100000 in
theorem concat_n (g : Nat) (a : Option Addr) (c : Nat) (all : List ByteArray) (w : World) (h : w.heap[g]? = some (.cells #[.slice none 0 0, .slice a all.length c] 34 (0, 0))) (B : Nat) (hO : OwnS w B (.slice a all.length c) all) (hn : 0 < all.length) (hl : all.length ≤ 1000000) :
    Calls Tryz.prog 47 #[.slice (some ⟨g, 0, none⟩) 2 2] w fun e w' => ∃ v, e = .returned v ∧ w'.ownsRow w.heap.size 9 1 v all.length (strCells all) ∧ w.grownBy w' none := by
  have c0 : w.cell? ⟨g, 0, none⟩ = some (.slice none 0 0) := by simp [World.cell?, h]
  have c1 : w.cell? ⟨g, 1, none⟩ = some (.slice a all.length c) := by simp [World.cell?, h]
  have HH := Lib.hid h
  clear h
  obtain ⟨is0, his, isz0, isz1, isz2⟩ := info_parts info_str
  have HO := Lib.hid hO
  clear hO
  have hwr : IntKind.i64.wrap (0 + (all.length : Int)) = (all.length : Int) := by rw [wrap_ok _ (by omega) (by omega)]; omega
  go_enter Tryz.func47, Tryz.ntmps47
  go_wp2_with fail
  go_loop [3, 11] (fun n i => n = .int .i64 0 ∧ i = .int .i64 0 ∨ n = .int .i64 0 ∧ i = .int .i64 1 ∨ n = .int .i64 all.length ∧ i = .int .i64 2) (fun _ i => 2 - (intOf i).toNat)
  case atStart => exact .inl ⟨rfl, rfl⟩
  case round =>
    rcases hrel with ⟨rfl, rfl⟩ | ⟨rfl, rfl⟩ | ⟨rfl, rfl⟩
    · go_wp2_with fail
      go_round
      case rel => exact .inr (.inl ⟨rfl, rfl⟩)
      case measure => simp [intOf]
    · go_wp2_with fail
      go_round
      case rel => exact .inr (.inr ⟨by go_num, rfl⟩)
      case measure => simp [intOf]
    · have HGR := Lib.hid (grow_n all.length hn hl w)
      go_wp2_with fail
      refine HGR.out.mono ?_
      rintro e w2 ⟨gg, cap, rfl, hown, hg⟩
      have HO2 := Lib.hid (HO.out.grown hg (by nofun))
      have HG2 := Lib.hid hg
      have HOW := Lib.hid hown
      have hh2 := (hg.block g (heap_lt HH.out) (by nofun)).trans HH.out
      have hsz := hg.size
      clear c0 c1
      have c0 : w2.cell? ⟨g, 0, none⟩ = some (.slice none 0 0) := by simp [World.cell?, hh2]
      have c1 : w2.cell? ⟨g, 1, none⟩ = some (.slice a all.length c) := by simp [World.cell?, hh2]
      clear hg hown hh2 HGR
      go_wp2_with fail
      go_loopw [6, 27] (fun v i wr => (i = .int .i64 0 ∧ v = .slice (some ⟨gg, 0, none⟩) 0 cap ∨ i = .int .i64 1 ∧ v = .slice (some ⟨gg, 0, none⟩) 0 cap) ∧ wr = w2 ∨ i = .int .i64 2 ∧ Hid (wr.ownsRow w.heap.size 9 1 v all.length (strCells all)) ∧ Hid (w.grownBy wr none)) (fun _ i _ => 2 - (intOf i).toNat)
      case atStart => exact .inl ⟨.inl ⟨rfl, rfl⟩, rfl⟩
      case round =>
        rcases hrel with ⟨⟨rfl, rfl⟩ | ⟨rfl, rfl⟩, rfl⟩ | ⟨rfl, HOE, HGE⟩
        · go_wp2_with (at_builtin; refine wpList_append_own_none rfl _ _ 34 rfl w.heap.size 9 is0 1 Tryz.underlying34 his _ 0 [] rfl HOW.out rfl ?_)
          go_roundw
          case rel => exact .inl ⟨.inr ⟨rfl, rfl⟩, trivial⟩
          case measure => simp [intOf]
        · obtain ⟨ga, ca, hea, hgB, cur, hcur⟩ := own_some HO2.out.1 hn
          obtain rfl : a = some ⟨ga, 0, none⟩ := by injection hea
          go_wp2_with (at_builtin; refine wpList_append_lies _ rfl _ _ 34 rfl w.heap.size 9 is0 (.string ByteArray.empty) 1 16 Tryz.underlying34 his isz0 isz1 isz2 rfl (by decide) _ 0 [] rfl HOW.out ⟨ga, 0, none⟩ all.length c (strCells all) rfl (by rw [strCells_length, Nat.mul_one]) ?c1 ?c2 hn ?c3 ?c4 ?c5 _ rfl ?_)
          case c1 =>
            intro j u hj
            have := (owns_cell (i := j) HO2.out.1 hj).1
            rcases j with _ | j <;> simpa [Addr.add] using this
          case c2 => intro u hu; unfold strCells at hu; obtain ⟨x, _, rfl⟩ := List.mem_map.1 hu; rfl
          case c3 => unfold maxLen; omega
          case c4 => omega
          case c5 => omega
          intro g4 cap4 w4 hown4 hgrow4 hat4 hlt4
          have hgb := (owns_lt HOW.out gg rfl).1
          have HG4 := Lib.hid (grown_below ((grown_under HG2.out (Nat.le_refl _) (by nofun)).trans (grown_under (B := w.heap.size) hgrow4 hsz (fun k hk => by cases hk; exact hgb))))
          have HO4 := Lib.hid hown4
          clear hown4 hgrow4 hat4
          go_wp2_with fail
          go_roundw
          case rel => exact .inr ⟨rfl, HO4, HG4⟩
          case measure => simp [intOf]
        · go_wp2_with fail
          go_ret
          exact ⟨_, rfl, HOE.out, HGE.out⟩
end Go.Proofs.YtidolpcbbbakmaaGreat
