/- Observing a value: the walk. -/
import Derived.Test.YtidolpcbbbakmaaGreatM40
namespace Go.Proofs.YtidolpcbbbakmaaGreat
open Go Go.RowKit
theorem drop_one {α : Type} (d : α) (l : List α) (k : Nat) (h : k < l.length) : l.drop k = l.getD k d :: l.drop (k + 1) := by
  rw [List.drop_eq_getElem_cons h]; simp [List.getD, List.getElem?_eq_getElem h]
theorem grown_by' {a b c d : World} {r : Option Nat} (h : a.grownBy b none) (k : b.grownBy c none) (g : c.grownBy d r) (hr : ∀ q, r = some q → a.heap.size ≤ q) : a.grownBy d none :=
  have e := both h k
  ⟨g.os.trans e.os, g.tape.trans e.tape, g.output.trans e.output, Nat.le_trans e.size g.size, fun q hq _ => (g.block q (Nat.lt_of_lt_of_le hq e.size) (fun e => by have := hr q e.symm; omega)).trans (e.block q hq (by nofun))⟩
/-- What holds at the head of the loop. -/
structure OL (d : Nat) (w : World) (x : ExpD) (left : Int) (k : Nat) (acc : List ExpD) (lk : Int) (ov : Value) (wr : World) : Prop where
  boxx : wr.heap[w.heap.size]? = some (.cells #[.int .i64 x.op, .int .i64 x.n, .string x.s, x.lv] 77 (0, 0))
  boxr : wr.heap[w.heap.size + 1]? = some (.cells (rowV 0 0 ⟨#[]⟩ (.slice none 0 0)) 48 (0, 0))
  boxo : wr.heap[w.heap.size + 1 + 1]? = some (.cells (rowV x.op x.n x.s ov) 48 (0, 0))
  own : wr.ownsRow (w.heap.size + 1 + 1 + 1) 48 5 ov acc.length (obCells acc)
  kids : ∀ y ∈ acc, IsO (w.heap.size + 1 + 1 + 1) ov.ownBlock wr y
  grown : w.grownBy wr none
  eq : obsL (obsP d) ((x.l.drop k).map stripX) lk (acc.map stripX) = obsL (obsP d) (x.l.map stripX) (left - 1) []
  len : acc.length = k
  sum : (k : Int) + lk ≤ left - 1
  pos : 0 ≤ lk
  le : k ≤ x.l.length
set_option maxHeartbeats 4000000 in
set_option maxRecDepth 100000 in
theorem observe_any : ∀ (d : Nat), d ≤ 400 → ∀ (M : Nat → Prop) (x : ExpD) (w : World) (left : Int), IsV M w x → 0 ≤ left → left ≤ 20000 →
    Calls Tryz.prog 30 #[expV x, .int .i64 left, .int .i64 (d : Int)] w (ObOk (obsP d (stripX x) left) w) := by
  intro d
  induction d with
  | zero =>
    intro _ M x w left hx _ _
    cases x with
    | mk xo xn xs xv xl =>
      obtain ⟨a, c, rfl, _⟩ := hx.parts.1
      exact observe_zero _ _ _ _ ⟨_, _, _, rfl⟩ (.inr (Int.le_refl _))
  | succ d IH =>
    intro hd M x w left hx h0 h1
    obtain ⟨xo, xn, xs, xv, xl⟩ := x
    obtain ⟨xa, xc, rfl, _⟩ := hx.parts.1
    rw [obsP]
    by_cases hl : left ≤ 0
    · rw [if_pos hl]
      exact observe_zero _ _ _ _ ⟨_, _, _, rfl⟩ (.inl hl)
    rw [if_neg hl]
    by_cases h7 : xo = 7
    · rw [if_pos (by rw [strip_op]; exact h7)]
      exact observe_fun _ _ _ _ ⟨_, _, _, rfl⟩ (by omega) h1 (by omega) h7
    rw [if_neg (by rw [strip_op]; exact h7)]
    have IH' := Lib.hid (IH (by omega))
    have HX := Lib.hid hx
    have hm := hx.parts.2.1
    obtain ⟨Q, hQ⟩ : ∃ Q, obsE (stripX (.mk xo xn xs (.slice xa xl.length xc) xl)) (obsL (obsP d) (stripX (.mk xo xn xs (.slice xa xl.length xc) xl)).l (left - 1) []) = Q := ⟨_, rfl⟩
    rw [hQ]
    have HQ := Lib.hid hQ
    rw [expV_mk]
    have g0 := grown_alloc w (.cells #[.int .i64 xo, .int .i64 xn, .string xs, .slice xa xl.length xc] 77)
    have n0 := heap_alloc_new w (.cells #[.int .i64 xo, .int .i64 xn, .string xs, .slice xa xl.length xc] 77)
    have e0 : (w.alloc (.cells #[.int .i64 xo, .int .i64 xn, .string xs, .slice xa xl.length xc] 77)).heap.size = w.heap.size + 1 := by simp
    have w1 : IntKind.i64.wrap (left - 1) = left - 1 := wrap_ok _ (by omega) (by omega)
    have w2 : IntKind.i64.wrap (((d + 1 : Nat) : Int) - 1) = (d : Int) := by rw [wrap_ok _ (by omega) (by omega)]; omega
    have hd1 : ¬ ((d + 1 : Nat) : Int) ≤ 0 := by omega
    have h7b : (xo == 7) = false := beq_eq_false_iff_ne.2 h7
    obtain ⟨ii0, hii, hiz0, hiz1, hiz2⟩ := parts_info info_val
    generalize ((d + 1 : Nat) : Int) = D1 at *
    clear hx hQ IH
    go_enter Tryz.func30, Tryz.ntmps30
    go_upto_region 1 with fail
    change Code.wp _ _ _ _ ((w.alloc (.cells #[.int .i64 xo, .int .i64 xn, .string xs, .slice xa xl.length xc] 77)).alloc (.cells (rowV 0 0 ⟨#[]⟩ (.slice none 0 0)) 48))
    generalize w.alloc (.cells #[.int .i64 xo, .int .i64 xn, .string xs, .slice xa xl.length xc] 77) = W at *
    have g1 := grown_alloc W (.cells (rowV 0 0 ⟨#[]⟩ (.slice none 0 0)) 48)
    have n1 := heap_alloc_at e0 (.cells (rowV 0 0 ⟨#[]⟩ (.slice none 0 0)) 48)
    have e1 : (W.alloc (.cells (rowV 0 0 ⟨#[]⟩ (.slice none 0 0)) 48)).heap.size = w.heap.size + 1 + 1 := by simp [e0]
    generalize W.alloc (.cells (rowV 0 0 ⟨#[]⟩ (.slice none 0 0)) 48) = A at *
    have n2 := (g1.block _ (heap_lt n0) (by nofun)).trans n0
    obtain ⟨c0, c1, c2, c3⟩ := cells4 n2
    have gg := both g0 g1
    go_upto_region 7 with fail
    have n3 := heap_alloc_at e1 (.cells (rowV xo xn xs (.slice none 0 0)) 48)
    have g3 := grown_alloc A (.cells (rowV xo xn xs (.slice none 0 0)) 48)
    change Code.wp _ _ _ _ (A.alloc (.cells (rowV xo xn xs (.slice none 0 0)) 48))
    generalize A.alloc (.cells (rowV xo xn xs (.slice none 0 0)) 48) = B at *
    have HOL : Hid (OL d w (.mk xo xn xs (.slice xa xl.length xc) xl) left 0 [] (left - 1) (.slice none 0 0) B) := Lib.hid
      ⟨(g3.block _ (heap_lt n2) (by nofun)).trans n2, (g3.block _ (heap_lt n1) (by nofun)).trans n1, n3, World.ownsRow_nil _ _ _ _, (fun _ h => by cases h), both gg g3, by rw [List.drop_zero]; rfl, rfl, by omega, by omega, Nat.zero_le _⟩
    clear c0 c1 c2 c3 n0 n1 n2 n3 g0 g1 g3 gg e0 e1 w1
    go_wp2_with fail
    go_loopw [1, 9] (fun v1 v9 wr => ∃ (k : Nat) (acc : List ExpD) (lk : Int) (ov : Value), v9 = .int .i64 k ∧ v1 = .int .i64 lk ∧ Hid (OL d w (.mk xo xn xs (.slice xa xl.length xc) xl) left k acc lk ov wr)) (fun _ v9 _ => xl.length - (intOf v9).toNat)
    case atStart => exact ⟨0, [], left - 1, .slice none 0 0, rfl, rfl, HOL⟩
    case round =>
      obtain ⟨k, acc, lk, ov, rfl, rfl, HL⟩ := hrel
      obtain ⟨c0, c1, c2, c3⟩ := cells4 HL.out.boxx
      simp only [ExpD.op, ExpD.n, ExpD.s, ExpD.lv] at c0 c1 c2 c3
      have hk := HL.out.le
      simp only [ExpD.l] at hk
      have HKA := Lib.hid HL.out.len
      have hsum := HL.out.sum
      have hpos := HL.out.pos
      have heq := HL.out.eq
      simp only [ExpD.l] at heq
      by_cases hkl : k < xl.length
      · have hvr := (HX.out.kept (keepV_grown HL.out.grown)).parts
        obtain ⟨b, off, c', hv, _, _, _, l0, l1, l2, l3⟩ := rowV_at hvr.1 k hkl
        obtain ⟨rfl, _, rfl⟩ := Value.slice.inj hv
        have hym := hvr.2.2 _ (getD_mem default xl k hkl)
        rw [drop_one default xl k hkl, List.map_cons, obsL] at heq
        clear hv hvr
        generalize xl.getD k default = y at *
        have hb2 := obsP_b d (stripX y) lk hpos
        have HC := Lib.hid (IH'.out M y wr lk hym hpos (by omega))
        obtain ⟨y0, y1, y2, y3, y4⟩ := y
        obtain ⟨za, zc, rfl, _⟩ := hym.parts.1
        simp only [ExpD.op, ExpD.n, ExpD.s, ExpD.lv] at l0 l1 l2 l3
        rw [expV_mk] at HC
        generalize obsP d (stripX (.mk y0 y1 y2 (.slice za y4.length zc) y4)) lk = r2 at *
        clear hym
        have hkn : (k : Int) < ((xl.length : Nat) : Int) := by omega
        have HEQ := Lib.hid heq
        clear heq
        by_cases hn : r2.2 < 0
        · have hq := HEQ.out
          rw [if_pos hn] at hq
          have hQ := HQ.out
          rw [strip_l] at hQ
          simp only [ExpD.l] at hQ
          rw [← hq] at hQ
          have hQ2 : (default, -1) = Q := hQ
          subst hQ2
          have hz := HL.out.grown
          go_wp2_with (first
            | (go_at_call 30; refine HC.out.mono ?_; rintro e w4 ⟨⟨yo, yn, ys, yv, yl⟩, rfl, hs2, hi2, hg2⟩; obtain ⟨ya, yc, rfl, _⟩ := hi2.parts.1; simp only [rowV, ExpD.op, ExpD.n, ExpD.s, ExpD.lv]; have n5 := ((grown_alloc w4 (.cells #[.int .i64 yo, .int .i64 yn, .string ys, .slice none 0 0, .slice ya yl.length yc] 48)).block _ (heap_lt ((hg2.block _ (heap_lt HL.out.boxr) (by nofun)).trans HL.out.boxr)) (by nofun)).trans ((hg2.block _ (heap_lt HL.out.boxr) (by nofun)).trans HL.out.boxr))
            | (refine wpList_store_row rfl 48 _ _ rfl (w.heap.size + 1) (rowV 0 0 ⟨#[]⟩ (.slice none 0 0)) rfl rfl 48 _ n5 infoV rfl (all_one _ rfl) ?_))
          have q2 := setRow_heap _ _ _ (rowV 0 0 ⟨#[]⟩ (.slice none 0 0)) _ _ n5
          exact bodyPost_ret (results_row_tmp (p := 6) (u := 7) rfl _ _ (w.heap.size + 1) 48 _ (0, 0) _ rfl q2 Tryz.underlying48 infoV) rfl (obOk_zero w (grown_setRow (both hz (both hg2 (grown_alloc w4 (.cells #[.int .i64 yo, .int .i64 yn, .string ys, .slice none 0 0, .slice ya yl.length yc] 48)))) (by omega) _))
        · have hq := HEQ.out
          rw [if_neg hn] at hq
          have HQ2 := Lib.hid hq
          clear hq HEQ
          go_upto_region 11 with (go_at_call 30; refine HC.out.mono ?_; rintro e w4 ⟨⟨yo, yn, ys, yv, yl⟩, rfl, hs2, hi2, hg2⟩; obtain ⟨ya, yc, rfl, _⟩ := hi2.parts.1; simp only [rowV, ExpD.op, ExpD.n, ExpD.s, ExpD.lv])
          have g5 := grown_alloc w4 (.cells #[.int .i64 yo, .int .i64 yn, .string ys, .slice none 0 0, .slice ya yl.length yc] 48)
          have n5 := heap_alloc_new w4 (.cells #[.int .i64 yo, .int .i64 yn, .string ys, .slice none 0 0, .slice ya yl.length yc] 48)
          have g45 := both hg2 g5
          have hz4 := hg2.size
          have hz5 : (w4.alloc (.cells #[.int .i64 yo, .int .i64 yn, .string ys, .slice none 0 0, .slice ya yl.length yc] 48)).heap.size = w4.heap.size + 1 := by simp
          obtain ⟨oa, oc, rfl⟩ := own_shape HL.out.own
          have ho5 := owns_grown HL.out.own g45 (by nofun)
          have hol := owns_lt HL.out.own
          have b0 := (g45.block _ (heap_lt HL.out.boxx) (by nofun)).trans HL.out.boxx
          have b1 := (g45.block _ (heap_lt HL.out.boxr) (by nofun)).trans HL.out.boxr
          have b2 := (g45.block _ (heap_lt HL.out.boxo) (by nofun)).trans HL.out.boxo
          have hszr := heap_lt HL.out.boxo
          have hi4 := hi2
          have hK4 : ∀ q, q < wr.heap.size → (w4.alloc (.cells #[.int .i64 yo, .int .i64 yn, .string ys, .slice none 0 0, .slice ya yl.length yc] 48)).heap[q]? = wr.heap[q]? := fun q hq => g45.block q hq (by nofun)
          have hK5 : ∀ q, q < w4.heap.size → (w4.alloc (.cells #[.int .i64 yo, .int .i64 yn, .string ys, .slice none 0 0, .slice ya yl.length yc] 48)).heap[q]? = w4.heap[q]? := fun q hq => g5.block q hq (by nofun)
          have hgw := both HL.out.grown g45
          generalize w4.alloc (.cells #[.int .i64 yo, .int .i64 yn, .string ys, .slice none 0 0, .slice ya yl.length yc] 48) = D at *
          obtain ⟨q0, q1, q2, q3, q4⟩ := val_cells n5
          have p4 := (cell_of_row _ _ 4 _ _ _ b2).trans (show _ = some (Value.slice oa acc.length oc) from rfl)
          have p5 := Lib.frozen_of_heap b2 4
          have HO5 := Lib.hid ho5
          have HB := Lib.hid (And.intro b0 (And.intro b1 b2))
          have HI4 := Lib.hid hi4
          have HG := Lib.hid hgw
          have HS2 := Lib.hid hs2
          have HK := Lib.hid (And.intro hK4 hK5)
          have HOL2 := Lib.hid hol
          have HZ5 := Lib.hid hz5
          clear hz5
          clear b0 b1 b2 ho5 hi2 hi4 hgw hs2 hK4 hK5 g5 g45 hg2 hol
          go_upto_region 13 with fail
          go_wp2_with (at_builtin; refine wpList_append_lies _ rfl _ _ 46 rfl (w.heap.size + 1 + 1 + 1) 48 ii0 (.agg #[.int .i64 0, .int .i64 0, .string ⟨#[]⟩, .slice none 0 0, .slice none 0 0]) 5 80 Tryz.underlying46 hii hiz0 hiz1 hiz2 rfl (by decide) (.slice oa acc.length oc) acc.length (obCells acc) rfl (HO5.out.alloc _) ⟨D.heap.size, 0, none⟩ 1 1 [.int .i64 yo, .int .i64 yn, .string ys, .slice none 0 0, .slice ya yl.length yc] rfl rfl ?f1 ?f2 (by decide) ?f3 ?f4 ?f5 _ rfl ?_)
          try case f1 => exact World.news_of_block (cs := #[.int .i64 yo, .int .i64 yn, .string ys, .slice none 0 0, .slice ya yl.length yc]) (new_heap D _)
          case f2 => exact ⟨rfl, rfl, rfl, rfl, rfl⟩
          try case f3 => have := HKA.out; unfold maxLen; omega
          try case f4 => have := HKA.out; omega
          case f5 => have := HZ5.out; simp; omega
          intro g cap w6 hown6 hgrow6 hat6 hlt6
          have hz5 := HZ5.out
          have hat : (Value.slice oa acc.length oc).ownBlock = some g ∨ D.heap.size ≤ g := by
            rcases hat6 with e | e
            · exact .inl e
            · exact .inr (by first | omega | (rw [e]; simp))
          have g7 := grown_alloc D (.cells #[.int .i64 yo, .int .i64 yn, .string ys, .slice none 0 0, .slice ya yl.length yc] 48)
          have hB : ∀ q, q < D.heap.size → (Value.slice oa acc.length oc).ownBlock ≠ some q → w6.heap[q]? = D.heap[q]? := fun q hq hne => (hgrow6.block q (by have := g7.size; omega) (fun e => hne e.symm)).trans (g7.block q hq (by nofun))
          have hlow : ∀ q, q < w.heap.size + 1 + 1 + 1 → (Value.slice oa acc.length oc).ownBlock ≠ some q := fun q hq e => by have := (HOL2.out q e).1; omega
          have hzD : D.heap.size ≤ w6.heap.size := by have := g7.size; have := hgrow6.size; omega
          have r0 := (hB _ (by omega) (hlow _ (by omega))).trans HB.out.1
          have r1 := (hB _ (by omega) (hlow _ (by omega))).trans HB.out.2.1
          have r2' := (hB _ (by omega) (hlow _ (by omega))).trans HB.out.2.2
          have gs := grown_set w6 (w.heap.size + 1 + 1) 4 (.slice (some ⟨g, 0, none⟩) (acc.length + 1) cap)
          have t8 : (w6.setCell ⟨w.heap.size + 1 + 1, 4, none⟩ (.slice (some ⟨g, 0, none⟩) (acc.length + 1) cap)).heap[w.heap.size + 1 + 1]? = some (.cells (rowV xo xn xs (.slice (some ⟨g, 0, none⟩) (acc.length + 1) cap)) 48 (0, 0)) := heap_set_same (i := 4) r2' (.slice (some ⟨g, 0, none⟩) (acc.length + 1) cap)
          have hown7 := owns_grown hown6 gs (fun q hq e => by have := (owns_lt hown6 _ e).1; cases hq; omega)
          have hg7 : w.grownBy (w6.setCell ⟨w.heap.size + 1 + 1, 4, none⟩ (.slice (some ⟨g, 0, none⟩) (acc.length + 1) cap)) none := by
            have h6 : w.grownBy w6 none := grown_by' HG.out g7 hgrow6 (fun q hq => by have := (HOL2.out q hq).1; omega)
            exact grown_new h6 gs (by omega)
          have hC : ∀ q, q < D.heap.size → w.heap.size + 1 + 1 + 1 ≤ q → (Value.slice oa acc.length oc).ownBlock ≠ some q → (w6.setCell ⟨w.heap.size + 1 + 1, 4, none⟩ (.slice (some ⟨g, 0, none⟩) (acc.length + 1) cap)).heap[q]? = D.heap[q]? := fun q hq hl hne => (gs.block q (by omega) (fun e => by have := Option.some.inj e; omega)).trans (hB q hq hne)
          have hz7 : D.heap.size ≤ (w6.setCell ⟨w.heap.size + 1 + 1, 4, none⟩ (.slice (some ⟨g, 0, none⟩) (acc.length + 1) cap)).heap.size := Nat.le_trans hzD gs.size
          have hnew : IsO (w.heap.size + 1 + 1 + 1) (some g) (w6.setCell ⟨w.heap.size + 1 + 1, 4, none⟩ (.slice (some ⟨g, 0, none⟩) (acc.length + 1) cap)) (.mk yo yn ys (.slice ya yl.length yc) yl) :=
            HI4.out.keep (by omega) (fun q hq hl _ => (hC q (by omega) (by omega) (fun e => by have := (HOL2.out q e).2; omega)).trans (HK.out.2 q hq)) (by omega) (fun q hq hl _ e => by
              have e2 := Option.some.inj e
              rcases hat with h | h
              · have := (HOL2.out g h).2; omega
              · omega)
          have hkids : ∀ z ∈ acc, IsO (w.heap.size + 1 + 1 + 1) (some g) (w6.setCell ⟨w.heap.size + 1 + 1, 4, none⟩ (.slice (some ⟨g, 0, none⟩) (acc.length + 1) cap)) z := fun z hz =>
            (HL.out.kids z hz).keep (by omega) (fun q hq hl hne => (hC q (by omega) hl hne).trans (HK.out.1 q hq)) (Nat.le_refl _) (fun q hq hl hne e => by
              have e2 := Option.some.inj e
              rcases hat with h | h
              · exact hne (e2 ▸ h)
              · omega)
          have HOLn : Hid (OL d w (.mk xo xn xs (.slice (some ⟨b, off, none⟩) xl.length xc) xl) left (k + 1) (acc ++ [.mk yo yn ys (.slice ya yl.length yc) yl]) r2.2 (.slice (some ⟨g, 0, none⟩) (acc.length + 1) cap) (w6.setCell ⟨w.heap.size + 1 + 1, 4, none⟩ (.slice (some ⟨g, 0, none⟩) (acc.length + 1) cap))) := Lib.hid
            ⟨(gs.block _ (by omega) (fun e => by have := Option.some.inj e; omega)).trans r0, (gs.block _ (by omega) (fun e => by have := Option.some.inj e; omega)).trans r1, t8, by rw [obCells_snoc, List.length_append, List.length_singleton]; exact hown7,
             fun z hz => by
              rcases List.mem_append.1 hz with h | h
              · exact hkids z h
              · rw [List.mem_singleton.1 h]; exact hnew,
             hg7, by rw [List.map_append, List.map_cons, List.map_nil, HS2.out]; exact HQ2.out, by rw [List.length_append, List.length_singleton, HKA.out], by omega, by omega, hkl⟩
          have x4 := (cell_of_row _ _ 4 _ _ _ r2').trans (show _ = some (Value.slice oa acc.length oc) from rfl)
          have x5 := Lib.frozen_of_heap r2' 4
          clear p4 p5 q0 q1 q2 q3 q4 r0 r1 r2' gs t8 hown7 hg7 hC hnew hkids hB hlow hown6 hgrow6
          have hwk : IntKind.i64.wrap ((k : Int) + 1) = ((k + 1 : Nat) : Int) := by rw [wrap_ok _ (by omega) (by omega)]; omega
          go_wp2_with fail
          go_roundw
          case rel => exact ⟨k + 1, _, r2.2, _, by go_num, rfl, HOLn⟩
          case measure => simp [intOf]; omega
      · obtain rfl : k = xl.length := by omega
        rw [List.drop_length, List.map_nil, obsL] at heq
        have hQ := HQ.out
        rw [strip_l] at hQ
        simp only [ExpD.l] at hQ
        rw [← heq] at hQ
        have hlk : ¬ lk < 0 := by omega
        unfold obsE at hQ
        simp only [hlk, if_false, strip_op, strip_n, strip_s, ExpD.op, ExpD.n, ExpD.s] at hQ
        subst hQ
        have n1 := HL.out.boxr
        have n8 := HL.out.boxo
        simp only [ExpD.op, ExpD.n, ExpD.s] at n8
        obtain ⟨oa, oc, rfl⟩ := own_shape HL.out.own
        have hkn : ¬ ((xl.length : Nat) : Int) < ((xl.length : Nat) : Int) := by omega
        go_wp2_with (first
          | (refine wpList_load_row rfl 48 _ rfl (w.heap.size + 1 + 1) rfl 48 _ (0, 0) _ n8 Tryz.underlying48 rfl infoV ?_)
          | (refine wpList_store_row rfl 48 _ _ rfl (w.heap.size + 1) (rowV xo xn xs (.slice oa acc.length oc)) rfl rfl 48 _ n1 infoV rfl (all_one _ rfl) ?_))
        have q2 := setRow_heap _ _ _ (rowV xo xn xs (.slice oa acc.length oc)) _ _ n1
        have hol := owns_lt HL.out.own
        have hset : ∀ q, w.heap.size + 1 + 1 + 1 ≤ q → (wr.setRow (w.heap.size + 1) (rowV xo xn xs (.slice oa acc.length oc))).heap[q]? = wr.heap[q]? := fun q hq => setRow_other _ _ _ _ (by omega)
        refine bodyPost_ret (results_row_tmp (p := 6) (u := 7) rfl _ _ (w.heap.size + 1) 48 _ (0, 0) _ rfl q2 Tryz.underlying48 infoV) rfl ⟨.mk xo xn xs (.slice oa acc.length oc) acc, rfl, by rw [stripX_mk, stripL_map], .mk ?_ (by have := HKA.out; omega) (fun z hz => ?_), grown_setRow HL.out.grown (by omega) _⟩
        · exact (rowO_owned (r := none) HL.out.own (Nat.le_refl _) (fun h e => h e.symm)).keep (by rw [setRow_size]; exact Nat.le_refl _) (fun q _ hl _ => hset q hl) (by omega) (fun q _ _ h => h)
        · exact (HL.out.kids z hz).keep (by rw [setRow_size]; exact Nat.le_refl _) (fun q _ hl _ => hset q hl) (by omega) (fun q _ _ _ => by nofun)
end Go.Proofs.YtidolpcbbbakmaaGreat
