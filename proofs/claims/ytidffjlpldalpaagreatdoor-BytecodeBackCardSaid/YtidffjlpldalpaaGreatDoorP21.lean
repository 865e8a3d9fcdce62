/- body: a program is read as the plain parser says. -/
import Derived.Test.YtidffjlpldalpaaGreatDoorP20
set_option linter.unusedVariables false
set_option linter.unusedSimpArgs false
namespace Go.Proofs.YtidffjlpldalpaaGreatDoor
open Go Go.RowKit

def BodyOk (l : List Int) (w : World) (e : Ending) (w' : World) : Prop :=
  ∃ fv tv p ok, e = .returned (.tuple #[.agg #[fv, tv, .int .i64 p.main], .bool ok]) ∧ Below w.heap.size w w' ∧ IsProg w' fv tv p ∧ pBody l = (if ok = true then some (strip p) else none)
theorem insCells_app (is : List Ins) (i : Ins) : insCells (is ++ [i]) = insCells is ++ [.int .i64 i.op, .int .i64 i.a, .int .i64 i.b] := by simp [insCells]
theorem owns_slice {V : World} {B : Nat} {e : TypeId} {s n : Nat} {v : Value} {xs : List Value} (h : V.ownsRow B e s v n xs) : ∃ a m c, v = .slice a m c := by
  obtain ⟨_, h2⟩ := h
  rcases h2 with ⟨rfl, _⟩ | ⟨g, cap, cur, rfl, _⟩
  · exact ⟨_, _, _, rfl⟩
  · exact ⟨_, _, _, rfl⟩
theorem BSt.ret {w V : World} {l : List Int} {bad : Bool} {fv0 tv0 : Value} {main0 : Int} (h : BSt w V l bad fv0 tv0 main0) (fv tv : Value) (main : Int) : (((V.setCell ⟨w.heap.size, 0, none⟩ fv).setCell ⟨w.heap.size, 1, none⟩ tv).setCell ⟨w.heap.size, 2, none⟩ (.int .i64 main)).drew.heap[w.heap.size]? = some (.cells #[fv, tv, .int .i64 main] 25 (0, 0)) ∧ V.grownBy (((V.setCell ⟨w.heap.size, 0, none⟩ fv).setCell ⟨w.heap.size, 1, none⟩ tv).setCell ⟨w.heap.size, 2, none⟩ (.int .i64 main)).drew (some w.heap.size) := by
  refine ⟨(heap_set_same (heap_set_same (heap_set_same h.rs _) _) _), ?_⟩
  have g := grown_both (grown_both (grown_set V w.heap.size 0 fv) (grown_set _ w.heap.size 1 tv)) (grown_set _ w.heap.size 2 (.int .i64 main))
  exact ⟨g.os, g.tape, g.output, g.size, g.block⟩
theorem OnlyAt.undrew {rb : Nat} {w w' : World} (h : OnlyAt rb w.drew w') : OnlyAt rb w w' := ⟨h.os, h.tape, h.output, h.size, h.block⟩
def Small (l : List Int) : Prop := AreBytes l ∧ l.length ≤ 200000
theorem small_num (l : List Int) (bad : Bool) (h : Small l) : Small (numT l bad).2.1 := ⟨numT_bytes l bad h.1, Nat.le_trans (numT_len l bad) h.2⟩
theorem small_cnt (l : List Int) (bad : Bool) (n : Nat) (h : Small l) : Small (cntT l bad n).2.1 := ⟨cntT_bytes l bad n h.1, Nat.le_trans (cntT_len l bad n) h.2⟩
theorem small_drop (l : List Int) (k : Nat) (h : Small l) : Small (l.drop k) := ⟨fun x hx => h.1 x (List.mem_of_mem_drop hx), by rw [List.length_drop]; have := h.2; omega⟩
theorem rd_at {V : World} {rb : Nat} {l : List Int} {bad : Bool} (h : RdAt V rb l bad) : ∃ a c, V.cell? ⟨rb, 0, none⟩ = some (.slice a l.length c) ∧ V.cell? ⟨rb, 1, none⟩ = some (.bool bad) ∧ l.length ≤ c ∧ V.heap[rb]? = some (.cells #[.slice a l.length c, .bool bad] 112 (0, 0)) ∧ (0 < l.length → ∃ b off, a = some ⟨b, off, none⟩ ∧ b < rb ∧ ∀ j, j < l.length → V.cell? ⟨b, off + j, none⟩ = some (.int .u8 (l.getD j 0))) := by
  obtain ⟨a, c, h1, h2, h3⟩ := h
  obtain ⟨r0, r1⟩ := two_cells h1
  exact ⟨a, c, r0, r1, h2, h1, h3⟩
/-- The reader goes on behind k bytes. -/
theorem rd_skip {V : World} {rb : Nat} {l : List Int} {bad : Bool} {a : Option Addr} {c k : Nat} (hk : k ≤ l.length) (hlc : l.length ≤ c) (h : V.heap[rb]? = some (.cells #[.slice a l.length c, .bool bad] 112 (0, 0)))
    (hx : 0 < l.length → ∃ b off, a = some ⟨b, off, none⟩ ∧ b < rb ∧ ∀ j, j < l.length → V.cell? ⟨b, off + j, none⟩ = some (.int .u8 (l.getD j 0))) (A : Option Addr)
    (hA : ∀ b off, a = some ⟨b, off, none⟩ → k < l.length → A = some ⟨b, off + k, none⟩) (m cc : Nat) (hm : l.length - k = m) (hcc : c - k = cc) : RdAt (V.setCell ⟨rb, 0, none⟩ (.slice A m cc)) rb (l.drop k) bad := by
  subst hm hcc
  have hls : l.length - k = (l.drop k).length := by rw [List.length_drop]
  refine ⟨A, c - k, by rw [heap_set_same h, ← hls]; rfl, by rw [← hls]; omega, fun h0 => ?_⟩
  rw [← hls] at h0
  obtain ⟨b, off, ha, hb, hc⟩ := hx (by omega)
  refine ⟨b, off + k, hA b off ha (by omega), hb, fun j hj => ?_⟩
  rw [← hls] at hj
  rw [(OnlyAt.set V rb 0 _).cell (a := ⟨b, off + k + j, none⟩) (Nat.ne_of_lt hb), drop_getD, Nat.add_assoc]
  exact hc (k + j) (by omega)
theorem rd_mark {V : World} {rb : Nat} {l : List Int} {bad : Bool} (h : RdAt V rb l bad) (bad' : Bool) : RdAt (V.setCell ⟨rb, 1, none⟩ (.bool bad')) rb l bad' := by
  obtain ⟨a, c, h1, h2, h3⟩ := h
  refine ⟨a, c, by rw [heap_set_same h1]; rfl, h2, fun h0 => ?_⟩
  obtain ⟨b, off, ha, hb, hc⟩ := h3 h0
  exact ⟨b, off, ha, hb, fun j hj => ((OnlyAt.set V rb 1 _).cell (a := ⟨b, off + j, none⟩) (Nat.ne_of_lt hb)).trans (hc j hj)⟩
theorem strCells_app (ts : List ByteArray) (s : ByteArray) : strCells (ts ++ [s]) = strCells ts ++ [.string s] := by simp [strCells]
theorem body_start (v : Value) (l : List Int) (w : World) (h : IsRow w v l.length (u8s l)) : BSt w (((w.alloc (.cells #[.slice none 0 0, .slice none 0 0, .int .i64 0] 25)).alloc (.cells #[v, .bool false] 112)).alloc (.cells #[.slice none 0 0, .slice none 0 0, .int .i64 0] 25)) l false (.slice none 0 0) (.slice none 0 0) 0 := by
  have hb : Below w.heap.size w (((w.alloc (.cells #[.slice none 0 0, .slice none 0 0, .int .i64 0] 25)).alloc (.cells #[v, .bool false] 112)).alloc (.cells #[.slice none 0 0, .slice none 0 0, .int .i64 0] 25)) := (((Below.refl _ _).alloc (Nat.le_refl _) _).alloc (by simp) _).alloc (by simp; omega) _
  refine ⟨hb, ?_, ?_, ?_⟩
  · obtain ⟨a, c, rfl, hlc, hl⟩ := h
    refine ⟨a, c, (Below.heap_alloc _ _ _ (by simp)).trans ((congrArg _ (by simp)).trans (new_heap (w.alloc _) _)), hlc, fun h0 => ?_⟩
    obtain ⟨b, off, ha, hlt, hc⟩ := hl h0
    refine ⟨b, off, ha, by omega, fun j hj => ?_⟩
    rw [hb.cell (p := ⟨b, off + j, none⟩) hlt, hc j (by rw [u8s_length]; exact hj), u8s_at l j hj]
  · exact (congrArg _ (by simp)).trans (new_heap ((w.alloc _).alloc _) _)
  · exact (Below.heap_alloc _ _ _ (by simp; omega)).trans ((Below.heap_alloc _ _ _ (by simp)).trans (new_heap w _))
set_option maxHeartbeats 4000000 in
set_option maxRecDepth 100000 in
theorem body_any (v : Value) (l : List Int) (w : World) (h : IsRow w v l.length (u8s l)) (hs : Small l) (HQ : ∀ s, QuotedOk s) :
    Calls Tryz.prog 49 #[v] w (BodyOk l w) := by
  have hB := body_start v l w h
  obtain ⟨is0, his, hsz0, hsz1, hsz2⟩ := info_parts info_str
  obtain ⟨ii0, hii, hiz0, hiz1, hiz2⟩ := info_parts info_instr
  obtain ⟨if0, hif, hfz0, hfz1, hfz2⟩ := info_parts info_fun
  have Hs := Lib.hid hs
  have HQ' := Lib.hid HQ
  obtain ⟨a, c, rfl, hlc, _⟩ := h
  clear hs HQ
  go_enter Tryz.func49, Tryz.ntmps49
  go_wp2_with fail
  generalize (((w.alloc (.cells #[.slice none 0 0, .slice none 0 0, .int .i64 0] 25)).alloc (.cells #[.slice a l.length c, .bool false] 112)).alloc (.cells #[.slice none 0 0, .slice none 0 0, .int .i64 0] 25)) = W at *
  refine (number_any (w.heap.size + 1) l false W hB.rd Hs.out.1 (by have := Hs.out.2; omega)).mono ?_
  rintro e V1 ⟨rfl, hr1, hO1⟩
  have hT1 := tied_num l l false _ (show Tied l false _ from body_next l)
  have hS1 := small_num l false Hs.out
  have hB1 := hB.num hr1 (grown_only hO1)
  generalize numT l false = t1 at *
  obtain ⟨main, l1, b1⟩ := t1
  simp only at hT1 hS1 hB1
  have HT1 := Lib.hid hT1
  have HS1 := Lib.hid hS1
  obtain ⟨p0, p1, p2⟩ := ins_cells hB1.pr
  have f2 : V1.frozen? ⟨w.heap.size + 1 + 1, 2, none⟩ = false := Lib.frozen_of_heap hB1.pr 2
  have hB2 := hB1.set 2 (.int .i64 main) rfl
  clear hB hB1 hT1 hS1 hr1 hO1
  simp only
  go_wp2_with fail
  generalize V1.setCell ⟨w.heap.size + 1 + 1, 2, none⟩ (.int .i64 main) = V2 at *
  clear p0 p1 p2 f2
  have hc1 := count_any (w.heap.size + 1) l1 b1 1 V2 hB2.rd HS1.out.1 (by have := HS1.out.2; omega) (by decide) (by decide)
  refine hc1.mono ?_
  clear hc1
  rintro e V3 ⟨rfl, hr3, hO3⟩
  have hT3 := tied_cnt l l1 b1 1 (by decide) _ (fun n l' h => kTexts_few main [] n l' h) HT1.out
  have hS3 := small_cnt l1 b1 1 HS1.out
  have hn3 := cntT_range l1 b1 1
  have hB3 := hB2.num hr3 (grown_only hO3)
  generalize cntT l1 b1 1 = t3 at *
  obtain ⟨n, l3, b3⟩ := t3
  simp only at hT3 hS3 hB3 hn3
  obtain ⟨n, rfl⟩ : ∃ m : Nat, n = (m : Int) := ⟨n.toNat, by omega⟩
  have hnle : n ≤ 200000 := by have := hS3.2; omega
  have HT3 : Hid (Tied l b3 (kTexts main [] n l3)) := hT3
  have HS3 := Lib.hid hS3
  have HB3 := Lib.hid hB3
  have hown3 : V3.ownsRow (w.heap.size + 1 + 1 + 1) 9 1 (.slice none 0 0) ([] : List ByteArray).length (strCells []) := ⟨rfl, .inl ⟨rfl, rfl⟩⟩
  clear hT3 hS3 hB2 hr3 hO3 hn3 hB3
  simp only
  go_wp2_with fail
  go_loopw [17] (fun i wr => ∃ (j : Nat) (ll : List Int) (bb : Bool) (tv : Value) (ts : List ByteArray), i = .int .i64 j ∧ j ≤ n ∧ ts.length = j ∧ Hid (BSt w wr ll bb (.slice none 0 0) tv main) ∧ Hid (wr.ownsRow (w.heap.size + 1 + 1 + 1) 9 1 tv ts.length (strCells ts)) ∧ Hid (Small ll) ∧ Hid (Tied l bb (kTexts main ts (n - j) ll))) (fun i _ => n - (intOf i).toNat)
  case atStart => exact ⟨0, l3, b3, _, [], rfl, Nat.zero_le _, rfl, HB3, hown3, HS3, HT3⟩
  case round =>
    obtain ⟨j, ll, bb, tv, ts, rfl, hj, hts, HB, Hown, HS, HT⟩ := hrel
    by_cases hjn : j < n
    · go_upto_region 6 with fail
      have hc1 := count_any (w.heap.size + 1) ll bb 1 wr HB.out.rd HS.out.1 (by have := HS.out.2; omega) (by decide) (by decide)
      go_wp2_with fail
      refine hc1.mono ?_
      clear hc1
      rintro e V4 ⟨rfl, hr4, hO4⟩
      have hT4 := tied_cnt l ll bb 1 (by decide) _ (fun n l' h => kText_few _ n l' h) (show Tied l bb (nextC (kText fun s l1 => kTexts main (ts ++ [s]) (n - (j + 1)) l1) ll) by rw [← kTexts_next, show n - (j + 1) + 1 = n - j by omega]; exact HT.out)
      have hS4 := small_cnt ll bb 1 HS.out
      have hn4 := cntT_range ll bb 1
      have hB4 := HB.out.num hr4 (grown_only hO4)
      have hown4 := owns_grown Hown.out (grown_only hO4) (fun k hk e => by cases hk; have := (owns_lt Hown.out _ e).1; omega)
      generalize cntT ll bb 1 = t4 at *
      obtain ⟨k, l4, b4⟩ := t4
      simp only at hT4 hS4 hB4 hn4
      obtain ⟨k, rfl⟩ : ∃ m : Nat, k = (m : Int) := ⟨k.toNat, by omega⟩
      have hkl : k ≤ l4.length := by omega
      have HT4 := Lib.hid (tied_text l l4 b4 _ k hkl hT4)
      have HS4 := Lib.hid (small_drop l4 k hS4)
      have hl4 : l4.length ≤ 200000 := hS4.2
      have HB4 := Lib.hid hB4
      have Hown4 := Lib.hid hown4
      clear hT4 hS4 hr4 hO4 hn4 hB4 hown4 HB Hown HS HT
      simp only
      go_upto_region 7 with fail
      obtain ⟨a4, c4, r0, r1, hlc4, hh4, hx4⟩ := rd_at HB4.out.rd
      have fz0 : V4.frozen? ⟨w.heap.size + 1, 0, none⟩ = false := Lib.frozen_of_heap hh4 0
      have Hh4 := Lib.hid hh4
      have hi1 : (k : Int) ≤ (c4 : Int) := by omega
      have hi2 : (k : Int) ≤ (l4.length : Int) := by omega
      have hi3 : k ≤ c4 := by omega
      have HX4 := Lib.hid hx4
      clear hh4 hx4
      go_cut [7] from 21 to 27 (fun v wx => v = .string (strOf (l4.take k)) ∧ wx = V4)
      case first =>
        by_cases hl0 : 0 < l4.length
        · obtain ⟨b, off, rfl, hlt, hc⟩ := HX4.out hl0
          have hcv : (convert 38 9 (.slice (some ⟨b, off, none⟩) k c4)).run Tryz.prog V4 = .ok (.string (strOf (l4.take k))) V4 := conv_str k c4 (l4.take k) (by rw [List.length_take]; omega) (fun _ => ⟨b, off, rfl, fun j hj => by rw [hc j (by omega)]; simp [List.getD, hj]⟩)
          clear hc
          go_wp2_with fail
          go_meet
          exact ⟨rfl, rfl⟩
        · obtain rfl : k = 0 := by omega
          have hcv : ∀ A C, (convert 38 9 (.slice A 0 C)).run Tryz.prog V4 = .ok (.string (strOf (l4.take 0))) V4 := fun A C => conv_str 0 C (l4.take 0) (by simp) (fun h => absurd h (by decide))
          go_wp2_with fail
          go_meet
          exact ⟨rfl, rfl⟩
      case rest =>
        obtain ⟨rfl, rfl⟩ := hcut
        have HQs := Lib.hid (HQ'.out (strOf (l4.take k)))
        generalize strOf (l4.take k) = s at *
        go_upto_region 8 with fail
        go_cut [36] from 28 to 36 (fun v wx => RdAt wx (w.heap.size + 1) (l4.drop k) b4 ∧ wc.grownBy wx (some (w.heap.size + 1)))
        case first =>
          by_cases hck : c4 = k
          · subst hck
            go_wp2_with fail
            go_meet
            exact ⟨rd_skip hkl hlc4 Hh4.out HX4.out _ (fun b' off' e hlt' => by omega) _ _ (by omega) (by omega), grown_set _ _ _ _⟩
          · have hck' : (c4 = k) = False := eq_false hck
            by_cases hl0 : 0 < l4.length
            · obtain ⟨b, off, rfl, hlt, hc⟩ := HX4.out hl0
              clear hc
              go_wp2_with fail
              go_meet
              exact ⟨rd_skip hkl hlc4 Hh4.out HX4.out _ (fun b' off' e hlt' => by cases e; rfl) _ _ (by omega) (by omega), grown_set _ _ _ _⟩
            · obtain rfl : k = 0 := by omega
              go_wp2_with fail
              go_meet
              exact ⟨rd_skip hkl hlc4 Hh4.out HX4.out _ (fun b' off' e hlt' => by omega) _ _ (by omega) (by omega), grown_set _ _ _ _⟩
        case rest =>
          obtain ⟨hr5, hg5⟩ := hcut
          have HB5 := Lib.hid (HB4.out.num hr5 hg5)
          have Hown5 := Lib.hid (owns_grown Hown4.out hg5 (fun q hq e => by cases hq; have := (owns_lt Hown4.out _ e).1; omega))
          have hrd5 := Lib.hid hr5
          clear HB4 Hown4 hr5 hg5 Hh4 HX4 r0 r1 fz0 hi1 hi2 hi3 hlc4
          obtain ⟨a5, c5, r0, r1, hlc5, hh5, _⟩ := rd_at HB5.out.rd
          have fz1 : wc.frozen? ⟨w.heap.size + 1, 1, none⟩ = false := Lib.frozen_of_heap hh5 1
          clear hh5
          go_upto_region 9 with fail
          rename World => V5
          go_cut [46] from 37 to 48 (fun v wx => RdAt wx (w.heap.size + 1) (l4.drop k) (b4 || !quotedB s) ∧ V5.grownBy wx (some (w.heap.size + 1)))
          case first =>
            cases b4
            · go_wp2_with fail
              refine (HQs.out _).mono ?_
              rintro e w6 ⟨rfl, hb6⟩
              have h6 := grown_below hb6
              have hr6 := hrd5.out.grown h6 (by nofun)
              have Hr6 := Lib.hid hr6
              have H6 := Lib.hid h6
              obtain ⟨a6, c6, t0, t1, hlc6, hh6, _⟩ := rd_at hr6
              have fz2 : w6.frozen? ⟨w.heap.size + 1, 1, none⟩ = false := Lib.frozen_of_heap hh6 1
              clear h6 hr6 hh6
              go_wp2_with fail
              go_meet
              exact ⟨rd_mark Hr6.out _, grown_then H6.out (grown_set _ _ _ _)⟩
            · go_wp2_with fail
              go_meet
              exact ⟨rd_mark hrd5.out _, grown_set _ _ _ _⟩
          case rest =>
            obtain ⟨hr6, hg6⟩ := hcut
            have HB6 := Lib.hid (HB5.out.num hr6 hg6)
            have Hown6 := Lib.hid (owns_grown Hown5.out hg6 (fun q hq e => by cases hq; have := (owns_lt Hown5.out _ e).1; omega))
            clear HB5 Hown5 hr6 hg6 hrd5 r0 r1 fz1 HQs
            rename World => V6
            obtain ⟨p0, p1, p2⟩ := ins_cells HB6.out.pr
            have hlt6 := HB6.out.lt
            go_wp2_with (at_builtin; refine wpList_append_lies _ rfl _ _ 23 rfl (w.heap.size + 1 + 1 + 1) 9 is0 (.string ByteArray.empty) 1 16 Tryz.underlying23 his hsz0 hsz1 hsz2 rfl (by decide) _ ts.length (strCells ts) rfl (Hown6.out.alloc _) ⟨V6.heap.size, 0, none⟩ 1 1 [.string s] rfl rfl ?c1 ?c2 (by decide) ?c3 ?c4 ?c5 _ rfl ?_)
            case c1 => exact cell_one_new _ _ _
            case c2 => intro u hu; simp at hu; subst hu; rfl
            case c3 => unfold maxLen; omega
            case c4 => omega
            case c5 => simp; omega
            intro g cap w7 hown7 hgrow7 hat7 hlt7
            have hB7 := (HB6.out.grown (grown_alloc V6 (.cells #[.string s] 9)) (by nofun)).grown hgrow7 (fun q hq => by have := (owns_lt Hown6.out q hq).1; omega)
            have HB7 := Lib.hid hB7
            have Hown7 : Hid (w7.ownsRow (w.heap.size + 1 + 1 + 1) 9 1 (.slice (some ⟨g, 0, none⟩) (j + 1) cap) (ts ++ [s]).length (strCells (ts ++ [s]))) := by
              show World.ownsRow _ _ _ _ _ _ _
              rw [strCells_app, show (ts ++ [s]).length = j + 1 by simp [hts]]; exact hown7
            obtain ⟨s0, s1, s2⟩ := ins_cells hB7.pr
            have fz7 : w7.frozen? ⟨w.heap.size + 1 + 1, 1, none⟩ = false := Lib.frozen_of_heap hB7.pr 1
            clear hB7 hown7 hgrow7 hat7 HB6 Hown6 p0 p1 p2
            go_wp2_with fail
            go_roundw
            case rel => exact ⟨j + 1, l4.drop k, b4 || !quotedB s, _, ts ++ [s], by go_num, by omega, by simp [hts], HB7.out.set 1 _ rfl, owns_grown Hown7.out (grown_set _ _ _ _) (fun q hq e => by cases hq; have := (owns_lt Hown7.out _ e).1; omega), HS4, HT4⟩
            case measure => simp [intOf]; omega
    · obtain rfl : j = n := by omega
      have HT0 : Hid (Tied l bb (nextC (kFuns main ts []) ll)) := by have := HT.out; rw [Nat.sub_self, kTexts_zero, kNf_next] at this; exact this
      have HX0 := Lib.hid (RowR.of_owns Hown.out)
      clear HT Hown
      have hc1 := count_any (w.heap.size + 1) ll bb 4 wr HB.out.rd HS.out.1 (by have := HS.out.2; omega) (by decide) (by decide)
      go_wp2_with fail
      refine hc1.mono ?_
      clear hc1
      rintro e V5 ⟨rfl, hr5, hO5⟩
      have hT5 := tied_cnt l ll bb 4 (by decide) _ (fun n l' h => kFuns_few main ts [] n l' h) HT0.out
      have hS5 := small_cnt ll bb 4 HS.out
      have hn5 := cntT_range ll bb 4
      have hB5 := HB.out.num hr5 (grown_only hO5)
      have hX5 := HX0.out.grown (grown_only hO5) (fun q hq => by cases hq; omega)
      have hsz5 : V5.heap.size = wr.heap.size := hO5.size
      generalize cntT ll bb 4 = t5 at *
      obtain ⟨m, l5, b5⟩ := t5
      simp only at hT5 hS5 hB5 hn5
      obtain ⟨m, rfl⟩ : ∃ q : Nat, m = (q : Int) := ⟨m.toNat, by omega⟩
      have hmle : m ≤ 200000 := by have := hS5.2; omega
      have HT5 : Hid (Tied l b5 (kFuns main ts [] m l5)) := hT5
      have HS5 := Lib.hid hS5
      have HB5 := Lib.hid hB5
      have HX5 := Lib.hid hX5
      have HF5 := Lib.hid (FSt.nil V5)
      have hB2 := hB5.lt
      have hT2 : wr.heap.size ≤ V5.heap.size := by omega
      have hn2000 : ts.length ≤ 200000 := by omega
      clear hT5 hS5 hr5 hO5 hn5 hB5 hX5 HT0 HX0 HB HS hsz5 HT3 HS3 HB3 hown3
      generalize hT2e : wr.heap.size = T2 at *
      simp only
      go_wp2_with fail
      go_loopw [58] (fun i wr => ∃ (j : Nat) (ll : List Int) (bb : Bool) (fv : Value) (fs : List FunD), i = .int .i64 j ∧ j ≤ m ∧ fs.length = j ∧ Hid (BSt w wr ll bb fv tv main) ∧ Hid (FSt wr V5.heap.size wr.heap.size fv fs) ∧ Hid (RowR wr (w.heap.size + 1 + 1 + 1) T2 tv ts.length (strCells ts)) ∧ Hid (Small ll) ∧ Hid (Tied l bb (kFuns main ts (fs.map stripF) (m - j) ll)) ∧ V5.heap.size ≤ wr.heap.size) (fun i _ => m - (intOf i).toNat)
      case atStart => exact ⟨0, l5, b5, _, [], rfl, Nat.zero_le _, rfl, HB5, HF5, HX5, HS5, HT5, Nat.le_refl _⟩
      case round =>
        rename World => V6
        obtain ⟨j, ll, bb, fv, fs, rfl, hj, hfs, HB6, HF6, HX6, HS6, HT6, h56⟩ := hrel
        by_cases hjm : j < m
        · have HT6' : Hid (Tied l bb (nextN (fun c => nextN fun lc => nextN fun d => nextC fun n => kCode main ts (fs.map stripF) (m - (j + 1)) c lc d [] n) ll)) := by
            have := HT6.out; rw [show m - j = m - (j + 1) + 1 by omega, kFuns_next] at this; exact this
          clear HT6
          have hN := number_any (w.heap.size + 1) ll bb V6 HB6.out.rd HS6.out.1 (by have := HS6.out.2; omega)
          go_wp2_with fail
          refine hN.mono ?_
          clear hN
          rintro e V7 ⟨rfl, hr, hO⟩
          have hT := tied_num l ll bb _ HT6'.out
          have hS := small_num ll bb HS6.out
          have HB70 := HB6.out.num hr (grown_only hO)
          have HF7 := Lib.hid (HF6.out.grown (grown_only hO) (fun q hq => by cases hq; left; omega))
          have HX7 := Lib.hid (HX6.out.grown (grown_only hO) (fun q hq => by cases hq; left; omega))
          have hsz7 : V7.heap.size = V6.heap.size := hO.size
          generalize numT ll bb = tt at *
          obtain ⟨c1, l7, b7⟩ := tt
          simp only at hT hS HB70
          have HT7' := Lib.hid hT
          have HS7 := Lib.hid hS
          have HB7 := Lib.hid HB70
          clear hT hS hr hO HB70 HT6' HS6 HB6 HF6 HX6
          simp only
          have hN := number_any (w.heap.size + 1) l7 b7 V7 HB7.out.rd HS7.out.1 (by have := HS7.out.2; omega)
          go_wp2_with fail
          refine hN.mono ?_
          clear hN
          rintro e V8 ⟨rfl, hr, hO⟩
          have hT := tied_num l l7 b7 _ HT7'.out
          have hS := small_num l7 b7 HS7.out
          have HB80 := HB7.out.num hr (grown_only hO)
          have HF8 := Lib.hid (HF7.out.grown (grown_only hO) (fun q hq => by cases hq; left; omega))
          have HX8 := Lib.hid (HX7.out.grown (grown_only hO) (fun q hq => by cases hq; left; omega))
          have hsz8 : V8.heap.size = V7.heap.size := hO.size
          generalize numT l7 b7 = tt at *
          obtain ⟨c2, l8, b8⟩ := tt
          simp only at hT hS HB80
          have HT8' := Lib.hid hT
          have HS8 := Lib.hid hS
          have HB8 := Lib.hid HB80
          clear hT hS hr hO HB80 HT7' HS7 HB7 HF7 HX7
          simp only
          have hN := number_any (w.heap.size + 1) l8 b8 V8 HB8.out.rd HS8.out.1 (by have := HS8.out.2; omega)
          go_wp2_with fail
          refine hN.mono ?_
          clear hN
          rintro e V9 ⟨rfl, hr, hO⟩
          have hT := tied_num l l8 b8 _ HT8'.out
          have hS := small_num l8 b8 HS8.out
          have HB90 := HB8.out.num hr (grown_only hO)
          have HF9 := Lib.hid (HF8.out.grown (grown_only hO) (fun q hq => by cases hq; left; omega))
          have HX9 := Lib.hid (HX8.out.grown (grown_only hO) (fun q hq => by cases hq; left; omega))
          have hsz9 : V9.heap.size = V8.heap.size := hO.size
          generalize numT l8 b8 = tt at *
          obtain ⟨c3, l9, b9⟩ := tt
          simp only at hT hS HB90
          have HT9' := Lib.hid hT
          have HS9 := Lib.hid hS
          have HB9 := Lib.hid HB90
          clear hT hS hr hO HB90 HT8' HS8 HB8 HF8 HX8
          simp only
          go_wp2_with fail
          have hg10 := grown_alloc V9 (.cells #[.int .i64 c1, .int .i64 c2, .int .i64 c3, .slice none 0 0] 48)
          have hfb0 := new_heap V9 (.cells #[.int .i64 c1, .int .i64 c2, .int .i64 c3, .slice none 0 0] 48)
          have h96 : V9.heap.size = V6.heap.size := by omega
          rw [h96] at hfb0
          have HB10 := Lib.hid (HB9.out.grown hg10 (by nofun))
          have HF10 := Lib.hid (HF9.out.grown hg10 (by nofun))
          have HX10 := Lib.hid (HX9.out.grown hg10 (by nofun))
          have HS10 := HS9
          have hsz10 : (V9.alloc (.cells #[.int .i64 c1, .int .i64 c2, .int .i64 c3, .slice none 0 0] 48)).heap.size = V6.heap.size + 1 := by simp; omega
          clear HB9 HF9 HX9 hg10
          generalize V9.alloc (.cells #[.int .i64 c1, .int .i64 c2, .int .i64 c3, .slice none 0 0] 48) = V10 at *
          have hFt : FSt V10 V5.heap.size V6.heap.size fv fs := by
            have := HF10.out
            rw [← h96]; rw [h96]
            exact ⟨this.own, by omega, fun g hg => by have := this.lt g hg; omega, fun f hf => by
              obtain ⟨⟨h1, h2, h3⟩, h4⟩ := this.codes f hf
              exact ⟨⟨h1, by omega, fun b off sp m c hv => by have := h3 b off sp m c hv; omega⟩, h4⟩⟩
          have HF11 := Lib.hid hFt
          clear hFt HF10
          have hc1 := count_any (w.heap.size + 1) l9 b9 3 V10 HB10.out.rd HS10.out.1 (by have := HS10.out.2; omega) (by decide) (by decide)
          refine hc1.mono ?_
          clear hc1
          rintro e V11 ⟨rfl, hr, hO⟩
          have hT := tied_cnt l l9 b9 3 (by decide) _ (fun n l' h => kCode_few main ts (fs.map stripF) (m - (j + 1)) c1 c2 c3 [] n l' h) HT9'.out
          have hS := small_cnt l9 b9 3 HS10.out
          have hn := cntT_range l9 b9 3
          have HB11 := Lib.hid (HB10.out.num hr (grown_only hO))
          have HF12 := Lib.hid (HF11.out.grown (grown_only hO) (fun q hq => by cases hq; left; omega))
          have HX11 := Lib.hid (HX10.out.grown (grown_only hO) (fun q hq => by cases hq; left; omega))
          have HK11 : Hid (V11.heap[V6.heap.size]? = some (.cells #[.int .i64 c1, .int .i64 c2, .int .i64 c3, .slice none 0 0] 48 (0, 0))) := (hO.block _ (by omega)).trans hfb0
          have hsz11 : V11.heap.size = V6.heap.size + 1 := by rw [hO.size]; exact hsz10
          generalize cntT l9 b9 3 = tt at *
          obtain ⟨q, l11, b11⟩ := tt
          simp only at hT hS hn HB11
          obtain ⟨q, rfl⟩ : ∃ z : Nat, q = (z : Int) := ⟨q.toNat, by omega⟩
          have hqle : q ≤ 200000 := by have := hS.2; omega
          have HT11 : Hid (Tied l b11 (kCode main ts (fs.map stripF) (m - (j + 1)) c1 c2 c3 [] q l11)) := hT
          have HS11 := Lib.hid hS
          have HO11 : Hid (V11.ownsRow (V6.heap.size + 1) 64 3 (.slice none 0 0) ([] : List Ins).length (insCells [])) := ⟨rfl, .inl ⟨rfl, rfl⟩⟩
          clear hT hS hn hr hO HB10 HF11 HX10 HS10 HS9 HT9' hfb0
          simp only
          go_wp2_with fail
          go_loopw [69] (fun i wr => ∃ (k : Nat) (ll : List Int) (bb : Bool) (cv : Value) (is : List Ins), i = .int .i64 k ∧ k ≤ q ∧ is.length = k ∧ Hid (BSt w wr ll bb fv tv main) ∧ Hid (FSt wr V5.heap.size V6.heap.size fv fs) ∧ Hid (RowR wr (w.heap.size + 1 + 1 + 1) T2 tv ts.length (strCells ts)) ∧ Hid (wr.heap[V6.heap.size]? = some (.cells #[.int .i64 c1, .int .i64 c2, .int .i64 c3, cv] 48 (0, 0))) ∧ Hid (wr.ownsRow (V6.heap.size + 1) 64 3 cv is.length (insCells is)) ∧ Hid (Small ll) ∧ Hid (Tied l bb (kCode main ts (fs.map stripF) (m - (j + 1)) c1 c2 c3 is (q - k) ll)) ∧ V6.heap.size < wr.heap.size) (fun i _ => q - (intOf i).toNat)
          case atStart => exact ⟨0, l11, b11, _, [], rfl, Nat.zero_le _, rfl, HB11, HF12, HX11, HK11, HO11, HS11, HT11, by omega⟩
          case round =>
            rename World => V12
            obtain ⟨k, ll, bb, cv, is, rfl, hk, his', HB, HF, HX, HK, HO, HS, HT, hlt12⟩ := hrel
            by_cases hkq : k < q
            · have hT := HT.out
              rw [show q - k = q - (k + 1) + 1 by omega, kCode_next] at hT
              have hT1 := tied_num l ll bb _ hT
              have hS1 := small_num ll bb HS.out
              obtain ⟨x1, m1, d1, e1⟩ : ∃ x m d, numT ll bb = (x, m, d) := ⟨_, _, _, rfl⟩
              have HN1 : Hid (∀ u, RdAt u (w.heap.size + 1) ll bb → Calls Tryz.prog 71 #[.pointer (some ⟨w.heap.size + 1, 0, none⟩)] u fun e w' => e = .returned (.int .i64 x1) ∧ RdAt w' (w.heap.size + 1) m1 d1 ∧ OnlyAt (w.heap.size + 1) u w') := fun u hu => by
                have := number_any (w.heap.size + 1) ll bb u hu HS.out.1 (by have := HS.out.2; omega); rw [e1] at this; exact this
              rw [e1] at hT1 hS1
              simp only at hT1 hS1
              have hT2 := tied_num l m1 d1 _ hT1
              have hS2 := small_num m1 d1 hS1
              obtain ⟨x2, m2, d2, e2⟩ : ∃ x m d, numT m1 d1 = (x, m, d) := ⟨_, _, _, rfl⟩
              have HN2 : Hid (∀ u, RdAt u (w.heap.size + 1) m1 d1 → Calls Tryz.prog 71 #[.pointer (some ⟨w.heap.size + 1, 0, none⟩)] u fun e w' => e = .returned (.int .i64 x2) ∧ RdAt w' (w.heap.size + 1) m2 d2 ∧ OnlyAt (w.heap.size + 1) u w') := fun u hu => by
                have := number_any (w.heap.size + 1) m1 d1 u hu hS1.1 (by have := hS1.2; omega); rw [e2] at this; exact this
              rw [e2] at hT2 hS2
              simp only at hT2 hS2
              have hT3 := tied_num l m2 d2 _ hT2
              have hS3 := small_num m2 d2 hS2
              obtain ⟨x3, m3, d3, e3⟩ : ∃ x m d, numT m2 d2 = (x, m, d) := ⟨_, _, _, rfl⟩
              have HN3 : Hid (∀ u, RdAt u (w.heap.size + 1) m2 d2 → Calls Tryz.prog 71 #[.pointer (some ⟨w.heap.size + 1, 0, none⟩)] u fun e w' => e = .returned (.int .i64 x3) ∧ RdAt w' (w.heap.size + 1) m3 d3 ∧ OnlyAt (w.heap.size + 1) u w') := fun u hu => by
                have := number_any (w.heap.size + 1) m2 d2 u hu hS2.1 (by have := hS2.2; omega); rw [e3] at this; exact this
              rw [e3] at hT3 hS3
              have HT3 : Hid (Tied l d3 (kCode main ts (fs.map stripF) (m - (j + 1)) c1 c2 c3 (is ++ [⟨x1, x2, x3⟩]) (q - (k + 1)) m3)) := hT3
              have HS3 : Hid (Small m3) := hS3
              clear hT hT1 hT2 hT3 hS1 hS2 hS3 e1 e2 e3 HT
              go_upto_region 17 with fail
              have y0 : V12.drew.cell? ⟨V6.heap.size, 3, none⟩ = some cv := (fun_cells HK.out).2.2.2
              have hfr : V6.heap.size ≠ w.heap.size + 1 := by omega
              have hrbF : ∀ q, some (w.heap.size + 1) = some q → q < V5.heap.size ∨ V6.heap.size ≤ q := fun q hq => by cases hq; left; omega
              have hrbX : ∀ q, some (w.heap.size + 1) = some q → q < w.heap.size + 1 + 1 + 1 ∨ T2 ≤ q := fun q hq => by cases hq; left; omega
              have HrbF := Lib.hid hrbF
              have HrbX := Lib.hid hrbX
              clear hrbF hrbX
              go_region_law
                (first
                  | (fail_if_success (have guard9 := hr1)
                     go_simp; go_at_call 71
                     refine (HN1.out _ (by exact HB.out.rd)).mono ?_
                     rintro e w1 ⟨rfl, hr1, hO1⟩
                     have hO1' := OnlyAt.undrew hO1
                     have hz1 : Hid (w1.heap.size = V12.heap.size) := hO1'.size
                     have HK1 := Lib.hid ((hO1'.block _ hfr).trans HK.out)
                     have y1 := (fun_cells HK1.out).2.2.2
                     have HB1 := Lib.hid (HB.out.num hr1 (grown_only hO1'))
                     have HF1 := Lib.hid (HF.out.grown (grown_only hO1') HrbF.out)
                     have HX1 := Lib.hid (HX.out.grown (grown_only hO1') HrbX.out)
                     have HO1 := Lib.hid (owns_grown HO.out (grown_only hO1') (fun q hq e => by cases hq; have := (owns_lt HO.out _ e).1; omega)))
                  | (have guard9 := hr1; clear guard9; fail_if_success (have guard9 := hr2)
                     go_simp; go_at_call 71
                     refine (HN2.out _ (by exact hr1)).mono ?_
                     rintro e w2 ⟨rfl, hr2, hO2⟩
                     have hz2 : Hid (w2.heap.size = V12.heap.size) := hO2.size.trans hz1.out
                     have HK2 := Lib.hid ((hO2.block _ hfr).trans HK1.out)
                     have y2 := (fun_cells HK2.out).2.2.2
                     have HB2 := Lib.hid (HB1.out.num hr2 (grown_only hO2))
                     have HF2 := Lib.hid (HF1.out.grown (grown_only hO2) HrbF.out)
                     have HX2 := Lib.hid (HX1.out.grown (grown_only hO2) HrbX.out)
                     have HO2 := Lib.hid (owns_grown HO1.out (grown_only hO2) (fun q hq e => by cases hq; have := (owns_lt HO1.out _ e).1; omega)))
                  | (have guard9 := hr2; clear guard9; fail_if_success (have guard9 := hr3)
                     go_simp; go_at_call 71
                     refine (HN3.out _ (by exact hr2)).mono ?_
                     rintro e w3 ⟨rfl, hr3, hO3⟩
                     have hz3 : Hid (w3.heap.size = V12.heap.size) := hO3.size.trans hz2.out
                     have HK3 := Lib.hid ((hO3.block _ hfr).trans HK2.out)
                     have y3 := (fun_cells HK3.out).2.2.2
                     have y3a := (World.cell?_of_block (a := ⟨V6.heap.size, 3, none⟩) ((grown_alloc w3 (.cells #[.int .i64 x1, .int .i64 x2, .int .i64 x3] 64)).block V6.heap.size (by have := hz3.out; omega) (by nofun))).trans y3
                     have HB3 := Lib.hid (HB2.out.num hr3 (grown_only hO3))
                     have HF3 := Lib.hid (HF2.out.grown (grown_only hO3) HrbF.out)
                     have HX3 := Lib.hid (HX2.out.grown (grown_only hO3) HrbX.out)
                     have HO3 := Lib.hid (owns_grown HO2.out (grown_only hO3) (fun q hq e => by cases hq; have := (owns_lt HO2.out _ e).1; omega)))
                  | (have guard9 := hr3; clear guard9
                     refine step_append_lies _ (by rfl) _ _ _ (by rfl) (V6.heap.size + 1) 64 ii0 (.agg #[.int .i64 0, .int .i64 0, .int .i64 0]) 3 24 Tryz.underlying46 hii hiz0 hiz1 hiz2 (by rfl) (by decide) _ is.length (insCells is) (by rfl) (HO3.out.alloc _) ⟨w3.heap.size, 0, none⟩ 1 1 [.int .i64 x1, .int .i64 x2, .int .i64 x3] (by rfl) (by rfl) (World.news_of_block (cs := #[.int .i64 x1, .int .i64 x2, .int .i64 x3]) (new_heap w3 _)) (by intro u hu; simp at hu; rcases hu with rfl | rfl | rfl <;> rfl) (by decide) (by unfold maxLen; omega) (by omega) (by have := hz3.out; simp; omega) _ rfl ?_
                     intro gN cN w4 hown4 hgrow4 hat4 hlt4
                     have hfar : ∀ z, (some z : Option Nat) = cv.ownBlock → V6.heap.size < z := fun z hz => by have := (owns_lt HO3.out z hz.symm).1; omega
                     have hg3 := grown_alloc w3 (.cells #[.int .i64 x1, .int .i64 x2, .int .i64 x3] 64)
                     have HK4 := Lib.hid ((hgrow4.block _ (by have := hz3.out; simp; omega) (fun e => absurd (hfar _ e) (Nat.lt_irrefl _))).trans ((hg3.block _ (by have := hz3.out; omega) (by nofun)).trans HK3.out))
                     have y4 := (fun_cells HK4.out).2.2.2
                     have fz4 : w4.frozen? ⟨V6.heap.size, 3, none⟩ = false := Lib.frozen_of_heap HK4.out 3
                     have HB4 := Lib.hid ((HB3.out.grown hg3 (by nofun)).grown hgrow4 (fun z hz => by have := hfar z hz.symm; omega))
                     have HF4 := Lib.hid ((HF3.out.grown hg3 (by nofun)).grown hgrow4 (fun z hz => by have := hfar z hz.symm; omega))
                     have HX4 := Lib.hid ((HX3.out.grown hg3 (by nofun)).grown hgrow4 (fun z hz => by have := hfar z hz.symm; omega))
                     have HO4 : Hid (w4.ownsRow (V6.heap.size + 1) 64 3 (.slice (some ⟨gN, 0, none⟩) (k + 1) cN) (is ++ [(⟨x1, x2, x3⟩ : Ins)]).length (insCells (is ++ [(⟨x1, x2, x3⟩ : Ins)]))) := (by show World.ownsRow _ _ _ _ _ _ _; rw [insCells_app, show (is ++ [(⟨x1, x2, x3⟩ : Ins)]).length = k + 1 by simp [his']]; rw [his'] at hown4; exact hown4)
                     clear hfar hg3 hown4 hgrow4))
              all_goals
                go_wp2_with fail
                go_roundw
              all_goals first
                | exact ⟨k + 1, m3, d3, _, is ++ [⟨x1, x2, x3⟩], by go_num, by omega, by simp [his'], HB4.out.grown (grown_set _ _ _ _) (fun z hz => by cases hz; omega), HF4.out.grown (grown_set _ _ _ _) (fun z hz => by cases hz; right; omega), HX4.out.grown (grown_set _ _ _ _) (fun z hz => by cases hz; right; omega), (by show _ = _; rw [heap_set_same HK4.out]; rfl), owns_grown HO4.out (grown_set _ _ _ _) (fun z hz e => by cases hz; have := (owns_lt HO4.out _ e).1; omega), HS3, HT3, (by have := heap_lt HK4.out; simp; omega)⟩
                | (simp [intOf]; omega)
            · obtain rfl : k = q := by omega
              have hT := HT.out
              rw [Nat.sub_self, kCode_zero] at hT
              have HT' : Hid (Tied l bb (kFuns main ts ((fs ++ [(⟨c1, c2, c3, cv, is⟩ : FunD)]).map stripF) (m - (j + 1)) ll)) := by show Tied _ _ _; rw [List.map_append]; exact hT
              clear hT HT
              obtain ⟨ca, cn, cc, rfl⟩ := owns_slice HO.out
              obtain ⟨p0, p1, p2⟩ := ins_cells HB.out.pr
              obtain ⟨k0, k1, k2, k3⟩ := fun_cells HK.out
              have hlt6 := HB.out.lt
              go_wp2_with (at_builtin; refine wpList_append_lies _ rfl _ _ 22 rfl V5.heap.size 48 if0 (.agg #[.int .i64 0, .int .i64 0, .int .i64 0, .slice none 0 0]) 4 48 Tryz.underlying22 hif hfz0 hfz1 hfz2 rfl (by decide) _ fs.length (funCells fs) rfl (HF.out.own.alloc _) ⟨V12.heap.size, 0, none⟩ 1 1 [.int .i64 c1, .int .i64 c2, .int .i64 c3, .slice ca cn cc] rfl rfl ?c1 ?c2 (by decide) ?c3 ?c4 ?c5 _ rfl ?_)
              case c1 => exact World.news_of_block (cs := #[.int .i64 c1, .int .i64 c2, .int .i64 c3, .slice ca cn cc]) (new_heap V12 _)
              case c2 => intro u hu; simp at hu; rcases hu with rfl | rfl | rfl | rfl <;> rfl
              case c3 => unfold maxLen; omega
              case c4 => omega
              case c5 => simp; omega
              intro g cap w2 hown2 hgrow2 hat2 hlt2
              have hg1 := grown_alloc V12 (.cells #[.int .i64 c1, .int .i64 c2, .int .i64 c3, .slice ca cn cc] 48)
              have hfar : ∀ z, fv.ownBlock = some z → V5.heap.size ≤ z := fun z hz => (owns_lt HF.out.own z hz).1
              have HB2 := Lib.hid ((HB.out.grown hg1 (by nofun)).grown hgrow2 (fun z hz => by have := hfar z hz; omega))
              have HX2 := Lib.hid ((HX.out.grown hg1 (by nofun)).grown hgrow2 (fun z hz => by have := hfar z hz; right; omega))
              have HF2 := Lib.hid ((HF.out.grown hg1 (by nofun)).push c1 c2 c3 _ is h56 (ownsRow_mono (base' := V6.heap.size) (HO.out.alloc _) (by omega)) g cap _ _ hfs (by simp) hown2 hgrow2 hat2 hlt2)
              have hszw : V5.heap.size ≤ w2.heap.size := by have := hgrow2.size; simp at this; omega
              obtain ⟨s0, s1, s2⟩ := ins_cells HB2.out.pr
              have fz2 : w2.frozen? ⟨w.heap.size + 1 + 1, 0, none⟩ = false := Lib.frozen_of_heap HB2.out.pr 0
              clear hg1 hfar hown2 hgrow2 hat2 HB HX HF HO HK p0 p1 p2 k0 k1 k2 k3
              go_wp2_with fail
              go_roundw
              case rel => exact ⟨j + 1, ll, bb, _, _, by go_num, by omega, by simp [hfs], HB2.out.set 0 _ rfl, (HF2.out.grown (grown_set _ _ _ _) (fun z hz => by cases hz; left; omega)).up, HX2.out.grown (grown_set _ _ _ _) (fun z hz => by cases hz; left; omega), HS, HT', by simpa using hszw⟩
              case measure => simp [intOf]; omega
        · obtain rfl : j = m := by omega
          have hT := HT6.out
          rw [Nat.sub_self, kFuns_zero] at hT
          have HT := Lib.hid hT
          clear hT HT6
          obtain ⟨fa, fn, fc, rfl⟩ := owns_slice HF6.out.own
          obtain ⟨ta, tc, rfl⟩ : ∃ ta tc, tv = .slice ta ts.length tc := by obtain ⟨ta, tc, h, _⟩ := HX6.out.1; exact ⟨ta, tc, h⟩
          obtain ⟨p0, p1, p2⟩ := ins_cells HB6.out.pr
          obtain ⟨z0, z1, z2⟩ := ins_cells HB6.out.rs
          obtain ⟨ra, rc, r0, r1, hlc6, hh6, _⟩ := rd_at HB6.out.rd
          have fz0 : V6.frozen? ⟨w.heap.size, 0, none⟩ = false := Lib.frozen_of_heap HB6.out.rs 0
          have fz1 : V6.frozen? ⟨w.heap.size, 1, none⟩ = false := Lib.frozen_of_heap HB6.out.rs 1
          have fz2 : V6.frozen? ⟨w.heap.size, 2, none⟩ = false := Lib.frozen_of_heap HB6.out.rs 2
          clear hh6
          clear hts
          have hb6 := HB6.out.below
          have hN6 := HB6.out.lt
          obtain ⟨hg, hgr⟩ := HB6.out.ret (.slice fa fn fc) (.slice ta ts.length tc) main
          have hbV := hb6.trans (grown_under hgr (by omega) (fun z hz => by cases hz; exact Nat.le_refl _))
          have hpr := (HF6.out.grown hgr (fun z hz => by cases hz; left; omega)).prog (HX6.out.grown hgr (fun z hz => by cases hz; left; omega)) main
          have HBV := Lib.hid hbV
          have HPR := Lib.hid hpr
          clear hb6 hgr hbV hpr
          cases bb
          · by_cases hl0 : ll.length = 0
            · have hl0' : (ll.length : Int) = 0 := by omega
              have HP : Hid (pBody l = some (strip ⟨fs, ts, main⟩)) := by have := HT.out; rw [if_pos (List.length_eq_zero_iff.1 hl0)] at this; exact this
              go_upto_region 21 with fail
              go_region
              all_goals go_wp2_with fail
              all_goals
                refine bodyPost_ret (v := .tuple #[.agg #[.slice fa fn fc, .slice ta ts.length tc, .int .i64 main], .bool true]) ?_ rfl ⟨_, _, ⟨fs, ts, main⟩, true, rfl, HBV.out, HPR.out, HP.out⟩
                rw [results_cell_tmp (p := 2) (u := 3) (ty := 25) rfl]
                simp [asAddr, run_loadVar_row _ _ _ _ _ _ _ hg Tryz.underlying25 rfl prog_info, Result.andThen]
            · have hl0' : ¬ (ll.length : Int) = 0 := by omega
              have hl0b : (((ll.length : Int)) == 0) = false := beq_eq_false_iff_ne.2 hl0'
              have HP : Hid (pBody l = none) := by have := HT.out; rw [if_neg (fun h => hl0 (by rw [h]; rfl))] at this; exact this
              go_upto_region 21 with fail
              go_region
              all_goals go_wp2_with fail
              all_goals
                refine bodyPost_ret (v := .tuple #[.agg #[.slice fa fn fc, .slice ta ts.length tc, .int .i64 main], .bool false]) ?_ rfl ⟨_, _, ⟨fs, ts, main⟩, false, rfl, HBV.out, HPR.out, HP.out⟩
                rw [results_cell_tmp (p := 2) (u := 3) (ty := 25) rfl]
                simp [asAddr, run_loadVar_row _ _ _ _ _ _ _ hg Tryz.underlying25 rfl prog_info, Result.andThen]
          · have HP : Hid (pBody l = none) := HT.out
            go_upto_region 21 with fail
            go_region
            all_goals go_wp2_with fail
            all_goals
              refine bodyPost_ret (v := .tuple #[.agg #[.slice fa fn fc, .slice ta ts.length tc, .int .i64 main], .bool false]) ?_ rfl ⟨_, _, ⟨fs, ts, main⟩, false, rfl, HBV.out, HPR.out, HP.out⟩
              rw [results_cell_tmp (p := 2) (u := 3) (ty := 25) rfl]
              simp [asAddr, run_loadVar_row _ _ _ _ _ _ _ hg Tryz.underlying25 rfl prog_info, Result.andThen]
end Go.Proofs.YtidffjlpldalpaaGreatDoor
