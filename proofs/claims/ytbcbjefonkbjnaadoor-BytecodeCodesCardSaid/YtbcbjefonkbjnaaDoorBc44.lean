/- body of the reference: a program is read as the plain parser says. -/
import Derived.Test.YtbcbjefonkbjnaaDoorBc43
namespace Go.Proofs.YtbcbjefonkbjnaaDoor
open Go Go.RowKit

theorem ownsRow_drew {V : World} {B : Nat} {e : TypeId} {s n : Nat} {v : Value} {xs : List Value} (h : V.ownsRow B e s v n xs) : V.drew.ownsRow B e s v n xs := h
theorem grown_undrew {V V' : World} {o : Obj} {r : Option Nat} (h : (V.drew.alloc o).grownBy V' r) : (V.alloc o).grownBy V' r := ⟨h.os, h.tape, h.output, h.size, h.block⟩
theorem conv_at {u : World} {ab : Option Addr} {cb : Nat} (l : List Int) (h : IsRow u (.slice ab l.length cb) l.length (u8s l)) (a2 k : Nat) (hk : 0 < k) (hle : a2 + k ≤ l.length) : ∃ b off, ab = some ⟨b, off, none⟩ ∧ ∀ c', (convert 47 9 (.slice (some ⟨b, off + a2, none⟩) k c')).run Tryd.prog u = .ok (.string (strOf ((l.drop a2).take k))) u := by
  obtain ⟨a, c, hv, hlc, hl⟩ := h
  obtain ⟨b, off, ha, hlt, hc⟩ := hl (by omega)
  refine ⟨b, off, (Value.slice.inj hv).1.trans ha, fun c' => conv_str k c' _ (by rw [List.length_take, List.length_drop]; omega) (fun _ => ⟨b, off + a2, rfl, fun j hj => ?_⟩)⟩
  rw [Nat.add_assoc, hc (a2 + j) (by rw [u8s_length]; omega), u8s_at l _ (by omega)]
  simp [List.getD, hj]
theorem conv_0 (u : World) (A : Option Addr) (c : Nat) (l : List Int) : (convert 47 9 (.slice A 0 c)).run Tryd.prog u = .ok (.string (strOf (l.take 0))) u := conv_str 0 c _ (by simp) (fun h => absurd h (by decide))
theorem kText_yes (K : ByteArray → List Int → Option ProgS) (k a2 : Nat) (l : List Int) (hk : k ≤ l.length - a2) (h : quotedB (strOf ((l.drop a2).take k)) = true) : kText K k (l.drop a2) = K (strOf ((l.drop a2).take k)) (l.drop (a2 + k)) := by
  unfold kText; rw [if_pos (by rw [List.length_drop]; exact hk), if_pos h, List.drop_drop]
theorem kText_no (K : ByteArray → List Int → Option ProgS) (k a2 : Nat) (l : List Int) (h : quotedB (strOf ((l.drop a2).take k)) = false) : kText K k (l.drop a2) = none := by
  unfold kText; rw [h]; split <;> rfl
set_option maxHeartbeats 4000000 in
set_option maxRecDepth 100000 in
theorem rbody_any (v : Value) (l : List Int) (w : World) (h : IsRow w v l.length (u8s l)) (hs : Small l) :
    Calls Tryd.prog 50 #[v] w (BodyOk l w) := by
  have HQ := Lib.hid (q_start w)
  have hv0 : IsRow ((w.alloc (.cells #[.slice none 0 0, .slice none 0 0, .int .i64 0] 25)).alloc (.cells #[.slice none 0 0, .slice none 0 0, .int .i64 0] 25)) v l.length (u8s l) := h.below HQ.out.below
  obtain ⟨is0, his, hsz0, hsz1, hsz2⟩ := info_parts info_str
  obtain ⟨ii0, hii, hiz0, hiz1, hiz2⟩ := info_parts info_instr
  obtain ⟨if0, hif, hfz0, hfz1, hfz2⟩ := info_parts info_fun
  have Hs := Lib.hid hs
  have Hv := Lib.hid h
  have Hv0 := Lib.hid hv0
  obtain ⟨ab, cb, rfl, hlcb, _⟩ := h
  have hlen : l.length ≤ 20000 := hs.2
  have HG : Hid (∀ (u : World) (k : Nat), IsRow u (.slice ab l.length cb) l.length (u8s l) → k ≤ l.length → Calls Tryd.prog 66 #[.slice ab l.length cb, .int .i64 k] u (GetOk (getT l k) u)) := fun u k hu hk => rget_any _ l k u hu Hs.out.1 (by omega) hk
  clear hs hv0
  go_enter Tryd.func50, Tryd.ntmps50
  go_wp2_with fail
  generalize ((w.alloc (.cells #[.slice none 0 0, .slice none 0 0, .int .i64 0] 25)).alloc (.cells #[.slice none 0 0, .slice none 0 0, .int .i64 0] 25)) = V1 at *
  refine (HG.out V1 0 Hv0.out (Nat.zero_le _)).mono ?_
  rintro e w' ⟨rfl, rfl⟩
  have fz0 : V1.frozen? ⟨w.heap.size, 0, none⟩ = false := Lib.frozen_of_heap HQ.out.rs 0
  have fz1 : V1.frozen? ⟨w.heap.size, 1, none⟩ = false := Lib.frozen_of_heap HQ.out.rs 1
  have fz2 : V1.frozen? ⟨w.heap.size, 2, none⟩ = false := Lib.frozen_of_heap HQ.out.rs 2
  obtain ⟨p0, p1, p2⟩ := ins_cells HQ.out.pr
  obtain ⟨z0, z1, z2⟩ := ins_cells HQ.out.rs
  have HF0 := Lib.hid (FSt.nil V1)
  have hown0 : V1.ownsRow (w.heap.size + 1 + 1) 9 1 (.slice none 0 0) ([] : List ByteArray).length (strCells []) := ⟨rfl, .inl ⟨rfl, rfl⟩⟩
  have hlt1 := HQ.out.lt
  rcases getT_read l 0 (Nat.zero_le _) with ⟨hg1, hg2⟩ | ⟨main, a1, hg1, hg2, ha0, ha1, hm0, hm1⟩
  · have HP : Hid (pBody l = none) := by show _ = _; rw [body_next]; exact nextN_none _ _ hg1
    rw [hg2]
    simp only
    have hd := HQ.out.done HF0.out (RowR.of_owns hown0) (by omega) (by omega)
    have hr := (HQ.out.ret (.slice none 0 0) (.slice none 0 0) 0).1
    have HD := Lib.hid hd
    have HR := Lib.hid hr
    clear hd hr
    go_wp2_with fail
    refine bodyPost_ret (v := .tuple #[.agg #[.slice none 0 0, .slice none 0 0, .int .i64 0], .bool false]) ?_ rfl ⟨_, _, ⟨[], [], 0⟩, false, rfl, HD.out.1, HD.out.2, HP.out⟩
    rw [results_cell_tmp (p := 2) (u := 3) (ty := 25) rfl]
    simp [asAddr, run_loadVar_row _ _ _ _ _ _ _ HR.out Tryd.underlying25 rfl prog_info, Result.andThen]
  · have HP : Hid (pBody l = nextC (fun nt => kTexts main [] nt) (l.drop a1)) := by show _ = _; rw [body_next]; exact nextN_some _ _ _ _ hg1
    rw [hg2]
    simp only
    have hneg : ((a1 : Int) < 0) = False := eq_false (by omega)
    have fp2 : V1.frozen? ⟨w.heap.size + 1, 2, none⟩ = false := Lib.frozen_of_heap HQ.out.pr 2
    go_upto_region 6 with fail
    have HQ2 := Lib.hid (HQ.out.set 2 (.int .i64 main) rfl)
    have HF2 := Lib.hid (HF0.out.grown (grown_set V1 (w.heap.size + 1) 2 (.int .i64 main)) (fun q hq => by cases hq; left; omega))
    have HO2 := Lib.hid (owns_grown hown0 (grown_set V1 (w.heap.size + 1) 2 (.int .i64 main)) (fun q hq e => by cases e))
    have Hv2 := Lib.hid (Hv.out.below HQ2.out.below)
    clear p0 p1 p2 z0 z1 z2 fz0 fz1 fz2 fp2 HQ HF0 hown0 Hv0 hneg
    generalize V1.setCell ⟨w.heap.size + 1, 2, none⟩ (.int .i64 main) = V2 at *
    have HQ := HQ2
    clear HQ2
    go_cut [7, 6] from 27 to 31 (fun v7 v6 wx => wx = V2 ∧ ∃ many atv : Int, v7 = .int .i64 many ∧ v6 = .int .i64 atv ∧ -4503599627370496 ≤ many ∧ many ≤ 4503599627370496 ∧ -1 ≤ atv ∧ atv ≤ l.length ∧ (((atv < 0 ∨ many < 0 ∨ (l.length : Int) < many) ∧ pBody l = none) ∨ ∃ n a2 : Nat, many = n ∧ atv = a2 ∧ n ≤ l.length ∧ a2 ≤ l.length ∧ pBody l = (kTexts main []) n (l.drop a2)))
    case first =>
      go_wp2_with fail
      refine (HG.out V2 a1 Hv2.out (by omega)).mono ?_
      rintro e w' ⟨rfl, rfl⟩
      have HC : Hid (∃ many atv : Int, getT l a1 = (many, atv) ∧ -4503599627370496 ≤ many ∧ many ≤ 4503599627370496 ∧ -1 ≤ atv ∧ atv ≤ l.length ∧ (((atv < 0 ∨ many < 0 ∨ (l.length : Int) < many) ∧ pBody l = none) ∨ ∃ n a2 : Nat, many = n ∧ atv = a2 ∧ n ≤ l.length ∧ a2 ≤ l.length ∧ pBody l = (kTexts main []) n (l.drop a2))) := by
        rcases getT_read l a1 (by omega) with ⟨hg1, hg2⟩ | ⟨many, a2, hg1, hg2, hb0, hb1, hb2, hb3⟩
        · exact ⟨_, _, hg2, by decide, by decide, by decide, by omega, .inl ⟨.inl (by decide), by rw [HP.out, nextC_eq]; exact nextN_none _ _ hg1⟩⟩
        · have HP1 : pBody l = if 0 ≤ many then (kTexts main []) many.toNat (l.drop a2) else none := by rw [HP.out, nextC_eq]; exact nextN_some _ _ _ _ hg1
          refine ⟨_, _, hg2, hb2, hb3, by omega, by omega, ?_⟩
          by_cases hm : many < 0
          · exact .inl ⟨.inr (.inl hm), by rw [HP1, if_neg (by omega)]⟩
          · rw [if_pos (by omega)] at HP1
            by_cases hl : (l.length : Int) < many
            · exact .inl ⟨.inr (.inr hl), by rw [HP1]; exact kTexts_few _ _ _ _ (by rw [List.length_drop]; omega)⟩
            · exact .inr ⟨many.toNat, a2, by omega, rfl, by omega, hb1, HP1⟩
      generalize getT l a1 = tt at *
      obtain ⟨many, atv⟩ := tt
      simp only
      go_wp2_with fail
      go_meet
      obtain ⟨m2, t2, e, h⟩ := HC.out
      cases e
      exact ⟨rfl, _, _, rfl, rfl, h⟩
    case rest =>
      obtain ⟨rfl, many, atv, rfl, rfl, hm0', hm1', ht0, ht1, hc0⟩ := hcut
      clear HP
      go_upto_region 7 with fail
      go_cut [43] from 32 to 43 (fun vb wx => wx = wc ∧ ((vb = .bool true ∧ pBody l = none) ∨ ∃ n a2 : Nat, vb = .bool false ∧ many = n ∧ atv = a2 ∧ n ≤ l.length ∧ a2 ≤ l.length ∧ pBody l = (kTexts main []) n (l.drop a2)))
      case first =>
        rcases hc0 with ⟨hc, hP⟩ | ⟨n, a2, rfl, rfl, hn, ha2, hP⟩
        · have HP2 := Lib.hid hP
          clear hP
          by_cases h1 : atv < 0
          · have h1' : (atv < 0) = True := eq_true h1
            clear hc
            go_wp2_with fail
            go_meet
            exact ⟨rfl, .inl ⟨rfl, HP2.out⟩⟩
          · have h1' : (atv < 0) = False := eq_false h1
            by_cases h2 : many < 0
            · have h2' : (many < 0) = True := eq_true h2
              clear hc
              go_wp2_with fail
              go_meet
              exact ⟨rfl, .inl ⟨rfl, HP2.out⟩⟩
            · have h2' : (many < 0) = False := eq_false h2
              have h3' : ((l.length : Int) < many) = True := eq_true (by omega)
              clear hc
              go_wp2_with fail
              go_meet
              exact ⟨rfl, .inl ⟨rfl, HP2.out⟩⟩
        · have HP2 := Lib.hid hP
          clear hP
          have h1' : ((a2 : Int) < 0) = False := eq_false (by omega)
          have h2' : ((n : Int) < 0) = False := eq_false (by omega)
          have h3' : (l.length < n) = False := eq_false (by omega)
          go_wp2_with fail
          go_meet
          exact ⟨rfl, .inr ⟨n, a2, rfl, rfl, rfl, hn, ha2, HP2.out⟩⟩
      case rest =>
        obtain ⟨rfl, hc⟩ := hcut
        clear hm0' hm1' ht0 ht1 hc0
        rcases hc with ⟨rfl, hP⟩ | ⟨n, a2, rfl, rfl, rfl, hn, ha2, hP⟩
        · have HP2 := Lib.hid hP
          clear hP
          have hltq := HQ.out.lt
          have fz0 : wc.frozen? ⟨w.heap.size, 0, none⟩ = false := Lib.frozen_of_heap HQ.out.rs 0
          have fz1 : wc.frozen? ⟨w.heap.size, 1, none⟩ = false := Lib.frozen_of_heap HQ.out.rs 1
          have fz2 : wc.frozen? ⟨w.heap.size, 2, none⟩ = false := Lib.frozen_of_heap HQ.out.rs 2
          obtain ⟨p0, p1, p2⟩ := ins_cells HQ.out.pr
          obtain ⟨z0, z1, z2⟩ := ins_cells HQ.out.rs
          have hd := HQ.out.done HF2.out (RowR.of_owns HO2.out) (by omega) (by omega)
          have hr := (HQ.out.ret (.slice none 0 0) (.slice none 0 0) main).1
          have HD := Lib.hid hd
          have HR := Lib.hid hr
          clear hd hr
          go_wp2_with fail
          refine bodyPost_ret (v := .tuple #[.agg #[.slice none 0 0, .slice none 0 0, .int .i64 main], .bool false]) ?_ rfl ⟨_, _, ⟨[], [], main⟩, false, rfl, HD.out.1, HD.out.2, HP2.out⟩
          rw [results_cell_tmp (p := 2) (u := 3) (ty := 25) rfl]
          simp [asAddr, run_loadVar_row _ _ _ _ _ _ _ HR.out Tryd.underlying25 rfl prog_info, Result.andThen]

        · have HP2 := Lib.hid hP
          clear hP
          go_wp2_with fail
          rename World => V4
          go_loopw [6, 8] (fun av i wr => ∃ (j a : Nat) (tv : Value) (ts : List ByteArray), i = .int .i64 j ∧ av = .int .i64 a ∧ j ≤ n ∧ a ≤ l.length ∧ ts.length = j ∧ Hid (QSt w wr (.slice none 0 0) tv main) ∧ Hid (wr.ownsRow (w.heap.size + 1 + 1) 9 1 tv ts.length (strCells ts)) ∧ Hid (pBody l = kTexts main ts (n - j) (l.drop a))) (fun _ i _ => n - (intOf i).toNat)
          case atStart => exact ⟨0, a2, _, [], rfl, rfl, Nat.zero_le _, ha2, rfl, HQ, HO2, HP2⟩
          case round =>
            rename World => V5
            clear HQ HO2 HF2 HP2 Hv2 ha2
            obtain ⟨j, a, tv, ts, rfl, rfl, hj, ha, hts, HQ, Hown, HP0⟩ := hrel
            obtain ⟨ta, tn, tc, rfl⟩ := owns_slice Hown.out
            have Hv5 := Lib.hid (Hv.out.below HQ.out.below)
            have hN5 := HQ.out.lt
            by_cases hjn : j < n
            · have HP : Hid (pBody l = nextC (kText (fun s l1 => kTexts main (ts ++ [s]) (n - (j + 1)) l1)) (l.drop a)) := by show _ = _; rw [HP0.out, ← kTexts_next, show n - (j + 1) + 1 = n - j by omega]
              clear HP0
              have hji : (j : Int) < (n : Int) := by omega
              go_upto_region 12 with fail
              go_cut [5, 6] from 51 to 55 (fun v5 v6 wx => wx = V5 ∧ ∃ many atv : Int, v5 = .int .i64 many ∧ v6 = .int .i64 atv ∧ -4503599627370496 ≤ many ∧ many ≤ 4503599627370496 ∧ -1 ≤ atv ∧ atv ≤ l.length ∧ (((atv < 0 ∨ many < 0 ∨ (l.length : Int) - atv < many) ∧ pBody l = none) ∨ ∃ k a2 : Nat, many = k ∧ atv = a2 ∧ k ≤ l.length - a2 ∧ a2 ≤ l.length ∧ pBody l = (kText (fun s l1 => kTexts main (ts ++ [s]) (n - (j + 1)) l1)) k (l.drop a2)))
              case first =>
                go_wp2_with fail
                refine (HG.out V5 a Hv5.out ha).mono ?_
                rintro e w' ⟨rfl, rfl⟩
                have HC : Hid (∃ many atv : Int, getT l a = (many, atv) ∧ -4503599627370496 ≤ many ∧ many ≤ 4503599627370496 ∧ -1 ≤ atv ∧ atv ≤ l.length ∧ (((atv < 0 ∨ many < 0 ∨ (l.length : Int) - atv < many) ∧ pBody l = none) ∨ ∃ k a2 : Nat, many = k ∧ atv = a2 ∧ k ≤ l.length - a2 ∧ a2 ≤ l.length ∧ pBody l = (kText (fun s l1 => kTexts main (ts ++ [s]) (n - (j + 1)) l1)) k (l.drop a2))) := by
                  rcases getT_read l a ha with ⟨hg1, hg2⟩ | ⟨many, a2, hg1, hg2, hb0, hb1, hb2, hb3⟩
                  · exact ⟨_, _, hg2, by decide, by decide, by decide, by omega, .inl ⟨.inl (by decide), by rw [HP.out, nextC_eq]; exact nextN_none _ _ hg1⟩⟩
                  · have HP1 : pBody l = if 0 ≤ many then (kText (fun s l1 => kTexts main (ts ++ [s]) (n - (j + 1)) l1)) many.toNat (l.drop a2) else none := by rw [HP.out, nextC_eq]; exact nextN_some _ _ _ _ hg1
                    refine ⟨_, _, hg2, hb2, hb3, by omega, by omega, ?_⟩
                    by_cases hm : many < 0
                    · exact .inl ⟨.inr (.inl hm), by rw [HP1, if_neg (by omega)]⟩
                    · rw [if_pos (by omega)] at HP1
                      by_cases hl : (l.length : Int) - a2 < many
                      · exact .inl ⟨.inr (.inr hl), by rw [HP1]; exact kText_few _ _ _ (by rw [List.length_drop]; omega)⟩
                      · exact .inr ⟨many.toNat, a2, by omega, rfl, by omega, hb1, HP1⟩
                generalize getT l a = tt at *
                obtain ⟨many, atv⟩ := tt
                simp only
                go_wp2_with fail
                go_meet
                obtain ⟨m2, t2, e, h⟩ := HC.out
                cases e
                exact ⟨rfl, _, _, rfl, rfl, h⟩
              case rest =>
                obtain ⟨rfl, many, atv, rfl, rfl, hm0', hm1', ht0, ht1, hc0⟩ := hcut
                rename World => V5
                clear HP
                go_upto_region 13 with fail
                go_cut [80] from 56 to 80 (fun vb wx => wx = V5 ∧ ((vb = .bool true ∧ pBody l = none) ∨ ∃ k a2 : Nat, vb = .bool false ∧ many = k ∧ atv = a2 ∧ k ≤ l.length - a2 ∧ a2 ≤ l.length ∧ pBody l = kTexts main (ts ++ [strOf ((l.drop a2).take k)]) (n - (j + 1)) (l.drop (a2 + k))))
                case first =>
                  rcases hc0 with ⟨hc, hP⟩ | ⟨k, a2, rfl, rfl, hk, ha2, hP⟩
                  · have HP2 := Lib.hid hP
                    clear hP
                    by_cases h1 : atv < 0
                    · have h1' : (atv < 0) = True := eq_true h1
                      clear hc
                      go_wp2_with fail
                      go_meet
                      exact ⟨rfl, .inl ⟨rfl, HP2.out⟩⟩
                    · have h1' : (atv < 0) = False := eq_false h1
                      by_cases h2 : many < 0
                      · have h2' : (many < 0) = True := eq_true h2
                        clear hc
                        go_wp2_with fail
                        go_meet
                        exact ⟨rfl, .inl ⟨rfl, HP2.out⟩⟩
                      · have h2' : (many < 0) = False := eq_false h2
                        have h3' : ((l.length : Int) - atv < many) = True := eq_true (by omega)
                        clear hc
                        go_wp2_with fail
                        go_meet
                        exact ⟨rfl, .inl ⟨rfl, HP2.out⟩⟩
                  · have HP2 := Lib.hid hP
                    have Hy := Lib.hid (kText_yes (fun s l1 => kTexts main (ts ++ [s]) (n - (j + 1)) l1) k a2 l hk)
                    have Hn := Lib.hid (kText_no (fun s l1 => kTexts main (ts ++ [s]) (n - (j + 1)) l1) k a2 l)
                    clear hP
                    have h1' : ((a2 : Int) < 0) = False := eq_false (by omega)
                    have h2' : ((k : Int) < 0) = False := eq_false (by omega)
                    have h3' : ((l.length : Int) - (a2 : Int) < (k : Int)) = False := eq_false (by omega)
                    have i1 : (a2 : Int) ≤ (a2 : Int) + (k : Int) := by omega
                    have i2 : (a2 : Int) + (k : Int) ≤ (cb : Int) := by omega
                    have i3 : (0 : Int) ≤ (a2 : Int) := by omega
                    have i4 : IntKind.i64.wrap ((a2 : Int) + (k : Int)) = (a2 : Int) + (k : Int) := wrap_ok _ (by omega) (by omega)
                    have i5 : IntKind.i64.wrap ((l.length : Int) - (a2 : Int)) = (l.length : Int) - (a2 : Int) := wrap_ok _ (by omega) (by omega)
                    have i6 : ((a2 : Int) + (k : Int)).toNat = a2 + k := by omega
                    have i7 : a2 + k - a2 = k := by omega
                    by_cases hk0 : 0 < k
                    · obtain ⟨b, off, rfl, hcv⟩ := conv_at l Hv5.out a2 k hk0 (by omega)
                      have hca : (cb = a2) = False := eq_false (by omega)
                      generalize hse : strOf ((l.drop a2).take k) = s at *
                      have Hse := Lib.hid hse
                      clear hse
                      go_wp2_with fail
                      refine (textual_any s _).mono ?_
                      rintro e w' ⟨rfl, rfl⟩
                      obtain ⟨q, hq⟩ : ∃ q, quotedB s = q := ⟨_, rfl⟩
                      have Hq := Lib.hid hq
                      rw [hq]
                      clear hq
                      cases q
                      · go_wp2_with fail
                        go_meet
                        exact ⟨rfl, .inl ⟨rfl, HP2.out.trans (Hn.out Hq.out)⟩⟩
                      · go_wp2_with fail
                        go_meet
                        exact ⟨rfl, .inr ⟨k, a2, rfl, rfl, rfl, hk, ha2, by rw [Hse.out]; exact HP2.out.trans (Hy.out Hq.out)⟩⟩
                    · obtain rfl : k = 0 := by omega
                      have hcv : ∀ A c, _ := fun A c => conv_0 V5 A c (l.drop a2)
                      have h4' : ((l.length : Int) - (a2 : Int) < 0) = False := eq_false (by omega)
                      generalize hse : strOf ((l.drop a2).take 0) = s at *
                      have Hse := Lib.hid hse
                      clear hse
                      obtain ⟨q, hq⟩ : ∃ q, quotedB s = q := ⟨_, rfl⟩
                      have Hq := Lib.hid hq
                      have HT : Hid (∀ u, Calls Tryd.prog 44 #[.string s] u fun e w' => e = .returned (.bool q) ∧ u = w') := fun u => by rw [← hq]; exact textual_any s u
                      clear hq
                      have hca0 : cb = a2 ∨ ¬ cb = a2 := Classical.em _
                      rcases hca0 with hca0 | hca0
                      · have hca : (cb = a2) = True := eq_true hca0
                        clear hca0
                        cases q
                        · go_wp2_with fail
                          refine (HT.out _).mono ?_
                          rintro e w' ⟨rfl, rfl⟩
                          go_wp2_with fail
                          go_meet
                          exact ⟨rfl, .inl ⟨rfl, HP2.out.trans (Hn.out Hq.out)⟩⟩
                        · go_wp2_with fail
                          refine (HT.out _).mono ?_
                          rintro e w' ⟨rfl, rfl⟩
                          go_wp2_with fail
                          go_meet
                          exact ⟨rfl, .inr ⟨0, a2, rfl, rfl, rfl, hk, ha2, by rw [Hse.out]; exact HP2.out.trans (Hy.out Hq.out)⟩⟩
                      · have hca : (cb = a2) = False := eq_false hca0
                        clear hca0
                        cases q
                        · go_wp2_with fail
                          refine (HT.out _).mono ?_
                          rintro e w' ⟨rfl, rfl⟩
                          go_wp2_with fail
                          go_meet
                          exact ⟨rfl, .inl ⟨rfl, HP2.out.trans (Hn.out Hq.out)⟩⟩
                        · go_wp2_with fail
                          refine (HT.out _).mono ?_
                          rintro e w' ⟨rfl, rfl⟩
                          go_wp2_with fail
                          go_meet
                          exact ⟨rfl, .inr ⟨0, a2, rfl, rfl, rfl, hk, ha2, by rw [Hse.out]; exact HP2.out.trans (Hy.out Hq.out)⟩⟩
                case rest =>
                  obtain ⟨rfl, hc⟩ := hcut
                  rename World => V5
                  clear hm0' hm1' ht0 ht1 hc0
                  rcases hc with ⟨rfl, hP⟩ | ⟨k, a2, rfl, rfl, rfl, hk, ha2, hP⟩
                  · have HP2 := Lib.hid hP
                    clear hP
                    have hltq := HQ.out.lt
                    have fz0 : V5.frozen? ⟨w.heap.size, 0, none⟩ = false := Lib.frozen_of_heap HQ.out.rs 0
                    have fz1 : V5.frozen? ⟨w.heap.size, 1, none⟩ = false := Lib.frozen_of_heap HQ.out.rs 1
                    have fz2 : V5.frozen? ⟨w.heap.size, 2, none⟩ = false := Lib.frozen_of_heap HQ.out.rs 2
                    obtain ⟨p0, p1, p2⟩ := ins_cells HQ.out.pr
                    obtain ⟨z0, z1, z2⟩ := ins_cells HQ.out.rs
                    have hd := HQ.out.done (FSt.nil V5) (RowR.of_owns Hown.out) (by omega) (by omega)
                    have hr := (HQ.out.ret (.slice none 0 0) (.slice ta tn tc) main).1
                    have HD := Lib.hid hd
                    have HR := Lib.hid hr
                    clear hd hr
                    go_wp2_with fail
                    refine bodyPost_ret (v := .tuple #[.agg #[.slice none 0 0, .slice ta tn tc, .int .i64 main], .bool false]) ?_ rfl ⟨_, _, ⟨[], ts, main⟩, false, rfl, HD.out.1, HD.out.2, HP2.out⟩
                    rw [results_cell_tmp (p := 2) (u := 3) (ty := 25) rfl]
                    simp [asAddr, run_loadVar_row _ _ _ _ _ _ _ HR.out Tryd.underlying25 rfl prog_info, Result.andThen]

                  · have HP2 := Lib.hid hP
                    clear hP
                    have i1 : (a2 : Int) ≤ (a2 : Int) + (k : Int) := by omega
                    have i2 : (a2 : Int) + (k : Int) ≤ (cb : Int) := by omega
                    have i3 : (0 : Int) ≤ (a2 : Int) := by omega
                    have i4 : IntKind.i64.wrap ((a2 : Int) + (k : Int)) = (a2 : Int) + (k : Int) := wrap_ok _ (by omega) (by omega)
                    have i6 : ((a2 : Int) + (k : Int)).toNat = a2 + k := by omega
                    have i7 : a2 + k - a2 = k := by omega
                    have hak : a2 + k ≤ l.length := by omega
                    obtain ⟨p0, p1, p2⟩ := ins_cells HQ.out.pr
                    have y0 : V5.drew.cell? ⟨w.heap.size + 1, 1, none⟩ = some (.slice ta tn tc) := p1
                    have y1 : ∀ s, (V5.drew.alloc (.cells #[.string s] 9)).cell? ⟨w.heap.size + 1, 1, none⟩ = some (.slice ta tn tc) := fun s => (World.cell?_of_block (a := ⟨w.heap.size + 1, 1, none⟩) ((grown_alloc V5.drew (.cells #[.string s] 9)).block (w.heap.size + 1) hN5 (by nofun))).trans y0
                    go_upto_region 15 with fail
                    go_cut [93] from 82 to 93 (fun v wx => ∃ tv', QSt w wx (.slice none 0 0) tv' main ∧ wx.ownsRow (w.heap.size + 1 + 1) 9 1 tv' (ts ++ [strOf ((l.drop a2).take k)]).length (strCells (ts ++ [strOf ((l.drop a2).take k)])))
                    case first =>
                      by_cases hk0 : 0 < k
                      · obtain ⟨b, off, rfl, hcv⟩ := conv_at (u := V5.drew) l Hv5.out a2 k hk0 (by omega)
                        have hca : (cb = a2) = False := eq_false (by omega)
                        generalize strOf ((l.drop a2).take k) = s at *
                        go_region_law (
                         refine step_append_lies _ (by rfl) _ _ _ (by rfl) (w.heap.size + 1 + 1) 9 is0 (.string ByteArray.empty) 1 16 Tryd.underlying23 his hsz0 hsz1 hsz2 (by rfl) (by decide) _ ts.length (strCells ts) (by rfl) (by exact (ownsRow_drew Hown.out).alloc _) ⟨V5.heap.size, 0, none⟩ 1 1 [.string s] (by rfl) (by rfl) (by exact cell_one_new _ _ _) (by intro u hu; simp at hu; subst hu; rfl) (by decide) (by unfold maxLen; omega) (by omega) (by simp; omega) _ rfl ?_
                         intro g cap w7 hown7 hgrow7 hat7 hlt7
                         have hB7 := (HQ.out.grown (grown_alloc V5 (.cells #[.string s] 9)) (by nofun)).grown (grown_undrew hgrow7) (fun q hq => by have := (owns_lt Hown.out q hq).1; omega)
                         have HB7 := Lib.hid hB7
                         have Hown7 : Hid (w7.ownsRow (w.heap.size + 1 + 1) 9 1 (.slice (some ⟨g, 0, none⟩) (j + 1) cap) (ts ++ [s]).length (strCells (ts ++ [s]))) := (by show World.ownsRow _ _ _ _ _ _ _; rw [strCells_app, show (ts ++ [s]).length = j + 1 by simp [hts]]; rw [hts] at hown7; exact hown7)
                         have s1 := (ins_cells hB7.pr).2.1
                         have fz7 : w7.frozen? ⟨w.heap.size + 1, 1, none⟩ = false := Lib.frozen_of_heap hB7.pr 1
                         clear hB7 hown7 hgrow7 hat7)
                        all_goals
                          go_wp2_with fail
                          go_meet
                          exact ⟨_, HB7.out.set 1 _ rfl, owns_grown Hown7.out (grown_set _ _ _ _) (fun q hq e => by cases hq; have := (owns_lt Hown7.out _ e).1; omega)⟩
                      · obtain rfl : k = 0 := by omega
                        have hcv : ∀ A c, _ := fun A c => conv_0 V5.drew A c (l.drop a2)
                        have j1 : (a2 : Int) ≤ (cb : Int) := by omega
                        have j2 : a2 ≤ cb := by omega
                        have j3 : IntKind.i64.wrap (a2 : Int) = (a2 : Int) := wrap_ok _ (by omega) (by omega)
                        generalize strOf ((l.drop a2).take 0) = s at *
                        have hca0 : cb = a2 ∨ ¬ cb = a2 := Classical.em _
                        rcases hca0 with hca0 | hca0
                        · have hca : (cb = a2) = True := eq_true hca0
                          clear hca0
                          go_region_law (
                         refine step_append_lies _ (by rfl) _ _ _ (by rfl) (w.heap.size + 1 + 1) 9 is0 (.string ByteArray.empty) 1 16 Tryd.underlying23 his hsz0 hsz1 hsz2 (by rfl) (by decide) _ ts.length (strCells ts) (by rfl) (by exact (ownsRow_drew Hown.out).alloc _) ⟨V5.heap.size, 0, none⟩ 1 1 [.string s] (by rfl) (by rfl) (by exact cell_one_new _ _ _) (by intro u hu; simp at hu; subst hu; rfl) (by decide) (by unfold maxLen; omega) (by omega) (by simp; omega) _ rfl ?_
                         intro g cap w7 hown7 hgrow7 hat7 hlt7
                         have hB7 := (HQ.out.grown (grown_alloc V5 (.cells #[.string s] 9)) (by nofun)).grown (grown_undrew hgrow7) (fun q hq => by have := (owns_lt Hown.out q hq).1; omega)
                         have HB7 := Lib.hid hB7
                         have Hown7 : Hid (w7.ownsRow (w.heap.size + 1 + 1) 9 1 (.slice (some ⟨g, 0, none⟩) (j + 1) cap) (ts ++ [s]).length (strCells (ts ++ [s]))) := (by show World.ownsRow _ _ _ _ _ _ _; rw [strCells_app, show (ts ++ [s]).length = j + 1 by simp [hts]]; rw [hts] at hown7; exact hown7)
                         have s1 := (ins_cells hB7.pr).2.1
                         have fz7 : w7.frozen? ⟨w.heap.size + 1, 1, none⟩ = false := Lib.frozen_of_heap hB7.pr 1
                         clear hB7 hown7 hgrow7 hat7)
                          all_goals
                            go_wp2_with fail
                            go_meet
                            exact ⟨_, HB7.out.set 1 _ rfl, owns_grown Hown7.out (grown_set _ _ _ _) (fun q hq e => by cases hq; have := (owns_lt Hown7.out _ e).1; omega)⟩
                        · have hca : (cb = a2) = False := eq_false hca0
                          clear hca0
                          go_region_law (
                         refine step_append_lies _ (by rfl) _ _ _ (by rfl) (w.heap.size + 1 + 1) 9 is0 (.string ByteArray.empty) 1 16 Tryd.underlying23 his hsz0 hsz1 hsz2 (by rfl) (by decide) _ ts.length (strCells ts) (by rfl) (by exact (ownsRow_drew Hown.out).alloc _) ⟨V5.heap.size, 0, none⟩ 1 1 [.string s] (by rfl) (by rfl) (by exact cell_one_new _ _ _) (by intro u hu; simp at hu; subst hu; rfl) (by decide) (by unfold maxLen; omega) (by omega) (by simp; omega) _ rfl ?_
                         intro g cap w7 hown7 hgrow7 hat7 hlt7
                         have hB7 := (HQ.out.grown (grown_alloc V5 (.cells #[.string s] 9)) (by nofun)).grown (grown_undrew hgrow7) (fun q hq => by have := (owns_lt Hown.out q hq).1; omega)
                         have HB7 := Lib.hid hB7
                         have Hown7 : Hid (w7.ownsRow (w.heap.size + 1 + 1) 9 1 (.slice (some ⟨g, 0, none⟩) (j + 1) cap) (ts ++ [s]).length (strCells (ts ++ [s]))) := (by show World.ownsRow _ _ _ _ _ _ _; rw [strCells_app, show (ts ++ [s]).length = j + 1 by simp [hts]]; rw [hts] at hown7; exact hown7)
                         have s1 := (ins_cells hB7.pr).2.1
                         have fz7 : w7.frozen? ⟨w.heap.size + 1, 1, none⟩ = false := Lib.frozen_of_heap hB7.pr 1
                         clear hB7 hown7 hgrow7 hat7)
                          all_goals
                            go_wp2_with fail
                            go_meet
                            exact ⟨_, HB7.out.set 1 _ rfl, owns_grown Hown7.out (grown_set _ _ _ _) (fun q hq e => by cases hq; have := (owns_lt Hown7.out _ e).1; omega)⟩
                    case rest =>
                      obtain ⟨tv', hQ8, hO8⟩ := hcut
                      rename World => V8
                      generalize strOf ((l.drop a2).take k) = s at *
                      have HQ8 := Lib.hid hQ8
                      have HO8 := Lib.hid hO8
                      have hlt8 : (ts ++ [s]).length = j + 1 := by simp [hts]
                      clear hQ8 hO8 HQ Hown y0 y1 p0 p1 p2 Hv5
                      go_wp2_with fail
                      go_roundw
                      case rel => exact ⟨j + 1, a2 + k, tv', ts ++ [s], by go_num, by go_num, by omega, hak, hlt8, HQ8, HO8, HP2⟩
                      case measure => simp [intOf]; omega
            · obtain rfl : j = n := by omega
              have HP : Hid (pBody l = nextC (kFuns main ts []) (l.drop a)) := by show _ = _; rw [HP0.out, Nat.sub_self, kTexts_zero, kNf_next]
              clear HP0
              go_upto_region 17 with fail
              go_cut [7, 6] from 98 to 102 (fun v7 v6 wx => wx = V5 ∧ ∃ many atv : Int, v7 = .int .i64 many ∧ v6 = .int .i64 atv ∧ -4503599627370496 ≤ many ∧ many ≤ 4503599627370496 ∧ -1 ≤ atv ∧ atv ≤ l.length ∧ (((atv < 0 ∨ many < 0 ∨ (l.length : Int) < many) ∧ pBody l = none) ∨ ∃ m a2 : Nat, many = m ∧ atv = a2 ∧ m ≤ l.length ∧ a2 ≤ l.length ∧ pBody l = (kFuns main ts []) m (l.drop a2)))
              case first =>
                go_wp2_with fail
                refine (HG.out V5 a Hv5.out (by omega)).mono ?_
                rintro e w' ⟨rfl, rfl⟩
                have HC : Hid (∃ many atv : Int, getT l a = (many, atv) ∧ -4503599627370496 ≤ many ∧ many ≤ 4503599627370496 ∧ -1 ≤ atv ∧ atv ≤ l.length ∧ (((atv < 0 ∨ many < 0 ∨ (l.length : Int) < many) ∧ pBody l = none) ∨ ∃ m a2 : Nat, many = m ∧ atv = a2 ∧ m ≤ l.length ∧ a2 ≤ l.length ∧ pBody l = (kFuns main ts []) m (l.drop a2))) := by
                  rcases getT_read l a (by omega) with ⟨hg1, hg2⟩ | ⟨many, a2, hg1, hg2, hb0, hb1, hb2, hb3⟩
                  · exact ⟨_, _, hg2, by decide, by decide, by decide, by omega, .inl ⟨.inl (by decide), by rw [HP.out, nextC_eq]; exact nextN_none _ _ hg1⟩⟩
                  · have HP1 : pBody l = if 0 ≤ many then (kFuns main ts []) many.toNat (l.drop a2) else none := by rw [HP.out, nextC_eq]; exact nextN_some _ _ _ _ hg1
                    refine ⟨_, _, hg2, hb2, hb3, by omega, by omega, ?_⟩
                    by_cases hm : many < 0
                    · exact .inl ⟨.inr (.inl hm), by rw [HP1, if_neg (by omega)]⟩
                    · rw [if_pos (by omega)] at HP1
                      by_cases hl : (l.length : Int) < many
                      · exact .inl ⟨.inr (.inr hl), by rw [HP1]; exact kFuns_few _ _ _ _ _ (by rw [List.length_drop]; omega)⟩
                      · exact .inr ⟨many.toNat, a2, by omega, rfl, by omega, hb1, HP1⟩
                generalize getT l a = tt at *
                obtain ⟨many, atv⟩ := tt
                simp only
                go_wp2_with fail
                go_meet
                obtain ⟨m2, t2, e, h⟩ := HC.out
                cases e
                exact ⟨rfl, _, _, rfl, rfl, h⟩
              case rest =>
                obtain ⟨rfl, many, atv, rfl, rfl, hm0', hm1', ht0, ht1, hc0⟩ := hcut
                clear HP
                go_upto_region 18 with fail
                go_cut [114] from 103 to 114 (fun vb wx => wx = wc ∧ ((vb = .bool true ∧ pBody l = none) ∨ ∃ m a2 : Nat, vb = .bool false ∧ many = m ∧ atv = a2 ∧ m ≤ l.length ∧ a2 ≤ l.length ∧ pBody l = (kFuns main ts []) m (l.drop a2)))
                case first =>
                  rcases hc0 with ⟨hc, hP⟩ | ⟨m, a2, rfl, rfl, hm, ha2, hP⟩
                  · have HP2 := Lib.hid hP
                    clear hP
                    by_cases h1 : atv < 0
                    · have h1' : (atv < 0) = True := eq_true h1
                      clear hc
                      go_wp2_with fail
                      go_meet
                      exact ⟨rfl, .inl ⟨rfl, HP2.out⟩⟩
                    · have h1' : (atv < 0) = False := eq_false h1
                      by_cases h2 : many < 0
                      · have h2' : (many < 0) = True := eq_true h2
                        clear hc
                        go_wp2_with fail
                        go_meet
                        exact ⟨rfl, .inl ⟨rfl, HP2.out⟩⟩
                      · have h2' : (many < 0) = False := eq_false h2
                        have h3' : ((l.length : Int) < many) = True := eq_true (by omega)
                        clear hc
                        go_wp2_with fail
                        go_meet
                        exact ⟨rfl, .inl ⟨rfl, HP2.out⟩⟩
                  · have HP2 := Lib.hid hP
                    clear hP
                    have h1' : ((a2 : Int) < 0) = False := eq_false (by omega)
                    have h2' : ((m : Int) < 0) = False := eq_false (by omega)
                    have h3' : (l.length < m) = False := eq_false (by omega)
                    go_wp2_with fail
                    go_meet
                    exact ⟨rfl, .inr ⟨m, a2, rfl, rfl, rfl, hm, ha2, HP2.out⟩⟩
                case rest =>
                  obtain ⟨rfl, hc⟩ := hcut
                  clear hm0' hm1' ht0 ht1 hc0
                  rcases hc with ⟨rfl, hP⟩ | ⟨m, a2, rfl, rfl, rfl, hm, ha2, hP⟩
                  · have HP2 := Lib.hid hP
                    clear hP
                    have hltq := HQ.out.lt
                    have fz0 : wc.frozen? ⟨w.heap.size, 0, none⟩ = false := Lib.frozen_of_heap HQ.out.rs 0
                    have fz1 : wc.frozen? ⟨w.heap.size, 1, none⟩ = false := Lib.frozen_of_heap HQ.out.rs 1
                    have fz2 : wc.frozen? ⟨w.heap.size, 2, none⟩ = false := Lib.frozen_of_heap HQ.out.rs 2
                    obtain ⟨p0, p1, p2⟩ := ins_cells HQ.out.pr
                    obtain ⟨z0, z1, z2⟩ := ins_cells HQ.out.rs
                    have hd := HQ.out.done (FSt.nil wc) (RowR.of_owns Hown.out) (by omega) (by omega)
                    have hr := (HQ.out.ret (.slice none 0 0) (.slice ta tn tc) main).1
                    have HD := Lib.hid hd
                    have HR := Lib.hid hr
                    clear hd hr
                    go_wp2_with fail
                    refine bodyPost_ret (v := .tuple #[.agg #[.slice none 0 0, .slice ta tn tc, .int .i64 main], .bool false]) ?_ rfl ⟨_, _, ⟨[], ts, main⟩, false, rfl, HD.out.1, HD.out.2, HP2.out⟩
                    rw [results_cell_tmp (p := 2) (u := 3) (ty := 25) rfl]
                    simp [asAddr, run_loadVar_row _ _ _ _ _ _ _ HR.out Tryd.underlying25 rfl prog_info, Result.andThen]

                  · have HP2 := Lib.hid hP
                    clear hP
                    go_wp2_with fail
                    rename World => V6
                    have hltq := HQ.out.lt
                    have HFs := Lib.hid (FSt.nil V6)
                    have HXs := Lib.hid (RowR.of_owns Hown.out)
                    clear Hown Hv5
                    go_loopw [6, 9] (fun av i wr => ∃ (j a : Nat) (fv : Value) (fs : List FunD), i = .int .i64 j ∧ av = .int .i64 a ∧ j ≤ m ∧ a ≤ l.length ∧ fs.length = j ∧ Hid (QSt w wr fv (.slice ta tn tc) main) ∧ Hid (FSt wr V6.heap.size wr.heap.size fv fs) ∧ Hid (RowR wr (w.heap.size + 1 + 1) V6.heap.size (.slice ta tn tc) ts.length (strCells ts)) ∧ Hid (pBody l = kFuns main ts (fs.map stripF) (m - j) (l.drop a)) ∧ V6.heap.size ≤ wr.heap.size) (fun _ i _ => m - (intOf i).toNat)
                    case atStart => exact ⟨0, a2, _, [], rfl, rfl, Nat.zero_le _, ha2, rfl, HQ, HFs, HXs, HP2, Nat.le_refl _⟩
                    case round =>
                      rename World => V7
                      clear HQ HFs HXs HP2 ha2
                      obtain ⟨j, a, fv, fs, rfl, rfl, hj, ha, hfs, HQ, HF, HX, HP0, h67⟩ := hrel
                      obtain ⟨fa, fn, fc, rfl⟩ := owns_slice HF.out.own
                      by_cases hjm : j < m
                      · have HP : Hid (pBody l = nextNs (headK main ts (fs.map stripF) (m - (j + 1))) [] 4 (l.drop a)) := by show _ = _; rw [HP0.out, show m - j = m - (j + 1) + 1 by omega, kFuns_heads]
                        clear HP0
                        go_upto_region 24 with fail
                        have hga := grown_alloc V7 (.cells #[.int .i64 0, .int .i64 0, .int .i64 0, .int .i64 0] 104)
                        have HA : Hid (ArrOk (V7.alloc (.cells #[.int .i64 0, .int .i64 0, .int .i64 0, .int .i64 0] 104)) V7.heap.size 104 4 []) := arr4 _ _ _ rfl
                        have hz8 : V7.heap.size < (V7.alloc (.cells #[.int .i64 0, .int .i64 0, .int .i64 0, .int .i64 0] 104)).heap.size := by simp
                        have HQ' := Lib.hid (HQ.out.grown hga (by nofun))
                        have HF' := Lib.hid (HF.out.grown hga (by nofun))
                        have HX' := Lib.hid (HX.out.grown hga (by nofun))
                        clear HQ HF HX hga
                        have HQ := HQ'
                        have HF := HF'
                        have HX := HX'
                        clear HQ' HF' HX'
                        generalize V7.alloc (.cells #[.int .i64 0, .int .i64 0, .int .i64 0, .int .i64 0] 104) = V8 at *
                        go_wp2_with fail
                        go_loopw [6, 11] (fun av i wr => ∃ (k a : Nat) (hs : List Int), i = .int .i64 k ∧ av = .int .i64 a ∧ k ≤ 4 ∧ a ≤ l.length ∧ hs.length = k ∧ Hid (OnlyAt V7.heap.size V8 wr) ∧ Hid (ArrOk wr V7.heap.size 104 4 hs) ∧ Hid (pBody l = nextNs (headK main ts (fs.map stripF) (m - (j + 1))) hs (4 - k) (l.drop a))) (fun _ i _ => 4 - (intOf i).toNat)
                        case atStart => exact ⟨0, a, [], rfl, rfl, by decide, ha, rfl, OnlyAt.refl _ _, HA, HP⟩
                        case round =>
                          rename World => V9
                          clear HA HP ha
                          obtain ⟨k, a, hs, rfl, rfl, hk, ha, hhs, HO, HA, HP0⟩ := hrel
                          have HQ1 := Lib.hid (HQ.out.grown (grown_only HO.out) (fun z hz => by cases hz; omega))
                          have Hv9 := Lib.hid (Hv.out.below HQ1.out.below)
                          have hz9 : Hid (V9.heap.size = V8.heap.size) := HO.out.size
                          by_cases hk4 : k < 4
                          · obtain ⟨⟨x0, hx0⟩, hxf⟩ := HA.out.cell k hk4
                            have hri : (k : Int) < 4 := by omega
                            have hri0 : (0 : Int) ≤ (k : Int) := by omega
                            have HP : Hid (pBody l = nextN (fun x => nextNs (headK main ts (fs.map stripF) (m - (j + 1))) (hs ++ [x]) (4 - (k + 1))) (l.drop a)) := by show _ = _; rw [HP0.out, show 4 - k = 4 - (k + 1) + 1 by omega]; rfl
                            clear HP0
                            go_wp2_with fail
                            refine (HG.out V9 a Hv9.out ha).mono ?_
                            rintro e w' ⟨rfl, rfl⟩
                            rcases getT_read l a ha with ⟨hg1, hg2⟩ | ⟨x, a2, hg1, hg2, hb0, hb1, hb2, hb3⟩
                            · have HP2 : Hid (pBody l = none) := by show _ = _; rw [HP.out]; exact nextN_none _ _ hg1
                              rw [hg2]
                              simp only
                              have HOf := HO.out.trans (OnlyAt.set V9 V7.heap.size k (.int .i64 0))
                              have HQ0 := HQ
                              have HQ := Lib.hid (HQ0.out.grown (grown_only HOf) (fun z hz => by cases hz; omega))
                              have HF0 := HF
                              have HF := Lib.hid (HF0.out.grown (grown_only HOf) (fun z hz => by cases hz; right; omega))
                              have HX0 := HX
                              have HX := Lib.hid (HX0.out.grown (grown_only HOf) (fun z hz => by cases hz; right; omega))
                              clear HQ0 HF0 HX0
                              have fz0 : (V9.setCell ⟨V7.heap.size, k, none⟩ (.int .i64 0)).frozen? ⟨w.heap.size, 0, none⟩ = false := Lib.frozen_of_heap HQ.out.rs 0
                              have fz1 : (V9.setCell ⟨V7.heap.size, k, none⟩ (.int .i64 0)).frozen? ⟨w.heap.size, 1, none⟩ = false := Lib.frozen_of_heap HQ.out.rs 1
                              have fz2 : (V9.setCell ⟨V7.heap.size, k, none⟩ (.int .i64 0)).frozen? ⟨w.heap.size, 2, none⟩ = false := Lib.frozen_of_heap HQ.out.rs 2
                              obtain ⟨p0, p1, p2⟩ := ins_cells HQ.out.pr
                              obtain ⟨z0, z1, z2⟩ := ins_cells HQ.out.rs
                              have hd := HQ.out.done HF.out HX.out (by omega) (by omega)
                              have hr := (HQ.out.ret (.slice fa fn fc) (.slice ta tn tc) main).1
                              have HD := Lib.hid hd
                              have HR := Lib.hid hr
                              clear hd hr
                              go_wp2_with fail
                              refine bodyPost_ret (v := .tuple #[.agg #[.slice fa fn fc, .slice ta tn tc, .int .i64 main], .bool false]) ?_ rfl ⟨_, _, ⟨fs, ts, main⟩, false, rfl, HD.out.1, HD.out.2, HP2.out⟩
                              rw [results_cell_tmp (p := 2) (u := 3) (ty := 25) rfl]
                              simp [asAddr, run_loadVar_row _ _ _ _ _ _ _ HR.out Tryd.underlying25 rfl prog_info, Result.andThen]

                            · have HP2 : Hid (pBody l = nextNs (headK main ts (fs.map stripF) (m - (j + 1))) (hs ++ [x]) (4 - (k + 1)) (l.drop a2)) := by show _ = _; rw [HP.out]; exact nextN_some _ _ _ _ hg1
                              have hneg : ((a2 : Int) < 0) = False := eq_false (by omega)
                              rw [hg2]
                              simp only
                              have hxl : (hs ++ [x]).length = k + 1 := by simp [hhs]
                              have HA2 := Lib.hid (HA.out.set k hhs hk4 x)
                              have HO2 := Lib.hid (HO.out.trans (OnlyAt.set V9 V7.heap.size k (.int .i64 x)))
                              clear HP HA HO HQ1 hg1 hg2
                              go_wp2_with fail
                              go_roundw
                              case rel => exact ⟨k + 1, a2, hs ++ [x], by go_num, rfl, by omega, hb1, hxl, HO2, HA2, HP2⟩
                              case measure => simp [intOf]; omega
                          · have hk4e : k = 4 := by omega
                            have hk4i : ((k : Int) < 4) = False := eq_false (by omega)
                            obtain ⟨c1, c2, c3, n4, rfl⟩ := list4 hs (hhs.trans hk4e)
                            have HP1 : Hid (pBody l = if 0 ≤ n4 then kCode main ts (fs.map stripF) (m - (j + 1)) c1 c2 c3 [] n4.toNat (l.drop a) else none) := by
                              have := HP0.out
                              rw [hk4e] at this
                              exact this
                            clear hk4e hk hk4
                            have e0 := HA.out.at 0 (by simp)
                            have e1 := HA.out.at 1 (by simp)
                            have e2 := HA.out.at 2 (by simp)
                            have e3 := HA.out.at 3 (by simp)
                            simp only [List.getD_cons_zero, List.getD_cons_succ] at e0 e1 e2 e3
                            go_upto_region 31 with fail
                            rename World => V10
                            have hz10 : V7.heap.size < V10.heap.size := by have := hz9.out; omega
                            have hga := grown_alloc V10 (.cells #[.int .i64 c1, .int .i64 c2, .int .i64 c3, .slice none 0 0] 30)
                            have HK : Hid ((V10.alloc (.cells #[.int .i64 c1, .int .i64 c2, .int .i64 c3, .slice none 0 0] 30)).heap[V10.heap.size]? = some (.cells #[.int .i64 c1, .int .i64 c2, .int .i64 c3, .slice none 0 0] 30 (0, 0))) := new_heap V10 _
                            have HQ' := Lib.hid (HQ1.out.grown hga (by nofun))
                            have HF' := Lib.hid ((HF.out.grown (grown_only HO.out) (fun z hz => by cases hz; right; omega)).grown hga (by nofun))
                            have HX' := Lib.hid ((HX.out.grown (grown_only HO.out) (fun z hz => by cases hz; right; omega)).grown hga (by nofun))
                            have HH := Lib.hid (HA.out.grown hga (by nofun))
                            have f3 := HH.out.at 3 (by simp)
                            simp only [List.getD_cons_zero, List.getD_cons_succ] at f3
                            have hlt11 : V10.heap.size < (V10.alloc (.cells #[.int .i64 c1, .int .i64 c2, .int .i64 c3, .slice none 0 0] 30)).heap.size := by simp
                            have HC : Hid ((V10.alloc (.cells #[.int .i64 c1, .int .i64 c2, .int .i64 c3, .slice none 0 0] 30)).ownsRow (V10.heap.size + 1) 32 3 (.slice none 0 0) ([] : List Ins).length (insCells [])) := ⟨rfl, .inl ⟨rfl, rfl⟩⟩
                            clear HQ HF HX HO HA HQ1 hga e0 e1 e2 e3 HP0 hhs Hv9
                            have HQ := HQ'
                            have HF := HF'
                            have HX := HX'
                            clear HQ' HF' HX'
                            generalize hV11 : V10.alloc (.cells #[.int .i64 c1, .int .i64 c2, .int .i64 c3, .slice none 0 0] 30) = V11 at *
                            clear hV11
                            go_cut [152] from 143 to 152 (fun vb wx => wx = V11 ∧ ((vb = .bool true ∧ pBody l = none) ∨ ∃ q : Nat, vb = .bool false ∧ n4 = q ∧ q ≤ l.length ∧ pBody l = kCode main ts (fs.map stripF) (m - (j + 1)) c1 c2 c3 [] q (l.drop a)))
                            case first =>
                              by_cases h1 : n4 < 0
                              · have h1' : (n4 < 0) = True := eq_true h1
                                have HP2 : Hid (pBody l = none) := by show _ = _; rw [HP1.out, if_neg (by omega)]
                                go_wp2_with fail
                                go_meet
                                exact ⟨rfl, .inl ⟨rfl, HP2.out⟩⟩
                              · have h1' : (n4 < 0) = False := eq_false h1
                                have HP3 : Hid (pBody l = kCode main ts (fs.map stripF) (m - (j + 1)) c1 c2 c3 [] n4.toNat (l.drop a)) := by show _ = _; rw [HP1.out, if_pos (by omega)]
                                by_cases h2 : (l.length : Int) < n4
                                · have h2' : ((l.length : Int) < n4) = True := eq_true h2
                                  have HP2 : Hid (pBody l = none) := by show _ = _; rw [HP3.out]; exact kCode_few _ _ _ _ _ _ _ _ _ _ (by rw [List.length_drop]; omega)
                                  clear h1
                                  go_wp2_with fail
                                  go_meet
                                  exact ⟨rfl, .inl ⟨rfl, HP2.out⟩⟩
                                · have h2' : ((l.length : Int) < n4) = False := eq_false h2
                                  have hq : Hid (n4 = ((n4.toNat : Nat) : Int) ∧ n4.toNat ≤ l.length) := ⟨by omega, by omega⟩
                                  clear h1 h2
                                  go_wp2_with fail
                                  go_meet
                                  exact ⟨rfl, .inr ⟨n4.toNat, rfl, hq.out.1, hq.out.2, HP3.out⟩⟩
                            case rest =>
                              obtain ⟨rfl, hc⟩ := hcut
                              rename World => V11
                              clear HP1
                              rcases hc with ⟨rfl, hP⟩ | ⟨q, rfl, rfl, hq, hP⟩
                              · have HP2 := Lib.hid hP
                                clear hP
                                have fz0 : V11.frozen? ⟨w.heap.size, 0, none⟩ = false := Lib.frozen_of_heap HQ.out.rs 0
                                have fz1 : V11.frozen? ⟨w.heap.size, 1, none⟩ = false := Lib.frozen_of_heap HQ.out.rs 1
                                have fz2 : V11.frozen? ⟨w.heap.size, 2, none⟩ = false := Lib.frozen_of_heap HQ.out.rs 2
                                obtain ⟨p0, p1, p2⟩ := ins_cells HQ.out.pr
                                obtain ⟨z0, z1, z2⟩ := ins_cells HQ.out.rs
                                have hd := HQ.out.done HF.out HX.out (by omega) (by omega)
                                have hr := (HQ.out.ret (.slice fa fn fc) (.slice ta tn tc) main).1
                                have HD := Lib.hid hd
                                have HR := Lib.hid hr
                                clear hd hr
                                go_wp2_with fail
                                refine bodyPost_ret (v := .tuple #[.agg #[.slice fa fn fc, .slice ta tn tc, .int .i64 main], .bool false]) ?_ rfl ⟨_, _, ⟨fs, ts, main⟩, false, rfl, HD.out.1, HD.out.2, HP2.out⟩
                                rw [results_cell_tmp (p := 2) (u := 3) (ty := 25) rfl]
                                simp [asAddr, run_loadVar_row _ _ _ _ _ _ _ HR.out Tryd.underlying25 rfl prog_info, Result.andThen]

                              · have HP2 := Lib.hid hP
                                clear hP
                                go_wp2_with fail
                                go_loopw [6, 13] (fun av i wr => ∃ (k a : Nat) (cv : Value) (is : List Ins), i = .int .i64 k ∧ av = .int .i64 a ∧ k ≤ q ∧ a ≤ l.length ∧ is.length = k ∧ Hid (QSt w wr (.slice fa fn fc) (.slice ta tn tc) main) ∧ Hid (FSt wr V6.heap.size V7.heap.size (.slice fa fn fc) fs) ∧ Hid (RowR wr (w.heap.size + 1 + 1) V6.heap.size (.slice ta tn tc) ts.length (strCells ts)) ∧ Hid (ArrOk wr V7.heap.size 104 4 [c1, c2, c3, (q : Int)]) ∧ Hid (wr.heap[V10.heap.size]? = some (.cells #[.int .i64 c1, .int .i64 c2, .int .i64 c3, cv] 30 (0, 0))) ∧ Hid (wr.ownsRow (V10.heap.size + 1) 32 3 cv is.length (insCells is)) ∧ Hid (pBody l = kCode main ts (fs.map stripF) (m - (j + 1)) c1 c2 c3 is (q - k) (l.drop a)) ∧ V10.heap.size < wr.heap.size) (fun _ i _ => q - (intOf i).toNat)
                                case atStart => exact ⟨0, a, _, [], rfl, rfl, Nat.zero_le _, ha, rfl, HQ, HF, HX, HH, HK, HC, HP2, hlt11⟩
                                case round =>
                                  rename World => V12
                                  clear HQ HF HX HH HK HC HP2 hlt11 ha
                                  obtain ⟨k, a, cv, is, rfl, rfl, hk, ha, his', HQ, HF, HX, HH, HK, HC, HP0, hlt12⟩ := hrel
                                  have h3 := HH.out.at 3 (by simp)
                                  simp only [List.getD_cons_zero, List.getD_cons_succ] at h3
                                  by_cases hkq : k < q
                                  · have HP : Hid (pBody l = nextNs (insK main ts (fs.map stripF) (m - (j + 1)) c1 c2 c3 is (q - (k + 1))) [] 3 (l.drop a)) := by show _ = _; rw [HP0.out, show q - k = q - (k + 1) + 1 by omega, kCode_ins]
                                    clear HP0
                                    have hcx : ∀ g, cv.ownBlock = some g → g < V12.heap.size := fun g hg => (owns_lt HC.out g hg).2
                                    go_upto_region 36 with fail
                                    go_upto_region 37 with fail
                                    have hga := grown_alloc V12 (.cells #[.int .i64 0, .int .i64 0, .int .i64 0] 105)
                                    have HA : Hid (ArrOk (V12.alloc (.cells #[.int .i64 0, .int .i64 0, .int .i64 0] 105)) V12.heap.size 105 3 []) := arr3 _ _ _ rfl
                                    have hz13 : V12.heap.size < (V12.alloc (.cells #[.int .i64 0, .int .i64 0, .int .i64 0] 105)).heap.size := by simp
                                    have HQ' := Lib.hid (HQ.out.grown hga (by nofun))
                                    have HF' := Lib.hid (HF.out.grown hga (by nofun))
                                    have HX' := Lib.hid (HX.out.grown hga (by nofun))
                                    have HH' := Lib.hid (HH.out.grown hga (by nofun))
                                    have HK' := Lib.hid ((hga.block _ hlt12 (by nofun)).trans HK.out)
                                    have HC' := Lib.hid (owns_grown HC.out hga (by nofun))
                                    clear HQ HF HX HH HK HC hga
                                    have HQ := HQ'
                                    have HF := HF'
                                    have HX := HX'
                                    have HH := HH'
                                    have HK := HK'
                                    have HC := HC'
                                    clear HQ' HF' HX' HH' HK' HC' h3
                                    generalize V12.alloc (.cells #[.int .i64 0, .int .i64 0, .int .i64 0] 105) = V13 at *
                                    go_wp2_with fail
                                    go_loopw [6, 15] (fun av i wr => ∃ (r a : Nat) (xs : List Int), i = .int .i64 r ∧ av = .int .i64 a ∧ r ≤ 3 ∧ a ≤ l.length ∧ xs.length = r ∧ Hid (OnlyAt V12.heap.size V13 wr) ∧ Hid (ArrOk wr V12.heap.size 105 3 xs) ∧ Hid (pBody l = nextNs (insK main ts (fs.map stripF) (m - (j + 1)) c1 c2 c3 is (q - (k + 1))) xs (3 - r) (l.drop a))) (fun _ i _ => 3 - (intOf i).toNat)
                                    case atStart => exact ⟨0, a, [], rfl, rfl, by decide, ha, rfl, OnlyAt.refl _ _, HA, HP⟩
                                    case round =>
                                      rename World => V14
                                      clear HA HP
                                      obtain ⟨r, a, xs, rfl, rfl, hr, ha, hxs, HO, HA, HP0⟩ := hrel
                                      have HQ1 := Lib.hid (HQ.out.grown (grown_only HO.out) (fun z hz => by cases hz; omega))
                                      have Hv := Lib.hid (Hv.out.below HQ1.out.below)
                                      have hz14 : Hid (V14.heap.size = V13.heap.size) := HO.out.size
                                      by_cases hr3 : r < 3
                                      · obtain ⟨⟨x0, hx0⟩, hxf⟩ := HA.out.cell r hr3
                                        have hri : (r : Int) < 3 := by omega
                                        have hri0 : (0 : Int) ≤ (r : Int) := by omega
                                        have HP : Hid (pBody l = nextN (fun x => nextNs (insK main ts (fs.map stripF) (m - (j + 1)) c1 c2 c3 is (q - (k + 1))) (xs ++ [x]) (3 - (r + 1))) (l.drop a)) := by show _ = _; rw [HP0.out, show 3 - r = 3 - (r + 1) + 1 by omega]; rfl
                                        clear HP0
                                        go_wp2_with fail
                                        refine (HG.out V14 a Hv.out ha).mono ?_
                                        rintro e w' ⟨rfl, rfl⟩
                                        rcases getT_read l a ha with ⟨hg1, hg2⟩ | ⟨x, a2, hg1, hg2, hb0, hb1, hb2, hb3⟩
                                        · have HP2 : Hid (pBody l = none) := by show _ = _; rw [HP.out]; exact nextN_none _ _ hg1
                                          rw [hg2]
                                          simp only
                                          have HOf := HO.out.trans (OnlyAt.set V14 V12.heap.size r (.int .i64 0))
                                          have HQf := HQ
                                          have HQ0 := HQ
                                          have HQ := Lib.hid (HQ0.out.grown (grown_only HOf) (fun z hz => by cases hz; omega))
                                          have HF0 := HF
                                          have HF := Lib.hid (HF0.out.grown (grown_only HOf) (fun z hz => by cases hz; right; omega))
                                          have HX0 := HX
                                          have HX := Lib.hid (HX0.out.grown (grown_only HOf) (fun z hz => by cases hz; right; omega))
                                          clear HQ0 HF0 HX0
                                          have fz0 : (V14.setCell ⟨V12.heap.size, r, none⟩ (.int .i64 0)).frozen? ⟨w.heap.size, 0, none⟩ = false := Lib.frozen_of_heap HQ.out.rs 0
                                          have fz1 : (V14.setCell ⟨V12.heap.size, r, none⟩ (.int .i64 0)).frozen? ⟨w.heap.size, 1, none⟩ = false := Lib.frozen_of_heap HQ.out.rs 1
                                          have fz2 : (V14.setCell ⟨V12.heap.size, r, none⟩ (.int .i64 0)).frozen? ⟨w.heap.size, 2, none⟩ = false := Lib.frozen_of_heap HQ.out.rs 2
                                          obtain ⟨p0, p1, p2⟩ := ins_cells HQ.out.pr
                                          obtain ⟨z0, z1, z2⟩ := ins_cells HQ.out.rs
                                          have hd := HQ.out.done HF.out HX.out (by omega) (by omega)
                                          have hr := (HQ.out.ret (.slice fa fn fc) (.slice ta tn tc) main).1
                                          have HD := Lib.hid hd
                                          have HR := Lib.hid hr
                                          clear hd hr
                                          go_wp2_with fail
                                          refine bodyPost_ret (v := .tuple #[.agg #[.slice fa fn fc, .slice ta tn tc, .int .i64 main], .bool false]) ?_ rfl ⟨_, _, ⟨fs, ts, main⟩, false, rfl, HD.out.1, HD.out.2, HP2.out⟩
                                          rw [results_cell_tmp (p := 2) (u := 3) (ty := 25) rfl]
                                          simp [asAddr, run_loadVar_row _ _ _ _ _ _ _ HR.out Tryd.underlying25 rfl prog_info, Result.andThen]

                                        · have HP2 : Hid (pBody l = nextNs (insK main ts (fs.map stripF) (m - (j + 1)) c1 c2 c3 is (q - (k + 1))) (xs ++ [x]) (3 - (r + 1)) (l.drop a2)) := by show _ = _; rw [HP.out]; exact nextN_some _ _ _ _ hg1
                                          have hneg : ((a2 : Int) < 0) = False := eq_false (by omega)
                                          rw [hg2]
                                          simp only
                                          have hxl : (xs ++ [x]).length = r + 1 := by simp [hxs]
                                          have HA2 := Lib.hid (HA.out.set r hxs hr3 x)
                                          have HO2 := Lib.hid (HO.out.trans (OnlyAt.set V14 V12.heap.size r (.int .i64 x)))
                                          clear HP HA HO HQ1 hg1 hg2
                                          go_wp2_with fail
                                          go_roundw
                                          case rel => exact ⟨r + 1, a2, xs ++ [x], by go_num, rfl, by omega, hb1, hxl, HO2, HA2, HP2⟩
                                          case measure => simp [intOf]; omega
                                      · have hr3e : r = 3 := by omega
                                        have hr3i : ((r : Int) < 3) = False := eq_false (by omega)
                                        obtain ⟨o, x, y, rfl⟩ := list3 xs (hxs.trans hr3e)
                                        have HP : Hid (pBody l = kCode main ts (fs.map stripF) (m - (j + 1)) c1 c2 c3 (is ++ [⟨o, x, y⟩]) (q - (k + 1)) (l.drop a)) := by
                                          have := HP0.out
                                          rw [hr3e] at this
                                          exact this
                                        clear hr3e hr hr3
                                        have e0 := HA.out.at 0 (by simp)
                                        have e1 := HA.out.at 1 (by simp)
                                        have e2 := HA.out.at 2 (by simp)
                                        simp only [List.getD_cons_zero, List.getD_cons_succ] at e0 e1 e2
                                        have HF1 := Lib.hid (HF.out.grown (grown_only HO.out) (fun z hz => by cases hz; right; omega))
                                        have HX1 := Lib.hid (HX.out.grown (grown_only HO.out) (fun z hz => by cases hz; right; omega))
                                        have HH1 := Lib.hid (HH.out.grown (grown_only HO.out) (fun e => by have := Option.some.inj e; omega))
                                        have HK1 := Lib.hid ((HO.out.block _ (by omega)).trans HK.out)
                                        have HC1 := Lib.hid (owns_grown HC.out (grown_only HO.out) (fun z hz e => by cases hz; have := hcx _ e; omega))
                                        have k3 := (fun_cells HK1.out).2.2.2
                                        clear HP0 HA HO HQ HF HX HH HK HC hxs
                                        go_wp2_with (at_builtin; refine wpList_append_lies _ rfl _ _ 28 rfl (V10.heap.size + 1) 32 ii0 (.agg #[.int .i64 0, .int .i64 0, .int .i64 0]) 3 24 Tryd.underlying28 hii hiz0 hiz1 hiz2 rfl (by decide) _ is.length (insCells is) rfl (HC1.out.alloc _) ⟨V14.heap.size, 0, none⟩ 1 1 [.int .i64 o, .int .i64 x, .int .i64 y] rfl rfl ?c1 ?c2 (by decide) ?c3 ?c4 ?c5 _ rfl ?_)
                                        case c1 => exact World.news_of_block (cs := #[.int .i64 o, .int .i64 x, .int .i64 y]) (new_heap V14 _)
                                        case c2 => intro u hu; simp at hu; rcases hu with rfl | rfl | rfl <;> rfl
                                        case c3 => unfold maxLen; omega
                                        case c4 => omega
                                        case c5 => have := hz14.out; simp; omega
                                        intro gN cN w4 hown4 hgrow4 hat4 hlt4
                                        have hfar : ∀ z, cv.ownBlock = some z → V10.heap.size < z := fun z hz => by have := (owns_lt HC1.out z hz).1; omega
                                        have hg3 := grown_alloc V14 (.cells #[.int .i64 o, .int .i64 x, .int .i64 y] 32)
                                        have HK4 := Lib.hid ((hgrow4.block _ (by have := hz14.out; simp; omega) (fun e => absurd (hfar _ e.symm) (Nat.lt_irrefl _))).trans ((hg3.block _ (by have := hz14.out; omega) (by nofun)).trans HK1.out))
                                        have HH4 := Lib.hid ((HH1.out.grown hg3 (by nofun)).grown hgrow4 (fun e => by have := hfar _ e; omega))
                                        have y4 := (fun_cells HK4.out).2.2.2
                                        have fz4 : w4.frozen? ⟨V10.heap.size, 3, none⟩ = false := Lib.frozen_of_heap HK4.out 3
                                        have HQ4 := Lib.hid ((HQ1.out.grown hg3 (by nofun)).grown hgrow4 (fun z hz => by have := hfar z hz; omega))
                                        have HF4 := Lib.hid ((HF1.out.grown hg3 (by nofun)).grown hgrow4 (fun z hz => by have := hfar z hz; omega))
                                        have HX4 := Lib.hid ((HX1.out.grown hg3 (by nofun)).grown hgrow4 (fun z hz => by have := hfar z hz; omega))
                                        have HC4 : Hid (w4.ownsRow (V10.heap.size + 1) 32 3 (.slice (some ⟨gN, 0, none⟩) (k + 1) cN) (is ++ [(⟨o, x, y⟩ : Ins)]).length (insCells (is ++ [(⟨o, x, y⟩ : Ins)]))) := by
                                          show World.ownsRow _ _ _ _ _ _ _
                                          rw [insCells_app, show (is ++ [(⟨o, x, y⟩ : Ins)]).length = k + 1 by simp [his']]
                                          try rw [his'] at hown4
                                          exact hown4
                                        have hil : (is ++ [(⟨o, x, y⟩ : Ins)]).length = k + 1 := by simp [his']
                                        clear hfar hg3 hown4 hgrow4 hat4 HQ1 HF1 HX1 HH1 HK1 HC1 k3 e0 e1 e2
                                        go_wp2_with fail
                                        go_roundw
                                        case rel => exact ⟨k + 1, a, _, is ++ [⟨o, x, y⟩], by go_num, rfl, by omega, ha, hil, HQ4.out.grown (grown_set _ _ _ _) (fun z hz => by cases hz; omega), HF4.out.grown (grown_set _ _ _ _) (fun z hz => by cases hz; right; omega), HX4.out.grown (grown_set _ _ _ _) (fun z hz => by cases hz; right; omega), HH4.out.grown (grown_set _ _ _ _) (fun e => by have := Option.some.inj e; omega), (by show _ = _; rw [heap_set_same HK4.out]; rfl), owns_grown HC4.out (grown_set _ _ _ _) (fun z hz e => by cases hz; have := (owns_lt HC4.out _ e).1; omega), HP, (by have := heap_lt HK4.out; simp; omega)⟩
                                        case measure => simp [intOf]; omega

                                  · obtain rfl : k = q := by omega
                                    have HP : Hid (pBody l = kFuns main ts ((fs ++ [(⟨c1, c2, c3, cv, is⟩ : FunD)]).map stripF) (m - (j + 1)) (l.drop a)) := by show _ = _; rw [HP0.out, Nat.sub_self, kCode_zero, List.map_append]; rfl
                                    clear HP0
                                    obtain ⟨ca, cn, cc, rfl⟩ := owns_slice HC.out
                                    obtain ⟨p0, p1, p2⟩ := ins_cells HQ.out.pr
                                    obtain ⟨k0, k1, k2, k3⟩ := fun_cells HK.out
                                    go_wp2_with (at_builtin; refine wpList_append_lies _ rfl _ _ 22 rfl V6.heap.size 30 if0 (.agg #[.int .i64 0, .int .i64 0, .int .i64 0, .slice none 0 0]) 4 48 Tryd.underlying22 hif hfz0 hfz1 hfz2 rfl (by decide) _ fs.length (funCells fs) rfl (HF.out.own.alloc _) ⟨V12.heap.size, 0, none⟩ 1 1 [.int .i64 c1, .int .i64 c2, .int .i64 c3, .slice ca cn cc] rfl rfl ?c1 ?c2 (by decide) ?c3 ?c4 ?c5 _ rfl ?_)
                                    case c1 => exact World.news_of_block (cs := #[.int .i64 c1, .int .i64 c2, .int .i64 c3, .slice ca cn cc]) (new_heap V12 _)
                                    case c2 => intro u hu; simp at hu; rcases hu with rfl | rfl | rfl | rfl <;> rfl
                                    case c3 => unfold maxLen; omega
                                    case c4 => omega
                                    case c5 => simp; omega
                                    intro g cap w2 hown2 hgrow2 hat2 hlt2
                                    have hg1 := grown_alloc V12 (.cells #[.int .i64 c1, .int .i64 c2, .int .i64 c3, .slice ca cn cc] 30)
                                    have hfar : ∀ z, (Value.slice fa fn fc).ownBlock = some z → V6.heap.size ≤ z := fun z hz => (owns_lt HF.out.own z hz).1
                                    have HQ2 := Lib.hid ((HQ.out.grown hg1 (by nofun)).grown hgrow2 (fun z hz => by have := hfar z hz; omega))
                                    have HX2 := Lib.hid ((HX.out.grown hg1 (by nofun)).grown hgrow2 (fun z hz => by have := hfar z hz; right; omega))
                                    have HF2 := Lib.hid ((HF.out.grown hg1 (by nofun)).push c1 c2 c3 _ is h67 (ownsRow_mono (base' := V7.heap.size) (HC.out.alloc _) (by omega)) g cap _ _ hfs (by simp) hown2 hgrow2 hat2 hlt2)
                                    have hszw : V6.heap.size ≤ w2.heap.size := by have := hgrow2.size; simp at this; omega
                                    obtain ⟨s0, s1, s2⟩ := ins_cells HQ2.out.pr
                                    have fz2 : w2.frozen? ⟨w.heap.size + 1, 0, none⟩ = false := Lib.frozen_of_heap HQ2.out.pr 0
                                    have hfl : (fs ++ [(⟨c1, c2, c3, .slice ca cn cc, is⟩ : FunD)]).length = j + 1 := by simp [hfs]
                                    clear hg1 hfar hown2 hgrow2 hat2 HQ HX HF HC HK HH p0 p1 p2 k0 k1 k2 k3
                                    go_wp2_with fail
                                    go_roundw
                                    case rel => exact ⟨j + 1, a, _, _, by go_num, rfl, by omega, ha, hfl, HQ2.out.set 0 _ rfl, (HF2.out.grown (grown_set _ _ _ _) (fun z hz => by cases hz; left; omega)).up, HX2.out.grown (grown_set _ _ _ _) (fun z hz => by cases hz; left; omega), HP, by simpa using hszw⟩
                                    case measure => simp [intOf]; omega

                      · obtain rfl : j = m := by omega
                        have HP : Hid (pBody l = if l.drop a = [] then some ⟨fs.map stripF, ts, main⟩ else none) := by show _ = _; rw [HP0.out, Nat.sub_self, kFuns_zero]
                        clear HP0
                        obtain ⟨p0, p1, p2⟩ := ins_cells HQ.out.pr
                        obtain ⟨z0, z1, z2⟩ := ins_cells HQ.out.rs
                        have fz0 : V7.frozen? ⟨w.heap.size, 0, none⟩ = false := Lib.frozen_of_heap HQ.out.rs 0
                        have fz1 : V7.frozen? ⟨w.heap.size, 1, none⟩ = false := Lib.frozen_of_heap HQ.out.rs 1
                        have fz2 : V7.frozen? ⟨w.heap.size, 2, none⟩ = false := Lib.frozen_of_heap HQ.out.rs 2
                        have hd := HQ.out.done HF.out HX.out (by omega) (by omega)
                        have hr := (HQ.out.ret (.slice fa fn fc) (.slice ta tn tc) main).1
                        have HD := Lib.hid hd
                        have HR := Lib.hid hr
                        clear hd hr
                        by_cases hal : a = l.length
                        · have HP2 : Hid (pBody l = some (strip ⟨fs, ts, main⟩)) := by show _ = _; rw [HP.out, if_pos (by rw [hal]; simp)]; rfl
                          have hab : ((a : Int) == (l.length : Int)) = true := by rw [beq_iff_eq]; omega
                          clear hal
                          go_wp2_with fail
                          refine bodyPost_ret (v := .tuple #[.agg #[.slice fa fn fc, .slice ta tn tc, .int .i64 main], .bool true]) ?_ rfl ⟨_, _, ⟨fs, ts, main⟩, true, rfl, HD.out.1, HD.out.2, HP2.out⟩
                          rw [results_cell_tmp (p := 2) (u := 3) (ty := 25) rfl]
                          simp [asAddr, run_loadVar_row _ _ _ _ _ _ _ HR.out Tryd.underlying25 rfl prog_info, Result.andThen]

                        · have HP2 : Hid (pBody l = none) := by show _ = _; rw [HP.out, if_neg (fun h => by have := congrArg List.length h; rw [List.length_drop] at this; simp at this; omega)]
                          have hab : ((a : Int) == (l.length : Int)) = false := beq_eq_false_iff_ne.2 (by omega)
                          clear hal
                          go_wp2_with fail
                          refine bodyPost_ret (v := .tuple #[.agg #[.slice fa fn fc, .slice ta tn tc, .int .i64 main], .bool false]) ?_ rfl ⟨_, _, ⟨fs, ts, main⟩, false, rfl, HD.out.1, HD.out.2, HP2.out⟩
                          rw [results_cell_tmp (p := 2) (u := 3) (ty := 25) rfl]
                          simp [asAddr, run_loadVar_row _ _ _ _ _ _ _ HR.out Tryd.underlying25 rfl prog_info, Result.andThen]
end Go.Proofs.YtbcbjefonkbjnaaDoor
