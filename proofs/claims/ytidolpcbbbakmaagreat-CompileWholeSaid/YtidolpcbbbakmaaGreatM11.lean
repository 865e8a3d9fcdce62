/- Depth of the program. (The seat of CompileWhole has no Depth of the reference.) -/
import Derived.Test.YtidolpcbbbakmaaGreatM5
import Derived.Test.YtidolpcbbbakmaaGreatM2
namespace Go.Proofs.YtidolpcbbbakmaaGreat
open Go Go.RowKit

theorem grown_both {a b c : World} {r : Option Nat} (h : a.grownBy b r) (k : b.grownBy c r) : a.grownBy c r :=
  ⟨k.os.trans h.os, k.tape.trans h.tape, k.output.trans h.output, Nat.le_trans h.size k.size, fun q hq hr => (k.block q (Nat.lt_of_lt_of_le hq h.size) hr).trans (h.block q hq hr)⟩
def DepAns (code : List Ins) (w : World) (e : Ending) (w' : World) : Prop := ∃ r er, e = .returned (.tuple #[.int .i64 r, .int .i64 er]) ∧ DepOk code r er ∧ Below w.heap.size w w'
theorem not_ok (code : List Ins) (c : Nat) (d : Int) (h : effE code c ≠ 0 ∨ tgE code c ≠ 0 ∨ d < pops code c) : ¬ OkAt code c d := fun ⟨h1, h2, h3⟩ => by
  rcases h with h | h | h
  · exact h h1
  · exact h h2
  · omega
set_option maxHeartbeats 4000000 in
set_option maxRecDepth 100000 in
theorem depth_any (v : Value) (code : List Ins) (w : World) (h : IsCode w v code) (hl : code.length ≤ 20000) :
    Calls Tryz.prog 14 #[v] w (DepAns code w) := by
  have Hc := Lib.hid h
  obtain ⟨a, c, rfl, hlc, _⟩ := h
  by_cases h0 : code.length = 0
  · have hans : Hid (DepOk code 0 24) := by show DepOk _ _ _; unfold DepOk; rw [if_pos h0]; exact ⟨rfl, rfl⟩
    have h0' : (code.length : Int) = 0 := by omega
    go_enter Tryz.func14, Tryz.ntmps14
    go_wp2_with fail
    go_ret2
    exact ⟨_, _, rfl, hans.out, Below.refl _ _⟩
  · have hn0 : 0 < code.length := by omega
    have h0b : ((code.length : Int) == 0) = false := beq_eq_false_iff_ne.2 (by omega)
    have hmk := run_make_row' (P := Tryz.prog) 83 3 (.int .i64 0) 8 Tryz.underlying83 info_int' rfl .i64 .i64 code.length (by omega) (by omega)
    obtain ⟨i0, hi, hz0, hz1, hz2⟩ := info_parts info_int
    go_enter Tryz.func14, Tryz.ntmps14
    have hb0 : Below w.heap.size w ((w.alloc (.cells #[.int .i64 0, .int .i64 0, .int .i64 0, .slice a code.length c] 43)).alloc (.cells (madeCells #[.int .i64 0] code.length) 3)) := ((Below.refl _ _).alloc (Nat.le_refl _) _).alloc (by simp) _
    have gF : ((w.alloc (.cells #[.int .i64 0, .int .i64 0, .int .i64 0, .slice a code.length c] 43)).alloc (.cells (madeCells #[.int .i64 0] code.length) 3)).heap[w.heap.size]? = some (.cells #[.int .i64 0, .int .i64 0, .int .i64 0, .slice a code.length c] 43 (0, 0)) := (Below.heap_alloc _ _ _ (by simp)).trans (new_heap w _)
    have gB : BsAt ((w.alloc (.cells #[.int .i64 0, .int .i64 0, .int .i64 0, .slice a code.length c] 43)).alloc (.cells (madeCells #[.int .i64 0] code.length) 3)) (w.heap.size + 1) (List.replicate code.length 0) := by
      unfold BsAt
      rw [← made_bs]
      exact (congrArg _ (by simp)).trans (new_heap (w.alloc _) _)
    go_wp2_with fail
    generalize ((w.alloc (.cells #[.int .i64 0, .int .i64 0, .int .i64 0, .slice a code.length c] 43)).alloc (.cells (madeCells #[.int .i64 0] code.length) 3)) = W at *
    have hltW := heap_lt gB
    clear hmk
    go_loopw [28] (fun i wr => ∃ j : Nat, i = .int .i64 j ∧ j ≤ code.length ∧ Hid (BsAt wr (w.heap.size + 1) (List.replicate j (-1) ++ List.replicate (code.length - j) 0)) ∧ Hid (W.grownBy wr (some (w.heap.size + 1)))) (fun i _ => code.length - (intOf i).toNat)
    case atStart => exact ⟨0, rfl, Nat.zero_le _, by simpa [Hid] using gB, ⟨rfl, rfl, rfl, Nat.le_refl _, fun _ _ _ => rfl⟩⟩
    case round =>
      obtain ⟨j, rfl, hj, HB, HG⟩ := hrel
      by_cases hjn : j < code.length
      · obtain ⟨x0, fx⟩ := HB.out.cell j (by simp; omega)
        have hi0 : (0 : Int) ≤ (j : Int) := by omega
        have hi1 : (j : Int) < (code.length : Int) := by omega
        have HB2 := Lib.hid (HB.out.set j (-1))
        have he : (List.replicate j (-1 : Int) ++ List.replicate (code.length - j) 0).set j (-1) = List.replicate (j + 1) (-1) ++ List.replicate (code.length - (j + 1)) 0 := by
          obtain ⟨m, hm⟩ : ∃ m, code.length - j = m + 1 := ⟨code.length - j - 1, by omega⟩
          rw [hm, show code.length - (j + 1) = m by omega, List.set_append_right _ _ (by simp)]
          simp only [List.length_replicate, Nat.sub_self, List.replicate_succ, List.set_cons_zero]
          rw [← List.replicate_succ, List.replicate_succ', List.append_assoc]; rfl
        rw [he] at HB2
        have HG2 := Lib.hid (grown_both HG.out (grown_set wr (w.heap.size + 1) j (.int .i64 (-1))))
        clear he HB HG
        go_wp2_with fail
        go_round
        case rel => exact ⟨j + 1, by go_num, by omega, HB2, HG2⟩
        case measure => simp [intOf]; omega
      · obtain rfl : j = code.length := by omega
        have HB1 : Hid (BsAt wr (w.heap.size + 1) (List.replicate code.length (-1))) := by have := HB.out; simpa [Hid] using this
        obtain ⟨x0, fx⟩ := HB1.out.cell 0 (by simp; omega)
        have hbr := hb0.trans (grown_under (B := w.heap.size) HG.out (by omega) (fun k hk => by cases hk; omega))
        have gF1 := (HG.out.block w.heap.size (by omega) (fun e => by have := Option.some.inj e; omega)).trans gF
        have hlt1 := heap_lt HB1.out
        have HB2 := HB1.out.set 0 0
        have hgs := grown_set wr (w.heap.size + 1) 0 (.int .i64 0)
        have hbs := hbr.trans (grown_under (B := w.heap.size) hgs (by omega) (fun k hk => by cases hk; omega))
        have gF2 := (hgs.block w.heap.size (by omega) (fun e => by have := Option.some.inj e; omega)).trans gF1
        have hz2 : (wr.setCell ⟨w.heap.size + 1, 0, none⟩ (.int .i64 0)).heap.size = wr.heap.size := by simp
        have hga := grown_alloc (wr.setCell ⟨w.heap.size + 1, 0, none⟩ (.int .i64 0)) (.cells #[.int .i64 0] 3)
        have HB3 := Lib.hid (HB2.grown hga (by nofun))
        have HF3 := Lib.hid ((hga.block w.heap.size (by omega) (by nofun)).trans gF2)
        have Hbw3 := Lib.hid (hbs.trans (grown_under (B := w.heap.size) hga (by omega) (by nofun)))
        have HQ3 := Lib.hid (q_start (wr.setCell ⟨w.heap.size + 1, 0, none⟩ (.int .i64 0)) (w.heap.size + 1 + 1) wr.heap.size hz2 (by omega))
        have HI3 := Lib.hid (inv_start code hn0)
        clear hbr gF1 HB2 hgs hbs gF2 hz2 hga HB HG HB1 gB gF hb0
        go_wp2_with fail
        go_loopw [7, 8] (fun mv tv wr => ∃ (bs : List Int) (todo : List Nat) (m : Int), mv = .int .i64 m ∧ Hid (QRow wr (w.heap.size + 1 + 1) tv todo) ∧ Hid (BsAt wr (w.heap.size + 1) bs) ∧ Hid (wr.heap[w.heap.size]? = some (.cells #[.int .i64 0, .int .i64 0, .int .i64 0, .slice a code.length c] 43 (0, 0))) ∧ Hid (Below w.heap.size w wr) ∧ Hid (Inv code bs todo m none 0) ∧ m ≤ 20000 ∧ 2 * unl bs + todo.length ≤ 40001) (fun _ tv wr => 2 * negs wr (w.heap.size + 1) + lenOf tv)
        case atStart => exact ⟨_, _, 0, rfl, HQ3, HB3, HF3, Hbw3, HI3, by decide, by have := start_unl code hn0; simp only [List.length_singleton]; omega⟩
        case round =>
          rename World => V
          clear HB3 HF3 Hbw3 HQ3 HI3
          obtain ⟨bs, todo, m, rfl, HQ, HB, HF, Hbw, HI, hm, hmeas⟩ := hrel
          have hm0 := HI.out.m0
          cases todo with
          | nil =>
            obtain ⟨qb, qo, qc, qcur, rfl, _⟩ := HQ.out
            simp only [List.length_nil]
            go_wp2_with fail
            go_ret2
            exact ⟨_, _, rfl, HI.out.end hn0, Hbw.out⟩
          | cons k rest =>
            obtain ⟨qb, qo, qc, rfl, hqlo, hqlt, hqc, hq0, hrest⟩ := HQ.out.first
            have Hrest := Lib.hid hrest
            have hkin := HI.out.inn k (List.mem_cons_self ..)
            obtain ⟨hk, hkne⟩ := hkin
            have hlab := HI.out.lab k hk hkne
            have hblen := HI.out.len
            obtain ⟨hd0, _, hd1⟩ := hlab
            obtain ⟨bc, oc, cc, hcv, _, hbl, e0, e1, e2⟩ := code_at Hc.out k hk
            obtain ⟨rfl, _, rfl⟩ := Value.slice.inj hcv
            have q0 := (Hbw.out.cell (p := ⟨bc, oc + k * 3, none⟩) hbl).trans e0
            have q1 := (Hbw.out.cell (p := ⟨bc, oc + k * 3 + 1, none⟩) hbl).trans e1
            have q2 := (Hbw.out.cell (p := ⟨bc, oc + k * 3 + 2, none⟩) hbl).trans e2
            have hpb := eff_bounds (code.getD k default).op (code.getD k default).a (code.getD k default).b
            obtain ⟨P, U, E, hE⟩ : ∃ P U E, effT (code.getD k default).op (code.getD k default).a (code.getD k default).b = (P, U, E) := ⟨_, _, _, rfl⟩
            have hP : Hid (pops code k = P) := congrArg Prod.fst hE
            have hU : Hid (pushes code k = U) := congrArg (fun t : Int × Int × Int => t.2.1) hE
            have hEE : Hid (effE code k = E) := congrArg (fun t : Int × Int × Int => t.2.2) hE
            rw [hE] at hpb
            simp only at hpb
            obtain ⟨hP0, hP1, hU0, hU1, hE0, hE1⟩ := hpb
            have HEf : Hid (∀ u, Calls Tryz.prog 33 #[.agg #[.int .i64 (code.getD k default).op, .int .i64 (code.getD k default).a, .int .i64 (code.getD k default).b]] u fun e w' => e = .returned (.tuple #[.int .i64 P, .int .i64 U, .int .i64 E]) ∧ Below u.heap.size u w') := fun u => by
              have := effect_any (code.getD k default).op (code.getD k default).a (code.getD k default).b u
              unfold effV at this; rw [hE] at this; exact this
            generalize code.getD k default = ii at *
            obtain ⟨io, ix, iy⟩ := ii
            simp only at q0 q1 q2 HEf
            have hki0 : (0 : Int) ≤ (k : Int) := by omega
            have hki1 : (k : Int) < (code.length : Int) := by omega
            have hrl : (0 : Int) < (rest.length : Int) + 1 := by omega
            clear e0 e1 e2 hcv hE hrest
            obtain ⟨G, hG⟩ : ∃ G, tgE code k = G := ⟨_, rfl⟩
            have HTg : Hid (∀ u, Below w.heap.size w u → Calls Tryz.prog 34 #[.agg #[.int .i64 0, .int .i64 0, .int .i64 0, .slice (some ⟨bc, oc, none⟩) code.length c], .int .i64 k] u fun e w' => ∃ v, e = .returned (.tuple #[v, .int .i64 G]) ∧ RowF u.heap.size w' v (tgs code k).length (ints (tgs code k)) ∧ Below u.heap.size u w') := fun u hu => by
              have := targets_any 0 0 0 (k : Int) _ code u (IsRow.below Hc.out hu) (by omega)
              rw [← hG]; exact this
            have HG := Lib.hid hG
            clear hG
            go_wp2_with fail
            refine (HEf.out _).mono ?_
            rintro e w2 ⟨rfl, hb2⟩
            have hbw2 := Hbw.out.trans (hb2.mono Hbw.out.size)
            have hf2 := (hb2.block w.heap.size (heap_lt HF.out)).trans HF.out
            obtain ⟨f0, f1, f2, f3⟩ := fun_cells hf2
            have HT2 := Lib.hid (HTg.out w2 hbw2)
            clear q0 q1 q2 hq0 HEf HTg
            go_wp2_with fail
            refine HT2.out.mono ?_
            rintro e w3 ⟨nv, rfl, hrow3, hb3⟩
            have hg23 := Below.trans hb2 (hb3.mono hb2.size)
            have hg3 := grown_below hg23
            have HB3 := Lib.hid (HB.out.grown hg3 (by nofun))
            have HF3 := Lib.hid ((hb3.block w.heap.size (heap_lt hf2)).trans hf2)
            have Hbw3 := Lib.hid (hbw2.trans (hb3.mono hbw2.size))
            have HR3 := Lib.hid (HQ.out.grown hg3 (by nofun))
            have hsz3 : Hid (V.heap.size ≤ w2.heap.size) := hb2.size
            have hsz23 : Hid (w2.heap.size ≤ w3.heap.size) := hb3.size
            have Hrow3 := Lib.hid hrow3
            have hnv := hrow3.1
            obtain ⟨na, nc, rfl, hnlc, _⟩ := hnv
            have hlt3 := heap_lt HB3.out
            obtain ⟨b0, bf⟩ := HB3.out.cell k (by omega)
            have hnegs : Hid (negs V (w.heap.size + 1) = unl bs) := HB.out.negs
            clear f0 f1 f2 f3 hf2 HT2 hrow3 hb3 hb2 hg23 hg3 HB HF Hbw hbw2 Hrest HQ
            generalize hdd : bs.getD k (-1) = d at *
            have Hdd := Lib.hid hdd
            by_cases hE0 : E = 0
            · subst hE0
              by_cases hG0 : G = 0
              · subst hG0
                by_cases hpd : d < P
                · have hbad := HI.out.fault (c := k) (List.mem_cons_self ..) (not_ok _ _ _ (.inr (.inr (by rw [hP.out, hdd]; exact hpd))))
                  have hans := Lib.hid (dep_bad hn0 hbad)
                  have hpd' : (d < P) = True := eq_true hpd
                  clear hbad hpd hdd
                  go_wp2_with fail
                  go_ret2
                  exact ⟨_, _, rfl, hans.out, Hbw3.out⟩
                · have hpd' : (d < P) = False := eq_false hpd
                  have hok : OkAt code k (bs.getD k (-1)) := ⟨hEE.out, HG.out, by rw [hP.out, hdd]; omega⟩
                  have hA : aft code k d = d + (U - P) := by unfold aft; rw [hP.out, hU.out]; omega
                  have hI0 := HI.out.take k (List.mem_cons_self ..) (rest := rest) (fun t ht => List.mem_cons.1 ht) (fun t ht => List.mem_cons_of_mem _ ht) hok (max (max m d) (d + (U - P))) (by rw [hdd, hA])
                  have hw1 : IntKind.i64.wrap (U - P) = U - P := wrap_ok _ (by omega) (by omega)
                  have hw2 : IntKind.i64.wrap (d + (U - P)) = d + (U - P) := wrap_ok _ (by omega) (by omega)
                  have hm20 : max (max m d) (d + (U - P)) ≤ 20000 := by omega
                  have HI0 := Lib.hid hI0
                  have HA := Lib.hid hA
                  have hunl := hd1
                  clear hI0 hA hok hdd HI hpd
                  go_upto_region 21 with fail
                  rename World => w3
                  go_cut [7] from 76 to 78 (fun v wx => v = .int .i64 (max m d) ∧ wx = w3)
                  case first =>
                    by_cases hmd : m < d
                    · have hx : Hid (max m d = d) := by show _ = _; omega
                      go_wp2_with fail
                      go_meet
                      exact ⟨by rw [hx.out], rfl⟩
                    · have hx : Hid (max m d = m) := by show _ = _; omega
                      go_wp2_with fail
                      go_meet
                      exact ⟨by rw [hx.out], rfl⟩
                  case rest =>
                    obtain ⟨rfl, rfl⟩ := hcut
                    rename World => w3
                    generalize hm1 : max m d = m1 at *
                    have Hm1 := Lib.hid hm1
                    clear hm1
                    go_upto_region 23 with fail
                    go_cut [7] from 84 to 86 (fun v wx => v = .int .i64 (max m1 (d + (U - P))) ∧ wx = w3)
                    case first =>
                      by_cases hmd : m1 < d + (U - P)
                      · have hx : Hid (max m1 (d + (U - P)) = d + (U - P)) := by show _ = _; omega
                        go_wp2_with fail
                        go_meet
                        exact ⟨by rw [hx.out], rfl⟩
                      · have hx : Hid (max m1 (d + (U - P)) = m1) := by show _ = _; omega
                        go_wp2_with fail
                        go_meet
                        exact ⟨by rw [hx.out], rfl⟩
                    case rest =>
                      obtain ⟨rfl, rfl⟩ := hcut
                      rename World => w3
                      generalize max m1 (d + (U - P)) = m2 at *
                      generalize d + (U - P) = A at *
                      go_wp2_with fail
                      have hs3 : V.heap.size ≤ w2.heap.size := hsz3.out
                      have htgl := tgs_len code k
                      have hs23 : w2.heap.size ≤ w3.heap.size := hsz23.out
                      have HL0 : Hid (LSt (.cells #[.int .i64 0, .int .i64 0, .int .i64 0, .slice (some ⟨bc, oc, none⟩) code.length c] 43 (0, 0)) w.heap.size w2.heap.size w3.heap.size w w3 w3 (.slice (some ⟨qb, qo, none⟩) (rest.length + 1) qc) (k :: rest) bs) :=
                        ⟨HR3.out, fun b off sp n c e => by have := (Value.slice.inj e).1; simp at this; left; omega, HB3.out, HF3.out, Hbw3.out, fun _ _ _ => rfl, Nat.le_refl _, by omega, by omega⟩
                      go_loopw [8, 89] (fun tv i wr => ∃ (j : Nat) (bs' : List Int) (todo' : List Nat), i = .int .i64 j ∧ j ≤ (tgs code k).length ∧ Hid (LSt (.cells #[.int .i64 0, .int .i64 0, .int .i64 0, .slice (some ⟨bc, oc, none⟩) code.length c] 43 (0, 0)) w.heap.size w2.heap.size w3.heap.size w w3 wr tv (k :: todo') bs') ∧ Hid (Inv code bs' todo' m2 (some k) j) ∧ Hid (bs'.getD k (-1) = d) ∧ 2 * unl bs' + todo'.length ≤ 2 * unl bs + rest.length) (fun _ i _ => (tgs code k).length - (intOf i).toNat)
                      case atStart => exact ⟨0, bs, rest, rfl, Nat.zero_le _, HL0, HI0, Hdd, Nat.le_refl _⟩
                      case round =>
                        rename World => V4
                        clear HB3 HF3 Hbw3 HR3 HI0 Hdd b0 bf HL0
                        obtain ⟨j, bs', todo', rfl, hj, HL, HI, Hd, hms⟩ := hrel
                        by_cases hjn : j < (tgs code k).length
                        · obtain ⟨nb, no, nc', hnv, hnlo, hnlt, hncell⟩ := Hrow3.out.cell (by omega)
                          obtain ⟨rfl, _, rfl⟩ := Value.slice.inj hnv
                          have n0 := (World.cell?_of_block (a := ⟨nb, no + j, none⟩) (HL.out.kp nb hnlo hnlt)).trans (hncell j hjn)
                          obtain ⟨hkn, hkne', hok, _⟩ := HI.out.now k rfl
                          have hmem : (tgs code k).getD j 0 ∈ tgs code k := by simp only [List.getD_eq_getElem?_getD, List.getElem?_eq_getElem hjn, Option.getD_some]; exact List.getElem_mem hjn
                          obtain ⟨t0, t1⟩ := tgs_in code k hok.2.1 _ hmem
                          obtain ⟨tn, htn⟩ := Int.eq_ofNat_of_zero_le t0
                          have htn2 : ((tgs code k).getD j 0).toNat = tn := by rw [htn]; rfl
                          have hbl' := HI.out.len
                          obtain ⟨b1, bf1⟩ := HL.out.bs.cell tn (by omega)
                          rw [htn] at n0
                          have ht0 : (0 : Int) ≤ (tn : Int) := by omega
                          have ht1 : (tn : Int) < (code.length : Int) := by omega
                          have hj0 : (0 : Int) ≤ (j : Int) := by omega
                          have hj1 : (j : Int) < ((tgs code k).length : Int) := by omega
                          have HAf : Hid (aft code k (bs'.getD k (-1)) = A) := by show _ = _; rw [Hd.out]; exact HA.out
                          have Hsame := Lib.hid (fun he => HI.out.same hjn he)
                          have Hclash := Lib.hid (fun h1 h2 => HI.out.clash hjn h1 h2)
                          have Hfresh := Lib.hid (fun he h1 h2 h3 => HI.out.fresh (todo' := todo' ++ [tn]) hjn he h1 h2 h3)
                          rw [htn2, HAf.out] at Hsame Hclash Hfresh
                          have htk : tn = k → bs'.getD tn (-1) ≠ -1 := fun e => by rw [e]; exact hkne'
                          have Htk := Lib.hid htk
                          clear hncell hnv hmem htn htn2 hok t0 t1 htk hkne'
                          by_cases hb : bs'.getD tn (-1) = -1
                          · rw [hb] at b1
                            have hf := Hfresh.out hb (fun t ht => (List.mem_append.1 ht).imp id (fun h => by simpa using h)) (fun t ht => List.mem_append.2 (.inl ht)) (List.mem_append.2 (.inr (List.mem_singleton.2 rfl)))
                            obtain ⟨hIn, hun⟩ := hf
                            have HIn := Lib.hid hIn
                            have hdn : Hid ((bs'.set tn A).getD k (-1) = d) := by
                              show _ = _
                              simp only [List.getD_eq_getElem?_getD, List.getElem?_set]
                              rw [if_neg (fun e => Htk.out e hb)]
                              have := Hd.out; simpa [List.getD] using this
                            have HLx := Lib.hid ((HL.out.label tn A).alloc (.cells #[.int .i64 (tn : Int)] 3))
                            obtain ⟨ab, ao, ac, rfl, halo, hablt, hac, hcells, hspare, hpush⟩ := HLx.out.q.form
                            have Hspare := Lib.hid hspare
                            have Hpush := Lib.hid hpush
                            have Hcells := Lib.hid hcells
                            have hun' : 2 * unl (bs'.set tn A) + (todo' ++ [tn]).length ≤ 2 * unl bs + rest.length := by rw [List.length_append, List.length_singleton]; omega
                            have htl : todo'.length ≤ 40001 := by
                              have := hmeas
                              simp only [List.length_cons] at this
                              omega
                            clear hIn hspare hpush hcells Hsame Hclash Hfresh HL HI Hd hb
                            go_wp2_with (at_builtin; refine wpList_append_arg _ rfl _ _ 83 rfl 3 i0 (.int .i64 0) 1 8 Tryz.underlying83 hi hz0 hz1 hz2 rfl (by decide) ab ao (todo'.length + 1) ac (natCells (k :: todo')) rfl ?c0 ?c1 ⟨V4.heap.size, 0, none⟩ 1 1 [.int .i64 (tn : Int)] rfl rfl ?c2 ?c3 ?c4 ?c5 ?c6 ?room ?grow)
                            case c0 => simp [natCells]
                            case c1 => exact Hcells.out
                            case c3 => rfl
                            case c4 => exact Hspare.out
                            case c5 => unfold maxLen; omega
                            case c6 => omega
                            case room =>
                              intro hr
                              have hp := Hpush.out hr tn
                              have HLn := Lib.hid (HLx.out.room tn (todo'.length + 1 + 1) halo hablt _ hp)
                              clear hp
                              simp only [World.setCells, Nat.mul_one]
                              go_wp2_with fail
                              go_roundw
                              case rel => exact ⟨j + 1, bs'.set tn A, todo' ++ [tn], by go_num, by omega, HLn, HIn, hdn, hun'⟩
                              case measure => simp [intOf]; omega
                            case grow =>
                              intro hr v' w5 hown hgrow
                              have HLn := Lib.hid (HLx.out.grow tn (todo'.length + 1 + 1) (V4.heap.size + 1) (by simp) rfl hown hgrow)
                              clear hown hgrow
                              go_wp2_with fail
                              go_roundw
                              case rel => exact ⟨j + 1, bs'.set tn A, todo' ++ [tn], by go_num, by omega, HLn, HIn, hdn, hun'⟩
                              case measure => simp [intOf]; omega
                          · have Hb1 := HL.out.bs.cell tn (by omega)
                            by_cases hbA : bs'.getD tn (-1) = A
                            · have HIn := Lib.hid (Hsame.out hbA)
                              have hbn : (bs'.getD tn (-1) == -1) = false := beq_eq_false_iff_ne.2 hb
                              have hA1 : A ≠ -1 := fun e => hb (hbA.trans e)
                              have hA1b : (A == -1) = false := beq_eq_false_iff_ne.2 hA1
                              rw [hbA] at b1
                              clear Hb1 hbA hbn hb Hclash Hfresh Hsame HI Htk
                              go_wp2_with fail
                              go_roundw
                              case rel => exact ⟨j + 1, bs', todo', by go_num, by omega, HL, HIn, Hd, hms⟩
                              case measure => simp [intOf]; omega
                            · have hans := Lib.hid (dep_bad hn0 (Hclash.out hb hbA))
                              have Hbw := Lib.hid HL.out.bw
                              have hbn : (bs'.getD tn (-1) == -1) = false := beq_eq_false_iff_ne.2 hb
                              have hbm : (bs'.getD tn (-1) == A) = false := beq_eq_false_iff_ne.2 hbA
                              generalize bs'.getD tn (-1) = bt at *
                              clear Hb1 Hclash Hfresh Hsame HI Htk HL
                              go_wp2_with fail
                              go_ret2
                              exact ⟨_, _, rfl, hans.out, Hbw.out⟩
                        · obtain rfl : j = (tgs code k).length := by omega
                          have HIc := Lib.hid (HI.out.close (Nat.le_refl _))
                          obtain ⟨ab, ao, ac, rfl, halo, hablt, hac, _, hqr⟩ := HL.out.q.first
                          have Hqr := Lib.hid hqr
                          have Hbs := Lib.hid HL.out.bs
                          have Hff := Lib.hid HL.out.f
                          have Hbw := Lib.hid HL.out.bw
                          have hng : Hid (negs V4 (w.heap.size + 1) = unl bs') := HL.out.bs.negs
                          have hmeas' : 2 * unl bs' + todo'.length ≤ 40001 := by have := hmeas; simp only [List.length_cons] at this; omega
                          have hi1 : (1 : Int) ≤ (todo'.length : Int) + 1 := by omega
                          have hi2 : (1 : Int) ≤ (ac : Int) := by omega
                          have hi3 : 1 ≤ ac := by omega
                          clear hqr HI HL
                          by_cases hac1 : ac = 1
                          · have hac1' : (ac = 1) = True := eq_true hac1
                            rw [if_pos hac1] at Hqr
                            clear hac1
                            go_wp2_with fail
                            go_roundw
                            case rel => exact ⟨bs', todo', m2, rfl, Hqr, Hbs, Hff, Hbw, HIc, hm20, hmeas'⟩
                            case measure =>
                              have e1 := hng.out
                              have e2 := hnegs.out
                              simp only [lenOf]
                              rw [e1, e2]; omega
                          · have hac1' : (ac = 1) = False := eq_false hac1
                            rw [if_neg hac1] at Hqr
                            clear hac1
                            go_wp2_with fail
                            go_roundw
                            case rel => exact ⟨bs', todo', m2, rfl, Hqr, Hbs, Hff, Hbw, HIc, hm20, hmeas'⟩
                            case measure =>
                              have e1 := hng.out
                              have e2 := hnegs.out
                              simp only [lenOf]
                              rw [e1, e2]; omega
              · have hbad := HI.out.fault (c := k) (List.mem_cons_self ..) (not_ok _ _ _ (.inr (.inl (by rw [HG.out]; exact hG0))))
                have hans := Lib.hid (dep_bad hn0 hbad)
                have hGb : (G == 0) = false := beq_eq_false_iff_ne.2 hG0
                have hGn : (¬ G = 0) = True := eq_true hG0
                clear hbad hdd
                go_wp2_with fail
                go_ret2
                exact ⟨_, _, rfl, hans.out, Hbw3.out⟩
            · have hbad := HI.out.fault (c := k) (List.mem_cons_self ..) (not_ok _ _ _ (.inl (by rw [hEE.out]; exact hE0)))
              have hans := Lib.hid (dep_bad hn0 hbad)
              have hEb : (E == 0) = false := beq_eq_false_iff_ne.2 hE0
              have hEn : (¬ E = 0) = True := eq_true hE0
              clear hbad hdd
              go_wp2_with fail
              go_ret2
              exact ⟨_, _, rfl, hans.out, Hbw3.out⟩
end Go.Proofs.YtidolpcbbbakmaaGreat
namespace Go.Proofs.YtidolpcbbbakmaaGreat
end Go.Proofs.YtidolpcbbbakmaaGreat
