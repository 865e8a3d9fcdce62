/- Depth of the reference. -/
import Derived.Test.YtidolpcbbbakmaaDp3
namespace Go.Proofs.Ytidolpcbbbakmaa
open Go Go.RowKit

/-- What the inner loop keeps: the labels, the places to do, and the row of the targets (in the blocks from n2 to n3). -/
structure LSq (b0 n2 n3 : Nat) (w w3 V : World) (tv : Value) (full : List Nat) (bs : List Int) : Prop where
  q : QRow V (b0 + 1) tv full
  qb : ∀ b off sp n c, tv = .slice (some ⟨b, off, sp⟩) n c → b < n2 ∨ n3 ≤ b
  bs : BsAt V (b0) bs
  bw : Below b0 w V
  kp : ∀ q, n2 ≤ q → q < n3 → V.heap[q]? = w3.heap[q]?
  sz : n3 ≤ V.heap.size
  ord : b0 < n2
  up : n2 ≤ n3
theorem LSq.label {b0 n2 n3 : Nat} {w w3 V : World} {tv : Value} {full : List Nat} {bs : List Int} (h : LSq b0 n2 n3 w w3 V tv full bs) (t : Nat) (x : Int) : LSq b0 n2 n3 w w3 (V.setCell ⟨b0, t, none⟩ (.int .i64 x)) tv full (bs.set t x) := by
  have hg := grown_set V (b0) t (.int .i64 x)
  have ho := h.ord
  have hs := h.sz
  have hu := h.up
  exact ⟨h.q.grown hg (fun k hk => by cases hk; omega), h.qb, h.bs.set t x, h.bw.trans (grown_under hg (by omega) (fun k hk => by cases hk; omega)), fun q h1 h2 => (hg.block q (by omega) (fun e => by have := Option.some.inj e; omega)).trans (h.kp q h1 h2), by simpa using hs, ho, hu⟩
theorem LSq.alloc {b0 n2 n3 : Nat} {w w3 V : World} {tv : Value} {full : List Nat} {bs : List Int} (h : LSq b0 n2 n3 w w3 V tv full bs) (o : Obj) : LSq b0 n2 n3 w w3 (V.alloc o) tv full bs := by
  have hg := grown_alloc V o
  have ho := h.ord
  have hs := h.sz
  have hu := h.up
  exact ⟨h.q.grown hg (by nofun), h.qb, h.bs.grown hg (by nofun), h.bw.trans (grown_under hg (by omega) (by nofun)), fun q h1 h2 => (hg.block q (by omega) (by nofun)).trans (h.kp q h1 h2), by have := hg.size; omega, ho, hu⟩
theorem LSq.room {b0 n2 n3 : Nat} {w w3 V : World} {full : List Nat} {bs : List Int} {b off cap n : Nat} (h : LSq b0 n2 n3 w w3 V (.slice (some ⟨b, off, none⟩) n cap) full bs) (x : Nat) (m : Nat) (hb : b0 + 1 ≤ b) (hlt : b < V.heap.size) (o : Nat)
    (hq : QRow (V.setCell ⟨b, o, none⟩ (.int .i64 (x : Int))) (b0 + 1) (.slice (some ⟨b, off, none⟩) m cap) (full ++ [x])) : LSq b0 n2 n3 w w3 (V.setCell ⟨b, o, none⟩ (.int .i64 (x : Int))) (.slice (some ⟨b, off, none⟩) m cap) (full ++ [x]) bs := by
  have hg := grown_set V b o (.int .i64 (x : Int))
  have ho := h.ord
  have hs := h.sz
  have hu := h.up
  have hbb := h.qb b off none n cap rfl
  exact ⟨hq, fun b' off' sp n' c e => by have := (Value.slice.inj e).1; simp at this; omega, h.bs.grown hg (fun e => by have := Option.some.inj e; omega), h.bw.trans (grown_under hg (by omega) (fun k hk => by cases hk; omega)), fun q h1 h2 => (hg.block q (by omega) (fun e => by have := Option.some.inj e; omega)).trans (h.kp q h1 h2), by simpa using hs, ho, hu⟩
theorem LSq.grow {b0 n2 n3 : Nat} {w w3 V V' : World} {tv v' : Value} {full : List Nat} {bs : List Int} (h : LSq b0 n2 n3 w w3 V tv full bs) (x n B : Nat) (hB : V.heap.size = B) (hn : full.length + 1 = n) (hown : V'.ownsRow B 3 1 v' n (natCells full ++ [.int .i64 (x : Int)])) (hg : V.grownBy V' none) : LSq b0 n2 n3 w w3 V' v' (full ++ [x]) bs := by
  have ho := h.ord
  have hs := h.sz
  have hu := h.up
  subst hB
  rw [← map_app] at hown
  refine ⟨QRow.new hown (by simp; omega) (by omega) (by omega), fun b off sp n' c e => ?_, h.bs.grown hg (by nofun), h.bw.trans (grown_under hg (by omega) (by nofun)), fun q h1 h2 => (hg.block q (by omega) (by nofun)).trans (h.kp q h1 h2), by have := hg.size; omega, ho, hu⟩
  have := owns_ge hown b off sp n' c e; omega
set_option maxHeartbeats 4000000 in
set_option maxRecDepth 100000 in
theorem rdepth_any (v : Value) (code : List Ins) (w : World) (h : IsCode w v code) (hl : code.length ≤ 20000) :
    Calls Try.prog 13 #[v] w (DepAns code w) := by
  have Hc := Lib.hid h
  obtain ⟨a, c, rfl, hlc, _⟩ := h
  by_cases h0 : code.length = 0
  · have hans : Hid (DepOk code 0 24) := by show DepOk _ _ _; unfold DepOk; rw [if_pos h0]; exact ⟨rfl, rfl⟩
    have h0' : (code.length : Int) = 0 := by omega
    go_enter Try.func13, Try.ntmps13
    go_wp2_with fail
    go_ret2
    exact ⟨_, _, rfl, hans.out, Below.refl _ _⟩
  · have hn0 : 0 < code.length := by omega
    have h0b : ((code.length : Int) == 0) = false := beq_eq_false_iff_ne.2 (by omega)
    have hmk := run_make_row' (P := Try.prog) 69 3 (.int .i64 0) 8 Try.underlying69 info_int' rfl .i64 .i64 code.length (by omega) (by omega)
    obtain ⟨i0, hi, hz0, hz1, hz2⟩ := info_parts info_int
    have hb0 : Below w.heap.size w (w.alloc (.cells (madeCells #[.int .i64 0] code.length) 3)) := (Below.refl _ _).alloc (Nat.le_refl _) _
    have gB : BsAt (w.alloc (.cells (madeCells #[.int .i64 0] code.length) 3)) w.heap.size (List.replicate code.length 0) := by
      unfold BsAt
      rw [← made_bs]
      exact new_heap w _
    go_enter Try.func13, Try.ntmps13
    go_wp2_with fail
    generalize w.alloc (.cells (madeCells #[.int .i64 0] code.length) 3) = W at *
    have hltW := heap_lt gB
    clear hmk
    go_loopw [5] (fun i wr => ∃ j : Nat, i = .int .i64 j ∧ j ≤ code.length ∧ Hid (BsAt wr w.heap.size (List.replicate j (-1) ++ List.replicate (code.length - j) 0)) ∧ Hid (W.grownBy wr (some w.heap.size))) (fun i _ => code.length - (intOf i).toNat)
    case atStart => exact ⟨0, rfl, Nat.zero_le _, by simpa [Hid] using gB, ⟨rfl, rfl, rfl, Nat.le_refl _, fun _ _ _ => rfl⟩⟩
    case round =>
      obtain ⟨j, rfl, hj, HB, HG⟩ := hrel
      by_cases hjn : j < code.length
      · obtain ⟨x0, fx⟩ := HB.out.cell j (by simp; omega)
        have hi0 : (0 : Int) ≤ (j : Int) := by omega
        have hi1 : (j : Int) < (code.length : Int) := by omega
        have HB2 := Lib.hid (HB.out.set j (-1))
        have he : (List.replicate j (-1 : Int) ++ List.replicate (code.length - j) 0).set j (-1) = List.replicate (j + 1) (-1) ++ List.replicate (code.length - (j + 1)) 0 := by
          obtain ⟨m, hm⟩ : ∃ m, code.length - j = m + 1 := ⟨code.length - j - 1, by omega⟩
          rw [hm, show code.length - (j + 1) = m by omega, List.set_append_right _ _ (by simp)]
          simp only [List.length_replicate, Nat.sub_self, List.replicate_succ, List.set_cons_zero]
          rw [← List.replicate_succ, List.replicate_succ', List.append_assoc]; rfl
        rw [he] at HB2
        have HG2 := Lib.hid (grown_both HG.out (grown_set wr w.heap.size j (.int .i64 (-1))))
        clear he HB HG
        go_wp2_with fail
        go_round
        case rel => exact ⟨j + 1, by go_num, by omega, HB2, HG2⟩
        case measure => simp [intOf]; omega
      · obtain rfl : j = code.length := by omega
        have HB1 : Hid (BsAt wr w.heap.size (List.replicate code.length (-1))) := by have := HB.out; simpa [Hid] using this
        obtain ⟨x0, fx⟩ := HB1.out.cell 0 (by simp; omega)
        have hbr := hb0.trans (grown_under (B := w.heap.size) HG.out (by omega) (fun k hk => by cases hk; omega))
        have hlt1 := heap_lt HB1.out
        have HB2 := HB1.out.set 0 0
        have hgs := grown_set wr w.heap.size 0 (.int .i64 0)
        have hbs := hbr.trans (grown_under (B := w.heap.size) hgs (by omega) (fun k hk => by cases hk; omega))
        have hz2 : (wr.setCell ⟨w.heap.size, 0, none⟩ (.int .i64 0)).heap.size = wr.heap.size := by simp
        have hga := grown_alloc (wr.setCell ⟨w.heap.size, 0, none⟩ (.int .i64 0)) (.cells #[.int .i64 0] 3)
        have HB3 := Lib.hid (HB2.grown hga (by nofun))
        have Hbw3 := Lib.hid (hbs.trans (grown_under (B := w.heap.size) hga (by omega) (by nofun)))
        have HQ3 := Lib.hid (q_start (wr.setCell ⟨w.heap.size, 0, none⟩ (.int .i64 0)) (w.heap.size + 1) wr.heap.size hz2 (by omega))
        have HI3 := Lib.hid (inv_start code hn0)
        clear hbr HB2 hgs hbs hz2 hga HB HG HB1 gB hb0
        go_wp2_with fail
        go_loopw [6, 7] (fun mv tv wr => ∃ (bs : List Int) (todo : List Nat) (m : Int), mv = .int .i64 m ∧ Hid (QRow wr (w.heap.size + 1) tv todo) ∧ Hid (BsAt wr w.heap.size bs) ∧ Hid (Below w.heap.size w wr) ∧ Hid (Inv code bs todo m none 0) ∧ m ≤ 20000 ∧ 2 * unl bs + todo.length ≤ 40001) (fun _ tv wr => 2 * negs wr w.heap.size + lenOf tv)
        case atStart => exact ⟨_, _, 0, rfl, HQ3, HB3, Hbw3, HI3, by decide, by have := start_unl code hn0; simp only [List.length_singleton]; omega⟩
        case round =>
          rename World => V
          clear HB3 Hbw3 HQ3 HI3
          obtain ⟨bs, todo, m, rfl, HQ, HB, Hbw, HI, hm, hmeas⟩ := hrel
          have hm0 := HI.out.m0
          by_cases hnil : todo = []
          · subst hnil
            obtain ⟨qb, qo, qc, qcur, rfl, _⟩ := HQ.out
            simp only [List.length_nil]
            go_wp2_with fail
            go_ret2
            exact ⟨_, _, rfl, HI.out.end hn0, Hbw.out⟩
          · obtain ⟨rest, k, rfl⟩ : ∃ rest k, todo = rest ++ [k] := ⟨_, _, (List.dropLast_concat_getLast hnil).symm⟩
            obtain ⟨qb, qo, qc, rfl, hqlo, hqlt, hqc, hq0, hrest⟩ := HQ.out.last
            have Hrest := Lib.hid hrest
            have hmk : k ∈ rest ++ [k] := List.mem_append.2 (.inr (List.mem_singleton.2 rfl))
            obtain ⟨hk, hkne⟩ := HI.out.inn k hmk
            have hlab := HI.out.lab k hk hkne
            have hblen := HI.out.len
            obtain ⟨hd0, _, hd1⟩ := hlab
            obtain ⟨bc, oc, cc, hcv, _, hbl, e0, e1, e2⟩ := code_at Hc.out k hk
            obtain ⟨rfl, _, rfl⟩ := Value.slice.inj hcv
            have q0 := (Hbw.out.cell (p := ⟨bc, oc + k * 3, none⟩) hbl).trans e0
            have q1 := (Hbw.out.cell (p := ⟨bc, oc + k * 3 + 1, none⟩) hbl).trans e1
            have q2 := (Hbw.out.cell (p := ⟨bc, oc + k * 3 + 2, none⟩) hbl).trans e2
            have hpb := eff_bounds (code.getD k default).op (code.getD k default).a (code.getD k default).b
            obtain ⟨P, U, E, hE⟩ : ∃ P U E, effT (code.getD k default).op (code.getD k default).a (code.getD k default).b = (P, U, E) := ⟨_, _, _, rfl⟩
            have hP : Hid (pops code k = P) := congrArg Prod.fst hE
            have hU : Hid (pushes code k = U) := congrArg (fun t : Int × Int × Int => t.2.1) hE
            have hEE : Hid (effE code k = E) := congrArg (fun t : Int × Int × Int => t.2.2) hE
            rw [hE] at hpb
            simp only at hpb
            obtain ⟨hP0, hP1, hU0, hU1, hE0, hE1⟩ := hpb
            have HEf : Hid (∀ u, Calls Try.prog 30 #[.agg #[.int .i64 (code.getD k default).op, .int .i64 (code.getD k default).a, .int .i64 (code.getD k default).b]] u fun e w' => e = .returned (.tuple #[.int .i64 P, .int .i64 U, .int .i64 E]) ∧ Below u.heap.size u w') := fun u => by
              have := rEffect_any (code.getD k default).op (code.getD k default).a (code.getD k default).b u
              unfold effV at this; rw [hE] at this; exact this
            generalize code.getD k default = ii at *
            obtain ⟨io, ix, iy⟩ := ii
            simp only at q0 q1 q2 HEf
            have hki0 : (0 : Int) ≤ (k : Int) := by omega
            have hki1 : (k : Int) < (code.length : Int) := by omega
            have hrlen : rest.length ≤ 40000 := by have := hmeas; simp only [List.length_append, List.length_singleton] at this; omega
            have hrl : (0 : Int) < (rest.length : Int) + 1 := by omega
            have hrl2 : (rest.length : Int) + 1 - 1 = (rest.length : Int) := by omega
            have hrl3 : IntKind.i64.wrap (rest.length : Int) = (rest.length : Int) := wrap_ok _ (by omega) (by omega)
            have hrl4 : (rest.length : Int) < (rest.length : Int) + 1 := by omega
            have hrl5 : (rest.length : Int) ≤ (qc : Int) := by omega
            have hrl6 : rest.length ≤ qc := by omega
            clear e0 e1 e2 hcv hE hrest
            obtain ⟨G, hG⟩ : ∃ G, tgE code k = G := ⟨_, rfl⟩
            have HTg : Hid (∀ u, Below w.heap.size w u → Calls Try.prog 31 #[.agg #[.int .i64 0, .int .i64 0, .int .i64 0, .slice (some ⟨bc, oc, none⟩) code.length c], .int .i64 k] u fun e w' => ∃ v, e = .returned (.tuple #[v, .int .i64 G]) ∧ RowF u.heap.size w' v (tgs code k).length (ints (tgs code k)) ∧ Below u.heap.size u w') := fun u hu => by
              have := rTargets_any 0 0 0 (k : Int) _ code u (IsRow.below Hc.out hu) (by omega)
              rw [← hG]; exact this
            have HG := Lib.hid hG
            clear hG
            go_wp2_with fail
            refine (HEf.out _).mono ?_
            rintro e w2 ⟨rfl, hb2⟩
            have hbw2 := Hbw.out.trans (hb2.mono Hbw.out.size)
            have HT2 := Lib.hid (HTg.out w2 hbw2)
            clear q0 q1 q2 hq0 HEf HTg
            go_wp2_with fail
            refine HT2.out.mono ?_
            rintro e w3 ⟨nv, rfl, hrow3, hb3⟩
            have hg23 := Below.trans hb2 (hb3.mono hb2.size)
            have hg3 := grown_below hg23
            have HB3 := Lib.hid (HB.out.grown hg3 (by nofun))
            have Hbw3 := Lib.hid (hbw2.trans (hb3.mono hbw2.size))
            have HR3 := Lib.hid (Hrest.out.grown hg3 (by nofun))
            have hsz3 : Hid (V.heap.size ≤ w2.heap.size) := hb2.size
            have hsz23 : Hid (w2.heap.size ≤ w3.heap.size) := hb3.size
            have Hrow3 := Lib.hid hrow3
            have hnv := hrow3.1
            obtain ⟨na, nc, rfl, hnlc, _⟩ := hnv
            have hltB := heap_lt HB.out
            have hlt3 := heap_lt HB3.out
            obtain ⟨b0, bf⟩ := HB3.out.cell k (by omega)
            have hnegs : Hid (negs V w.heap.size = unl bs) := HB.out.negs
            clear HT2 hrow3 hb3 hb2 hg23 hg3 HB Hbw hbw2 Hrest HQ
            generalize hdd : bs.getD k (-1) = d at *
            have Hdd := Lib.hid hdd
            by_cases hE0 : E = 0
            · subst hE0
              by_cases hG0 : G = 0
              · subst hG0
                by_cases hpd : d < P
                · have hbad := HI.out.fault (c := k) hmk (not_ok _ _ _ (.inr (.inr (by rw [hP.out, hdd]; exact hpd))))
                  have hans := Lib.hid (dep_bad hn0 hbad)
                  have hpd' : (d < P) = True := eq_true hpd
                  clear hbad hpd hdd
                  go_wp2_with fail
                  go_ret2
                  exact ⟨_, _, rfl, hans.out, Hbw3.out⟩
                · have hpd' : (d < P) = False := eq_false hpd
                  have hok : OkAt code k (bs.getD k (-1)) := ⟨hEE.out, HG.out, by rw [hP.out, hdd]; omega⟩
                  have hA : aft code k d = d - P + U := by unfold aft; rw [hP.out, hU.out]
                  have hI0 := HI.out.take k hmk (rest := rest) (fun t ht => (List.mem_append.1 ht).symm.imp (fun h => by simpa using h) id) (fun t ht => List.mem_append.2 (.inl ht)) hok (max (max m d) (d - P + U)) (by rw [hdd, hA])
                  have hw1 : IntKind.i64.wrap (d - P) = d - P := wrap_ok _ (by omega) (by omega)
                  have hw2 : IntKind.i64.wrap (d - P + U) = d - P + U := wrap_ok _ (by omega) (by omega)
                  have hm20 : max (max m d) (d - P + U) ≤ 20000 := by omega
                  have HI0 := Lib.hid hI0
                  have HA := Lib.hid hA
                  clear hI0 hA hok hdd HI hpd
                  go_upto_region 19 with fail
                  rename World => w3
                  go_cut [6] from 86 to 92 (fun v wx => v = .int .i64 (max (max m d) (d - P + U)) ∧ wx = w3)
                  case first =>
                    by_cases hmd : m < d
                    · by_cases hda : d < d - P + U
                      · have hx : Hid (max (max m d) (d - P + U) = d - P + U) := by show _ = _; omega
                        go_wp2_with fail
                        go_meet
                        exact ⟨by rw [hx.out], rfl⟩
                      · have hx : Hid (max (max m d) (d - P + U) = d) := by show _ = _; omega
                        go_wp2_with fail
                        go_meet
                        exact ⟨by rw [hx.out], rfl⟩
                    · by_cases hda : m < d - P + U
                      · have hx : Hid (max (max m d) (d - P + U) = d - P + U) := by show _ = _; omega
                        go_wp2_with fail
                        go_meet
                        exact ⟨by rw [hx.out], rfl⟩
                      · have hx : Hid (max (max m d) (d - P + U) = m) := by show _ = _; omega
                        go_wp2_with fail
                        go_meet
                        exact ⟨by rw [hx.out], rfl⟩
                  case rest =>
                    obtain ⟨rfl, rfl⟩ := hcut
                    rename World => w3
                    generalize max (max m d) (d - P + U) = m2 at *
                    generalize d - P + U = A at *
                    go_wp2_with fail
                    have hs3 : V.heap.size ≤ w2.heap.size := hsz3.out
                    have hs23 : w2.heap.size ≤ w3.heap.size := hsz23.out
                    have htgl := tgs_len code k
                    have HL0 : Hid (LSq w.heap.size w2.heap.size w3.heap.size w w3 w3 (.slice (some ⟨qb, qo, none⟩) rest.length qc) rest bs) :=
                      ⟨HR3.out, fun b off sp n c e => by have := (Value.slice.inj e).1; simp at this; left; omega, HB3.out, Hbw3.out, fun _ _ _ => rfl, Nat.le_refl _, by omega, by omega⟩
                    go_loopw [7, 15] (fun tv i wr => ∃ (j : Nat) (bs' : List Int) (todo' : List Nat), i = .int .i64 j ∧ j ≤ (tgs code k).length ∧ Hid (LSq w.heap.size w2.heap.size w3.heap.size w w3 wr tv todo' bs') ∧ Hid (Inv code bs' todo' m2 (some k) j) ∧ Hid (bs'.getD k (-1) = d) ∧ 2 * unl bs' + todo'.length ≤ 2 * unl bs + rest.length) (fun _ i _ => (tgs code k).length - (intOf i).toNat)
                    case atStart => exact ⟨0, bs, rest, rfl, Nat.zero_le _, HL0, HI0, Hdd, Nat.le_refl _⟩
                    case round =>
                      rename World => V4
                      clear HB3 Hbw3 HR3 HI0 Hdd b0 bf HL0
                      obtain ⟨j, bs', todo', rfl, hj, HL, HI, Hd, hms⟩ := hrel
                      have hmeas2 : 2 * unl bs' + todo'.length ≤ 40001 := by have := hmeas; simp only [List.length_append, List.length_singleton] at this; omega
                      by_cases hjn : j < (tgs code k).length
                      · obtain ⟨nb, no, nc', hnv, hnlo, hnlt, hncell⟩ := Hrow3.out.cell (by omega)
                        obtain ⟨rfl, _, rfl⟩ := Value.slice.inj hnv
                        have n0 := (World.cell?_of_block (a := ⟨nb, no + j, none⟩) (HL.out.kp nb hnlo hnlt)).trans (hncell j hjn)
                        obtain ⟨hkn, hkne', hok, _⟩ := HI.out.now k rfl
                        have hmem : (tgs code k).getD j 0 ∈ tgs code k := by simp only [List.getD_eq_getElem?_getD, List.getElem?_eq_getElem hjn, Option.getD_some]; exact List.getElem_mem hjn
                        obtain ⟨t0, t1⟩ := tgs_in code k hok.2.1 _ hmem
                        obtain ⟨tn, htn⟩ := Int.eq_ofNat_of_zero_le t0
                        have htn2 : ((tgs code k).getD j 0).toNat = tn := by rw [htn]; rfl
                        have hbl' := HI.out.len
                        obtain ⟨b1, bf1⟩ := HL.out.bs.cell tn (by omega)
                        have hlabt := HI.out.lab tn (by omega)
                        rw [htn] at n0
                        have ht0 : (0 : Int) ≤ (tn : Int) := by omega
                        have ht1 : (tn : Int) < (code.length : Int) := by omega
                        have hj0 : (0 : Int) ≤ (j : Int) := by omega
                        have hj1 : (j : Int) < ((tgs code k).length : Int) := by omega
                        have HAf : Hid (aft code k (bs'.getD k (-1)) = A) := by show _ = _; rw [Hd.out]; exact HA.out
                        have Hsame := Lib.hid (fun he => HI.out.same hjn he)
                        have Hclash := Lib.hid (fun h1 h2 => HI.out.clash hjn h1 h2)
                        have Hfresh := Lib.hid (fun he h1 h2 h3 => HI.out.fresh (todo' := todo' ++ [tn]) hjn he h1 h2 h3)
                        rw [htn2, HAf.out] at Hsame Hclash Hfresh
                        have htk : tn = k → bs'.getD tn (-1) ≠ -1 := fun e => by rw [e]; exact hkne'
                        have Htk := Lib.hid htk
                        have hlab0 : bs'.getD tn (-1) ≠ -1 → 0 ≤ bs'.getD tn (-1) := fun h => (hlabt h).1
                        clear hncell hnv hmem htn htn2 hok t0 t1 htk hkne' hlabt
                        by_cases hb : bs'.getD tn (-1) = -1
                        · rw [hb] at b1
                          have hf := Hfresh.out hb (fun t ht => (List.mem_append.1 ht).imp id (fun h => by simpa using h)) (fun t ht => List.mem_append.2 (.inl ht)) (List.mem_append.2 (.inr (List.mem_singleton.2 rfl)))
                          obtain ⟨hIn, hun⟩ := hf
                          have HIn := Lib.hid hIn
                          have hdn : Hid ((bs'.set tn A).getD k (-1) = d) := by
                            show _ = _
                            simp only [List.getD_eq_getElem?_getD, List.getElem?_set]
                            rw [if_neg (fun e => Htk.out e hb)]
                            have := Hd.out; simpa [List.getD] using this
                          have HLx := Lib.hid ((HL.out.label tn A).alloc (.cells #[.int .i64 (tn : Int)] 3))
                          obtain ⟨ab, ao, ac, rfl, halo, hablt, hac, hcells, hspare, hpush⟩ := HLx.out.q.form
                          have Hspare := Lib.hid hspare
                          have Hpush := Lib.hid hpush
                          have Hcells := Lib.hid hcells
                          have hun' : 2 * unl (bs'.set tn A) + (todo' ++ [tn]).length ≤ 2 * unl bs + rest.length := by rw [List.length_append, List.length_singleton]; omega
                          clear hIn hspare hpush hcells Hsame Hclash Hfresh HL HI Hd hb hlab0
                          go_wp2_with (at_builtin; refine wpList_append_arg _ rfl _ _ 69 rfl 3 i0 (.int .i64 0) 1 8 Try.underlying69 hi hz0 hz1 hz2 rfl (by decide) ab ao todo'.length ac (natCells todo') rfl ?c0 ?c1 ⟨V4.heap.size, 0, none⟩ 1 1 [.int .i64 (tn : Int)] rfl rfl ?c2 ?c3 ?c4 ?c5 ?c6 ?room ?grow)
                          case c0 => simp [natCells]
                          case c1 => exact Hcells.out
                          case c3 => rfl
                          case c4 => exact Hspare.out
                          case c5 => unfold maxLen; omega
                          case c6 => omega
                          case room =>
                            intro hr
                            have hp := Hpush.out hr tn
                            have HLn := Lib.hid (HLx.out.room tn (todo'.length + 1) halo hablt _ hp)
                            clear hp
                            simp only [World.setCells]
                            go_wp2_with fail
                            go_roundw
                            case rel => exact ⟨j + 1, bs'.set tn A, todo' ++ [tn], by go_num, by omega, HLn, HIn, hdn, hun'⟩
                            case measure => simp [intOf]; omega
                          case grow =>
                            intro hr v' w5 hown hgrow
                            have HLn := Lib.hid (HLx.out.grow tn (todo'.length + 1) (V4.heap.size + 1) (by simp) rfl hown hgrow)
                            clear hown hgrow
                            go_wp2_with fail
                            go_roundw
                            case rel => exact ⟨j + 1, bs'.set tn A, todo' ++ [tn], by go_num, by omega, HLn, HIn, hdn, hun'⟩
                            case measure => simp [intOf]; omega
                        · have hb0' := hlab0 hb
                          by_cases hbA : bs'.getD tn (-1) = A
                          · have HIn := Lib.hid (Hsame.out hbA)
                            have hA0 : 0 ≤ A := by omega
                            rw [hbA] at b1
                            have hq1 : ((0 : Int) ≤ A) = True := eq_true hA0
                            have hq2 : (A < 0) = False := eq_false (by omega)
                            clear hbA hb Hclash Hfresh Hsame HI Htk hlab0 hb0'
                            go_wp2_with fail
                            go_roundw
                            case rel => exact ⟨j + 1, bs', todo', by go_num, by omega, HL, HIn, Hd, hms⟩
                            case measure => simp [intOf]; omega
                          · have hans := Lib.hid (dep_bad hn0 (Hclash.out hb hbA))
                            have Hbw := Lib.hid HL.out.bw
                            have hbm : (bs'.getD tn (-1) == A) = false := beq_eq_false_iff_ne.2 hbA
                            have hq1 : ((0 : Int) ≤ bs'.getD tn (-1)) = True := eq_true hb0'
                            generalize bs'.getD tn (-1) = bt at *
                            clear Hclash Hfresh Hsame HI Htk HL
                            go_wp2_with fail
                            go_ret2
                            exact ⟨_, _, rfl, hans.out, Hbw.out⟩
                      · obtain rfl : j = (tgs code k).length := by omega
                        have HIc := Lib.hid (HI.out.close (Nat.le_refl _))
                        have Hqr := Lib.hid HL.out.q
                        have Hbs := Lib.hid HL.out.bs
                        have Hbw := Lib.hid HL.out.bw
                        have hng : Hid (negs V4 w.heap.size = unl bs') := HL.out.bs.negs
                        have hq0 := HL.out.q
                        obtain ⟨lb, lo, lc, lcur, rfl, _⟩ := hq0
                        clear HI HL
                        go_wp2_with fail
                        go_roundw
                        case rel => exact ⟨bs', todo', m2, rfl, Hqr, Hbs, Hbw, HIc, hm20, hmeas2⟩
                        case measure =>
                          have e1 := hng.out
                          have e2 := hnegs.out
                          simp only [lenOf]
                          rw [e1, e2]
                          omega
              · have hbad := HI.out.fault (c := k) hmk (not_ok _ _ _ (.inr (.inl (by rw [HG.out]; exact hG0))))
                have hans := Lib.hid (dep_bad hn0 hbad)
                have hGb : (G == 0) = false := beq_eq_false_iff_ne.2 hG0
                have hGn : (¬ G = 0) = True := eq_true hG0
                clear hbad hdd
                go_wp2_with fail
                go_ret2
                exact ⟨_, _, rfl, hans.out, Hbw3.out⟩
            · have hbad := HI.out.fault (c := k) hmk (not_ok _ _ _ (.inl (by rw [hEE.out]; exact hE0)))
              have hans := Lib.hid (dep_bad hn0 hbad)
              have hEb : (E == 0) = false := beq_eq_false_iff_ne.2 hE0
              have hEn : (¬ E = 0) = True := eq_true hE0
              clear hbad hdd
              go_wp2_with fail
              go_ret2
              exact ⟨_, _, rfl, hans.out, Hbw3.out⟩
end Go.Proofs.Ytidolpcbbbakmaa
