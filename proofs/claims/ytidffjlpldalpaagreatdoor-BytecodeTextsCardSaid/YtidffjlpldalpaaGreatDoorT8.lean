/- Encode of the program. -/
import Derived.Test.YtidffjlpldalpaaGreatDoorT7
set_option linter.unusedVariables false
set_option linter.unusedSimpArgs false
namespace Go.Proofs.YtidffjlpldalpaaGreatDoor
open Go Go.RowKit

def encT (p : ProgD) : List Int × Int := if validB p = true then (encL p, 0) else ([], 1)
def EncOk (p : ProgD) (w : World) (e : Ending) (w' : World) : Prop :=
  ∃ v, e = .returned (.tuple #[v, .int .i64 (encT p).2]) ∧ IsRow w' v (encT p).1.length (u8s (encT p).1) ∧ Below w.heap.size w w'
theorem enc_no (p : ProgD) (h : validB p = false) : encT p = ([], 1) := by unfold encT; rw [h]; rfl
theorem enc_yes (p : ProgD) (h : validB p = true) : encT p = (encL p, 0) := by unfold encT; rw [h]; rfl
theorem valid_parts (p : ProgD) (h : validB p = true) : p.funs.length ≤ 4096 ∧ 1 ≤ p.funs.length ∧ p.texts.length ≤ 1000 ∧ (∀ f ∈ p.funs, headB f = true) ∧ (∀ f ∈ p.funs, rightsB p f = true) ∧ (0 ≤ p.main ∧ p.main < p.funs.length) := by
  unfold validB mainB at h
  simp only [Bool.and_eq_true, inB, decide_eq_true_eq, List.all_eq_true] at h
  obtain ⟨⟨h0, h1⟩, h2, _, h3, h4, ⟨h5, h6⟩, _⟩ := h
  exact ⟨by omega, by omega, h2, h3, h4, h5, by omega⟩
theorem own_isRow {w : World} {B : Nat} {v : Value} {pre : List Int} (h : w.ownsRow B 5 1 v pre.length (u8s pre)) : IsRow w v pre.length (u8s pre) := isRow_owns h
theorem texts_at {w : World} {v : Value} {l : List ByteArray} (h : IsTexts w v l) (n : Nat) (hn : n < l.length) :
    ∃ b off c, v = .slice (some ⟨b, off, none⟩) l.length c ∧ l.length ≤ c ∧ b < w.heap.size ∧ w.cell? ⟨b, off + n, none⟩ = some (.string (l.getD n default)) := by
  obtain ⟨a, c, rfl, hlc, hcell⟩ := h
  obtain ⟨b, off, rfl, hlt, hc⟩ := hcell (by omega)
  exact ⟨b, off, c, rfl, hlc, hlt, by rw [hc n (by rw [strCells_length]; exact hn), strCells_at l n hn]⟩
theorem ins_cells {w : World} {q : Nat} {x y z : Value} {t : TypeId} (h : w.heap[q]? = some (.cells #[x, y, z] t (0, 0))) : w.cell? ⟨q, 0, none⟩ = some x ∧ w.cell? ⟨q, 1, none⟩ = some y ∧ w.cell? ⟨q, 2, none⟩ = some z := by
  simp [World.cell?, h]
theorem Keeps.undrew {w w' : World} {r r' : Option Nat} (h : Keeps w.drew w' r r') : Keeps w w' r r' := ⟨h.kept, h.own, h.size⟩
theorem code_at {w : World} {v : Value} {l : List Ins} (h : IsCode w v l) (n : Nat) (hn : n < l.length) :
    ∃ b off c, v = .slice (some ⟨b, off, none⟩) l.length c ∧ l.length ≤ c ∧ b < w.heap.size ∧ w.cell? ⟨b, off + n * 3, none⟩ = some (.int .i64 (l.getD n default).op) ∧ w.cell? ⟨b, off + n * 3 + 1, none⟩ = some (.int .i64 (l.getD n default).a) ∧ w.cell? ⟨b, off + n * 3 + 2, none⟩ = some (.int .i64 (l.getD n default).b) := by
  obtain ⟨a, c, rfl, hlc, hcell⟩ := h
  obtain ⟨b, off, rfl, hlt, hc⟩ := hcell (by omega)
  obtain ⟨c0, c1, c2⟩ := insCells_at l n hn
  have hlen := insCells_length l
  refine ⟨b, off, c, rfl, hlc, hlt, ?_, ?_, ?_⟩
  · rw [hc (n * 3) (by omega), c0]
  · rw [Nat.add_assoc, hc (n * 3 + 1) (by omega), c1]
  · rw [Nat.add_assoc, hc (n * 3 + 2) (by omega), c2]
theorem cells_two (w : World) (x y : Value) (t : TypeId) : ∀ j u, [x, y][j]? = some u → (w.alloc (.cells #[x, y] t)).cell? ((⟨w.heap.size, 0, none⟩ : Addr).add j) = some u := by
  intro j u hj
  match j, hj with
  | 0, hj => simp at hj; subst hj; simp [Addr.add]
  | 1, hj => simp at hj; subst hj; simp [Addr.add]
theorem len_of {a b c : List Int} (h : a ++ b = c) : a.length + b.length = c.length := by rw [← h, List.length_append]
set_option maxHeartbeats 4000000 in
set_option maxRecDepth 100000 in
theorem encode_any (fv tv : Value) (p : ProgD) (w : World) (h : IsProg w fv tv p) (hfl : p.funs.length ≤ 1000000) (htl : p.texts.length ≤ 1000000) (HQ : ∀ s ∈ p.texts, QuotedOk s) (hlen : (bodyL p).length ≤ 1000000) :
    Calls Tryz.prog 14 #[.agg #[fv, tv, .int .i64 p.main]] w (EncOk p w) := by
  have Hp := Lib.hid h
  have hs0 : Below w.heap.size w (w.alloc (.cells #[fv, tv, .int .i64 p.main] 25)) := (Below.refl _ _).alloc (Nat.le_refl _) _
  have HV := Lib.hid (valid_any fv tv p (w.alloc (.cells #[fv, tv, .int .i64 p.main] 25)) (Hp.out.below hs0) hfl htl HQ)
  obtain ⟨⟨⟨fa, fc, rfl, hfc, _⟩, _⟩, ⟨ta, tc, rfl, htc, _⟩⟩ := h
  clear HQ
  obtain ⟨b0, h0⟩ : ∃ b0, validB p = b0 := ⟨_, rfl⟩
  have H0 := Lib.hid h0
  clear h0
  have hs1 : (w.alloc (.cells #[.slice fa p.funs.length fc, .slice ta p.texts.length tc, .int .i64 p.main] 25)).heap.size = w.heap.size + 1 := by simp
  have g0 : ∀ o v, (#[Value.slice fa p.funs.length fc, .slice ta p.texts.length tc, .int .i64 p.main] : Array Value)[o]? = some v → (w.alloc (.cells #[.slice fa p.funs.length fc, .slice ta p.texts.length tc, .int .i64 p.main] 25)).cell? ⟨w.heap.size, o, none⟩ = some v := fun o v hv => by rw [cell_new]; exact hv
  go_enter Tryz.func14, Tryz.ntmps14
  go_wp2_with fail
  refine HV.out.mono ?_
  rintro e w1 ⟨rfl, hb1⟩
  rw [H0.out]
  have hb01 : Below w.heap.size w w1 := hs0.trans (hb1.mono (by omega))
  cases b0
  · go_wp2_with fail
    go_ret2
    exact ⟨.slice none 0 0, by rw [enc_no p H0.out]; rfl, by rw [enc_no p H0.out]; exact isRow_nil _, hb01⟩
  · have hz1 : w.heap.size + 1 ≤ w1.heap.size := by have := hb1.size; omega
    have g1 : ∀ o v, (#[Value.slice fa p.funs.length fc, .slice ta p.texts.length tc, .int .i64 p.main] : Array Value)[o]? = some v → w1.cell? ⟨w.heap.size, o, none⟩ = some v := fun o v hv => (hb1.cell (p := ⟨w.heap.size, o, none⟩) (by simp)).trans (g0 o v hv)
    have g2 : ∀ (wx : World) o v, Below (w.heap.size + 1) w1 wx → (#[Value.slice fa p.funs.length fc, .slice ta p.texts.length tc, .int .i64 p.main] : Array Value)[o]? = some v → wx.cell? ⟨w.heap.size, o, none⟩ = some v := fun wx o v hb hv => (hb.cell (p := ⟨w.heap.size, o, none⟩) (Nat.lt_succ_self _)).trans (g1 o v hv)
    have G2 := Lib.hid g2
    have q1 : w1.cell? ⟨w.heap.size, 1, none⟩ = some (.slice ta p.texts.length tc) := g1 1 _ rfl
    have q2 : w1.cell? ⟨w.heap.size, 2, none⟩ = some (.int .i64 p.main) := g1 2 _ rfl
    clear hs0 hs1 hb1 HV g0 g1 g2
    generalize w.alloc (.cells #[.slice fa p.funs.length fc, .slice ta p.texts.length tc, .int .i64 p.main] 25) = W0 at *
    obtain ⟨v1, v2, v3, v4, v5, v6, v7⟩ := valid_parts p H0.out
    have HV4 := Lib.hid v4
    have HV5 := Lib.hid v5
    clear v4 v5
    go_upto_region 3 with fail
    go_cut [4] from 17 to 23 (fun v wx => ∃ pre, wx.ownsRow (w.heap.size + 1) 5 1 v pre.length (u8s pre) ∧ pre = putL p.main ++ putL p.texts.length ∧ Below (w.heap.size + 1) w1 wx)
    case first =>
      go_region_held3 (fun w' => w'.cell? ⟨w.heap.size, 2, none⟩ = some (.int .i64 p.main) ∧ w'.cell? ⟨w.heap.size, 1, none⟩ = some (.slice ta p.texts.length tc)) (first | exact ⟨y2, y1⟩ | exact ⟨z2, z1⟩ | exact ⟨q2, q1⟩)
        (first
          | (have hown9 := hown1; clear hown9; go_at_call 47; refine (put_any (w.heap.size + 1) _ (putL p.main) p.texts.length _ (by exact Nat.le_trans hz1 hb2.size) (by have := putL_length p.main; omega) (by omega) (by omega) (by exact hown1)).mono ?_; rintro e w3 ⟨u2, rfl, hown2, hb3, hk3⟩; have y1 := (hb3.cell (p := ⟨w.heap.size, 1, none⟩) (Nat.lt_succ_self _)).trans z1; have y2 := (hb3.cell (p := ⟨w.heap.size, 2, none⟩) (Nat.lt_succ_self _)).trans z2)
          | (go_at_call 47; refine (put_any (w.heap.size + 1) (.slice none 0 0) [] p.main _ (by exact hz1) (by simp) (by omega) (by omega) (World.ownsRow_nil _ _ _ _)).mono ?_; rintro e w2 ⟨u1, rfl, hown1, hb2', hk2⟩; have hb2 := (Below.refl (w.heap.size + 1) w1).drew.trans hb2'; have z1 := (hb2.cell (p := ⟨w.heap.size, 1, none⟩) (Nat.lt_succ_self _)).trans q1; have z2 := (hb2.cell (p := ⟨w.heap.size, 2, none⟩) (Nat.lt_succ_self _)).trans q2))
      all_goals (go_wp2_with fail; go_meet; exact ⟨_, hown2, rfl, hb2.trans hb3⟩)
    case rest =>
      obtain ⟨pre0, hown0, hpre0, hbc⟩ := hcut
      have Hown0 := Lib.hid hown0
      have Hpre0 : Hid (pre0 ++ ((p.texts.drop 0).flatMap textL ++ (putL p.funs.length ++ p.funs.flatMap funL)) = bodyL p) := by show _ = _; rw [hpre0, List.append_assoc]; rfl
      have c1 : wc.cell? ⟨w.heap.size, 1, none⟩ = some (.slice ta p.texts.length tc) := G2.out wc 1 _ hbc rfl
      obtain ⟨i0, hi, hz0, hz1', hz2⟩ := info_parts info_u8
      clear hown0 hpre0 q1 q2
      go_wp2_with fail
      go_loopw [4, 27] (fun u i wr => (∃ (k : Nat) (pre : List Int), k ≤ p.texts.length ∧ i = .int .i64 k ∧ Hid (wr.ownsRow (w.heap.size + 1) 5 1 u pre.length (u8s pre)) ∧ Hid (pre ++ ((p.texts.drop k).flatMap textL ++ (putL p.funs.length ++ p.funs.flatMap funL)) = bodyL p)) ∧ Below (w.heap.size + 1) w1 wr) (fun _ i _ => p.texts.length - (intOf i).toNat)
      case atStart => exact ⟨⟨0, pre0, Nat.zero_le _, rfl, Hown0, Hpre0⟩, hbc⟩
      case round =>
        obtain ⟨⟨k, pre, hk, rfl, Hr, Hpre⟩, hbr⟩ := hrel
        have hbw : Below w.heap.size w wr := hb01.trans (hbr.mono (by omega))
        have hwz : w.heap.size + 1 ≤ wr.heap.size := by have := hbr.size; omega
        by_cases hkl : k < p.texts.length
        · obtain ⟨b, off, tc', fd, _, hbl, c0⟩ := texts_at Hp.out.2 k hkl
          obtain rfl := (Value.slice.inj fd).1
          have d0 := (hbw.cell (p := ⟨b, off + k, none⟩) hbl).trans c0
          have Hst := Lib.hid (drop_step default p.texts textL k hkl)
          clear c0 fd
          generalize p.texts.getD k default = s at *
          have hL := len_of (Hpre.out)
          rw [Hst.out] at hL
          simp only [textL, List.length_append, bytesL_length] at hL
          go_wp2_with fail
          refine (put_any (w.heap.size + 1) _ pre (s.size : Int) _ (by exact hwz) (by omega) (by omega) (by omega) (by exact Hr.out)).mono ?_
          rintro e w2 ⟨u1, rfl, hown1, hb2, hk2⟩
          go_wp2_with (at_builtin; refine Lib.wpList_append_own_string _ rfl _ _ 38 9 rfl (w.heap.size + 1) 5 i0 Tryz.underlying38 Tryz.underlying9 hi hz0 hz1' hz2 _ _ _ rfl hown1 s rfl ?c3 ?c4 ?c5 ?_)
          case c3 => unfold maxLen; simp only [List.length_append]; omega
          case c4 => simp only [List.length_append]; omega
          case c5 => have := hb2.size; omega
          intro v' w3 hown' hgrow _
          have hb3 : Below (w.heap.size + 1) w1 w3 := (hbr.trans hb2).grown hgrow (by have := hb2.size; omega) (fun g hg => (hown1.lt g hg).1)
          have hown3 : Hid (w3.ownsRow (w.heap.size + 1) 5 1 v' (pre ++ textL s).length (u8s (pre ++ textL s))) := by
            show World.ownsRow _ _ _ _ _ _ _
            have e1 : (pre ++ textL s).length = (pre ++ putL s.size).length + s.size := by simp only [textL, List.length_append, bytesL_length]; omega
            have e2 : u8s (pre ++ textL s) = u8s (pre ++ putL s.size) ++ Lib.strCells s := by rw [← bytesL_cells, textL, ← List.append_assoc]; unfold u8s; rw [List.map_append (l₂ := bytesL s)]
            rw [e1, e2, List.length_append]; exact hown'
          have Hpre3 : Hid ((pre ++ textL s) ++ ((p.texts.drop (k + 1)).flatMap textL ++ (putL p.funs.length ++ p.funs.flatMap funL)) = bodyL p) := by
            show _ = _
            rw [← Hpre.out, Hst.out]; simp only [List.append_assoc]
          clear hown' hgrow hown1 hk2
          go_wp2_with fail
          go_roundw
          case rel => exact ⟨⟨k + 1, _, by omega, by go_num, hown3, Hpre3⟩, hb3⟩
          case measure => simp [intOf]; omega
        · have Hpre1 : Hid (pre ++ (putL p.funs.length ++ p.funs.flatMap funL) = bodyL p) := by
            show _ = _
            have := Hpre.out
            rw [List.drop_of_length_le (by omega)] at this
            exact this
          have d0 : wr.cell? ⟨w.heap.size, 0, none⟩ = some (.slice fa p.funs.length fc) := G2.out wr 0 _ hbr rfl
          have hL := len_of (Hpre1.out)
          clear Hpre hbw
          rename World => W3
          go_wp2_with fail
          refine (put_any (w.heap.size + 1) _ pre (p.funs.length : Int) _ (by exact hwz) (by omega) (by omega) (by omega) (by exact Hr.out)).mono ?_
          rintro e w4 ⟨u1, rfl, hown1, hb2, hk2⟩
          have hb4 : Below (w.heap.size + 1) w1 w4 := hbr.trans hb2
          have d1 : w4.cell? ⟨w.heap.size, 0, none⟩ = some (.slice fa p.funs.length fc) := G2.out w4 0 _ hb4 rfl
          have Hown1 := Lib.hid hown1
          have Hpre4 : Hid ((pre ++ putL p.funs.length) ++ (p.funs.drop 0).flatMap funL = bodyL p) := by
            show _ = _
            rw [← Hpre1.out, List.append_assoc]; rfl
          clear hown1 hk2 Hpre1 hL
          go_wp2_with fail
          go_loopw [4, 46] (fun u i wr => (∃ (k : Nat) (pre : List Int), k ≤ p.funs.length ∧ i = .int .i64 k ∧ Hid (wr.ownsRow (w.heap.size + 1) 5 1 u pre.length (u8s pre)) ∧ Hid (pre ++ (p.funs.drop k).flatMap funL = bodyL p)) ∧ Below (w.heap.size + 1) w1 wr) (fun _ i _ => p.funs.length - (intOf i).toNat)
          case atStart => exact ⟨⟨0, _, Nat.zero_le _, rfl, Hown1, Hpre4⟩, hb4⟩
          case round =>
            rename World => V2
            obtain ⟨⟨k, pre, hk, rfl, Hr, Hpre⟩, hbr⟩ := hrel
            have hbw : Below w.heap.size w V2 := hb01.trans (hbr.mono (by omega))
            have hwz : w.heap.size + 1 ≤ V2.heap.size := by have := hbr.size; omega
            by_cases hkl : k < p.funs.length
            · obtain ⟨b, off, fc', fd, _, hbl, c0, c1, c2, c3⟩ := Hp.out.1.at' k hkl
              obtain rfl := (Value.slice.inj fd).1
              have d0 := (hbw.cell (p := ⟨b, off + k * 4, none⟩) hbl).trans c0
              have d1 := (hbw.cell (p := ⟨b, off + k * 4 + 1, none⟩) hbl).trans c1
              have d2 := (hbw.cell (p := ⟨b, off + k * 4 + 2, none⟩) hbl).trans c2
              have d3 := (hbw.cell (p := ⟨b, off + k * 4 + 3, none⟩) hbl).trans c3
              have hcode := Hp.out.1.2 _ (getD_mem default p.funs k hkl)
              have hhead := HV4.out _ (getD_mem default p.funs k hkl)
              have hrights := HV5.out _ (getD_mem default p.funs k hkl)
              clear c0 c1 c2 c3 fd
              have Hst := Lib.hid (drop_step default p.funs funL k hkl)
              generalize p.funs.getD k default = f at *
              obtain ⟨c, l, d, v, code⟩ := f
              have Hcode : Hid (IsCode w v code) := hcode
              obtain ⟨ca, cc, hv, hcc, _⟩ := hcode
              simp only at hv d0 d1 d2 d3 hcc
              subst hv
              simp only [headB, inB, Bool.and_eq_true, decide_eq_true_eq] at hhead
              obtain ⟨⟨hh0, hh1⟩, ⟨hh2, hh3⟩, ⟨hh4, hh5⟩, ⟨hh6, hh7⟩⟩ := hhead
              have hcl : code.length ≤ 16384 := by omega
              have Hfit : Hid (∀ j, j < code.length → Fit (code.getD j default).op ∧ Fit (code.getD j default).a ∧ Fit (code.getD j default).b ∧ knownB (code.getD j default).op = true) := fun j hj =>
                right_fit p.texts.length p.funs c l code j hj hh0 hh1 hh3 (by omega) (by omega) (by omega) HV4.out (by
                  rw [rightsB_eq, List.all_eq_true] at hrights
                  exact hrights j (by simpa using hj))
              clear hrights
              have Hst' : Hid ((p.funs.drop k).flatMap funL = ([c, l, d, (code.length : Int)].flatMap putL ++ code.flatMap insL) ++ (p.funs.drop (k + 1)).flatMap funL) := Hst.out
              clear Hst
              have g2 : ((V2.alloc (.cells #[.int .i64 c, .int .i64 l, .int .i64 d, .slice ca code.length cc] 48)).alloc (.cells #[.int .i64 c, .int .i64 l, .int .i64 d, .int .i64 code.length] 3)).heap[V2.heap.size]? = some (.cells #[.int .i64 c, .int .i64 l, .int .i64 d, .slice ca code.length cc] 48 (0, 0)) := (Below.heap_alloc _ _ _ (by simp)).trans (new_heap V2 _)
              have g3 : ((V2.alloc (.cells #[.int .i64 c, .int .i64 l, .int .i64 d, .slice ca code.length cc] 48)).alloc (.cells #[.int .i64 c, .int .i64 l, .int .i64 d, .int .i64 code.length] 3)).heap[V2.heap.size + 1]? = some (.cells #[.int .i64 c, .int .i64 l, .int .i64 d, .int .i64 code.length] 3 (0, 0)) := (congrArg _ (by simp)).trans (new_heap (V2.alloc (.cells #[.int .i64 c, .int .i64 l, .int .i64 d, .slice ca code.length cc] 48)) _)
              have hsw : ((V2.alloc (.cells #[.int .i64 c, .int .i64 l, .int .i64 d, .slice ca code.length cc] 48)).alloc (.cells #[.int .i64 c, .int .i64 l, .int .i64 d, .int .i64 code.length] 3)).heap.size = V2.heap.size + 2 := by simp
              have HrW : Hid (((V2.alloc (.cells #[.int .i64 c, .int .i64 l, .int .i64 d, .slice ca code.length cc] 48)).alloc (.cells #[.int .i64 c, .int .i64 l, .int .i64 d, .int .i64 code.length] 3)).ownsRow (w.heap.size + 1) 5 1 u4 pre.length (u8s pre)) := (Hr.out.alloc _).alloc _
              have hbW : Below (w.heap.size + 1) w1 ((V2.alloc (.cells #[.int .i64 c, .int .i64 l, .int .i64 d, .slice ca code.length cc] 48)).alloc (.cells #[.int .i64 c, .int .i64 l, .int .i64 d, .int .i64 code.length] 3)) := (hbr.alloc (by omega) _).alloc (by simp; omega) _
              have ho1 : u4.ownBlock ≠ some V2.heap.size := fun e => by have := (Hr.out.lt _ e).2; omega
              have ho2 : u4.ownBlock ≠ some (V2.heap.size + 1) := fun e => by have := (Hr.out.lt _ e).2; omega
              go_wp2_with fail
              generalize ((V2.alloc (.cells #[.int .i64 c, .int .i64 l, .int .i64 d, .slice ca code.length cc] 48)).alloc (.cells #[.int .i64 c, .int .i64 l, .int .i64 d, .int .i64 code.length] 3)) = W2 at *
              have Hpre0' : Hid (pre ++ (([c, l, d, (code.length : Int)].drop 0).flatMap putL ++ (code.flatMap insL ++ (p.funs.drop (k + 1)).flatMap funL)) = bodyL p) := by
                show _ = _
                rw [← Hpre.out, Hst'.out, List.append_assoc]; rfl
              clear d0 d1 d2 d3
              go_loopw [4, 61] (fun u i wr => (∃ (j : Nat) (pre : List Int), j ≤ 4 ∧ i = .int .i64 j ∧ Hid (wr.ownsRow (w.heap.size + 1) 5 1 u pre.length (u8s pre)) ∧ Hid (pre ++ (([c, l, d, (code.length : Int)].drop j).flatMap putL ++ (code.flatMap insL ++ (p.funs.drop (k + 1)).flatMap funL)) = bodyL p) ∧ Hid (u.ownBlock ≠ some V2.heap.size) ∧ Hid (u.ownBlock ≠ some (V2.heap.size + 1)) ∧ Hid (wr.heap[V2.heap.size]? = some (.cells #[.int .i64 c, .int .i64 l, .int .i64 d, .slice ca code.length cc] 48 (0, 0))) ∧ Hid (wr.heap[V2.heap.size + 1]? = some (.cells #[.int .i64 c, .int .i64 l, .int .i64 d, .int .i64 code.length] 3 (0, 0))) ∧ V2.heap.size + 2 ≤ wr.heap.size) ∧ Below (w.heap.size + 1) w1 wr) (fun _ i _ => 4 - (intOf i).toNat)
              case atStart => exact ⟨⟨0, pre, Nat.zero_le _, rfl, HrW, Hpre0', ho1, ho2, g2, g3, by omega⟩, hbW⟩
              case round =>
                clear g2 g3 hsw HrW hbW ho1 ho2 Hpre0'
                rename World => V3
                obtain ⟨⟨j, pre3, hj, rfl, Hr3, Hpre3, Ho1, Ho2, G4, G5, hz3⟩, hbr3⟩ := hrel
                have hwz3 : w.heap.size + 1 ≤ V3.heap.size := by have := hbr3.size; omega
                by_cases hjl : j < 4
                · have Hst3 := Lib.hid (drop_step 0 [c, l, d, (code.length : Int)] putL j hjl)
                  have hx : V3.cell? ⟨V2.heap.size + 1, j, none⟩ = some (.int .i64 ([c, l, d, (code.length : Int)].getD j 0)) := by
                    have := G5.out
                    rcases (by omega : j = 0 ∨ j = 1 ∨ j = 2 ∨ j = 3) with rfl | rfl | rfl | rfl <;> simp [World.cell?, this]
                  have hxf : -4503599627370497 ≤ [c, l, d, (code.length : Int)].getD j 0 ∧ [c, l, d, (code.length : Int)].getD j 0 ≤ 4503599627370497 := by
                    rcases (by omega : j = 0 ∨ j = 1 ∨ j = 2 ∨ j = 3) with rfl | rfl | rfl | rfl <;> simp <;> omega
                  generalize [c, l, d, (code.length : Int)].getD j 0 = x at *
                  have hL := len_of (Hpre3.out)
                  go_wp2_with fail
                  refine (put_any (w.heap.size + 1) _ pre3 x _ (by exact hwz3) (by omega) hxf.1 hxf.2 (by exact Hr3.out)).mono ?_
                  rintro e w5 ⟨u5, rfl, hown5, hb5, hk5⟩
                  have Hown5 := Lib.hid hown5
                  have hb5' : Below (w.heap.size + 1) w1 w5 := hbr3.trans hb5
                  have a1 := hk5.apart (k := V2.heap.size) (by omega) Ho1.out
                  have a2 := hk5.apart (k := V2.heap.size + 1) (by omega) Ho2.out
                  have A1 : Hid (u5.ownBlock ≠ some V2.heap.size) := a1.1
                  have A2 : Hid (u5.ownBlock ≠ some (V2.heap.size + 1)) := a2.1
                  have A3 : Hid (w5.heap[V2.heap.size]? = some (.cells #[.int .i64 c, .int .i64 l, .int .i64 d, .slice ca code.length cc] 48 (0, 0))) := a1.2.trans G4.out
                  have A4 : Hid (w5.heap[V2.heap.size + 1]? = some (.cells #[.int .i64 c, .int .i64 l, .int .i64 d, .int .i64 code.length] 3 (0, 0))) := a2.2.trans G5.out
                  have hz5 : V2.heap.size + 2 ≤ w5.heap.size := by have := hk5.size; omega
                  have Hpre5 : Hid ((pre3 ++ putL x) ++ (([c, l, d, (code.length : Int)].drop (j + 1)).flatMap putL ++ (code.flatMap insL ++ (p.funs.drop (k + 1)).flatMap funL)) = bodyL p) := by
                    show _ = _
                    rw [← Hpre3.out, Hst3.out]; simp only [List.append_assoc]
                  clear hown5 hk5 a1 a2 hx hL
                  go_wp2_with fail
                  go_roundw
                  case rel => exact ⟨⟨j + 1, _, by omega, by go_num, Hown5, Hpre5, A1, A2, A3, A4, hz5⟩, hb5'⟩
                  case measure => simp [intOf]; omega
                · have Hpre4 : Hid (pre3 ++ ((code.drop 0).flatMap insL ++ (p.funs.drop (k + 1)).flatMap funL) = bodyL p) := by
                    show _ = _
                    have := Hpre3.out
                    rw [List.drop_of_length_le (by simp; omega)] at this
                    exact this
                  have f3 : V3.cell? ⟨V2.heap.size, 3, none⟩ = some (.slice ca code.length cc) := by
                    have := G4.out; simp [World.cell?, this]
                  clear Hpre3
                  go_wp2_with fail
                  go_loopw [4, 72] (fun u i wr => (∃ (j : Nat) (pre : List Int), j ≤ code.length ∧ i = .int .i64 j ∧ Hid (wr.ownsRow (w.heap.size + 1) 5 1 u pre.length (u8s pre)) ∧ Hid (pre ++ ((code.drop j).flatMap insL ++ (p.funs.drop (k + 1)).flatMap funL) = bodyL p)) ∧ Below (w.heap.size + 1) w1 wr) (fun _ i _ => code.length - (intOf i).toNat)
                  case atStart => exact ⟨⟨0, _, Nat.zero_le _, rfl, Hr3, Hpre4⟩, hbr3⟩
                  case round =>
                    rename World => V4
                    obtain ⟨⟨j, pre4, hj, rfl, Hr4, Hpre4⟩, hbr4⟩ := hrel
                    have hbw4 : Below w.heap.size w V4 := hb01.trans (hbr4.mono (by omega))
                    have hwz4 : w.heap.size + 1 ≤ V4.heap.size := by have := hbr4.size; omega
                    by_cases hjl : j < code.length
                    · obtain ⟨b', off', cc', fd', _, hbl', c0, c1, c2⟩ := code_at Hcode.out j hjl
                      obtain rfl := (Value.slice.inj fd').1
                      have d0 := (hbw4.cell (p := ⟨b', off' + j * 3, none⟩) hbl').trans c0
                      have d1 := (hbw4.cell (p := ⟨b', off' + j * 3 + 1, none⟩) hbl').trans c1
                      have d2 := (hbw4.cell (p := ⟨b', off' + j * 3 + 2, none⟩) hbl').trans c2
                      have hft := Hfit.out j hjl
                      have Hst4 := Lib.hid (drop_step default code insL j hjl)
                      clear c0 c1 c2 fd'
                      generalize code.getD j default = i at *
                      obtain ⟨op, a, b⟩ := i
                      obtain ⟨⟨o1, o2⟩, ⟨a1, a2⟩, ⟨b1, b2⟩, _⟩ := hft
                      simp only at d0 d1 d2 o1 o2 a1 a2 b1 b2
                      have hL := len_of (Hpre4.out)
                      rw [Hst4.out] at hL
                      simp only [insL, List.length_append] at hL
                      have hI0 : (V4.alloc (.cells #[.int .i64 op, .int .i64 a, .int .i64 b] 64)).heap[V4.heap.size]? = some (.cells #[.int .i64 op, .int .i64 a, .int .i64 b] 64 (0, 0)) := new_heap V4 _
                      have HrI : Hid ((V4.alloc (.cells #[.int .i64 op, .int .i64 a, .int .i64 b] 64)).ownsRow (w.heap.size + 1) 5 1 u4 pre4.length (u8s pre4)) := Hr4.out.alloc _
                      have hbI : Below (w.heap.size + 1) w1 (V4.alloc (.cells #[.int .i64 op, .int .i64 a, .int .i64 b] 64)) := hbr4.alloc (by omega) _
                      have ho : u4.ownBlock ≠ some V4.heap.size := fun e => by have := (Hr4.out.lt _ e).2; omega
                      have hsI : (V4.alloc (.cells #[.int .i64 op, .int .i64 a, .int .i64 b] 64)).heap.size = V4.heap.size + 1 := by simp
                      go_upto_region 21 with fail
                      generalize (V4.alloc (.cells #[.int .i64 op, .int .i64 a, .int .i64 b] 64)) = W5 at *
                      have hzI : w.heap.size + 1 ≤ W5.heap.size := by omega
                      clear d0 d1 d2
                      go_region_held3 (fun w' => w'.cell? ⟨V4.heap.size, 0, none⟩ = some (.int .i64 op) ∧ w'.cell? ⟨V4.heap.size, 1, none⟩ = some (.int .i64 a) ∧ w'.cell? ⟨V4.heap.size, 2, none⟩ = some (.int .i64 b)) (first | exact ins_cells hI3 | exact ins_cells hI2 | exact ins_cells hI1 | exact ins_cells hI0)
                        (first
                          | (have guard9 := oa2; clear guard9; go_at_call 47; refine (put_any (w.heap.size + 1) _ ((pre4 ++ putL op) ++ putL a) b _ (by exact hx2) (by simp only [List.length_append]; omega) b1 b2 (by exact oa2)).mono ?_; rintro e x3 ⟨n3, rfl, oa3, ba3, ka3⟩; have kk3 := ka3.apart (k := V4.heap.size) (by have := ka1.size; have := ka2.size; omega) kk2.1; have hI3 := kk3.2.trans hI2)
                          | (have guard9 := oa1; clear guard9; go_at_call 47; refine (put_any (w.heap.size + 1) _ (pre4 ++ putL op) a _ (by exact hx1) (by simp only [List.length_append]; omega) a1 a2 (by exact oa1)).mono ?_; rintro e x2 ⟨n2, rfl, oa2, ba2, ka2⟩; have kk2 := ka2.apart (k := V4.heap.size) (by have := ka1.size; omega) kk1.1; have hI2 := kk2.2.trans hI1; have hx2 : w.heap.size + 1 ≤ x2.heap.size := Nat.le_trans hx1 ba2.size)
                          | (go_at_call 47; refine (put_any (w.heap.size + 1) _ pre4 op _ (by exact hzI) (by omega) o1 o2 (by exact HrI.out)).mono ?_; rintro e x1 ⟨n1, rfl, oa1, ba1', ka1'⟩; have ba1 := (Below.refl (w.heap.size + 1) W5).drew.trans ba1'; have ka1 := ka1'.undrew; have kk1 := ka1.apart (k := V4.heap.size) (by omega) ho; have hI1 := kk1.2.trans hI0; have hx1 : w.heap.size + 1 ≤ x1.heap.size := Nat.le_trans hzI ba1.size))
                      have Hoa3 := Lib.hid oa3
                      have hb6 : Below (w.heap.size + 1) w1 x3 := ((hbI.trans ba1).trans ba2).trans ba3
                      have Hpre6 : Hid (((pre4 ++ putL op) ++ putL a ++ putL b) ++ ((code.drop (j + 1)).flatMap insL ++ (p.funs.drop (k + 1)).flatMap funL) = bodyL p) := by
                        show _ = _
                        rw [← Hpre4.out, Hst4.out]; simp only [insL, List.append_assoc]
                      clear oa1 oa2 oa3 ba1 ba1' ba2 ba3 ka1 ka1' ka2 ka3 kk1 kk2 kk3 hI0 hI1 hI2 hI3 hL
                      go_wp2_with fail
                      go_roundw
                      case rel => exact ⟨⟨j + 1, _, by omega, by go_num, Hoa3, Hpre6⟩, hb6⟩
                      case measure => simp [intOf]; omega
                    · have Hpre7 : Hid (pre4 ++ (p.funs.drop (k + 1)).flatMap funL = bodyL p) := by
                        show _ = _
                        have := Hpre4.out
                        rw [List.drop_of_length_le (by omega)] at this
                        exact this
                      go_wp2_with fail
                      go_roundw
                      case rel => exact ⟨⟨k + 1, _, by omega, by go_num, Hr4, Hpre7⟩, hbr4⟩
                      case measure => simp [intOf]; omega
            · obtain rfl : pre = bodyL p := by
                have := Hpre.out
                rw [List.drop_of_length_le (by omega)] at this
                simpa using this
              go_wp2_with fail
              refine (sum_any _ (bodyL p) _ (by omega) (bodyL_bytes p) (own_isRow Hr.out)).mono ?_
              rintro e w6 ⟨rfl, rfl⟩
              obtain ⟨s0, s1⟩ := sumK_lt (bodyL p) (bodyL p).length
              have He : Hid (encT p = (bodyL p ++ [sumK (bodyL p) (bodyL p).length / 256, sumK (bodyL p) (bodyL p).length % 256], 0)) := enc_yes p H0.out
              generalize sumK (bodyL p) (bodyL p).length = s at *
              have m0 : 0 ≤ s / 256 ∧ s / 256 < 256 := by omega
              have m1 : 0 ≤ s % 256 ∧ s % 256 < 256 := by omega
              go_wp2_with (at_builtin; refine wpList_append_own _ rfl _ _ 38 rfl (w.heap.size + 1) 5 i0 (.int .u8 0) 1 1 Tryz.underlying38 hi hz0 hz1' hz2 rfl (by decide) _ (bodyL p).length (u8s (bodyL p)) rfl (Hr.out.alloc _) ⟨V2.heap.size, 0, none⟩ 2 2 [.int .u8 (s / 256), .int .u8 (s % 256)] rfl rfl ?c1 ?c2 ?c3 ?c4 ?c5 ?_)
              case c1 => exact cells_two V2 _ _ _
              case c2 => intro u hu; simp at hu; rcases hu with rfl | rfl <;> rfl
              case c3 => unfold maxLen; omega
              case c4 => omega
              case c5 => simp; omega
              intro v' w7 hown7 hgrow7 _
              have hb7 : Below (w.heap.size + 1) w1 w7 := (hbr.alloc (by omega) _).grown hgrow7 (by simp; omega) (fun g hg => (Hr.out.lt g hg).1)
              have hown8 : Hid (IsRow w7 v' ((bodyL p) ++ [s / 256, s % 256]).length (u8s ((bodyL p) ++ [s / 256, s % 256]))) := by
                show IsRow _ _ _ _
                have := isRow_owns hown7
                unfold u8s at this ⊢
                rw [List.map_append, List.length_append]; exact this
              obtain ⟨ao, n', cap, rfl, hn'⟩ : ∃ ao n' cap, v' = .slice ao n' cap ∧ n' = (bodyL p).length + 2 := by
                rcases hown7.2 with ⟨hv, h0⟩ | ⟨g, cap, cur, hv, _⟩
                · exact ⟨_, _, _, hv, h0.symm⟩
                · exact ⟨_, _, _, hv, rfl⟩
              have hle : n' ≤ 1048576 := by omega
              clear hn'
              have hbz : Below w.heap.size w w7 := hb01.trans (hb7.mono (by omega))
              clear hown7 hgrow7
              go_wp2_with fail
              go_ret2
              exact ⟨_, by rw [He.out]; rfl, by rw [He.out]; exact hown8.out, hbz⟩
end Go.Proofs.YtidffjlpldalpaaGreatDoor
