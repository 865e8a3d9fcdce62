/- The reference's texts: Find, Quoted, fault, Texts. The reference's Texts and AllTexts. The reference's AllTexts, FaultAll, Same. -/
import Derived.Test.YtidolpcbbbakmaaGreatM29
import Derived.Deep.RegionLawGrows
import Derived.Lib.SlicesS
import Derived.Deep.RegionHeld3
namespace Go.Proofs.YtidolpcbbbakmaaGreat
open Go Go.RowKit
open Go.Maps

def findI (l : List ByteArray) (s : ByteArray) : Int := match findT l s with
  | some i => (i : Int)
  | none => -1
theorem findI_hit {l : List ByteArray} {s : ByteArray} {k : Nat} (h1 : k < l.length) (h2 : l.getD k default = s) (h3 : ∀ j, j < k → l.getD j default ≠ s) : findI l s = k := by
  unfold findI; rw [findT_of h1 h2 h3]
theorem findI_miss {l : List ByteArray} {s : ByteArray} (h : ∀ j, j < l.length → l.getD j default ≠ s) : findI l s = -1 := by
  unfold findI
  cases hf : findT l s with
  | none => rfl
  | some i => obtain ⟨h1, h2, _⟩ := findT_some hf; exact absurd h2 (h i h1)
theorem findI_neg (l : List ByteArray) (s : ByteArray) : (findI l s < 0 ↔ (findT l s).isSome = false) ∧ -1 ≤ findI l s := by
  unfold findI
  cases hf : findT l s with
  | none => simp
  | some i => simp <;> omega
set_option maxHeartbeats 1000000 in
set_option maxRecDepth 100000 in
theorem rfind_any (v : Value) (l : List ByteArray) (s : ByteArray) (w : World) (h : IsTexts w v l) (hl : l.length ≤ 1000000) :
    Calls Tryz.prog 69 #[v, .string s] w fun e w' => e = .returned (.int .i64 (findI l s)) ∧ w = w' := by
  have H := Lib.hid h
  obtain ⟨a, c, rfl, _⟩ := h
  go_enter Tryz.func69, Tryz.ntmps69
  go_wp2_with fail
  go_loop [5] (fun i => ∃ k : Nat, k ≤ l.length ∧ i = .int .i64 k ∧ Hid (∀ j, j < k → l.getD j default ≠ s)) (fun i => l.length - (intOf i).toNat)
  case atStart => exact ⟨0, Nat.zero_le _, rfl, fun j hj => absurd hj (Nat.not_lt_zero _)⟩
  case round =>
    obtain ⟨k, hk, rfl, hno⟩ := hrel
    by_cases hlt : k < l.length
    · obtain ⟨b, off, c', ha, _, _, hc⟩ := texts_at H.out k hlt
      obtain rfl := (Value.slice.inj ha).1
      clear ha
      obtain ⟨x, hx⟩ : ∃ x, l.getD k default = x := ⟨_, rfl⟩
      rw [hx] at hc
      have Hx := Lib.hid hx
      clear hx
      by_cases hxs : x = s
      · have hq : (x.toList == s.toList) = true := (Lib.bytes_beq_iff _ _).2 hxs
        have HR := Lib.hid (findI_hit hlt (Hx.out.trans hxs) hno.out)
        clear hxs
        go_wp2_with fail
        go_ret
        exact ⟨by rw [HR.out]; rfl, rfl⟩
      · have hq : (x.toList == s.toList) = false := (Lib.bytes_beq_false_iff _ _).2 hxs
        have HN := Lib.hid (fun (j : Nat) (hj : j < k + 1) => show l.getD j default ≠ s from by
          by_cases e : j = k
          · subst e; rw [Hx.out]; exact hxs
          · exact hno.out j (by omega))
        clear hxs
        go_wp2_with fail
        go_round
        case rel => exact ⟨k + 1, by omega, by go_num, HN⟩
        case measure => simp [intOf]; omega
    · have HR := Lib.hid (findI_miss (l := l) (s := s) fun j hj => hno.out j (by omega))
      go_wp2_with fail
      go_ret
      exact ⟨by rw [HR.out]; rfl, rfl⟩
set_option maxHeartbeats 1000000 in
set_option maxRecDepth 100000 in
theorem rquoted_any (s : ByteArray) (w : World) (hs : s.size ≤ 16384) : Calls Tryz.prog 40 #[.string s] w fun e w' => e = .returned (.bool (quotedB s)) ∧ w = w' := by
  have hq : Hid (quotedB s = allVis s) := by show _ = _; unfold quotedB; rw [decide_eq_true hs]; rfl
  rw [hq.out]
  have hsz : (s.size : Int) ≤ 16384 := by omega
  go_enter Tryz.func40, Tryz.ntmps40
  go_wp2_with fail
  go_loop [3] (fun i => ∃ k : Nat, k ≤ s.size ∧ i = .int .i64 k ∧ Hid ((s.data.toList.take k).all visB = true)) (fun i => s.size - (intOf i).toNat)
  case atStart => exact ⟨0, Nat.zero_le _, rfl, rfl⟩
  case round =>
    obtain ⟨k, hk, rfl, hall⟩ := hrel
    by_cases hlt : k < s.size
    · obtain ⟨u0, u1⟩ := ub s[k]
      have hv := vis_eq s[k]
      have Hn := Lib.hid (vis_next s k hlt hall.out)
      have Hh := Lib.hid (vis_hit s k hlt)
      cases h10 : ((s[k].toNat : Int) == 10)
      · have h10' : ((s[k].toNat : Int) != 10) = true := by simp [bne, h10]
        by_cases h1 : (s[k].toNat : Int) < 32
        · have h1' : ((s[k].toNat : Int) < 32) = True := eq_true h1
          have hb : Hid (allVis s = false) := Hh.out (by rw [hv, h10]; unfold showB; rw [decide_eq_false (by omega)]; rfl)
          clear hv h1
          go_wp2_with fail
          go_ret
          exact ⟨by rw [hb.out]; rfl, rfl⟩
        · have h1' : ((s[k].toNat : Int) < 32) = False := eq_false h1
          by_cases h2 : 126 < (s[k].toNat : Int)
          · have h2' : (126 < (s[k].toNat : Int)) = True := eq_true h2
            have hb : Hid (allVis s = false) := Hh.out (by rw [hv, h10]; unfold showB; rw [decide_eq_false (show ¬ (s[k].toNat : Int) ≤ 126 by omega), Bool.and_false]; rfl)
            clear hv h1 h2
            go_wp2_with fail
            go_ret
            exact ⟨by rw [hb.out]; rfl, rfl⟩
          · have h2' : (126 < (s[k].toNat : Int)) = False := eq_false h2
            have hN : Hid ((s.data.toList.take (k + 1)).all visB = true) := Hn.out (by rw [hv]; unfold showB; rw [decide_eq_true (show 32 ≤ (s[k].toNat : Int) by omega), decide_eq_true (show (s[k].toNat : Int) ≤ 126 by omega)]; simp)
            clear hv h1 h2
            go_wp2_with fail
            go_round
            case rel => exact ⟨k + 1, by omega, by go_num, hN⟩
            case measure => simp [intOf]; omega
      · have h10' : ((s[k].toNat : Int) != 10) = false := by simp [bne, h10]
        have hN : Hid ((s.data.toList.take (k + 1)).all visB = true) := Hn.out (by rw [hv, h10]; rfl)
        clear hv
        go_wp2_with fail
        go_round
        case rel => exact ⟨k + 1, by omega, by go_num, hN⟩
        case measure => simp [intOf]; omega
    · have ha : Hid (allVis s = true) := by
        show _ = _
        have := hall.out
        rw [List.take_of_length_le (by simp; omega)] at this
        exact this
      go_wp2_with fail
      go_ret
      exact ⟨by rw [ha.out]; rfl, rfl⟩
/-- The error of some texts. -/
def faultT (l : List ByteArray) : Int := if l.any notQ = true then 3 else if 1000 < l.length then 5 else 0
set_option maxHeartbeats 1000000 in
set_option maxRecDepth 100000 in
theorem rfault_any (v : Value) (l : List ByteArray) (w : World) (h : IsTexts w v l) (hl : l.length ≤ 1000000) (hs : ∀ s ∈ l, s.size ≤ 16384) :
    Calls Tryz.prog 18 #[v] w fun e w' => e = .returned (.int .i64 (faultT l)) ∧ w = w' := by
  have H := Lib.hid h
  have HS := Lib.hid hs
  obtain ⟨a, c, rfl, _⟩ := h
  clear hs
  go_enter Tryz.func18, Tryz.ntmps18
  go_wp2_with fail
  go_loop [3] (fun i => ∃ k : Nat, k ≤ l.length ∧ i = .int .i64 k ∧ Hid ((l.take k).any notQ = false)) (fun i => l.length - (intOf i).toNat)
  case atStart => exact ⟨0, Nat.zero_le _, rfl, rfl⟩
  case round =>
    obtain ⟨k, hk, rfl, hno⟩ := hrel
    by_cases hlt : k < l.length
    · obtain ⟨b, off, c', ha, _, _, hc⟩ := texts_at H.out k hlt
      obtain rfl := (Value.slice.inj ha).1
      clear ha
      have HQ := Lib.hid (rquoted_any (l.getD k default) w (HS.out _ (getD_mem default l k hlt)))
      have Hn := Lib.hid (any_next default l notQ k hlt hno.out)
      have Hy := Lib.hid (any_hit default l notQ k hlt)
      generalize l.getD k default = x at *
      obtain ⟨bq, hbq⟩ : ∃ bq, quotedB x = bq := ⟨_, rfl⟩
      have hnq : notQ x = !bq := by unfold notQ; rw [hbq]
      rw [hbq] at HQ
      rw [hnq] at Hn Hy
      clear hbq hnq
      cases bq
      · have HY := Lib.hid (Hy.out rfl)
        go_wp2_with fail
        refine HQ.out.mono ?_
        rintro e w' ⟨rfl, rfl⟩
        go_wp2_with fail
        go_ret
        exact ⟨by unfold faultT; rw [if_pos HY.out]; rfl, rfl⟩
      · have HN := Lib.hid (Hn.out rfl)
        go_wp2_with fail
        refine HQ.out.mono ?_
        rintro e w' ⟨rfl, rfl⟩
        go_wp2_with fail
        go_round
        case rel => exact ⟨k + 1, by omega, by go_num, HN⟩
        case measure => simp [intOf]; omega
    · have hno2 := hno.out
      rw [List.take_of_length_le (by omega)] at hno2
      have HNO := Lib.hid hno2
      clear hno2
      by_cases h1000 : 1000 < (l.length : Int)
      · have HF := Lib.hid (show faultT l = 5 from by unfold faultT; rw [HNO.out, if_neg (by decide), if_pos (by omega)])
        go_wp2_with fail
        go_ret
        exact ⟨by rw [HF.out]; rfl, rfl⟩
      · have HF := Lib.hid (show faultT l = 0 from by unfold faultT; rw [HNO.out, if_neg (by decide), if_neg (by omega)])
        go_wp2_with fail
        go_ret
        exact ⟨by rw [HF.out]; rfl, rfl⟩

/-- Texts as the reference collects them: nil as long as there is none. -/
def TxS (w : World) (v : Value) (acc : List ByteArray) : Prop := IsTexts w v acc ∧ (acc = [] → v = .slice none 0 0)
theorem TxS.below {w w' : World} {v : Value} {acc : List ByteArray} (h : TxS w v acc) (hb : Below w.heap.size w w') : TxS w' v acc := ⟨IsRow.below h.1 hb, h.2⟩
def TextsOk (acc new : List ByteArray) (w : World) (e : Ending) (w' : World) : Prop := ∃ v, e = .returned v ∧ TxS w' v (new.foldl addT acc) ∧ Below w.heap.size w w'
theorem fold_take (l : List ExpD) (acc : List ByteArray) (k : Nat) (h : k < l.length) : (textsL (l.take (k + 1))).foldl addT acc = (textsX (l.getD k default)).foldl addT ((textsL (l.take k)).foldl addT acc) := by
  rw [take_one default l k h, textsL_snoc, List.foldl_append]
theorem fold_len (l acc : List ByteArray) : (l.foldl addT acc).length ≤ acc.length + l.length := by
  induction l generalizing acc with
  | nil => simp
  | cons x r ih => rw [List.foldl_cons]; have := ih (addT acc x); have := addT_len acc x; simp; omega
theorem strCells_cell {w : World} {v : Value} {l : List ByteArray} (h : IsTexts w v l) {b off c : Nat} (hv : v = .slice (some ⟨b, off, none⟩) l.length c) (j : Nat) (u : Value) (hu : (strCells l)[j]? = some u) : w.cell? ⟨b, off + j, none⟩ = some u := by
  have hj : j < l.length := by
    have := (List.getElem?_eq_some_iff.1 hu).1
    rwa [strCells_length] at this
  obtain ⟨b', off', c', ha, _, _, hc⟩ := texts_at h j hj
  rw [hv] at ha
  have h1 := Option.some.inj (Value.slice.inj ha).1
  injection h1 with h2 h3
  subst h2; subst h3
  rw [hc]
  unfold strCells at hu
  rw [List.getElem?_map] at hu
  rw [← hu]
  simp [List.getD, hj]
set_option maxHeartbeats 8000000 in
set_option maxRecDepth 100000 in
theorem rtexts_any (B : Nat) (caps : Int) (clo : Int → Int → Bool) (x : ExpD) : ∀ (loc : Int) (lv : Value) (acc : List ByteArray) (w : World), B ≤ w.heap.size → IsExp B w x → flatX caps clo loc x = true → TxS w lv acc → acc.length + sizeX x ≤ 100000 →
    Calls Tryz.prog 41 #[lv, expV x] w (TextsOk acc (textsX x) w) := by
  induction x using ExpD.induct with
  | h op n s xv l ih =>
    intro loc lv acc w hBw hx hf hT hsz
    rw [expV_mk]
    have HIH := Lib.hid ih
    obtain ⟨hr, hm, hy⟩ := hx.parts
    have HY := Lib.hid hy
    have HR := Lib.hid hr
    obtain ⟨hfm, hfp⟩ := flat_parts hf
    have HFP := Lib.hid hfp
    have hm' : l.length ≤ 9223372036854775807 := by unfold maxLen at hm; omega
    rw [sizeX_mk] at hsz
    obtain ⟨a, c, rfl, hlc, _⟩ := hr
    have hb1 := box_exp op n s (.slice a l.length c) w
    have gP := new_heap w (.cells #[.int .i64 op, .int .i64 n, .string s, .slice a l.length c] 29)
    obtain ⟨p0, p1, p2, p3⟩ := exp_box gP
    have HT1 := Lib.hid (hT.below hb1)
    have HB1 := Lib.hid hb1
    have HGP := Lib.hid gP
    have hsz1 := hb1.size
    clear ih hx hy hm gP hb1 hf hfp
    by_cases h3 : op = 3
    · subst h3
      have hl0 := (form_3 hfm).1
      simp at hl0
      obtain ⟨rfl, rfl, _⟩ := hl0
      obtain ⟨is0, his, isz0, isz1, isz2⟩ := info_parts info_str
      have hst : textsX (.mk 3 0 s (.slice a 0 c) []) = [s] := by rw [textsX_mk, if_pos rfl]
      rw [show (.slice a ([] : List ExpD).length c : Value) = .slice a 0 c from rfl] at *
      rw [hst]
      have HFI := Lib.hid (rfind_any lv acc s (w.alloc (.cells #[.int .i64 3, .int .i64 0, .string s, .slice a 0 c] 29)) HT1.out.1 (by omega))
      have hfi := findI_neg acc s
      obtain ⟨fi, hfi2⟩ : ∃ fi, findI acc s = fi := ⟨_, rfl⟩
      rw [hfi2] at HFI hfi
      clear hfi2 hst
      by_cases hneg : fi < 0
      · have HA := Lib.hid (show addT acc s = acc ++ [s] from by unfold addT; rw [hfi.1.1 hneg]; rfl)
        clear hfi
        have hlt3 : fi < 0 := hneg
        obtain ⟨ta, tc, rfl, htc, htn⟩ := HT1.out.1
        by_cases hac : acc = []
        · have := HT1.out.2 hac
          subst hac
          injection this with h1 h2 h3
          subst h1; subst h3
          generalize hW : w.alloc (.cells #[.int .i64 3, .int .i64 0, .string s, .slice a 0 c] 29) = W at *
          go_enter Tryz.func41, Tryz.ntmps41
          go_wp2_with fail
          refine HFI.out.mono ?_
          rintro e w' ⟨rfl, rfl⟩
          go_upto_region 2 with fail
          go_region_law (refine step_append_grows rfl (.tmp 21) (.tmp 24) 34 rfl 9 is0 (.string ByteArray.empty) 1 16 Tryz.underlying34 his isz0 isz1 isz2 rfl (by decide) none 0 0 [] (by simp [Act.eval]) (fun _ => ⟨rfl, rfl⟩) rfl (by nofun) ⟨W.heap.size, 0, none⟩ 1 1 [.string s] (by simp [Act.eval]) rfl (World.news_of_block (cs := #[.string s]) (show _ = _ from new_heap W _)) (fun u hu => by simp at hu; subst hu; rfl) (by decide) (by unfold maxLen; decide) (by decide) ?_; intro v' w' hown hgrow)
          have hgw := both (both (grown_alloc W (.cells #[.string s] 9)) (grown_drew _)) hgrow
          have HTF : Hid (TxS w' v' (([] : List ByteArray) ++ [s])) := ⟨by have := isRow_owns hown; unfold IsTexts; rw [strCells_snoc, List.length_append, List.length_singleton]; exact this, fun e => by simp at e⟩
          have gPf := (hgw.block _ (heap_lt HGP.out) (by nofun)).trans HGP.out
          have HBF := Lib.hid (HB1.out.trans (grown_under (B := w.heap.size) hgw HB1.out.size (by nofun)))
          clear p0 p1 p2 p3 hgw hown hgrow
          obtain ⟨p0, p1, p2, p3⟩ := exp_box gPf
          go_wp2_with fail
          go_loop [0, 5] (fun v i => v = v' ∧ i = .int .i64 0) (fun _ _ => 0)
          case atStart => exact ⟨rfl, rfl⟩
          case round =>
            obtain ⟨rfl, rfl⟩ := hrel
            go_wp2_with fail
            go_ret
            exact ⟨_, rfl, by rw [List.foldl_cons, List.foldl_nil, HA.out]; exact HTF.out, HBF.out⟩
        · obtain ⟨tb, toff, rfl, htb, htcell⟩ := htn (List.length_pos_iff.2 hac)
          have HCELL := Lib.hid (fun (j : Nat) (u : Value) (hu : (strCells acc)[j]? = some u) => strCells_cell HT1.out.1 rfl j u hu)
          clear htcell
          generalize hW : w.alloc (.cells #[.int .i64 3, .int .i64 0, .string s, .slice a 0 c] 29) = W at *
          have HCELL2 := Lib.hid (fun (j : Nat) (u : Value) (hu : (strCells acc)[j]? = some u) => show (W.alloc (.cells #[.string s] 9)).drew.cell? ((⟨tb, toff, none⟩ : Addr).add j) = some u from by
            have h1 := HCELL.out j u hu
            have h2 : (W.alloc (.cells #[.string s] 9)).drew.heap[tb]? = W.heap[tb]? := (grown_alloc W (.cells #[.string s] 9)).block tb htb (by nofun)
            have h3 : (⟨tb, toff, none⟩ : Addr).add j = ⟨tb, toff + j, none⟩ := by rcases j with _ | j <;> simp [Addr.add]
            rw [h3]
            unfold World.cell? at h1 ⊢
            rw [h2]; exact h1)
          go_enter Tryz.func41, Tryz.ntmps41
          go_wp2_with fail
          refine HFI.out.mono ?_
          rintro e w' ⟨rfl, rfl⟩
          go_upto_region 2 with fail
          go_region_law (refine step_append_grows rfl (.tmp 21) (.tmp 24) 34 rfl 9 is0 (.string ByteArray.empty) 1 16 Tryz.underlying34 his isz0 isz1 isz2 rfl (by decide) (some ⟨tb, toff, none⟩) acc.length acc.length (strCells acc) (by simp [Act.eval]) (by nofun) (by rw [strCells_length, Nat.mul_one]) (fun b hb j u hu => by cases hb; exact HCELL2.out j u hu) ⟨W.heap.size, 0, none⟩ 1 1 [.string s] (by simp [Act.eval]) rfl (World.news_of_block (cs := #[.string s]) (show _ = _ from new_heap W _)) (fun u hu => by simp at hu; subst hu; rfl) (Nat.lt_succ_self _) (by unfold maxLen; omega) (by omega) ?_; intro v' w' hown hgrow)
          have hgw := both (both (grown_alloc W (.cells #[.string s] 9)) (grown_drew _)) hgrow
          have HTF : Hid (TxS w' v' (acc ++ [s])) := ⟨by have := isRow_owns hown; unfold IsTexts; rw [strCells_snoc, List.length_append, List.length_singleton]; exact this, fun e => by simp at e⟩
          have gPf := (hgw.block _ (heap_lt HGP.out) (by nofun)).trans HGP.out
          have HBF := Lib.hid (HB1.out.trans (grown_under (B := w.heap.size) hgw HB1.out.size (by nofun)))
          clear p0 p1 p2 p3 hgw hown hgrow
          obtain ⟨p0, p1, p2, p3⟩ := exp_box gPf
          go_wp2_with fail
          go_loop [0, 5] (fun v i => v = v' ∧ i = .int .i64 0) (fun _ _ => 0)
          case atStart => exact ⟨rfl, rfl⟩
          case round =>
            obtain ⟨rfl, rfl⟩ := hrel
            go_wp2_with fail
            go_ret
            exact ⟨_, rfl, by rw [List.foldl_cons, List.foldl_nil, HA.out]; exact HTF.out, HBF.out⟩
      · have HA := Lib.hid (show addT acc s = acc from by
          unfold addT
          cases hf : (findT acc s).isSome
          · exact absurd (hfi.1.2 hf) hneg
          · rfl)
        clear hfi
        generalize hW : w.alloc (.cells #[.int .i64 3, .int .i64 0, .string s, .slice a 0 c] 29) = W at *
        go_enter Tryz.func41, Tryz.ntmps41
        go_wp2_with fail
        refine HFI.out.mono ?_
        rintro e w' ⟨rfl, rfl⟩
        go_wp2_with fail
        go_loop [0, 5] (fun v i => v = lv ∧ i = .int .i64 0) (fun _ _ => 0)
        case atStart => exact ⟨rfl, rfl⟩
        case round =>
          obtain ⟨rfl, rfl⟩ := hrel
          go_wp2_with fail
          go_ret
          exact ⟨_, rfl, by rw [List.foldl_cons, List.foldl_nil, HA.out]; exact HT1.out, HB1.out⟩
    · have hst : textsX (.mk op n s (.slice a l.length c) l) = textsL l := by rw [textsX_mk, if_neg h3]
      rw [hst]
      clear hst
      have h3' : (op == 3) = false := beq_eq_false_iff_ne.2 h3
      have h3n : ¬ op = 3 := h3
      generalize hW : w.alloc (.cells #[.int .i64 op, .int .i64 n, .string s, .slice a l.length c] 29) = W at *
      have HBW := Lib.hid (Below.refl W.heap.size W)
      go_enter Tryz.func41, Tryz.ntmps41
      go_wp2_with fail
      go_loopw [0, 5] (fun lv i wr => ∃ (k : Nat), k ≤ l.length ∧ i = .int .i64 k ∧ Hid (TxS wr lv ((textsL (l.take k)).foldl addT acc)) ∧ Hid (Below w.heap.size w wr) ∧ Hid (Below W.heap.size W wr)) (fun _ i _ => l.length - (intOf i).toNat)
      case atStart => exact ⟨0, Nat.zero_le _, rfl, by rw [List.take_zero, textsL_nil]; exact HT1, HB1, HBW⟩
      case round =>
        obtain ⟨k, hk, rfl, HO, HB, HBw⟩ := hrel
        have gPr := (HBw.out.block _ (heap_lt HGP.out)).trans HGP.out
        clear p0 p1 p2 p3
        obtain ⟨p0, p1, p2, p3⟩ := exp_box gPr
        by_cases hkl : k < l.length
        · have hbB := HB.out.mono hBw
          obtain ⟨b, off, rfl, hbB2, c0, c1, c2, c3⟩ := parts_at HR.out hbB k hkl
          have hmem := getD_mem default l k hkl
          have HT := Lib.hid (fold_take l acc k hkl)
          have hyk := (HY.out _ hmem).under hbB
          have hih := HIH.out _ hmem
          have hlen : ((textsL (l.take k)).foldl addT acc).length + sizeX (l.getD k default) ≤ 100000 := by
            have h0 := fold_len (textsL (l.take k)) acc
            have h1 := textsL_le (l.take k) fun y _ => textsX_le y
            have h2 := sizeL_take l (k + 1)
            rw [take_one default l k hkl, sizeL_snoc] at h2
            omega
          have hfk := HFP.out k hkl
          clear hmem
          generalize l.getD k default = x at *
          obtain ⟨xo, xn, xs, xv, xl⟩ := x
          obtain ⟨xa, xc, hxv, _⟩ := hyk.parts.1
          subst hxv
          simp only [ExpD.op, ExpD.n, ExpD.s, ExpD.lv] at c0 c1 c2 c3
          have HM := Lib.hid (hih _ u0 _ wr (by have := HB.out.size; omega) hyk hfk HO.out hlen)
          rw [expV_mk] at HM
          clear hih hyk hfk hlen gPr hbB
          go_wp2_with fail
          refine HM.out.mono ?_
          rintro e w2 ⟨lv2, rfl, hO2, hb4⟩
          have HO2 : Hid (TxS w2 lv2 ((textsL (l.take (k + 1))).foldl addT acc)) := by rw [HT.out]; exact hO2
          have HB3 := Lib.hid (HB.out.trans (hb4.mono HB.out.size))
          have HB4 := Lib.hid (HBw.out.trans (hb4.mono HBw.out.size))
          clear hO2 hb4 HM c0 c1 c2 c3 p0 p1 p2 p3
          go_wp2_with fail
          go_roundw
          case rel => exact ⟨k + 1, by omega, by go_num, HO2, HB3, HB4⟩
          case measure => simp [intOf]; omega
        · have hO2 := HO.out
          rw [List.take_of_length_le (by omega)] at hO2
          have HO3 := Lib.hid hO2
          clear hO2
          go_wp2_with fail
          go_ret
          exact ⟨_, rfl, HO3.out, HB.out⟩

set_option maxHeartbeats 4000000 in
set_option maxRecDepth 100000 in
theorem alltexts_any (B : Nat) (fv : Value) (fl : List FlatD) (w : World) (hF : IsFlats B w fv fl) (hBw : B ≤ w.heap.size) (hfun : ∀ f ∈ fl, funB (cloV fl) f = true) (hs : sizeF fl ≤ 600) :
    Calls Tryz.prog 19 #[fv] w (TextsOk [] (allT fl) w) := by
  have hm' : fl.length ≤ 9223372036854775807 := by have := hF.2.1; unfold maxLen at this; omega
  have HF := Lib.hid hF
  have HFU := Lib.hid hfun
  have HB0 := Lib.hid (Below.refl w.heap.size w)
  have HT0 : Hid (TxS w (.slice none 0 0) []) := ⟨(OwnS.nil w 0).texts, fun _ => rfl⟩
  obtain ⟨⟨a, c, rfl, hlc, _⟩, _⟩ := hF
  clear hfun
  go_enter Tryz.func19, Tryz.ntmps19
  go_wp2_with fail
  go_loopw [3, 4] (fun v i wr => ∃ k : Nat, k ≤ fl.length ∧ i = .int .i64 k ∧ Hid (TxS wr v ((textsL ((fl.map FlatD.body).take k)).foldl addT [])) ∧ Hid (Below w.heap.size w wr)) (fun _ i _ => fl.length - (intOf i).toNat)
  case atStart => exact ⟨0, Nat.zero_le _, rfl, by rw [List.take_zero, textsL_nil]; exact HT0, HB0⟩
  case round =>
    obtain ⟨k, hk, rfl, HT, HB⟩ := hrel
    by_cases hkl : k < fl.length
    · have hFr := HF.out.under (HB.out.mono hBw)
      obtain ⟨b, off, c', ha, _, hbB, c0, c1, c2, c3, c4⟩ := flats_at hFr.1 k hkl
      obtain rfl := (Value.slice.inj ha).1
      have hmem := getD_mem default fl k hkl
      have hxk := hFr.2.2 _ hmem
      have hfk := HFU.out _ hmem
      have hfx : flatX (fl.getD k default).caps (cloV fl) 1 (fl.getD k default).body = true := by unfold funB at hfk; rw [Bool.and_eq_true] at hfk; exact hfk.2
      have hkm : k < (fl.map FlatD.body).length := by simpa using hkl
      have HTK := Lib.hid (fold_take (fl.map FlatD.body) [] k hkm)
      rw [show (fl.map FlatD.body).getD k default = (fl.getD k default).body by simp [List.getD, hkl]] at HTK
      have hlen : ((textsL ((fl.map FlatD.body).take k)).foldl addT []).length + sizeX (fl.getD k default).body ≤ 100000 := by
        have h0 := fold_len (textsL ((fl.map FlatD.body).take k)) []
        have h1 := textsL_le ((fl.map FlatD.body).take k) fun y _ => textsX_le y
        have h2 := sizeL_take (fl.map FlatD.body) (k + 1)
        rw [map_take' fl k hkl, sizeL_snoc] at h2
        unfold sizeF at hs
        simp at h0
        omega
      have HX := Lib.hid (rtexts_any B _ (cloV fl) (fl.getD k default).body 1 u3 _ wr (by have := HB.out.size; omega) hxk hfx HT.out hlen)
      clear ha hmem hfk hfx hlen hkm
      generalize fl.getD k default = f at *
      obtain ⟨caps, ⟨xo, xn, xs, xv, xl⟩⟩ := f
      obtain ⟨xa, xc, hxv, _⟩ := hxk.parts.1
      subst hxv
      simp only [ExpD.op, ExpD.n, ExpD.s, ExpD.lv] at c0 c1 c2 c3 c4
      rw [expV_mk] at HX
      clear hxk hFr
      go_wp2_with fail
      refine HX.out.mono ?_
      rintro e w2 ⟨v2, rfl, hT2, hb2⟩
      have HT2 : Hid (TxS w2 v2 ((textsL ((fl.map FlatD.body).take (k + 1))).foldl addT [])) := by rw [HTK.out]; exact hT2
      have HB2 := Lib.hid (HB.out.trans (hb2.mono HB.out.size))
      clear hT2 hb2 HX c0 c1 c2 c3 c4
      go_wp2_with fail
      go_roundw
      case rel => exact ⟨k + 1, by omega, by go_num, HT2, HB2⟩
      case measure => simp [intOf]; omega
    · have hT2 := HT.out
      rw [List.take_of_length_le (by simp; omega)] at hT2
      have HT2 := Lib.hid hT2
      clear hT2
      go_wp2_with fail
      go_ret
      exact ⟨_, rfl, HT2.out, HB.out⟩
/-- The error that the reference tells. -/
def faultA (fl : List FlatD) (main : Int) : Int := if validF fl main = true then faultT (dedup (allT fl)) else 1
set_option maxHeartbeats 4000000 in
set_option maxRecDepth 100000 in
theorem faultall_any (B : Nat) (fv : Value) (fl : List FlatD) (main : Int) (w : World) (hF : IsFlats B w fv fl) (hBw : B ≤ w.heap.size) (hfit : Fit fl) :
    Calls Tryz.prog 6 #[fv, .int .i64 main] w fun e w' => e = .returned (.int .i64 (faultA fl main)) ∧ Below w.heap.size w w' := by
  obtain ⟨hfl, hfs, hfh⟩ := hfit
  have hsz : ∀ f ∈ fl, sizeX f.body ≤ 600 ∧ heightX f.body ≤ 211 := fun f hf => ⟨by
    have : sizeX f.body ≤ sizeL (fl.map FlatD.body) := sizeL_mem (List.mem_map_of_mem hf)
    unfold sizeF at hfs; omega, hfh f hf⟩
  have HV := Lib.hid (rvalidF_any B fv fl main w hF hBw hsz)
  have HF := Lib.hid hF
  obtain ⟨bb, hbb⟩ : ∃ bb, validF fl main = bb := ⟨_, rfl⟩
  have Hbb := Lib.hid hbb
  rw [hbb] at HV
  clear hbb hF
  cases bb
  · have HFA := Lib.hid (show faultA fl main = 1 from by unfold faultA; rw [Hbb.out]; rfl)
    go_enter Tryz.func6, Tryz.ntmps6
    go_wp2_with fail
    refine HV.out.mono ?_
    rintro e w2 ⟨rfl, hb2⟩
    have HB2 := Lib.hid hb2
    clear hb2
    go_wp2_with fail
    go_ret
    exact ⟨by rw [HFA.out]; rfl, HB2.out⟩
  · have HFA := Lib.hid (show faultA fl main = faultT (dedup (allT fl)) from by unfold faultA; rw [Hbb.out]; rfl)
    obtain ⟨_, _, _, _, _, hfun⟩ := valid_all Hbb.out
    have HFUN := Lib.hid hfun
    have HSM := Lib.hid (fun (s : ByteArray) (hs : s ∈ dedup (allT fl)) => all_small hfun s (dedup_mem hs))
    have hdl := dedup_len (allT fl)
    have htl : (allT fl).length ≤ 600 := by
      have := textsL_le (fl.map FlatD.body) fun y _ => textsX_le y
      unfold sizeF at hfs; unfold allT; omega
    clear hfun
    go_enter Tryz.func6, Tryz.ntmps6
    go_wp2_with fail
    refine HV.out.mono ?_
    rintro e w2 ⟨rfl, hb2⟩
    have HB2 := Lib.hid hb2
    have HA := Lib.hid (alltexts_any B fv fl w2 (HF.out.under (hb2.mono hBw)) (by have := hb2.size; omega) HFUN.out hfs)
    clear hb2 HV
    go_wp2_with fail
    refine HA.out.mono ?_
    rintro e w3 ⟨v3, rfl, hT3, hb3⟩
    have HB3 := Lib.hid (HB2.out.trans (hb3.mono HB2.out.size))
    have HX := Lib.hid (rfault_any v3 (dedup (allT fl)) w3 hT3.1 (by omega) HSM.out)
    clear hT3 hb3 HA
    go_wp2_with fail
    refine HX.out.mono ?_
    rintro e w' ⟨rfl, rfl⟩
    go_wp2_with fail
    go_ret
    exact ⟨by rw [HFA.out]; rfl, HB3.out⟩
end Go.Proofs.YtidolpcbbbakmaaGreat
