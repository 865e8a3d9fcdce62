/- The reference's Valid of flat functions. The reference's Function and Valid. -/
import Derived.Test.YtidolpcbbbakmaaGreatM28
namespace Go.Proofs.YtidolpcbbbakmaaGreat
open Go Go.RowKit
open Go.Maps

def cloC (fl : List FlatD) (n : Int) (k : Nat) : Bool := decide (n < fl.length) && decide ((fl.getD n.toNat default).caps = k)
mutual
def closX (fl : List FlatD) : ExpD → Bool
  | .mk op n _ _ l => (if op = 24 then cloC fl n l.length else true) && closL fl l
def closL (fl : List FlatD) : List ExpD → Bool
  | [] => true
  | x :: r => closX fl x && closL fl r
end
theorem closX_mk (fl : List FlatD) (op n : Int) (s : ByteArray) (v : Value) (l : List ExpD) : closX fl (.mk op n s v l) = ((if op = 24 then cloC fl n l.length else true) && closL fl l) := by rw [closX]
theorem closL_all (fl : List FlatD) : ∀ (l : List ExpD), (∀ i, i < l.length → closX fl (l.getD i default) = true) → closL fl l = true
  | [], _ => by unfold closL; rfl
  | x :: r, h => by
    unfold closL
    rw [Bool.and_eq_true]
    exact ⟨by simpa using h 0 (by simp), closL_all fl r fun i hi => by simpa using h (i + 1) (by simpa using hi)⟩
theorem closL_none (fl : List FlatD) : ∀ (l : List ExpD) (i : Nat), i < l.length → closX fl (l.getD i default) = false → closL fl l = false
  | [], i, h, _ => by simp at h
  | x :: r, 0, _, h => by unfold closL; rw [Bool.and_eq_false_iff]; exact .inl (by simpa using h)
  | x :: r, i + 1, hi, h => by
    unfold closL; rw [Bool.and_eq_false_iff]
    exact .inr (closL_none fl r i (by simpa using hi) (by simpa using h))
theorem form_clo {caps loc op n : Int} {s : ByteArray} {k : Nat} {clo clo' : Int → Int → Bool} (h : op ≠ 24) : formB caps clo loc op n s k = formB caps clo' loc op n s k := by
  unfold formB; simp only [if_neg h]
theorem form_val (fl : List FlatD) (caps loc op n : Int) (s : ByteArray) (k : Nat) : formB caps (cloV fl) loc op n s k = (formB caps cloN loc op n s k && (if op = 24 then cloC fl n k else true)) := by
  by_cases h : op = 24
  · subst h
    rw [if_pos rfl]
    by_cases hs : s.size = 0
    · rw [formE_24 (.inr hs), formE_24 (.inr hs), Bool.eq_iff_iff]
      unfold cloV cloN cloC inB
      simp
      constructor
      · rintro ⟨h1, ⟨h2, h3⟩, h4⟩; exact ⟨⟨h1, h2⟩, by omega, h4⟩
      · rintro ⟨⟨h1, h2⟩, h3, h4⟩; exact ⟨h1, ⟨h2, by omega⟩, h4⟩
    · rw [formE_s (by decide) hs, formE_s (by decide) hs]; rfl
  · rw [if_neg h, Bool.and_true]; exact form_clo h
theorem flat_val (fl : List FlatD) (caps : Int) (x : ExpD) : ∀ loc, flatX caps (cloV fl) loc x = (flatX caps cloN loc x && closX fl x) := by
  induction x using ExpD.induct with
  | h op n s lv l ih =>
    intro loc
    have hl : ∀ (l : List ExpD) (a b : Int), (∀ y ∈ l, ∀ loc, flatX caps (cloV fl) loc y = (flatX caps cloN loc y && closX fl y)) → flatL caps (cloV fl) a b l = (flatL caps cloN a b l && closL fl l) := fun l => by
      induction l with
      | nil => intro a b _; unfold flatL closL; rfl
      | cons x r ih2 =>
        intro a b h
        unfold flatL closL
        rw [h x (by simp) a, ih2 b b fun y hy => h y (by simp [hy])]
        cases flatX caps cloN a x <;> cases closX fl x <;> cases flatL caps cloN b b r <;> rfl
    rw [closX_mk]
    unfold flatX
    rw [form_val, hl l _ _ ih]
    cases formB caps cloN loc op n s l.length <;> cases (if op = 24 then cloC fl n l.length else true) <;> cases flatL caps cloN loc (loc + bump op) l <;> rfl
def FunR (f : FlatD) : Bool := inB f.caps 0 1000 && flatX f.caps cloN 1 f.body
theorem fun_val (fl : List FlatD) (f : FlatD) : funB (cloV fl) f = (FunR f && closX fl f.body) := by
  unfold funB FunR; rw [flat_val, Bool.and_assoc]
set_option maxHeartbeats 4000000 in
set_option maxRecDepth 100000 in
theorem closures_any (B : Nat) (fv : Value) (fl : List FlatD) (x : ExpD) : ∀ (w : World), B ≤ w.heap.size → IsExp B w x → IsFlats B w fv fl → cloX (fun n p => cloN n p = true) x →
    Calls Tryz.prog 39 #[expV x, fv] w (FormOk (closX fl x) w) := by
  induction x using ExpD.induct with
  | h op n s lv l ih =>
    intro w hBw hx hF hcl
    rw [expV_mk, closX_mk]
    have HIH := Lib.hid ih
    obtain ⟨hr, hm, hy⟩ := hx.parts
    have HY := Lib.hid hy
    have HR := Lib.hid hr
    have HF := Lib.hid hF
    have HCL := Lib.hid (clo_mk hcl)
    have hm' : l.length ≤ 9223372036854775807 := by unfold maxLen at hm; omega
    have hmf : fl.length ≤ 9223372036854775807 := by have := hF.2.1; unfold maxLen at this; omega
    obtain ⟨a, c, rfl, hlc, _⟩ := hr
    have hb1 := box_exp op n s (.slice a l.length c) w
    have gP := new_heap w (.cells #[.int .i64 op, .int .i64 n, .string s, .slice a l.length c] 29)
    obtain ⟨p0, p1, p2, p3⟩ := exp_box gP
    have HGP := Lib.hid gP
    have HB1 := Lib.hid hb1
    have hFW := hF.under (hb1.mono hBw)
    obtain ⟨⟨fa, fc, rfl, hfc, _⟩, _⟩ := hF
    -- the loop over the parts
    have HLOOP : True := trivial
    clear ih hx hy gP hm hb1 hcl HLOOP
    by_cases h24 : op = 24
    · subst h24
      have hn0 : 0 ≤ n := by have := HCL.out.1 rfl; unfold cloN at this; simpa using this
      obtain ⟨m, rfl⟩ : ∃ m : Nat, n = m := ⟨n.toNat, by omega⟩
      rw [if_pos rfl]
      by_cases hml : m < fl.length
      · obtain ⟨b, off, c', ha, _, _, c0, _⟩ := flats_at hFW.1 m hml
        obtain rfl := (Value.slice.inj ha).1
        have HC := Lib.hid (show cloC fl (m : Int) l.length = decide ((fl.getD m default).caps = l.length) from by unfold cloC; rw [decide_eq_true (show (m : Int) < fl.length by omega)]; rfl)
        clear ha hFW
        generalize (fl.getD m default).caps = x at *
        rw [HC.out]
        by_cases hxk : x = (l.length : Int)
        · have HX := Lib.hid (decide_eq_true hxk)
          subst hxk
          have hx2 : ((l.length : Int) != (l.length : Int)) = false := by simp
          have hdm : decide (fl.length ≤ m) = false := decide_eq_false (by omega)
          generalize hW : w.alloc (.cells #[.int .i64 24, .int .i64 m, .string s, .slice a l.length c] 29) = W at *
          go_enter Tryz.func39, Tryz.ntmps39
          go_wp2_with fail
          go_quiet (fail)
          have HBQ := Lib.hid (bdrewN HB1.out nq)
          have HBW := Lib.hid (bdrewN (Below.refl W.heap.size W) nq)
          go_wp2_with fail
          go_loopw [5] (fun i wr => ∃ k : Nat, k ≤ l.length ∧ i = .int .i64 k ∧ Hid (∀ i, i < k → closX fl (l.getD i default) = true) ∧ Hid (Below w.heap.size w wr) ∧ Hid (Below W.heap.size W wr)) (fun i _ => l.length - (intOf i).toNat)
          case atStart => exact ⟨0, Nat.zero_le _, rfl, fun i hi => by omega, HBQ, HBW⟩
          case round =>
            obtain ⟨k, hk, rfl, HS, HBR, HBRW⟩ := hrel
            have gPr := (HBRW.out.block _ (heap_lt HGP.out)).trans HGP.out
            clear p0 p1 p2 p3
            obtain ⟨p0, p1, p2, p3⟩ := exp_box gPr
            by_cases hkl : k < l.length
            · obtain ⟨b2, off2, rfl, hbB2, c0, c1, c2, c3⟩ := parts_at HR.out (HBR.out.mono hBw) k hkl
              have hmem := getD_mem default l k hkl
              have HN := Lib.hid (closL_none fl l k hkl)
              have HS2 := Lib.hid (fun (hx : closX fl (l.getD k default) = true) (i : Nat) (hi : i < k + 1) => show closX fl (l.getD i default) = true from by
                by_cases e : i = k
                · subst e; exact hx
                · exact HS.out i (by omega))
              have hyk := (HY.out _ hmem).under (HBR.out.mono hBw)
              have hck := HCL.out.2 _ hmem
              have hih := HIH.out _ hmem wr (by have := HBR.out.size; omega) hyk (HF.out.under (HBR.out.mono hBw)) hck
              clear hmem
              generalize l.getD k default = x at *
              obtain ⟨xo, xn, xs, xv, xl⟩ := x
              obtain ⟨xa, xc, hxv, _⟩ := hyk.parts.1
              subst hxv
              simp only [ExpD.op, ExpD.n, ExpD.s, ExpD.lv] at c0 c1 c2 c3
              have HM := Lib.hid hih
              rw [expV_mk] at HM
              clear hyk hck hih gPr
              obtain ⟨bx, hbx⟩ : ∃ bx, closX fl (.mk xo xn xs (.slice xa xl.length xc) xl) = bx := ⟨_, rfl⟩
              have Hbx := Lib.hid hbx
              rw [hbx] at HM
              clear hbx
              go_wp2_with fail
              refine HM.out.mono ?_
              rintro e w4 ⟨rfl, hb4⟩
              have HB5 := Lib.hid (HBR.out.trans (hb4.mono HBR.out.size))
              have HB6 := Lib.hid (HBRW.out.trans (hb4.mono HBRW.out.size))
              clear hb4 HM p0 p1 p2 p3 c0 c1 c2 c3
              cases bx
              · go_wp2_with fail
                go_ret
                exact ⟨by rw [HN.out Hbx.out]; simp, HB5.out⟩
              · have HS3 := Lib.hid (HS2.out Hbx.out)
                go_wp2_with fail
                go_roundw
                case rel => exact ⟨k + 1, by omega, by go_num, HS3, HB5, HB6⟩
                case measure => simp [intOf]; omega
            · have HA := Lib.hid (closL_all fl l fun i hi => HS.out i (by omega))
              go_wp2_with fail
              go_ret
              exact ⟨by rw [HA.out]; rw [HX.out]; rfl, HBR.out⟩
        · have HX := Lib.hid (decide_eq_false hxk)
          have hx1 : (x == (l.length : Int)) = false := beq_eq_false_iff_ne.2 hxk
          have hx2 : (x != (l.length : Int)) = true := bne_iff_ne.2 hxk
          generalize hW : w.alloc (.cells #[.int .i64 24, .int .i64 m, .string s, .slice a l.length c] 29) = W at *
          go_enter Tryz.func39, Tryz.ntmps39
          go_wp2_with fail
          go_quiet (fail)
          go_wp2_with fail
          go_ret
          exact ⟨by rw [HX.out]; rfl, bdrewN HB1.out _⟩
      · have HC := Lib.hid (show cloC fl (m : Int) l.length = false from by unfold cloC; rw [decide_eq_false (show ¬ (m : Int) < fl.length by omega)]; rfl)
        rw [HC.out]
        generalize hW : w.alloc (.cells #[.int .i64 24, .int .i64 m, .string s, .slice a l.length c] 29) = W at *
        go_enter Tryz.func39, Tryz.ntmps39
        go_wp2_with fail
        go_quiet (fail)
        go_wp2_with fail
        go_ret
        exact ⟨rfl, bdrewN HB1.out _⟩
    · have z24 : ¬ op = 24 := h24
      have y24 : (op == 24) = false := beq_eq_false_iff_ne.2 h24
      rw [if_neg h24, Bool.true_and]
      generalize hW : w.alloc (.cells #[.int .i64 op, .int .i64 n, .string s, .slice a l.length c] 29) = W at *
      go_enter Tryz.func39, Tryz.ntmps39
      go_wp2_with fail
      go_quiet (fail)
      have HBQ := Lib.hid (bdrewN HB1.out nq)
      have HBW := Lib.hid (bdrewN (Below.refl W.heap.size W) nq)
      go_wp2_with fail
      go_loopw [5] (fun i wr => ∃ k : Nat, k ≤ l.length ∧ i = .int .i64 k ∧ Hid (∀ i, i < k → closX fl (l.getD i default) = true) ∧ Hid (Below w.heap.size w wr) ∧ Hid (Below W.heap.size W wr)) (fun i _ => l.length - (intOf i).toNat)
      case atStart => exact ⟨0, Nat.zero_le _, rfl, fun i hi => by omega, HBQ, HBW⟩
      case round =>
        obtain ⟨k, hk, rfl, HS, HBR, HBRW⟩ := hrel
        have gPr := (HBRW.out.block _ (heap_lt HGP.out)).trans HGP.out
        clear p0 p1 p2 p3
        obtain ⟨p0, p1, p2, p3⟩ := exp_box gPr
        by_cases hkl : k < l.length
        · obtain ⟨b2, off2, rfl, hbB2, c0, c1, c2, c3⟩ := parts_at HR.out (HBR.out.mono hBw) k hkl
          have hmem := getD_mem default l k hkl
          have HN := Lib.hid (closL_none fl l k hkl)
          have HS2 := Lib.hid (fun (hx : closX fl (l.getD k default) = true) (i : Nat) (hi : i < k + 1) => show closX fl (l.getD i default) = true from by
            by_cases e : i = k
            · subst e; exact hx
            · exact HS.out i (by omega))
          have hyk := (HY.out _ hmem).under (HBR.out.mono hBw)
          have hck := HCL.out.2 _ hmem
          have hih := HIH.out _ hmem wr (by have := HBR.out.size; omega) hyk (HF.out.under (HBR.out.mono hBw)) hck
          clear hmem
          generalize l.getD k default = x at *
          obtain ⟨xo, xn, xs, xv, xl⟩ := x
          obtain ⟨xa, xc, hxv, _⟩ := hyk.parts.1
          subst hxv
          simp only [ExpD.op, ExpD.n, ExpD.s, ExpD.lv] at c0 c1 c2 c3
          have HM := Lib.hid hih
          rw [expV_mk] at HM
          clear hyk hck hih gPr
          obtain ⟨bx, hbx⟩ : ∃ bx, closX fl (.mk xo xn xs (.slice xa xl.length xc) xl) = bx := ⟨_, rfl⟩
          have Hbx := Lib.hid hbx
          rw [hbx] at HM
          clear hbx
          go_wp2_with fail
          refine HM.out.mono ?_
          rintro e w4 ⟨rfl, hb4⟩
          have HB5 := Lib.hid (HBR.out.trans (hb4.mono HBR.out.size))
          have HB6 := Lib.hid (HBRW.out.trans (hb4.mono HBRW.out.size))
          clear hb4 HM p0 p1 p2 p3 c0 c1 c2 c3
          cases bx
          · go_wp2_with fail
            go_ret
            exact ⟨by rw [HN.out Hbx.out]; rfl, HB5.out⟩
          · have HS3 := Lib.hid (HS2.out Hbx.out)
            go_wp2_with fail
            go_roundw
            case rel => exact ⟨k + 1, by omega, by go_num, HS3, HB5, HB6⟩
            case measure => simp [intOf]; omega
        · have HA := Lib.hid (closL_all fl l fun i hi => HS.out i (by omega))
          go_wp2_with fail
          go_ret
          exact ⟨by rw [HA.out]; rfl, HBR.out⟩

set_option maxHeartbeats 4000000 in
set_option maxRecDepth 100000 in
theorem rfun_any (B : Nat) (f : FlatD) (w : World) (hBw : B ≤ w.heap.size) (hx : IsExp B w f.body) (hs : sizeX f.body ≤ 600) (hh : heightX f.body ≤ 211) :
    Calls Tryz.prog 38 #[flatDV f] w (FormOk (FunR f) w) := by
  obtain ⟨caps, ⟨op, n, s, lv, l⟩⟩ := f
  obtain ⟨la, lc, hlv, _⟩ := hx.parts.1
  subst hlv
  show Calls Tryz.prog _ #[.agg #[.int .i64 caps, .int .i64 op, .int .i64 n, .string s, .slice la l.length lc]] _ _
  change IsExp B w (.mk op n s (.slice la l.length lc) l) at hx
  change sizeX (.mk op n s (.slice la l.length lc) l) ≤ 600 at hs
  change heightX (.mk op n s (.slice la l.length lc) l) ≤ 211 at hh
  have hg := grown_alloc w (.cells #[.int .i64 caps, .int .i64 op, .int .i64 n, .string s, .slice la l.length lc] 31)
  have hb := grown_under hg (Nat.le_refl _) (by nofun)
  have gP := new_heap w (.cells #[.int .i64 caps, .int .i64 op, .int .i64 n, .string s, .slice la l.length lc] 31)
  obtain ⟨p0, p1, p2, p3, p4⟩ := five_cells gP
  have hxW := hx.under (hb.mono hBw)
  have HCO := Lib.hid (count_any B (.mk op n s (.slice la l.length lc) l) (w.alloc (.cells #[.int .i64 caps, .int .i64 op, .int .i64 n, .string s, .slice la l.length lc] 31)) 20001 1 (by have := hb.size; omega) hxW (by omega) (by omega) (by omega))
  have HBO := Lib.hid (fun (w2 : World) (hb2 : Below w.heap.size w w2) => body_any B caps (.mk op n s (.slice la l.length lc) l) 1 w2 (by have := hb2.size; omega) (hx.under (hb2.mono hBw)) (by omega) (by omega))
  have HB := Lib.hid hb
  have HGP := Lib.hid gP
  rw [expV_mk] at HCO HBO
  unfold CountOk at HCO
  obtain ⟨sx, hsx⟩ : ∃ sx, sizeX (.mk op n s (.slice la l.length lc) l) = sx := ⟨_, rfl⟩
  rw [hsx] at HCO hs
  have hsi : (sx : Int) ≤ 20000 := by omega
  have HFR : Hid (FunR ⟨caps, .mk op n s (.slice la l.length lc) l⟩ = (inB caps 0 1000 && flatX caps cloN 1 (.mk op n s (.slice la l.length lc) l))) := rfl
  clear hx hg hb gP hxW hsx hs hh
  obtain ⟨bb, hbb⟩ : ∃ bb, inB caps 0 1000 = bb := ⟨_, rfl⟩
  have Hbb := Lib.hid hbb
  clear hbb
  obtain ⟨bx, hbx⟩ : ∃ bx, flatX caps cloN 1 (.mk op n s (.slice la l.length lc) l) = bx := ⟨_, rfl⟩
  rw [hbx] at HBO HFR
  rw [HFR.out, Hbb.out]
  clear hbx HFR
  generalize hW : w.alloc (.cells #[.int .i64 caps, .int .i64 op, .int .i64 n, .string s, .slice la l.length lc] 31) = W at *
  cases bb
  · go_enter Tryz.func38, Tryz.ntmps38
    go_wp2_with fail
    refine (rin_any _ _ _ _).mono ?_
    rintro e w' ⟨rfl, rfl⟩
    rw [Hbb.out]
    go_wp2_with fail
    go_ret
    exact ⟨rfl, HB.out⟩
  · go_enter Tryz.func38, Tryz.ntmps38
    go_wp2_with fail
    refine (rin_any _ _ _ _).mono ?_
    rintro e w' ⟨rfl, rfl⟩
    rw [Hbb.out]
    go_wp2_with fail
    refine HCO.out.mono ?_
    rintro e w2 ⟨rfl, hb2⟩
    have hb3 := HB.out.trans (hb2.mono HB.out.size)
    have gP2 := (hb2.block _ (heap_lt HGP.out)).trans HGP.out
    have HB2 := Lib.hid (HBO.out w2 hb3)
    have HB3 := Lib.hid hb3
    clear hb2 hb3 HCO p0 p1 p2 p3 p4
    obtain ⟨p0, p1, p2, p3, p4⟩ := five_cells gP2
    go_wp2_with fail
    refine HB2.out.mono ?_
    rintro e w3 ⟨rfl, hb4⟩
    have HB5 := Lib.hid (HB3.out.trans (hb4.mono HB3.out.size))
    clear hb4 HB2
    go_wp2_with fail
    go_ret
    exact ⟨rfl, HB5.out⟩
set_option maxHeartbeats 8000000 in
set_option maxRecDepth 100000 in
theorem rvalidF_any (B : Nat) (fv : Value) (fl : List FlatD) (main : Int) (w : World) (hF : IsFlats B w fv fl) (hBw : B ≤ w.heap.size) (hs : ∀ f ∈ fl, sizeX f.body ≤ 600 ∧ heightX f.body ≤ 211) :
    Calls Tryz.prog 17 #[fv, .int .i64 main] w (ValidFOk (validF fl main) w) := by
  have hm' : fl.length ≤ 9223372036854775807 := by have := hF.2.1; unfold maxLen at this; omega
  have hw1 : IntKind.i64.wrap ((fl.length : Int) - 1) = (fl.length : Int) - 1 := wrap_ok _ (by omega) (by omega)
  have HF := Lib.hid hF
  have HS := Lib.hid hs
  have HB0 := Lib.hid (Below.refl w.heap.size w)
  obtain ⟨⟨a, c, rfl, hlc, _⟩, _⟩ := hF
  clear hs
  obtain ⟨b0, hb0⟩ : ∃ bb, inB (fl.length : Int) 1 4096 = bb := ⟨_, rfl⟩
  have Hb0 := Lib.hid hb0
  obtain ⟨b1, hb1⟩ : ∃ bb, inB main 0 ((fl.length : Int) - 1) = bb := ⟨_, rfl⟩
  have Hb1 := Lib.hid hb1
  clear hb0 hb1
  cases b0
  · go_enter Tryz.func17, Tryz.ntmps17
    go_wp2_with fail
    refine (rin_any _ _ _ _).mono ?_
    rintro e w' ⟨rfl, rfl⟩
    rw [Hb0.out]
    go_wp2_with fail
    go_ret
    exact ⟨by rw [vf_0 Hb0.out]; rfl, HB0.out⟩
  · cases b1
    · go_enter Tryz.func17, Tryz.ntmps17
      go_wp2_with fail
      refine (rin_any _ _ _ _).mono ?_
      rintro e w' ⟨rfl, rfl⟩
      rw [Hb0.out]
      go_wp2_with fail
      refine (rin_any _ _ _ _).mono ?_
      rintro e w' ⟨rfl, rfl⟩
      rw [Hb1.out]
      go_wp2_with fail
      go_ret
      exact ⟨by rw [vf_1 Hb1.out]; rfl, HB0.out⟩
    · obtain ⟨m, rfl⟩ : ∃ m : Nat, main = m := ⟨main.toNat, by have := Hb1.out; unfold inB at this; simp at this; omega⟩
      have hml : m < fl.length := by have := Hb1.out; unfold inB at this; simp at this; omega
      obtain ⟨b, off, c', ha, _, _, c0, _⟩ := flats_at HF.out.1 m hml
      obtain rfl := (Value.slice.inj ha).1
      have H2 := Lib.hid (vf_2 (fl := fl) (main := (m : Int)))
      have H3 := Lib.hid (vf_3 (fl := fl) (main := (m : Int)) Hb0.out Hb1.out)
      rw [Int.toNat_natCast] at H2 H3
      clear ha
      generalize (fl.getD m default).caps = x at *
      by_cases hx : x = 0
      · subst hx
        have H3' := Lib.hid (H3.out rfl)
        go_enter Tryz.func17, Tryz.ntmps17
        go_wp2_with fail
        refine (rin_any _ _ _ _).mono ?_
        rintro e w' ⟨rfl, rfl⟩
        rw [Hb0.out]
        go_wp2_with fail
        refine (rin_any _ _ _ _).mono ?_
        rintro e w' ⟨rfl, rfl⟩
        rw [Hb1.out]
        go_wp2_with fail
        go_loopw [5] (fun i wr => ∃ k : Nat, k ≤ fl.length ∧ i = .int .i64 k ∧ Hid ((fl.take k).any (fun f => !funB (cloV fl) f) = false) ∧ Hid (Below w.heap.size w wr)) (fun i _ => fl.length - (intOf i).toNat)
        case atStart => exact ⟨0, Nat.zero_le _, rfl, rfl, HB0⟩
        case round =>
          obtain ⟨k, hk, rfl, hno, HB⟩ := hrel
          clear c0
          by_cases hkl : k < fl.length
          · have hFr := HF.out.under (HB.out.mono hBw)
            obtain ⟨b9, off9, c9, ha, _, hbB, c0, c1, c2, c3, c4⟩ := flats_at hFr.1 k hkl
            obtain ⟨rfl, rfl⟩ : b9 = b ∧ off9 = off := by
              have h1 := Option.some.inj (Value.slice.inj ha).1
              injection h1 with h2 h3
              exact ⟨h2.symm, h3.symm⟩
            have hmem := getD_mem default fl k hkl
            have hxk := hFr.2.2 _ hmem
            obtain ⟨hs6, hh2⟩ := HS.out _ hmem
            have HFU := Lib.hid (rfun_any B (fl.getD k default) wr (by have := HB.out.size; omega) hxk hs6 hh2)
            have HCLO := Lib.hid (fun (w2 : World) (hb2 : Below w.heap.size w w2) (hfr : FunR (fl.getD k default) = true) => closures_any B (.slice (some ⟨b9, off9, none⟩) fl.length c) fl (fl.getD k default).body w2 (by have := hb2.size; omega) ((HF.out.2.2 _ hmem).under (hb2.mono hBw)) (HF.out.under (hb2.mono hBw)) (clo_of_flat _ 1 (by unfold FunR at hfr; rw [Bool.and_eq_true] at hfr; exact hfr.2)))
            have HFC := Lib.hid (fun (w2 : World) (hb2 : Below w.heap.size w w2) => flats_at (HF.out.under (hb2.mono hBw)).1 k hkl)
            have Hn := Lib.hid (any_next default fl (fun f => !funB (cloV fl) f) k hkl hno.out)
            have Hy := Lib.hid (any_hit default fl (fun f => !funB (cloV fl) f) k hkl)
            have HV := Lib.hid (fun_val fl (fl.getD k default))
            generalize fl.getD k default = f at *
            clear ha hmem hFr
            obtain ⟨caps, ⟨xo, xn, xs, xv, xl⟩⟩ := f
            obtain ⟨xa, xc, hxv, _⟩ := hxk.parts.1
            subst hxv
            simp only [ExpD.op, ExpD.n, ExpD.s, ExpD.lv] at c0 c1 c2 c3 c4
            rw [show flatDV ⟨caps, .mk xo xn xs (.slice xa xl.length xc) xl⟩ = .agg #[.int .i64 caps, .int .i64 xo, .int .i64 xn, .string xs, .slice xa xl.length xc] from rfl] at HFU
            obtain ⟨bf, hbf⟩ : ∃ bf, FunR ⟨caps, .mk xo xn xs (.slice xa xl.length xc) xl⟩ = bf := ⟨_, rfl⟩
            rw [hbf] at HFU HCLO HV
            clear hbf hxk hs6 hh2
            cases bf
            · have HF1 := Lib.hid (show (!funB (cloV fl) ⟨caps, .mk xo xn xs (.slice xa xl.length xc) xl⟩) = true from by rw [HV.out]; rfl)
              go_wp2_with fail
              refine HFU.out.mono ?_
              rintro e w2 ⟨rfl, hb2⟩
              have HB5 := Lib.hid (HB.out.trans (hb2.mono HB.out.size))
              clear hb2
              go_wp2_with fail
              go_ret
              exact ⟨by rw [H3'.out, Hy.out HF1.out]; rfl, HB5.out⟩
            · go_wp2_with fail
              refine HFU.out.mono ?_
              rintro e w2 ⟨rfl, hb2⟩
              have hb5 := HB.out.trans (hb2.mono HB.out.size)
              have HB5 := Lib.hid hb5
              have HC := Lib.hid (HCLO.out w2 hb5 trivial)
              obtain ⟨b8, off8, c8, ha8, _, _, d0, d1, d2, d3, d4⟩ := HFC.out w2 hb5
              obtain ⟨rfl, rfl⟩ : b8 = b9 ∧ off8 = off9 := by
                have h1 := Option.some.inj (Value.slice.inj ha8).1
                injection h1 with h2 h3
                exact ⟨h2.symm, h3.symm⟩
              simp only [ExpD.op, ExpD.n, ExpD.s, ExpD.lv] at d0 d1 d2 d3 d4
              rw [expV_mk] at HC
              obtain ⟨bx, hbx⟩ : ∃ bx, closX fl (.mk xo xn xs (.slice xa xl.length xc) xl) = bx := ⟨_, rfl⟩
              rw [hbx] at HC
              have HV2 := Lib.hid (show funB (cloV fl) ⟨caps, .mk xo xn xs (.slice xa xl.length xc) xl⟩ = bx from by rw [HV.out, Bool.true_and]; exact hbx)
              clear hbx hb2 hb5 ha8 c0 c1 c2 c3 c4
              go_wp2_with fail
              refine HC.out.mono ?_
              rintro e w3 ⟨rfl, hb3⟩
              have HB6 := Lib.hid (HB5.out.trans (hb3.mono HB5.out.size))
              clear hb3 d0 d1 d2 d3 d4
              cases bx
              · have HF1 := Lib.hid (show (!funB (cloV fl) ⟨caps, .mk xo xn xs (.slice xa xl.length xc) xl⟩) = true from by rw [HV2.out]; rfl)
                go_wp2_with fail
                go_ret
                exact ⟨by rw [H3'.out, Hy.out HF1.out]; rfl, HB6.out⟩
              · have HF1 := Lib.hid (show (!funB (cloV fl) ⟨caps, .mk xo xn xs (.slice xa xl.length xc) xl⟩) = false from by rw [HV2.out]; rfl)
                have HN := Lib.hid (Hn.out HF1.out)
                go_wp2_with fail
                go_roundw
                case rel => exact ⟨k + 1, by omega, by go_num, HN, HB6⟩
                case measure => simp [intOf]; omega
          · have hno2 := hno.out
            rw [List.take_of_length_le (by omega)] at hno2
            have HNO := Lib.hid hno2
            clear hno2
            go_wp2_with fail
            go_ret
            exact ⟨by rw [H3'.out, HNO.out]; rfl, HB.out⟩
      · have hx2 : (x == 0) = false := beq_eq_false_iff_ne.2 hx
        have H2' := Lib.hid (H2.out hx)
        go_enter Tryz.func17, Tryz.ntmps17
        go_wp2_with fail
        refine (rin_any _ _ _ _).mono ?_
        rintro e w' ⟨rfl, rfl⟩
        rw [Hb0.out]
        go_wp2_with fail
        refine (rin_any _ _ _ _).mono ?_
        rintro e w' ⟨rfl, rfl⟩
        rw [Hb1.out]
        go_wp2_with fail
        go_ret
        exact ⟨by rw [H2'.out]; rfl, HB0.out⟩
end Go.Proofs.YtidolpcbbbakmaaGreat
