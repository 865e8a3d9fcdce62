/- The walk of CompileWhole. -/
import Derived.Test.YtidolpcbbbakmaaGreatM43
import Derived.Test.YtidolpcbbbakmaaGreatM44
import Derived.Test.YtidolpcbbbakmaaGreatM22
import Derived.Deep.DeepCutAuto
namespace Go.Proofs.YtidolpcbbbakmaaGreat
open Go Go.RowKit
open Go.Maps
/-- The program that is put together, function by function. -/
structure QAt (V : World) (pb : Nat) (fl : List FlatD) (main : Int) (k : Nat) (qs : List FunD) (fvk tvk : Value) : Prop where
  fa : FunsAt V pb (pb + 1) fvk qs
  box : V.heap[pb]? = some (.cells #[fvk, tvk, .int .i64 main] 36 (0, 0))
  tx : OwnS V (pb + 1) tvk (textsTo fl k)
  txo : ∀ g, tvk.ownBlock = some g → fvk.ownBlock ≠ some g
  len : qs.length = k
  fo : ∀ i, i < k → FunOf (textsTo fl (i + 1)) (fl.getD i default) (qs.getD i default)
theorem QAt.free {V V' : World} {pb : Nat} {fl : List FlatD} {main : Int} {k : Nat} {qs : List FunD} {fvk tvk : Value} (h : QAt V pb fl main k qs fvk tvk) (g : V.grownBy V' none) : QAt V' pb fl main k qs fvk tvk :=
  ⟨h.fa.stays g (by nofun) (Nat.lt_succ_self pb), (g.block _ (heap_lt h.box) (by nofun)).trans h.box, h.tx.grown g (by nofun), h.txo, h.len, h.fo⟩
theorem fo_snoc {fl : List FlatD} {qs : List FunD} {g : FunD} (h : ∀ i, i < qs.length → FunOf (textsTo fl (i + 1)) (fl.getD i default) (qs.getD i default)) (hg : FunOf (textsTo fl (qs.length + 1)) (fl.getD qs.length default) g) : ∀ i, i < qs.length + 1 → FunOf (textsTo fl (i + 1)) (fl.getD i default) ((qs ++ [g]).getD i default) := fun i hi => by
  by_cases e : i = qs.length
  · subst e
    rw [show (qs ++ [g]).getD qs.length default = g by simp [List.getD]]
    exact hg
  · rw [show (qs ++ [g]).getD i default = qs.getD i default by simp only [List.getD]; rw [List.getElem?_append_left (by omega)]]
    exact h i (by omega)
def outR : Array Value := #[.int .i64 0, .int .i64 0, .int .i64 0, .int .i64 0, .int .i64 0, .string ⟨#[]⟩, .slice none 0 0, .slice none 0 0, .slice none 0 0]
def outZ : Obj := .cells outR 50
def rowE (O : OutP) (o n : Int) (s : ByteArray) (a : Option Addr) (l c : Nat) (u : Option Addr) (v : Nat) : Array Value := #[.int .i64 O.op, .int .i64 O.n, .int .i64 O.steps, .int .i64 o, .int .i64 n, .string s, .slice none 0 0, .slice a l c, .slice u O.out.length v]
/-- Two outcomes in memory. -/
def TwoOut (O : OutP) (V : World) (v13 v14 : Value) (wx : World) : Prop := ∃ (q13 q14 : Nat) (xA xB : ExpD) (avA avB : Value), v13 = .pointer (some ⟨q13, 0, none⟩) ∧ v14 = .pointer (some ⟨q14, 0, none⟩) ∧ wx.heap[q13]? = some (.cells (outRow O xA avA) 50 (0, 0)) ∧ wx.heap[q14]? = some (.cells (outRow O xB avB) 50 (0, 0)) ∧
  stripX xA = O.v ∧ stripX xB = O.v ∧ IsO 0 none wx xA ∧ IsO 0 none wx xB ∧ IsTexts wx avA O.out ∧ IsTexts wx avB O.out ∧ Below V.heap.size V wx
theorem two_leaf {O : OutP} {V W : World} {q13 q14 : Nat} {xo xn yo yn : Int} {xs ys : ByteArray} {xa ya xu yu : Option Addr} {xc yc xv yv Bx By : Nat} {xl yl : List ExpD} (hS : Below V.heap.size V W) (n13 : W.heap[q13]? = some (.cells outR 50 (0, 0))) (n14 : W.heap[q14]? = some (.cells outR 50 (0, 0))) (hne : q13 ≠ q14) (h13 : V.heap.size ≤ q13) (h14 : V.heap.size ≤ q14)
    (sx : stripX (.mk xo xn xs (.slice xa xl.length xc) xl) = O.v) (sy : stripX (.mk yo yn ys (.slice ya yl.length yc) yl) = O.v) (ix : IsO 0 none W (.mk xo xn xs (.slice xa xl.length xc) xl)) (iy : IsO 0 none W (.mk yo yn ys (.slice ya yl.length yc) yl))
    (ox : W.ownsRow Bx 9 1 (.slice xu O.out.length xv) O.out.length (strCells O.out)) (oy : W.ownsRow By 9 1 (.slice yu O.out.length yv) O.out.length (strCells O.out)) :
    Below V.heap.size V (W.setRow q13 (rowE O xo xn xs xa xl.length xc xu xv)) ∧ (W.setRow q13 (rowE O xo xn xs xa xl.length xc xu xv)).heap[q14]? = some (.cells outR 50 (0, 0)) ∧
      Below V.heap.size V ((W.setRow q13 (rowE O xo xn xs xa xl.length xc xu xv)).setRow q14 (rowE O yo yn ys ya yl.length yc yu yv)) ∧ TwoOut O V (.pointer (some ⟨q13, 0, none⟩)) (.pointer (some ⟨q14, 0, none⟩)) ((W.setRow q13 (rowE O xo xn xs xa xl.length xc xu xv)).setRow q14 (rowE O yo yn ys ya yl.length yc yu yv)) := by
  have g6 := setRow_grown W q13 (rowE O xo xn xs xa xl.length xc xu xv)
  have hS6 := hS.trans (grown_under (B := V.heap.size) g6 hS.size (fun k hk => by cases hk; omega))
  have kk6 := kept2_row (cs := rowE O xo xn xs xa xl.length xc xu xv) n13
  have m14 := (setRow_other W q13 q14 (rowE O xo xn xs xa xl.length xc xu xv) (by omega)).trans n14
  have m13 := setRow_heap _ _ _ (rowE O xo xn xs xa xl.length xc xu xv) _ _ n13
  generalize W.setRow q13 (rowE O xo xn xs xa xl.length xc xu xv) = w6s at *
  have g7 := setRow_grown w6s q14 (rowE O yo yn ys ya yl.length yc yu yv)
  have hS7 := hS6.trans (grown_under (B := V.heap.size) g7 hS6.size (fun k hk => by cases hk; omega))
  have kk7 := kept2_row (cs := rowE O yo yn ys ya yl.length yc yu yv) m14
  have l13 := (setRow_other w6s q14 q13 (rowE O yo yn ys ya yl.length yc yu yv) (by omega)).trans m13
  have l14 := setRow_heap _ _ _ (rowE O yo yn ys ya yl.length yc yu yv) _ _ m14
  exact ⟨hS6, m14, hS7, q13, q14, .mk xo xn xs (.slice xa xl.length xc) xl, .mk yo yn ys (.slice ya yl.length yc) yl, .slice xu O.out.length xv, .slice yu O.out.length yv, rfl, rfl, l13, l14, sx, sy, (ix.kept2 kk6).kept2 kk7, (iy.kept2 kk6).kept2 kk7, isRow_owns (owns_kept2 (owns_kept2 ox kk6) kk7), isRow_owns (owns_kept2 (owns_kept2 oy kk6) kk7), hS7⟩
theorem prog_cells {w : World} {q : Nat} {a b c : Value} {t : TypeId} (h : w.heap[q]? = some (.cells #[a, b, c] t (0, 0))) : w.cell? ⟨q, 0, none⟩ = some a ∧ w.cell? ⟨q, 1, none⟩ = some b ∧ w.cell? ⟨q, 2, none⟩ = some c := by
  simp [World.cell?, h]
set_option maxHeartbeats 8000000 in
set_option maxRecDepth 100000 in
theorem whole_walk (hcall : ∀ p, GoodP p → ∀ G, CallOk p 20000 G) (fv : Value) (main : Int) (fl : List FlatD) (w : World) (hF : IsFlats w.heap.size w fv fl) : Calls Tryz.prog 3 #[fv, .int .i64 main] w fun e w' => e = .returned (.bool true) ∧ Below w.heap.size w w' := by
  have HF := Lib.hid hF
  have HCALL := Lib.hid hcall
  have hm' : fl.length ≤ 9223372036854775807 := by have := hF.2.1; unfold maxLen at this; omega
  obtain ⟨⟨fa, fc, rfl, hfc, _⟩, _⟩ := hF
  clear hcall
  go_enter Tryz.func3, Tryz.ntmps3
  go_wp2_with fail
  refine (awake47_any w).mono ?_
  rintro e w2 ⟨rfl, hb2⟩
  have HB2 := Lib.hid hb2
  have HFI := Lib.hid (fits_any w.heap.size _ fl w2 (HF.out.under hb2) hb2.size)
  clear hb2
  go_wp2_with fail
  refine HFI.out.mono ?_
  rintro e w3 ⟨bf, rfl, hb3, hfit⟩
  have HB3 := Lib.hid (HB2.out.trans (hb3.mono HB2.out.size))
  clear hb3 HFI
  cases bf
  · go_wp2_with fail
    go_ret
    exact ⟨rfl, HB3.out⟩
  have HFIT := Lib.hid (hfit rfl)
  clear hfit
  have HFA := Lib.hid (faultall_any w.heap.size _ fl main w3 (HF.out.under HB3.out) HB3.out.size HFIT.out)
  go_wp2_with fail
  refine HFA.out.mono ?_
  rintro e w4 ⟨rfl, hb4⟩
  have HB4 := Lib.hid (HB3.out.trans (hb4.mono HB3.out.size))
  clear hb4 HFA
  by_cases h0 : faultA fl main = 0
  case neg =>
    have h0b : (faultA fl main != 0) = true := by rw [bne, beq_eq_false_iff_ne.2 h0]; rfl
    go_wp2_with fail
    go_ret
    exact ⟨rfl, HB4.out⟩
  obtain ⟨hv, hq, hlen⟩ := fault_zero h0
  rw [h0]
  have HV := Lib.hid hv
  have HQ := Lib.hid hq
  have HLN := Lib.hid hlen
  have HGR := Lib.hid (containsGreat_any w.heap.size _ fl w4 (HF.out.under HB4.out) HB4.out.size)
  clear h0 hv hq hlen
  go_wp2_with fail
  refine HGR.out.mono ?_
  rintro e w5 ⟨bg, rfl, hb5⟩
  have HB5 := Lib.hid (HB4.out.trans (hb5.mono HB4.out.size))
  clear hb5 HGR
  cases bg
  case true =>
    go_wp2_with fail
    go_ret
    exact ⟨rfl, HB5.out⟩
  have HP := Lib.hid (program_any w.heap.size _ fl main w5 (HF.out.under HB5.out) HB5.out.size HFIT.out)
  go_wp2_with fail
  refine HP.out.mono ?_
  rintro e w6 ⟨hb6, hcase⟩
  have HB6 := Lib.hid (HB5.out.trans (hb6.mono HB5.out.size))
  clear hb6 HP
  rcases hcase with ⟨hv, rfl⟩ | ⟨_, hq, rfl⟩ | ⟨_, _, hlen, rfl⟩ | ⟨_, _, _, pv, tv, funs, rfl, hP, hfl, hfo⟩
  · exact absurd (hv.symm.trans HV.out) (by decide)
  · exact absurd (hq.symm.trans HQ.out) (by decide)
  · have := HLN.out; omega
  have hsz : ∀ f ∈ fl, sizeX f.body ≤ 600 ∧ heightX f.body ≤ 211 := fun f hf => ⟨by
    have h1 : sizeX f.body ≤ sizeL (fl.map FlatD.body) := sizeL_mem (List.mem_map_of_mem hf)
    have h2 := HFIT.out.2.1
    unfold sizeF at h2; omega, HFIT.out.2.2 f hf⟩
  have hpv := prog_valid HV.out hsz HQ.out HLN.out hfl hfo
  obtain ⟨hl4, hl0, hm0, hm1, hcm, hfun⟩ := valid_all HV.out
  have HFUN := Lib.hid hfun
  have HPV := Lib.hid hpv
  have HFO := Lib.hid hfo
  have HSZ := Lib.hid hsz
  have HFL := Lib.hid hfl
  have HPR := Lib.hid hP
  have hfl60 := HFIT.out.1
  have HSM := Lib.hid (all_small hfun)
  obtain ⟨⟨⟨pa, pc, rfl, hpc, _⟩, _⟩, ⟨ta, tc, rfl, htc, _⟩⟩ := hP
  obtain ⟨ts, hts⟩ : ∃ ts, dedup (allT fl) = ts := ⟨_, rfl⟩
  have HTS := Lib.hid hts
  have hln := HLN.out
  simp only [hts, hfl]
  simp only [hts, hfl] at HPR hln
  have HRV : Hid (∀ (V : World), Below w6.heap.size w6 V → Calls Tryz.prog 10 #[.agg #[.slice pa fl.length pc, .slice ta ts.length tc, .int .i64 main]] V fun e w' => e = .returned (.bool true) ∧ Below V.heap.size V w') := Lib.hid fun V hV => (rvalid_any _ _ ⟨funs, ts, main⟩ V (HPR.out.below hV) (by show funs.length ≤ 1000000; rw [HFL.out]; omega) (by show ts.length ≤ 1000000; omega)).mono (by
    rintro e w' ⟨rfl, hb⟩
    have h := HPV.out
    rw [HTS.out] at h
    exact ⟨by rw [h], hb⟩)
  clear hsz hpv hfun hfo hcm htc hpc hm0 hm1 hts
  have hg7 := grown_alloc w6 (.cells #[.slice pa fl.length pc, .slice ta ts.length tc, .int .i64 main] 36)
  have n7 := new_heap w6 (.cells #[.slice pa fl.length pc, .slice ta ts.length tc, .int .i64 main] 36)
  have HRV7 := Lib.hid (HRV.out _ (grown_under hg7 (Nat.le_refl _) (by nofun)))
  have HPR7 := Lib.hid (HPR.out.below (grown_under hg7 (Nat.le_refl _) (by nofun)))
  have HB7 := Lib.hid (HB6.out.trans (grown_under (B := w.heap.size) hg7 HB6.out.size (by nofun)))
  have HN7 := Lib.hid n7
  clear hg7 n7 HPR
  go_wp2_with fail
  refine HRV7.out.mono ?_
  rintro e w8 ⟨rfl, hb8⟩
  have n78 := (hb8.block _ (heap_lt HN7.out)).trans HN7.out
  have HB8 := Lib.hid (HB7.out.trans (hb8.mono HB7.out.size))
  have HPR8 := Lib.hid (HPR7.out.below hb8)
  have hg9 := grown_alloc w8 (.cells #[.slice none 0 0, .slice none 0 0, .int .i64 main] 36)
  have n9 := new_heap w8 (.cells #[.slice none 0 0, .slice none 0 0, .int .i64 main] 36)
  have HN9 := Lib.hid (And.intro ((hg9.block _ (heap_lt n78) (by nofun)).trans n78) n9)
  have HB89 := Lib.hid (grown_under (B := w8.heap.size) hg9 (Nat.le_refl _) (by nofun))
  have HB9 := Lib.hid (HB8.out.trans (grown_under (B := w.heap.size) hg9 HB8.out.size (by nofun)))
  have HPR9 := Lib.hid (HPR8.out.below (grown_under hg9 (Nat.le_refl _) (by nofun)))
  have hlt7 := heap_lt n78
  have hz9 : (w8.alloc (.cells #[.slice none 0 0, .slice none 0 0, .int .i64 main] 36)).heap.size = w8.heap.size + 1 := by simp
  have HZ9 := Lib.hid hz9
  obtain ⟨if0, hif, hifz0, hifz1, hifz2⟩ := info_parts info_fun
  clear hb8 n78 hg9 n9 hz9 HRV7
  go_wp2_with fail
  have HQ0 : Hid (QAt (w8.alloc (.cells #[.slice none 0 0, .slice none 0 0, .int .i64 main] 36)) w8.heap.size fl main 0 [] (.slice none 0 0) (.slice none 0 0)) := Lib.hid ⟨⟨World.ownsRow_nil _ _ _ _, by nofun⟩, HN9.out.2, by rw [textsTo_zero]; exact OwnS.nil _ _, by nofun, rfl, fun i hi => by omega⟩
  have HBP := Lib.hid (Below.refl w8.heap.size (w8.alloc (.cells #[.slice none 0 0, .slice none 0 0, .int .i64 main] 36)))
  generalize hW9 : w8.alloc (.cells #[.slice none 0 0, .slice none 0 0, .int .i64 main] 36) = W9 at *
  generalize hpb : w8.heap.size = pb at *
  go_loopw [47] (fun i wr => ∃ (k : Nat) (qs : List FunD) (fvk tvk : Value), i = .int .i64 k ∧ k ≤ fl.length ∧ Hid (QAt wr pb fl main k qs fvk tvk) ∧ Hid (Below pb W9 wr) ∧ W9.heap.size ≤ wr.heap.size) (fun i _ => fl.length - (intOf i).toNat)
  case atStart => exact ⟨0, [], .slice none 0 0, .slice none 0 0, rfl, Nat.zero_le _, HQ0, HBP, Nat.le_refl _⟩
  case round =>
    obtain ⟨k, qs, fvk, tvk, rfl, hk, HQA, HBl, hszl⟩ := hrel
    have hpbz := HZ9.out
    have hwpb : w.heap.size ≤ pb := by have := HB8.out.size; omega
    have hbw : Below w.heap.size w wr := HB9.out.trans (HBl.out.mono hwpb)
    obtain rfl : qs.length = k := HQA.out.len
    obtain ⟨va, vc, rfl⟩ := own_shape HQA.out.fa.own
    obtain ⟨ua, uc, rfl⟩ := own_shape HQA.out.tx.1
    by_cases hkl : qs.length < fl.length
    · have hFr := HF.out.under hbw
      obtain ⟨b, off, c', ha, _, hbB, c0, c1, c2, c3, c4⟩ := flats_at hFr.1 qs.length hkl
      obtain rfl := (Value.slice.inj ha).1
      have hmem := getD_mem default fl qs.length hkl
      have hxk := hFr.2.2 _ hmem
      have hfb := HFUN.out _ hmem
      obtain ⟨hs6, hh2⟩ := HSZ.out _ hmem
      have hqk := textsTo_q hkl HQ.out
      have hstep := textsTo_step fl qs.length hkl
      have hsm1 := textsTo_small fl (qs.length + 1)
      have hsm0 := textsTo_small fl qs.length
      have hszk : ∀ s ∈ textsX (fl.getD qs.length default).body, s.size ≤ maxLen := fun s hs => by
        have := HSM.out s (by rw [allT_split fl (qs.length + 1)]; exact List.mem_append_left _ (mem_bodyT hkl hs))
        unfold maxLen; omega
      have hszt : ∀ s ∈ textsTo fl qs.length, s.size ≤ maxLen := fun s hs => by have := HSM.out s (mem_textsTo hs); unfold maxLen; omega
      have hszu : ∀ s ∈ textsTo fl (qs.length + 1), s.size ≤ maxLen := fun s hs => by have := HSM.out s (mem_textsTo hs); unfold maxLen; omega
      have hln2 : (textsTo fl (qs.length + 1)).length ≤ 1000 := by have := HLN.out; omega
      have hln1 : (textsTo fl qs.length).length ≤ 1000 := by have := HLN.out; omega
      rw [hstep] at hszu hln2
      have hcfun := fun V tvv BT hBV hxV hT => cFun_more w.heap.size fl hl4 (fun f hf => fun_caps (HFUN.out f hf)) (fl.getD qs.length default) tvv (textsTo fl qs.length) V hBV hxV hfb hs6 hh2 BT hT hln1 hszt hqk hln2 hszk hszu
      have hfog := fun g => fo_snoc (g := g) HQA.out.fo
      rw [hstep] at hfog
      have HSTEP := Lib.hid hstep
      clear ha hmem hFr hfb hs6 hh2 hqk hstep hsm1 hsm0 hszk hszt hszu hln2 hln1
      obtain ⟨f, hfe⟩ : ∃ f, fl.getD qs.length default = f := ⟨_, rfl⟩
      have HFE := Lib.hid hfe
      rw [hfe] at c0 c1 c2 c3 c4 hxk hcfun HSTEP
      clear hfe
      obtain ⟨caps, ⟨xo, xn, xs, xv, xl⟩⟩ := f
      obtain ⟨xa, xc, hxv, _⟩ := hxk.parts.1
      subst hxv
      simp only [ExpD.op, ExpD.n, ExpD.s, ExpD.lv] at c0 c1 c2 c3 c4
      have hg3 := grown_alloc wr (.cells #[.int .i64 caps, .int .i64 xo, .int .i64 xn, .string xs, .slice xa xl.length xc] 31)
      have gX := new_heap wr (.cells #[.int .i64 caps, .int .i64 xo, .int .i64 xn, .string xs, .slice xa xl.length xc] 31)
      obtain ⟨e0, e1, e2, e3, e4⟩ := five_cells gX
      have hszg := hg3.size
      have hszw := hbw.size
      have HQ3 := Lib.hid (HQA.out.free hg3)
      have HM := Lib.hid (hcfun _ _ (pb + 1) (by omega) (hxk.grown hg3 (by omega) (by nofun)) HQ3.out.tx)
      rw [show flatDV ⟨caps, .mk xo xn xs (.slice xa xl.length xc) xl⟩ = .agg #[.int .i64 caps, .int .i64 xo, .int .i64 xn, .string xs, .slice xa xl.length xc] from rfl] at HM
      have HBl3 := Lib.hid (HBl.out.trans (grown_under (B := pb) hg3 (by omega) (by nofun)))
      have HFOG := Lib.hid hfog
      have p1 : (wr.alloc (.cells #[.int .i64 caps, .int .i64 xo, .int .i64 xn, .string xs, .slice xa xl.length xc] 31)).cell? ⟨pb, 1, none⟩ = some (.slice ua (textsTo fl qs.length).length uc) := by have := HQ3.out.box; simp only [World.cell?, this]; rfl
      clear hg3 gX hxk hbw hcfun hfog
      generalize hV1 : wr.alloc (.cells #[.int .i64 caps, .int .i64 xo, .int .i64 xn, .string xs, .slice xa xl.length xc] 31) = V1 at *
      go_wp2_with fail
      refine HM.out.mono ?_
      rintro e V2 ⟨⟨gc, gl, gd, gv, gcode⟩, tv', rfl, hI, hG, hb2, hcb, hO⟩
      have hOs : OwnS V2 V1.heap.size tv' (textsTo fl (qs.length + 1)) := by rw [HSTEP.out]; exact hO
      have hGs : FunOf (textsTo fl (qs.length + 1)) (fl.getD qs.length default) ⟨gc, gl, gd, gv, gcode⟩ := by rw [HFE.out, HSTEP.out]; exact hG
      have hlt2 : ∀ j, gv.ownBlock = some j → j < V2.heap.size := fun j hj => by
        obtain ⟨ca, cc, hgv, _, hcell⟩ := hI
        simp only at hgv
        subst hgv
        obtain ⟨b, off, rfl, hlt, _⟩ := hcell (by have := hG.2.2.1.2.1; simp only at this; show 0 < gcode.length; omega)
        cases hj; exact hlt
      have hI2 := hI
      obtain ⟨ca, cc, hgv, _⟩ := hI
      simp only at hgv
      subst hgv
      have HI2 := Lib.hid hI2
      have HGs := Lib.hid hGs
      have hg2 := grown_below hb2
      have HQ2 := Lib.hid (HQ3.out.free hg2)
      have HBl2 := Lib.hid (HBl3.out.trans (hb2.mono (by omega)))
      have hsz22 := hb2.size
      have HCB := Lib.hid hcb
      obtain ⟨wa, wc, rfl⟩ := own_shape hOs.1
      have hg4 := grown_alloc V2 (.cells #[.int .i64 gc, .int .i64 gl, .int .i64 gd, .slice ca gcode.length cc] 43)
      have gY := new_heap V2 (.cells #[.int .i64 gc, .int .i64 gl, .int .i64 gd, .slice ca gcode.length cc] 43)
      have HQ4 := Lib.hid (HQ2.out.free hg4)
      have HBl4 := Lib.hid (HBl2.out.trans (grown_under (B := pb) hg4 (by omega) (by nofun)))
      have hO4 := hOs.grown hg4 (by nofun)
      have HI4 : Hid (IsCode (V2.alloc (.cells #[.int .i64 gc, .int .i64 gl, .int .i64 gd, .slice ca gcode.length cc] 43)) (.slice ca gcode.length cc) gcode) := IsRow.below HI2.out (grown_under hg4 (Nat.le_refl _) (by nofun))
      have hsz44 := hg4.size
      have gYl := heap_lt gY
      have HO4 := Lib.hid hO4
      have HGY := Lib.hid gY
      have b4 := HQ4.out.box
      have r1 : (V2.alloc (.cells #[.int .i64 gc, .int .i64 gl, .int .i64 gd, .slice ca gcode.length cc] 43)).cell? ⟨pb, 1, none⟩ = some (.slice ua (textsTo fl qs.length).length uc) := by simp only [World.cell?, b4]; rfl
      have hfz1 := Lib.frozen_of_heap b4 1
      clear hI2 hG hb2 hcb hO hOs hGs hg2 hg4 gY hO4 b4 c0 c1 c2 c3 c4 e0 e1 e2 e3 e4 p1 HM
      generalize hV4 : V2.alloc (.cells #[.int .i64 gc, .int .i64 gl, .int .i64 gd, .slice ca gcode.length cc] 43) = V4 at *
      go_upto_region 16 with fail
      have gs := grown_set V4 pb 1 (.slice wa (textsTo fl (qs.length + 1)).length wc)
      have hFA5 := HQ4.out.fa.stays gs (fun j hj => by cases hj; exact Nat.le_refl _) (Nat.lt_succ_self pb)
      have hbox5 := heap_set_same (i := 1) HQ4.out.box (.slice wa (textsTo fl (qs.length + 1)).length wc)
      have hO5 := HO4.out.grown gs (fun j hj e => by have := (owns_lt HO4.out.1 _ e).1; cases hj; omega)
      have gY5 := (gs.block _ gYl (fun e => by have := Option.some.inj e; omega)).trans HGY.out
      obtain ⟨q0, q1, q2, q3⟩ := fun_cells gY5
      have HBl5 := Lib.hid (HBl4.out.trans (grown_under (B := pb) gs (by omega) (fun j hj => by cases hj; exact Nat.le_refl _)))
      have HI5 : Hid (IsCode (V4.setCell ⟨pb, 1, none⟩ (.slice wa (textsTo fl (qs.length + 1)).length wc)) (.slice ca gcode.length cc) gcode) := Lib.hid (row_stays HI4.out gs.size fun j hj => gs.block j (by have := hlt2 j hj; omega) (fun e => by have e2 := Option.some.inj e; have := HCB.out j hj; omega))
      have hsz55 := gs.size
      have HO5 := Lib.hid hO5
      have HFA5 := Lib.hid hFA5
      have HBX5 := Lib.hid hbox5
      have HOL := Lib.hid (owns_lt HQA.out.fa.own)
      have p0 : (V4.setCell ⟨pb, 1, none⟩ (.slice wa (textsTo fl (qs.length + 1)).length wc)).cell? ⟨pb, 0, none⟩ = some (.slice va qs.length vc) := by simp only [World.cell?, hbox5]; rfl
      clear gs hFA5 hbox5 hO5 gY5 r1 hfz1 hV4
      generalize V4.setCell ⟨pb, 1, none⟩ (.slice wa (textsTo fl (qs.length + 1)).length wc) = V5 at *
      go_wp2_with (at_builtin; refine wpList_append_lies _ rfl _ _ 33 rfl (pb + 1) 43 if0 (.agg #[.int .i64 0, .int .i64 0, .int .i64 0, .slice none 0 0]) 4 48 Tryz.underlying33 hif hifz0 hifz1 hifz2 rfl (by decide) _ qs.length (funCells qs) rfl (HFA5.out.own.alloc _) ⟨V5.heap.size, 0, none⟩ 1 1 [.int .i64 gc, .int .i64 gl, .int .i64 gd, .slice ca gcode.length cc] rfl rfl ?f1 ?f2 (by decide) ?f3 ?f4 ?f5 _ rfl ?_)
      case f1 => exact World.news_of_block (cs := #[.int .i64 gc, .int .i64 gl, .int .i64 gd, .slice ca gcode.length cc]) (new_heap V5 _)
      case f2 => intro u hu; simp at hu; rcases hu with rfl | rfl | rfl | rfl <;> rfl
      case f3 => unfold maxLen; omega
      case f4 => omega
      case f5 => simp; omega
      intro g8 cap8 w8' hown8 hgrow8 hat8 hlt8
      have hg7 := grown_alloc V5 (.cells #[.int .i64 gc, .int .i64 gl, .int .i64 gd, .slice ca gcode.length cc] 43)
      have hFA7 := HFA5.out.stays hg7 (by nofun) (Nat.lt_succ_self pb)
      have hz7 := hg7.size
      have hat : (Value.slice va qs.length vc).ownBlock = some g8 ∨ V5.heap.size ≤ g8 := by
        rcases hat8 with e | e
        · exact .inl e
        · exact .inr (by rw [e]; simp)
      have hFA8 := hFA7.push (f := ⟨gc, gl, gd, .slice ca gcode.length cc, gcode⟩) (IsRow.below HI5.out (grown_under hg7 (Nat.le_refl _) (by nofun))) (fun j hj => ⟨by have := HCB.out j hj; omega, by have := hlt2 j hj; omega, fun e => by have := (HOL.out j e).2; have := HCB.out j hj; omega⟩) hown8 hgrow8 (by
        rcases hat8 with e | e
        · exact .inl e
        · exact .inr (by rw [e]; first | exact Nat.le_refl _ | simp))
      have hol7 := owns_lt hFA7.own
      have gP7 := (hg7.block _ (heap_lt HBX5.out) (by nofun)).trans HBX5.out
      have gP8 := (hgrow8.block _ (heap_lt gP7) (fun e => by have := (hol7 _ e.symm).1; omega)).trans gP7
      have hol5 := owns_lt HO5.out.1
      have hO8 := (HO5.out.grown hg7 (by nofun)).grown hgrow8 (fun j hj e => by have := (HOL.out j hj).2; have := (hol5 j e).1; omega)
      have hbl8 := (HBl5.out.trans (grown_under (B := pb) hg7 (by omega) (by nofun))).trans (grown_under (B := pb) hgrow8 (by omega) (fun j hj => by have := (hol7 j hj).1; omega))
      have hgs := grown_set w8' pb 0 (.slice (some ⟨g8, 0, none⟩) (qs.length + 1) cap8)
      have HQN : Hid (QAt (w8'.setCell ⟨pb, 0, none⟩ (.slice (some ⟨g8, 0, none⟩) (qs.length + 1) cap8)) pb fl main (qs.length + 1) (qs ++ [⟨gc, gl, gd, .slice ca gcode.length cc, gcode⟩]) (.slice (some ⟨g8, 0, none⟩) (qs.length + 1) cap8) (.slice wa (textsTo fl (qs.length + 1)).length wc)) := Lib.hid
        ⟨hFA8.stays hgs (fun j hj => by cases hj; exact Nat.le_refl _) (Nat.lt_succ_self pb), heap_set_same (i := 0) gP8 (.slice (some ⟨g8, 0, none⟩) (qs.length + 1) cap8),
         (hO8.less (by omega)).grown hgs (fun j hj e => by have := (hol5 _ e).1; cases hj; omega),
         fun j hj e => by
          have e2 : g8 = j := Option.some.inj e
          subst e2
          rcases hat with h | h
          · have := (HOL.out g8 h).2; have := (hol5 g8 hj).1; omega
          · have := (hol5 g8 hj).2; omega,
         by simp, fo_snoc HQA.out.fo HGs.out⟩
      have HBl9 := Lib.hid (hbl8.trans (grown_under (B := pb) hgs (by have := hgrow8.size; omega) (fun j hj => by cases hj; exact Nat.le_refl _)))
      have hz9 : W9.heap.size ≤ (w8'.setCell ⟨pb, 0, none⟩ (.slice (some ⟨g8, 0, none⟩) (qs.length + 1) cap8)).heap.size := by have := hgs.size; have := hgrow8.size; omega
      have hp8 : w8'.cell? ⟨pb, 0, none⟩ = some (.slice va qs.length vc) := by simp only [World.cell?, gP8]; rfl
      have hfz8 : w8'.frozen? ⟨pb, 0, none⟩ = false := Lib.frozen_of_heap gP8 0
      clear hg7 hFA7 hFA8 hol7 gP7 gP8 hbl8 hgs hown8 hgrow8 hat8 p0 q0 q1 q2 q3 hz7 hO8 hol5 hat
      go_wp2_with fail
      go_roundw
      case rel => exact ⟨qs.length + 1, _, _, _, by go_num, by omega, HQN, HBl9, hz9⟩
      case measure => simp [intOf]; omega
    · have hkf : qs.length = fl.length := by omega
      have hTA : textsTo fl qs.length = ts := by rw [hkf, textsTo_all]; exact HTS.out
      obtain ⟨hSP, hfq⟩ := same_of HFUN.out main HFL.out hkf HFO.out (fun i hi => HQA.out.fo i (by omega))
      have hqv := prog_valid HV.out HSZ.out HQ.out HLN.out hkf hfq
      rw [HTS.out] at hSP hqv
      have hQP : IsProg wr (.slice va qs.length vc) (.slice ua (textsTo fl qs.length).length uc) ⟨qs, ts, main⟩ := ⟨HQA.out.fa.isFuns, hTA ▸ HQA.out.tx.texts⟩
      rw [hTA] at hQP
      have hRQ := (rvalid_any _ _ ⟨qs, ts, main⟩ wr hQP (by show qs.length ≤ 1000000; omega) (by show ts.length ≤ 1000000; omega)).mono (R' := fun e w' => e = .returned (.bool true) ∧ Below wr.heap.size wr w') (by
        rintro e w' ⟨rfl, hb⟩
        exact ⟨by rw [hqv], hb⟩)
      have hbx := HQA.out.box
      rw [hTA] at hbx
      rw [hkf] at hbx hQP hRQ
      have HRQ := Lib.hid hRQ
      have HQP := Lib.hid hQP
      have HBX := Lib.hid hbx
      have HSP := Lib.hid hSP
      have HQV := Lib.hid hqv
      have p0 : wr.cell? ⟨pb, 0, none⟩ = some (.slice va fl.length vc) := by simp only [World.cell?, hbx]; rfl
      have p1 : wr.cell? ⟨pb, 1, none⟩ = some (.slice ua ts.length uc) := by simp only [World.cell?, hbx]; rfl
      have p2 : wr.cell? ⟨pb, 2, none⟩ = some (.int .i64 main) := by simp only [World.cell?, hbx]; rfl
      have HHKF := Lib.hid hkf
      have HBW := Lib.hid hbw
      clear hTA hSP hfq hqv hQP hRQ hbx hkf hbw
      go_wp2_with (go_at_call 10; refine HRQ.out.mono ?_; rintro e V2 ⟨rfl, hb2⟩)
      have BXP := (hb2.block _ (heap_lt ((HBl.out.block _ (by omega)).trans HN9.out.1))).trans ((HBl.out.block _ (by omega)).trans HN9.out.1)
      have BXQ := (hb2.block _ (heap_lt HBX.out)).trans HBX.out
      have HPV2 := Lib.hid (HPR8.out.below (by rw [hpb]; exact (HB89.out.trans HBl.out).trans (hb2.mono (by omega))))
      have HQV2 := Lib.hid (HQP.out.below hb2)
      have HBV2 := Lib.hid (HBW.out.trans (hb2.mono HBW.out.size))
      have hgp := good_of (HTS.out ▸ HPV.out)
      have hgq := good_of HQV.out
      obtain ⟨O, hO1⟩ : ∃ O, execP ⟨funs, ts, main⟩ 20000 = O := ⟨_, rfl⟩
      have hO2 := (exec_same HSP.out 20000).symm.trans hO1
      clear hb2 HRQ HQP HBX HSP HQV p0 p1 p2
      --- END
      have HXP : Hid (∀ V, Below V2.heap.size V2 V → Calls Tryz.prog 12 #[.agg #[.slice pa fl.length pc, .slice ta ts.length tc, .int .i64 main], .int .i64 20000] V (ExOk O V)) := Lib.hid fun V hV => by rw [← hO1]; exact exec_any hgp 20000 (by decide) (by decide) (HCALL.out _ hgp) _ _ V (HPV2.out.below hV)
      have HXQ : Hid (∀ V, Below V2.heap.size V2 V → Calls Tryz.prog 12 #[.agg #[.slice va fl.length vc, .slice ua ts.length uc, .int .i64 main], .int .i64 20000] V (ExOk O V)) := Lib.hid fun V hV => by rw [← hO2]; exact exec_any hgq 20000 (by decide) (by decide) (HCALL.out _ hgq) _ _ V (HQV2.out.below hV)
      have hol : O.out.length ≤ 1000 := by rw [← hO1]; exact out_small hgp 20000 (by decide)
      clear hO1 hO2 hgp hgq
      go_cut [13, 14] from 73 to 76 (fun v13 v14 wx => TwoOut O V2 v13 v14 wx)
      case first =>
        have hS : Below V2.heap.size V2 V2.drew := (Below.refl _ _).drew
        refine wp_region_held_drew (S := fun w9 => Below V2.heap.size V2 w9) (by kernel_rfl) hS (fun hHeld => ?_)
        refine held_take 0 73 (.agg #[.slice pa fl.length pc, .slice ta ts.length tc, .int .i64 main]) rfl rfl (by kernel_rfl) (by kernel_rfl) (by kernel_rfl) (fun _ _ _ h => h) (Or.inl ⟨by rfl, fun w9 hSw => ?y0⟩) hS ?_
        case y0 =>
          have hSw : Below V2.heap.size V2 w9 := hSw
          have m := (hSw.block _ (heap_lt BXP)).trans BXP
          obtain ⟨t0, t1, t2⟩ := prog_cells m
          go_simp
        simp only [Act.put, List.setIfInBounds_toArray, List.set_cons_zero, List.set_cons_succ]
        refine held_take 2 75 (.agg #[.slice va fl.length vc, .slice ua ts.length uc, .int .i64 main]) rfl rfl (by kernel_rfl) (by kernel_rfl) (by kernel_rfl) (fun _ _ _ h => h) (Or.inl ⟨by rfl, fun w9 hSw => ?y2⟩) hS ?_
        case y2 =>
          have hSw : Below V2.heap.size V2 w9 := hSw
          have m := (hSw.block _ (heap_lt BXQ)).trans BXQ
          obtain ⟨t0, t1, t2⟩ := prog_cells m
          go_simp
        simp only [Act.put, List.setIfInBounds_toArray, List.set_cons_zero, List.set_cons_succ]
        clear hHeld
        refine wpAnyH_ready (rs := [1, 4, 5]) (by kernel_rfl) (by simp) (AllReadyH.cons (by rfl) (fun K hK => ?_) (AllReadyH.cons (by rfl) (fun K hK => ?_) (AllReadyH.cons (by rfl) (fun K hK => ?_) AllReadyH.nil)))
        · -- operation 1
          go_simp
          refine (HXP.out _ hS).mono ?_
          rintro e wA ⟨⟨xo, xn, xs, xlv, xl⟩, xav, rfl, sx, ix, ⟨Bx, ox⟩, blx⟩
          obtain ⟨xa, xc, hlvx⟩ := isO_slice ix
          simp only [ExpD.lv, ExpD.l] at hlvx
          subst hlvx
          obtain ⟨xu, xv, rfl⟩ := own_shape ox
          have kk := kept2_below blx
          have hzx := blx.size
          have hS := hS.trans (blx.mono hS.size)
          refine hK.out _ _ hS (fun _ => ?_)
          clear hK K
          refine wpAnyH_ready (rs := [3, 4, 5]) (by kernel_rfl) (by simp) (AllReadyH.cons (by rfl) (fun K hK => ?_) (AllReadyH.cons (by rfl) (fun K hK => ?_) (AllReadyH.cons (by rfl) (fun K hK => ?_) AllReadyH.nil)))
          · -- operation 3
            go_simp
            refine (HXQ.out _ hS).mono ?_
            rintro e wB ⟨⟨yo, yn, ys, ylv, yl⟩, yav, rfl, sy, iy, ⟨By, oy⟩, bly⟩
            obtain ⟨ya, yc, hlvy⟩ := isO_slice iy
            simp only [ExpD.lv, ExpD.l] at hlvy
            subst hlvy
            obtain ⟨yu, yv, rfl⟩ := own_shape oy
            have kk := kept2_below bly
            have ix := ix.kept2 kk
            have ox := owns_kept2 ox kk
            have hzy := bly.size
            have hS := hS.trans (bly.mono hS.size)
            refine hK.out _ _ hS (fun _ => ?_)
            clear hK K
            refine wpAnyH_ready (rs := [4, 5]) (by kernel_rfl) (by simp) (AllReadyH.cons (by rfl) (fun K hK => ?_) (AllReadyH.cons (by rfl) (fun K hK => ?_) AllReadyH.nil))
            · -- operation 4
              have gA : (wB).grownBy (wB.alloc outZ) none := grown_alloc wB outZ
              have n13 : (wB.alloc outZ).heap[wB.heap.size]? = some (.cells outR 50 (0, 0)) := heap_alloc_at (w := wB) (k := wB.heap.size) (by simp) outZ
              have hq13 : V2.heap.size ≤ wB.heap.size := by have h9 := hS.size; first | omega | (simp at h9; omega)
              have kk := kept2_below (grown_under gA (Nat.le_refl _) (by nofun))
              have ix := ix.kept2 kk
              have ox := owns_kept2 ox kk
              have iy := iy.kept2 kk
              have oy := owns_kept2 oy kk
              have hS : Below V2.heap.size V2 (wB.alloc outZ) := hS.trans (grown_under (B := V2.heap.size) gA hS.size (by nofun))
              go_simp
              refine hK.out _ _ hS (fun _ => ?_)
              clear hK K gA
              refine wpAnyH_ready (rs := [5]) (by kernel_rfl) (by simp) (AllReadyH.cons (by rfl) (fun K hK => ?_) AllReadyH.nil)
              · -- operation 5
                have gA : ((wB.alloc outZ)).grownBy ((wB.alloc outZ).alloc outZ) none := grown_alloc (wB.alloc outZ) outZ
                have n14 : ((wB.alloc outZ).alloc outZ).heap[wB.heap.size + 1]? = some (.cells outR 50 (0, 0)) := heap_alloc_at (w := (wB.alloc outZ)) (k := wB.heap.size + 1) (by simp) outZ
                have hlt13 := heap_lt n13
                have n13 := (gA.block _ (heap_lt n13) (by nofun)).trans n13
                have hsz14 : ((wB.alloc outZ)).heap.size = wB.heap.size + 1 := by simp
                have hq14 : V2.heap.size ≤ wB.heap.size + 1 := by have h9 := hS.size; first | omega | (simp at h9; omega)
                have kk := kept2_below (grown_under gA (Nat.le_refl _) (by nofun))
                have ix := ix.kept2 kk
                have ox := owns_kept2 ox kk
                have iy := iy.kept2 kk
                have oy := owns_kept2 oy kk
                have hS : Below V2.heap.size V2 ((wB.alloc outZ).alloc outZ) := hS.trans (grown_under (B := V2.heap.size) gA hS.size (by nofun))
                go_simp
                refine hK.out _ _ hS (fun _ => ?_)
                clear hK K gA
                -- the stores
                have L := two_leaf hS n13 n14 (by omega) (by omega) (by omega) sx sy ix iy ox oy
                refine held_store 6 (by kernel_rfl) (by rfl) (by rfl) (by rfl) 50 _ _ (by rfl) (wB.heap.size) (rowE O xo xn xs xa xl.length xc xu xv) (by rfl) (by rfl) 50 _ n13 infoOut rfl (all_one _ rfl) L.1 ?_
                refine held_store 7 (by kernel_rfl) (by rfl) (by rfl) (by rfl) 50 _ _ (by rfl) (wB.heap.size + 1) (rowE O yo yn ys ya yl.length yc yu yv) (by rfl) (by rfl) 50 _ L.2.1 infoOut rfl (all_one _ rfl) L.2.2.1 ?_
                refine wpAnyH_done (by kernel_rfl) ?_ _
                go_wp2_with fail
                go_meet
                exact L.2.2.2
            · -- operation 5
              have gA : (wB).grownBy (wB.alloc outZ) none := grown_alloc wB outZ
              have n14 : (wB.alloc outZ).heap[wB.heap.size]? = some (.cells outR 50 (0, 0)) := heap_alloc_at (w := wB) (k := wB.heap.size) (by simp) outZ
              have hq14 : V2.heap.size ≤ wB.heap.size := by have h9 := hS.size; first | omega | (simp at h9; omega)
              have kk := kept2_below (grown_under gA (Nat.le_refl _) (by nofun))
              have ix := ix.kept2 kk
              have ox := owns_kept2 ox kk
              have iy := iy.kept2 kk
              have oy := owns_kept2 oy kk
              have hS : Below V2.heap.size V2 (wB.alloc outZ) := hS.trans (grown_under (B := V2.heap.size) gA hS.size (by nofun))
              go_simp
              refine hK.out _ _ hS (fun _ => ?_)
              clear hK K gA
              refine wpAnyH_ready (rs := [4]) (by kernel_rfl) (by simp) (AllReadyH.cons (by rfl) (fun K hK => ?_) AllReadyH.nil)
              · -- operation 4
                have gA : ((wB.alloc outZ)).grownBy ((wB.alloc outZ).alloc outZ) none := grown_alloc (wB.alloc outZ) outZ
                have n13 : ((wB.alloc outZ).alloc outZ).heap[wB.heap.size + 1]? = some (.cells outR 50 (0, 0)) := heap_alloc_at (w := (wB.alloc outZ)) (k := wB.heap.size + 1) (by simp) outZ
                have hlt14 := heap_lt n14
                have n14 := (gA.block _ (heap_lt n14) (by nofun)).trans n14
                have hsz13 : ((wB.alloc outZ)).heap.size = wB.heap.size + 1 := by simp
                have hq13 : V2.heap.size ≤ wB.heap.size + 1 := by have h9 := hS.size; first | omega | (simp at h9; omega)
                have kk := kept2_below (grown_under gA (Nat.le_refl _) (by nofun))
                have ix := ix.kept2 kk
                have ox := owns_kept2 ox kk
                have iy := iy.kept2 kk
                have oy := owns_kept2 oy kk
                have hS : Below V2.heap.size V2 ((wB.alloc outZ).alloc outZ) := hS.trans (grown_under (B := V2.heap.size) gA hS.size (by nofun))
                go_simp
                refine hK.out _ _ hS (fun _ => ?_)
                clear hK K gA
                -- the stores
                have L := two_leaf hS n13 n14 (by omega) (by omega) (by omega) sx sy ix iy ox oy
                refine held_store 6 (by kernel_rfl) (by rfl) (by rfl) (by rfl) 50 _ _ (by rfl) (wB.heap.size + 1) (rowE O xo xn xs xa xl.length xc xu xv) (by rfl) (by rfl) 50 _ n13 infoOut rfl (all_one _ rfl) L.1 ?_
                refine held_store 7 (by kernel_rfl) (by rfl) (by rfl) (by rfl) 50 _ _ (by rfl) (wB.heap.size) (rowE O yo yn ys ya yl.length yc yu yv) (by rfl) (by rfl) 50 _ L.2.1 infoOut rfl (all_one _ rfl) L.2.2.1 ?_
                refine wpAnyH_done (by kernel_rfl) ?_ _
                go_wp2_with fail
                go_meet
                exact L.2.2.2
          · -- operation 4
            have gA : (wA).grownBy (wA.alloc outZ) none := grown_alloc wA outZ
            have n13 : (wA.alloc outZ).heap[wA.heap.size]? = some (.cells outR 50 (0, 0)) := heap_alloc_at (w := wA) (k := wA.heap.size) (by simp) outZ
            have hq13 : V2.heap.size ≤ wA.heap.size := by have h9 := hS.size; first | omega | (simp at h9; omega)
            have kk := kept2_below (grown_under gA (Nat.le_refl _) (by nofun))
            have ix := ix.kept2 kk
            have ox := owns_kept2 ox kk
            have hS : Below V2.heap.size V2 (wA.alloc outZ) := hS.trans (grown_under (B := V2.heap.size) gA hS.size (by nofun))
            go_simp
            refine hK.out _ _ hS (fun _ => ?_)
            clear hK K gA
            refine wpAnyH_ready (rs := [3, 5]) (by kernel_rfl) (by simp) (AllReadyH.cons (by rfl) (fun K hK => ?_) (AllReadyH.cons (by rfl) (fun K hK => ?_) AllReadyH.nil))
            · -- operation 3
              go_simp
              refine (HXQ.out _ hS).mono ?_
              rintro e wB ⟨⟨yo, yn, ys, ylv, yl⟩, yav, rfl, sy, iy, ⟨By, oy⟩, bly⟩
              obtain ⟨ya, yc, hlvy⟩ := isO_slice iy
              simp only [ExpD.lv, ExpD.l] at hlvy
              subst hlvy
              obtain ⟨yu, yv, rfl⟩ := own_shape oy
              have kk := kept2_below bly
              have n13 := (bly.block _ (heap_lt n13)).trans n13
              have ix := ix.kept2 kk
              have ox := owns_kept2 ox kk
              have hzy := bly.size
              have hS := hS.trans (bly.mono hS.size)
              refine hK.out _ _ hS (fun _ => ?_)
              clear hK K
              refine wpAnyH_ready (rs := [5]) (by kernel_rfl) (by simp) (AllReadyH.cons (by rfl) (fun K hK => ?_) AllReadyH.nil)
              · -- operation 5
                have gA : (wB).grownBy (wB.alloc outZ) none := grown_alloc wB outZ
                have n14 : (wB.alloc outZ).heap[wB.heap.size]? = some (.cells outR 50 (0, 0)) := heap_alloc_at (w := wB) (k := wB.heap.size) (by simp) outZ
                have hlt13 := heap_lt n13
                have n13 := (gA.block _ (heap_lt n13) (by nofun)).trans n13
                have hsz14 : (wB).heap.size = wB.heap.size := by simp
                have hq14 : V2.heap.size ≤ wB.heap.size := by have h9 := hS.size; first | omega | (simp at h9; omega)
                have kk := kept2_below (grown_under gA (Nat.le_refl _) (by nofun))
                have ix := ix.kept2 kk
                have ox := owns_kept2 ox kk
                have iy := iy.kept2 kk
                have oy := owns_kept2 oy kk
                have hS : Below V2.heap.size V2 (wB.alloc outZ) := hS.trans (grown_under (B := V2.heap.size) gA hS.size (by nofun))
                go_simp
                refine hK.out _ _ hS (fun _ => ?_)
                clear hK K gA
                -- the stores
                have L := two_leaf hS n13 n14 (by omega) (by omega) (by omega) sx sy ix iy ox oy
                refine held_store 6 (by kernel_rfl) (by rfl) (by rfl) (by rfl) 50 _ _ (by rfl) (wA.heap.size) (rowE O xo xn xs xa xl.length xc xu xv) (by rfl) (by rfl) 50 _ n13 infoOut rfl (all_one _ rfl) L.1 ?_
                refine held_store 7 (by kernel_rfl) (by rfl) (by rfl) (by rfl) 50 _ _ (by rfl) (wB.heap.size) (rowE O yo yn ys ya yl.length yc yu yv) (by rfl) (by rfl) 50 _ L.2.1 infoOut rfl (all_one _ rfl) L.2.2.1 ?_
                refine wpAnyH_done (by kernel_rfl) ?_ _
                go_wp2_with fail
                go_meet
                exact L.2.2.2
            · -- operation 5
              have gA : ((wA.alloc outZ)).grownBy ((wA.alloc outZ).alloc outZ) none := grown_alloc (wA.alloc outZ) outZ
              have n14 : ((wA.alloc outZ).alloc outZ).heap[wA.heap.size + 1]? = some (.cells outR 50 (0, 0)) := heap_alloc_at (w := (wA.alloc outZ)) (k := wA.heap.size + 1) (by simp) outZ
              have hlt13 := heap_lt n13
              have n13 := (gA.block _ (heap_lt n13) (by nofun)).trans n13
              have hsz14 : ((wA.alloc outZ)).heap.size = wA.heap.size + 1 := by simp
              have hq14 : V2.heap.size ≤ wA.heap.size + 1 := by have h9 := hS.size; first | omega | (simp at h9; omega)
              have kk := kept2_below (grown_under gA (Nat.le_refl _) (by nofun))
              have ix := ix.kept2 kk
              have ox := owns_kept2 ox kk
              have hS : Below V2.heap.size V2 ((wA.alloc outZ).alloc outZ) := hS.trans (grown_under (B := V2.heap.size) gA hS.size (by nofun))
              go_simp
              refine hK.out _ _ hS (fun _ => ?_)
              clear hK K gA
              refine wpAnyH_ready (rs := [3]) (by kernel_rfl) (by simp) (AllReadyH.cons (by rfl) (fun K hK => ?_) AllReadyH.nil)
              · -- operation 3
                go_simp
                refine (HXQ.out _ hS).mono ?_
                rintro e wB ⟨⟨yo, yn, ys, ylv, yl⟩, yav, rfl, sy, iy, ⟨By, oy⟩, bly⟩
                obtain ⟨ya, yc, hlvy⟩ := isO_slice iy
                simp only [ExpD.lv, ExpD.l] at hlvy
                subst hlvy
                obtain ⟨yu, yv, rfl⟩ := own_shape oy
                have kk := kept2_below bly
                have n13 := (bly.block _ (heap_lt n13)).trans n13
                have n14 := (bly.block _ (heap_lt n14)).trans n14
                have ix := ix.kept2 kk
                have ox := owns_kept2 ox kk
                have hzy := bly.size
                have hS := hS.trans (bly.mono hS.size)
                refine hK.out _ _ hS (fun _ => ?_)
                clear hK K
                -- the stores
                have L := two_leaf hS n13 n14 (by omega) (by omega) (by omega) sx sy ix iy ox oy
                refine held_store 6 (by kernel_rfl) (by rfl) (by rfl) (by rfl) 50 _ _ (by rfl) (wA.heap.size) (rowE O xo xn xs xa xl.length xc xu xv) (by rfl) (by rfl) 50 _ n13 infoOut rfl (all_one _ rfl) L.1 ?_
                refine held_store 7 (by kernel_rfl) (by rfl) (by rfl) (by rfl) 50 _ _ (by rfl) (wA.heap.size + 1) (rowE O yo yn ys ya yl.length yc yu yv) (by rfl) (by rfl) 50 _ L.2.1 infoOut rfl (all_one _ rfl) L.2.2.1 ?_
                refine wpAnyH_done (by kernel_rfl) ?_ _
                go_wp2_with fail
                go_meet
                exact L.2.2.2
          · -- operation 5
            have gA : (wA).grownBy (wA.alloc outZ) none := grown_alloc wA outZ
            have n14 : (wA.alloc outZ).heap[wA.heap.size]? = some (.cells outR 50 (0, 0)) := heap_alloc_at (w := wA) (k := wA.heap.size) (by simp) outZ
            have hq14 : V2.heap.size ≤ wA.heap.size := by have h9 := hS.size; first | omega | (simp at h9; omega)
            have kk := kept2_below (grown_under gA (Nat.le_refl _) (by nofun))
            have ix := ix.kept2 kk
            have ox := owns_kept2 ox kk
            have hS : Below V2.heap.size V2 (wA.alloc outZ) := hS.trans (grown_under (B := V2.heap.size) gA hS.size (by nofun))
            go_simp
            refine hK.out _ _ hS (fun _ => ?_)
            clear hK K gA
            refine wpAnyH_ready (rs := [3, 4]) (by kernel_rfl) (by simp) (AllReadyH.cons (by rfl) (fun K hK => ?_) (AllReadyH.cons (by rfl) (fun K hK => ?_) AllReadyH.nil))
            · -- operation 3
              go_simp
              refine (HXQ.out _ hS).mono ?_
              rintro e wB ⟨⟨yo, yn, ys, ylv, yl⟩, yav, rfl, sy, iy, ⟨By, oy⟩, bly⟩
              obtain ⟨ya, yc, hlvy⟩ := isO_slice iy
              simp only [ExpD.lv, ExpD.l] at hlvy
              subst hlvy
              obtain ⟨yu, yv, rfl⟩ := own_shape oy
              have kk := kept2_below bly
              have n14 := (bly.block _ (heap_lt n14)).trans n14
              have ix := ix.kept2 kk
              have ox := owns_kept2 ox kk
              have hzy := bly.size
              have hS := hS.trans (bly.mono hS.size)
              refine hK.out _ _ hS (fun _ => ?_)
              clear hK K
              refine wpAnyH_ready (rs := [4]) (by kernel_rfl) (by simp) (AllReadyH.cons (by rfl) (fun K hK => ?_) AllReadyH.nil)
              · -- operation 4
                have gA : (wB).grownBy (wB.alloc outZ) none := grown_alloc wB outZ
                have n13 : (wB.alloc outZ).heap[wB.heap.size]? = some (.cells outR 50 (0, 0)) := heap_alloc_at (w := wB) (k := wB.heap.size) (by simp) outZ
                have hlt14 := heap_lt n14
                have n14 := (gA.block _ (heap_lt n14) (by nofun)).trans n14
                have hsz13 : (wB).heap.size = wB.heap.size := by simp
                have hq13 : V2.heap.size ≤ wB.heap.size := by have h9 := hS.size; first | omega | (simp at h9; omega)
                have kk := kept2_below (grown_under gA (Nat.le_refl _) (by nofun))
                have ix := ix.kept2 kk
                have ox := owns_kept2 ox kk
                have iy := iy.kept2 kk
                have oy := owns_kept2 oy kk
                have hS : Below V2.heap.size V2 (wB.alloc outZ) := hS.trans (grown_under (B := V2.heap.size) gA hS.size (by nofun))
                go_simp
                refine hK.out _ _ hS (fun _ => ?_)
                clear hK K gA
                -- the stores
                have L := two_leaf hS n13 n14 (by omega) (by omega) (by omega) sx sy ix iy ox oy
                refine held_store 6 (by kernel_rfl) (by rfl) (by rfl) (by rfl) 50 _ _ (by rfl) (wB.heap.size) (rowE O xo xn xs xa xl.length xc xu xv) (by rfl) (by rfl) 50 _ n13 infoOut rfl (all_one _ rfl) L.1 ?_
                refine held_store 7 (by kernel_rfl) (by rfl) (by rfl) (by rfl) 50 _ _ (by rfl) (wA.heap.size) (rowE O yo yn ys ya yl.length yc yu yv) (by rfl) (by rfl) 50 _ L.2.1 infoOut rfl (all_one _ rfl) L.2.2.1 ?_
                refine wpAnyH_done (by kernel_rfl) ?_ _
                go_wp2_with fail
                go_meet
                exact L.2.2.2
            · -- operation 4
              have gA : ((wA.alloc outZ)).grownBy ((wA.alloc outZ).alloc outZ) none := grown_alloc (wA.alloc outZ) outZ
              have n13 : ((wA.alloc outZ).alloc outZ).heap[wA.heap.size + 1]? = some (.cells outR 50 (0, 0)) := heap_alloc_at (w := (wA.alloc outZ)) (k := wA.heap.size + 1) (by simp) outZ
              have hlt14 := heap_lt n14
              have n14 := (gA.block _ (heap_lt n14) (by nofun)).trans n14
              have hsz13 : ((wA.alloc outZ)).heap.size = wA.heap.size + 1 := by simp
              have hq13 : V2.heap.size ≤ wA.heap.size + 1 := by have h9 := hS.size; first | omega | (simp at h9; omega)
              have kk := kept2_below (grown_under gA (Nat.le_refl _) (by nofun))
              have ix := ix.kept2 kk
              have ox := owns_kept2 ox kk
              have hS : Below V2.heap.size V2 ((wA.alloc outZ).alloc outZ) := hS.trans (grown_under (B := V2.heap.size) gA hS.size (by nofun))
              go_simp
              refine hK.out _ _ hS (fun _ => ?_)
              clear hK K gA
              refine wpAnyH_ready (rs := [3]) (by kernel_rfl) (by simp) (AllReadyH.cons (by rfl) (fun K hK => ?_) AllReadyH.nil)
              · -- operation 3
                go_simp
                refine (HXQ.out _ hS).mono ?_
                rintro e wB ⟨⟨yo, yn, ys, ylv, yl⟩, yav, rfl, sy, iy, ⟨By, oy⟩, bly⟩
                obtain ⟨ya, yc, hlvy⟩ := isO_slice iy
                simp only [ExpD.lv, ExpD.l] at hlvy
                subst hlvy
                obtain ⟨yu, yv, rfl⟩ := own_shape oy
                have kk := kept2_below bly
                have n13 := (bly.block _ (heap_lt n13)).trans n13
                have n14 := (bly.block _ (heap_lt n14)).trans n14
                have ix := ix.kept2 kk
                have ox := owns_kept2 ox kk
                have hzy := bly.size
                have hS := hS.trans (bly.mono hS.size)
                refine hK.out _ _ hS (fun _ => ?_)
                clear hK K
                -- the stores
                have L := two_leaf hS n13 n14 (by omega) (by omega) (by omega) sx sy ix iy ox oy
                refine held_store 6 (by kernel_rfl) (by rfl) (by rfl) (by rfl) 50 _ _ (by rfl) (wA.heap.size + 1) (rowE O xo xn xs xa xl.length xc xu xv) (by rfl) (by rfl) 50 _ n13 infoOut rfl (all_one _ rfl) L.1 ?_
                refine held_store 7 (by kernel_rfl) (by rfl) (by rfl) (by rfl) 50 _ _ (by rfl) (wA.heap.size) (rowE O yo yn ys ya yl.length yc yu yv) (by rfl) (by rfl) 50 _ L.2.1 infoOut rfl (all_one _ rfl) L.2.2.1 ?_
                refine wpAnyH_done (by kernel_rfl) ?_ _
                go_wp2_with fail
                go_meet
                exact L.2.2.2
        · -- operation 4
          have gA : (V2.drew).grownBy (V2.alloc outZ).drew none := grown_alloc (V2.drew) outZ
          have n13 : (V2.alloc outZ).drew.heap[V2.heap.size]? = some (.cells outR 50 (0, 0)) := heap_alloc_at (w := V2) (k := V2.heap.size) (by simp) outZ
          have hq13 : V2.heap.size ≤ V2.heap.size := by have h9 := hS.size; first | omega | (simp at h9; omega)
          have kk := kept2_below (grown_under gA (Nat.le_refl _) (by nofun))
          have hS : Below V2.heap.size V2 (V2.alloc outZ).drew := hS.trans (grown_under (B := V2.heap.size) gA hS.size (by nofun))
          go_simp
          refine hK.out _ _ hS (fun _ => ?_)
          clear hK K gA
          refine wpAnyH_ready (rs := [1, 5]) (by kernel_rfl) (by simp) (AllReadyH.cons (by rfl) (fun K hK => ?_) (AllReadyH.cons (by rfl) (fun K hK => ?_) AllReadyH.nil))
          · -- operation 1
            go_simp
            refine (HXP.out _ hS).mono ?_
            rintro e wA ⟨⟨xo, xn, xs, xlv, xl⟩, xav, rfl, sx, ix, ⟨Bx, ox⟩, blx⟩
            obtain ⟨xa, xc, hlvx⟩ := isO_slice ix
            simp only [ExpD.lv, ExpD.l] at hlvx
            subst hlvx
            obtain ⟨xu, xv, rfl⟩ := own_shape ox
            have kk := kept2_below blx
            have n13 := (blx.block _ (heap_lt n13)).trans n13
            have hzx := blx.size
            have hS := hS.trans (blx.mono hS.size)
            refine hK.out _ _ hS (fun _ => ?_)
            clear hK K
            refine wpAnyH_ready (rs := [3, 5]) (by kernel_rfl) (by simp) (AllReadyH.cons (by rfl) (fun K hK => ?_) (AllReadyH.cons (by rfl) (fun K hK => ?_) AllReadyH.nil))
            · -- operation 3
              go_simp
              refine (HXQ.out _ hS).mono ?_
              rintro e wB ⟨⟨yo, yn, ys, ylv, yl⟩, yav, rfl, sy, iy, ⟨By, oy⟩, bly⟩
              obtain ⟨ya, yc, hlvy⟩ := isO_slice iy
              simp only [ExpD.lv, ExpD.l] at hlvy
              subst hlvy
              obtain ⟨yu, yv, rfl⟩ := own_shape oy
              have kk := kept2_below bly
              have n13 := (bly.block _ (heap_lt n13)).trans n13
              have ix := ix.kept2 kk
              have ox := owns_kept2 ox kk
              have hzy := bly.size
              have hS := hS.trans (bly.mono hS.size)
              refine hK.out _ _ hS (fun _ => ?_)
              clear hK K
              refine wpAnyH_ready (rs := [5]) (by kernel_rfl) (by simp) (AllReadyH.cons (by rfl) (fun K hK => ?_) AllReadyH.nil)
              · -- operation 5
                have gA : (wB).grownBy (wB.alloc outZ) none := grown_alloc wB outZ
                have n14 : (wB.alloc outZ).heap[wB.heap.size]? = some (.cells outR 50 (0, 0)) := heap_alloc_at (w := wB) (k := wB.heap.size) (by simp) outZ
                have hlt13 := heap_lt n13
                have n13 := (gA.block _ (heap_lt n13) (by nofun)).trans n13
                have hsz14 : (wB).heap.size = wB.heap.size := by simp
                have hq14 : V2.heap.size ≤ wB.heap.size := by have h9 := hS.size; first | omega | (simp at h9; omega)
                have kk := kept2_below (grown_under gA (Nat.le_refl _) (by nofun))
                have ix := ix.kept2 kk
                have ox := owns_kept2 ox kk
                have iy := iy.kept2 kk
                have oy := owns_kept2 oy kk
                have hS : Below V2.heap.size V2 (wB.alloc outZ) := hS.trans (grown_under (B := V2.heap.size) gA hS.size (by nofun))
                go_simp
                refine hK.out _ _ hS (fun _ => ?_)
                clear hK K gA
                -- the stores
                have L := two_leaf hS n13 n14 (by omega) (by omega) (by omega) sx sy ix iy ox oy
                refine held_store 6 (by kernel_rfl) (by rfl) (by rfl) (by rfl) 50 _ _ (by rfl) (V2.heap.size) (rowE O xo xn xs xa xl.length xc xu xv) (by rfl) (by rfl) 50 _ n13 infoOut rfl (all_one _ rfl) L.1 ?_
                refine held_store 7 (by kernel_rfl) (by rfl) (by rfl) (by rfl) 50 _ _ (by rfl) (wB.heap.size) (rowE O yo yn ys ya yl.length yc yu yv) (by rfl) (by rfl) 50 _ L.2.1 infoOut rfl (all_one _ rfl) L.2.2.1 ?_
                refine wpAnyH_done (by kernel_rfl) ?_ _
                go_wp2_with fail
                go_meet
                exact L.2.2.2
            · -- operation 5
              have gA : (wA).grownBy (wA.alloc outZ) none := grown_alloc wA outZ
              have n14 : (wA.alloc outZ).heap[wA.heap.size]? = some (.cells outR 50 (0, 0)) := heap_alloc_at (w := wA) (k := wA.heap.size) (by simp) outZ
              have hlt13 := heap_lt n13
              have n13 := (gA.block _ (heap_lt n13) (by nofun)).trans n13
              have hsz14 : (wA).heap.size = wA.heap.size := by simp
              have hq14 : V2.heap.size ≤ wA.heap.size := by have h9 := hS.size; first | omega | (simp at h9; omega)
              have kk := kept2_below (grown_under gA (Nat.le_refl _) (by nofun))
              have ix := ix.kept2 kk
              have ox := owns_kept2 ox kk
              have hS : Below V2.heap.size V2 (wA.alloc outZ) := hS.trans (grown_under (B := V2.heap.size) gA hS.size (by nofun))
              go_simp
              refine hK.out _ _ hS (fun _ => ?_)
              clear hK K gA
              refine wpAnyH_ready (rs := [3]) (by kernel_rfl) (by simp) (AllReadyH.cons (by rfl) (fun K hK => ?_) AllReadyH.nil)
              · -- operation 3
                go_simp
                refine (HXQ.out _ hS).mono ?_
                rintro e wB ⟨⟨yo, yn, ys, ylv, yl⟩, yav, rfl, sy, iy, ⟨By, oy⟩, bly⟩
                obtain ⟨ya, yc, hlvy⟩ := isO_slice iy
                simp only [ExpD.lv, ExpD.l] at hlvy
                subst hlvy
                obtain ⟨yu, yv, rfl⟩ := own_shape oy
                have kk := kept2_below bly
                have n13 := (bly.block _ (heap_lt n13)).trans n13
                have n14 := (bly.block _ (heap_lt n14)).trans n14
                have ix := ix.kept2 kk
                have ox := owns_kept2 ox kk
                have hzy := bly.size
                have hS := hS.trans (bly.mono hS.size)
                refine hK.out _ _ hS (fun _ => ?_)
                clear hK K
                -- the stores
                have L := two_leaf hS n13 n14 (by omega) (by omega) (by omega) sx sy ix iy ox oy
                refine held_store 6 (by kernel_rfl) (by rfl) (by rfl) (by rfl) 50 _ _ (by rfl) (V2.heap.size) (rowE O xo xn xs xa xl.length xc xu xv) (by rfl) (by rfl) 50 _ n13 infoOut rfl (all_one _ rfl) L.1 ?_
                refine held_store 7 (by kernel_rfl) (by rfl) (by rfl) (by rfl) 50 _ _ (by rfl) (wA.heap.size) (rowE O yo yn ys ya yl.length yc yu yv) (by rfl) (by rfl) 50 _ L.2.1 infoOut rfl (all_one _ rfl) L.2.2.1 ?_
                refine wpAnyH_done (by kernel_rfl) ?_ _
                go_wp2_with fail
                go_meet
                exact L.2.2.2
          · -- operation 5
            have gA : ((V2.alloc outZ).drew).grownBy ((V2.alloc outZ).alloc outZ).drew none := grown_alloc ((V2.alloc outZ).drew) outZ
            have n14 : ((V2.alloc outZ).alloc outZ).drew.heap[V2.heap.size + 1]? = some (.cells outR 50 (0, 0)) := heap_alloc_at (w := (V2.alloc outZ)) (k := V2.heap.size + 1) (by simp) outZ
            have hlt13 := heap_lt n13
            have n13 := (gA.block _ (heap_lt n13) (by nofun)).trans n13
            have hsz14 : ((V2.alloc outZ).drew).heap.size = V2.heap.size + 1 := by simp
            have hq14 : V2.heap.size ≤ V2.heap.size + 1 := by have h9 := hS.size; first | omega | (simp at h9; omega)
            have kk := kept2_below (grown_under gA (Nat.le_refl _) (by nofun))
            have hS : Below V2.heap.size V2 ((V2.alloc outZ).alloc outZ).drew := hS.trans (grown_under (B := V2.heap.size) gA hS.size (by nofun))
            go_simp
            refine hK.out _ _ hS (fun _ => ?_)
            clear hK K gA
            refine wpAnyH_ready (rs := [1]) (by kernel_rfl) (by simp) (AllReadyH.cons (by rfl) (fun K hK => ?_) AllReadyH.nil)
            · -- operation 1
              go_simp
              refine (HXP.out _ hS).mono ?_
              rintro e wA ⟨⟨xo, xn, xs, xlv, xl⟩, xav, rfl, sx, ix, ⟨Bx, ox⟩, blx⟩
              obtain ⟨xa, xc, hlvx⟩ := isO_slice ix
              simp only [ExpD.lv, ExpD.l] at hlvx
              subst hlvx
              obtain ⟨xu, xv, rfl⟩ := own_shape ox
              have kk := kept2_below blx
              have n13 := (blx.block _ (heap_lt n13)).trans n13
              have n14 := (blx.block _ (heap_lt n14)).trans n14
              have hzx := blx.size
              have hS := hS.trans (blx.mono hS.size)
              refine hK.out _ _ hS (fun _ => ?_)
              clear hK K
              refine wpAnyH_ready (rs := [3]) (by kernel_rfl) (by simp) (AllReadyH.cons (by rfl) (fun K hK => ?_) AllReadyH.nil)
              · -- operation 3
                go_simp
                refine (HXQ.out _ hS).mono ?_
                rintro e wB ⟨⟨yo, yn, ys, ylv, yl⟩, yav, rfl, sy, iy, ⟨By, oy⟩, bly⟩
                obtain ⟨ya, yc, hlvy⟩ := isO_slice iy
                simp only [ExpD.lv, ExpD.l] at hlvy
                subst hlvy
                obtain ⟨yu, yv, rfl⟩ := own_shape oy
                have kk := kept2_below bly
                have n13 := (bly.block _ (heap_lt n13)).trans n13
                have n14 := (bly.block _ (heap_lt n14)).trans n14
                have ix := ix.kept2 kk
                have ox := owns_kept2 ox kk
                have hzy := bly.size
                have hS := hS.trans (bly.mono hS.size)
                refine hK.out _ _ hS (fun _ => ?_)
                clear hK K
                -- the stores
                have L := two_leaf hS n13 n14 (by omega) (by omega) (by omega) sx sy ix iy ox oy
                refine held_store 6 (by kernel_rfl) (by rfl) (by rfl) (by rfl) 50 _ _ (by rfl) (V2.heap.size) (rowE O xo xn xs xa xl.length xc xu xv) (by rfl) (by rfl) 50 _ n13 infoOut rfl (all_one _ rfl) L.1 ?_
                refine held_store 7 (by kernel_rfl) (by rfl) (by rfl) (by rfl) 50 _ _ (by rfl) (V2.heap.size + 1) (rowE O yo yn ys ya yl.length yc yu yv) (by rfl) (by rfl) 50 _ L.2.1 infoOut rfl (all_one _ rfl) L.2.2.1 ?_
                refine wpAnyH_done (by kernel_rfl) ?_ _
                go_wp2_with fail
                go_meet
                exact L.2.2.2
        · -- operation 5
          have gA : (V2.drew).grownBy (V2.alloc outZ).drew none := grown_alloc (V2.drew) outZ
          have n14 : (V2.alloc outZ).drew.heap[V2.heap.size]? = some (.cells outR 50 (0, 0)) := heap_alloc_at (w := V2) (k := V2.heap.size) (by simp) outZ
          have hq14 : V2.heap.size ≤ V2.heap.size := by have h9 := hS.size; first | omega | (simp at h9; omega)
          have kk := kept2_below (grown_under gA (Nat.le_refl _) (by nofun))
          have hS : Below V2.heap.size V2 (V2.alloc outZ).drew := hS.trans (grown_under (B := V2.heap.size) gA hS.size (by nofun))
          go_simp
          refine hK.out _ _ hS (fun _ => ?_)
          clear hK K gA
          refine wpAnyH_ready (rs := [1, 4]) (by kernel_rfl) (by simp) (AllReadyH.cons (by rfl) (fun K hK => ?_) (AllReadyH.cons (by rfl) (fun K hK => ?_) AllReadyH.nil))
          · -- operation 1
            go_simp
            refine (HXP.out _ hS).mono ?_
            rintro e wA ⟨⟨xo, xn, xs, xlv, xl⟩, xav, rfl, sx, ix, ⟨Bx, ox⟩, blx⟩
            obtain ⟨xa, xc, hlvx⟩ := isO_slice ix
            simp only [ExpD.lv, ExpD.l] at hlvx
            subst hlvx
            obtain ⟨xu, xv, rfl⟩ := own_shape ox
            have kk := kept2_below blx
            have n14 := (blx.block _ (heap_lt n14)).trans n14
            have hzx := blx.size
            have hS := hS.trans (blx.mono hS.size)
            refine hK.out _ _ hS (fun _ => ?_)
            clear hK K
            refine wpAnyH_ready (rs := [3, 4]) (by kernel_rfl) (by simp) (AllReadyH.cons (by rfl) (fun K hK => ?_) (AllReadyH.cons (by rfl) (fun K hK => ?_) AllReadyH.nil))
            · -- operation 3
              go_simp
              refine (HXQ.out _ hS).mono ?_
              rintro e wB ⟨⟨yo, yn, ys, ylv, yl⟩, yav, rfl, sy, iy, ⟨By, oy⟩, bly⟩
              obtain ⟨ya, yc, hlvy⟩ := isO_slice iy
              simp only [ExpD.lv, ExpD.l] at hlvy
              subst hlvy
              obtain ⟨yu, yv, rfl⟩ := own_shape oy
              have kk := kept2_below bly
              have n14 := (bly.block _ (heap_lt n14)).trans n14
              have ix := ix.kept2 kk
              have ox := owns_kept2 ox kk
              have hzy := bly.size
              have hS := hS.trans (bly.mono hS.size)
              refine hK.out _ _ hS (fun _ => ?_)
              clear hK K
              refine wpAnyH_ready (rs := [4]) (by kernel_rfl) (by simp) (AllReadyH.cons (by rfl) (fun K hK => ?_) AllReadyH.nil)
              · -- operation 4
                have gA : (wB).grownBy (wB.alloc outZ) none := grown_alloc wB outZ
                have n13 : (wB.alloc outZ).heap[wB.heap.size]? = some (.cells outR 50 (0, 0)) := heap_alloc_at (w := wB) (k := wB.heap.size) (by simp) outZ
                have hlt14 := heap_lt n14
                have n14 := (gA.block _ (heap_lt n14) (by nofun)).trans n14
                have hsz13 : (wB).heap.size = wB.heap.size := by simp
                have hq13 : V2.heap.size ≤ wB.heap.size := by have h9 := hS.size; first | omega | (simp at h9; omega)
                have kk := kept2_below (grown_under gA (Nat.le_refl _) (by nofun))
                have ix := ix.kept2 kk
                have ox := owns_kept2 ox kk
                have iy := iy.kept2 kk
                have oy := owns_kept2 oy kk
                have hS : Below V2.heap.size V2 (wB.alloc outZ) := hS.trans (grown_under (B := V2.heap.size) gA hS.size (by nofun))
                go_simp
                refine hK.out _ _ hS (fun _ => ?_)
                clear hK K gA
                -- the stores
                have L := two_leaf hS n13 n14 (by omega) (by omega) (by omega) sx sy ix iy ox oy
                refine held_store 6 (by kernel_rfl) (by rfl) (by rfl) (by rfl) 50 _ _ (by rfl) (wB.heap.size) (rowE O xo xn xs xa xl.length xc xu xv) (by rfl) (by rfl) 50 _ n13 infoOut rfl (all_one _ rfl) L.1 ?_
                refine held_store 7 (by kernel_rfl) (by rfl) (by rfl) (by rfl) 50 _ _ (by rfl) (V2.heap.size) (rowE O yo yn ys ya yl.length yc yu yv) (by rfl) (by rfl) 50 _ L.2.1 infoOut rfl (all_one _ rfl) L.2.2.1 ?_
                refine wpAnyH_done (by kernel_rfl) ?_ _
                go_wp2_with fail
                go_meet
                exact L.2.2.2
            · -- operation 4
              have gA : (wA).grownBy (wA.alloc outZ) none := grown_alloc wA outZ
              have n13 : (wA.alloc outZ).heap[wA.heap.size]? = some (.cells outR 50 (0, 0)) := heap_alloc_at (w := wA) (k := wA.heap.size) (by simp) outZ
              have hlt14 := heap_lt n14
              have n14 := (gA.block _ (heap_lt n14) (by nofun)).trans n14
              have hsz13 : (wA).heap.size = wA.heap.size := by simp
              have hq13 : V2.heap.size ≤ wA.heap.size := by have h9 := hS.size; first | omega | (simp at h9; omega)
              have kk := kept2_below (grown_under gA (Nat.le_refl _) (by nofun))
              have ix := ix.kept2 kk
              have ox := owns_kept2 ox kk
              have hS : Below V2.heap.size V2 (wA.alloc outZ) := hS.trans (grown_under (B := V2.heap.size) gA hS.size (by nofun))
              go_simp
              refine hK.out _ _ hS (fun _ => ?_)
              clear hK K gA
              refine wpAnyH_ready (rs := [3]) (by kernel_rfl) (by simp) (AllReadyH.cons (by rfl) (fun K hK => ?_) AllReadyH.nil)
              · -- operation 3
                go_simp
                refine (HXQ.out _ hS).mono ?_
                rintro e wB ⟨⟨yo, yn, ys, ylv, yl⟩, yav, rfl, sy, iy, ⟨By, oy⟩, bly⟩
                obtain ⟨ya, yc, hlvy⟩ := isO_slice iy
                simp only [ExpD.lv, ExpD.l] at hlvy
                subst hlvy
                obtain ⟨yu, yv, rfl⟩ := own_shape oy
                have kk := kept2_below bly
                have n13 := (bly.block _ (heap_lt n13)).trans n13
                have n14 := (bly.block _ (heap_lt n14)).trans n14
                have ix := ix.kept2 kk
                have ox := owns_kept2 ox kk
                have hzy := bly.size
                have hS := hS.trans (bly.mono hS.size)
                refine hK.out _ _ hS (fun _ => ?_)
                clear hK K
                -- the stores
                have L := two_leaf hS n13 n14 (by omega) (by omega) (by omega) sx sy ix iy ox oy
                refine held_store 6 (by kernel_rfl) (by rfl) (by rfl) (by rfl) 50 _ _ (by rfl) (wA.heap.size) (rowE O xo xn xs xa xl.length xc xu xv) (by rfl) (by rfl) 50 _ n13 infoOut rfl (all_one _ rfl) L.1 ?_
                refine held_store 7 (by kernel_rfl) (by rfl) (by rfl) (by rfl) 50 _ _ (by rfl) (V2.heap.size) (rowE O yo yn ys ya yl.length yc yu yv) (by rfl) (by rfl) 50 _ L.2.1 infoOut rfl (all_one _ rfl) L.2.2.1 ?_
                refine wpAnyH_done (by kernel_rfl) ?_ _
                go_wp2_with fail
                go_meet
                exact L.2.2.2
          · -- operation 4
            have gA : ((V2.alloc outZ).drew).grownBy ((V2.alloc outZ).alloc outZ).drew none := grown_alloc ((V2.alloc outZ).drew) outZ
            have n13 : ((V2.alloc outZ).alloc outZ).drew.heap[V2.heap.size + 1]? = some (.cells outR 50 (0, 0)) := heap_alloc_at (w := (V2.alloc outZ)) (k := V2.heap.size + 1) (by simp) outZ
            have hlt14 := heap_lt n14
            have n14 := (gA.block _ (heap_lt n14) (by nofun)).trans n14
            have hsz13 : ((V2.alloc outZ).drew).heap.size = V2.heap.size + 1 := by simp
            have hq13 : V2.heap.size ≤ V2.heap.size + 1 := by have h9 := hS.size; first | omega | (simp at h9; omega)
            have kk := kept2_below (grown_under gA (Nat.le_refl _) (by nofun))
            have hS : Below V2.heap.size V2 ((V2.alloc outZ).alloc outZ).drew := hS.trans (grown_under (B := V2.heap.size) gA hS.size (by nofun))
            go_simp
            refine hK.out _ _ hS (fun _ => ?_)
            clear hK K gA
            refine wpAnyH_ready (rs := [1]) (by kernel_rfl) (by simp) (AllReadyH.cons (by rfl) (fun K hK => ?_) AllReadyH.nil)
            · -- operation 1
              go_simp
              refine (HXP.out _ hS).mono ?_
              rintro e wA ⟨⟨xo, xn, xs, xlv, xl⟩, xav, rfl, sx, ix, ⟨Bx, ox⟩, blx⟩
              obtain ⟨xa, xc, hlvx⟩ := isO_slice ix
              simp only [ExpD.lv, ExpD.l] at hlvx
              subst hlvx
              obtain ⟨xu, xv, rfl⟩ := own_shape ox
              have kk := kept2_below blx
              have n13 := (blx.block _ (heap_lt n13)).trans n13
              have n14 := (blx.block _ (heap_lt n14)).trans n14
              have hzx := blx.size
              have hS := hS.trans (blx.mono hS.size)
              refine hK.out _ _ hS (fun _ => ?_)
              clear hK K
              refine wpAnyH_ready (rs := [3]) (by kernel_rfl) (by simp) (AllReadyH.cons (by rfl) (fun K hK => ?_) AllReadyH.nil)
              · -- operation 3
                go_simp
                refine (HXQ.out _ hS).mono ?_
                rintro e wB ⟨⟨yo, yn, ys, ylv, yl⟩, yav, rfl, sy, iy, ⟨By, oy⟩, bly⟩
                obtain ⟨ya, yc, hlvy⟩ := isO_slice iy
                simp only [ExpD.lv, ExpD.l] at hlvy
                subst hlvy
                obtain ⟨yu, yv, rfl⟩ := own_shape oy
                have kk := kept2_below bly
                have n13 := (bly.block _ (heap_lt n13)).trans n13
                have n14 := (bly.block _ (heap_lt n14)).trans n14
                have ix := ix.kept2 kk
                have ox := owns_kept2 ox kk
                have hzy := bly.size
                have hS := hS.trans (bly.mono hS.size)
                refine hK.out _ _ hS (fun _ => ?_)
                clear hK K
                -- the stores
                have L := two_leaf hS n13 n14 (by omega) (by omega) (by omega) sx sy ix iy ox oy
                refine held_store 6 (by kernel_rfl) (by rfl) (by rfl) (by rfl) 50 _ _ (by rfl) (V2.heap.size + 1) (rowE O xo xn xs xa xl.length xc xu xv) (by rfl) (by rfl) 50 _ n13 infoOut rfl (all_one _ rfl) L.1 ?_
                refine held_store 7 (by kernel_rfl) (by rfl) (by rfl) (by rfl) 50 _ _ (by rfl) (V2.heap.size) (rowE O yo yn ys ya yl.length yc yu yv) (by rfl) (by rfl) 50 _ L.2.1 infoOut rfl (all_one _ rfl) L.2.2.1 ?_
                refine wpAnyH_done (by kernel_rfl) ?_ _
                go_wp2_with fail
                go_meet
                exact L.2.2.2
      case rest =>
        obtain ⟨q13, q14, ⟨xo, xn, xs, xlv, xl⟩, ⟨yo, yn, ys, ylv, yl⟩, avA, avB, rfl, rfl, n13, n14, sA, sB, iA, iB, tA, tB, bF⟩ := hcut
        have hE := sameEnd_any O _ _ avA avB wc iA iB sA sB tA tB hol
        obtain ⟨xa, xc, hlvx⟩ := isO_slice iA
        simp only [ExpD.lv, ExpD.l] at hlvx
        subst hlvx
        obtain ⟨ya, yc, hlvy⟩ := isO_slice iB
        simp only [ExpD.lv, ExpD.l] at hlvy
        subst hlvy
        obtain ⟨xu, xv, rfl, _⟩ := tA
        obtain ⟨yu, yv, rfl, _⟩ := tB
        have n13 : wc.heap[q13]? = some (.cells #[.int .i64 O.op, .int .i64 O.n, .int .i64 O.steps, .int .i64 xo, .int .i64 xn, .string xs, .slice none 0 0, .slice xa xl.length xc, .slice xu O.out.length xv] 50 (0, 0)) := n13
        have n14 : wc.heap[q14]? = some (.cells #[.int .i64 O.op, .int .i64 O.n, .int .i64 O.steps, .int .i64 yo, .int .i64 yn, .string ys, .slice none 0 0, .slice ya yl.length yc, .slice yu O.out.length yv] 50 (0, 0)) := n14
        have hE : Calls Tryz.prog 13 #[.agg #[.int .i64 O.op, .int .i64 O.n, .int .i64 O.steps, .int .i64 xo, .int .i64 xn, .string xs, .slice none 0 0, .slice xa xl.length xc, .slice xu O.out.length xv], .agg #[.int .i64 O.op, .int .i64 O.n, .int .i64 O.steps, .int .i64 yo, .int .i64 yn, .string ys, .slice none 0 0, .slice ya yl.length yc, .slice yu O.out.length yv]] wc (Yes wc) := hE
        have HE := Lib.hid hE
        have HBF := Lib.hid (HBV2.out.trans (bF.mono HBV2.out.size))
        clear hE sA sB iA iB bF
        have i0 := (cell_of_row _ _ 0 _ _ _ n13).trans (show _ = some (Value.int .i64 O.op) from rfl)
        have i1 := (cell_of_row _ _ 1 _ _ _ n13).trans (show _ = some (Value.int .i64 O.n) from rfl)
        have i2 := (cell_of_row _ _ 2 _ _ _ n13).trans (show _ = some (Value.int .i64 O.steps) from rfl)
        have i3 := (cell_of_row _ _ 3 _ _ _ n13).trans (show _ = some (Value.int .i64 xo) from rfl)
        have i4 := (cell_of_row _ _ 4 _ _ _ n13).trans (show _ = some (Value.int .i64 xn) from rfl)
        have i5 := (cell_of_row _ _ 5 _ _ _ n13).trans (show _ = some (Value.string xs) from rfl)
        have i6 := (cell_of_row _ _ 6 _ _ _ n13).trans (show _ = some (Value.slice none 0 0) from rfl)
        have i7 := (cell_of_row _ _ 7 _ _ _ n13).trans (show _ = some (Value.slice xa xl.length xc) from rfl)
        have i8 := (cell_of_row _ _ 8 _ _ _ n13).trans (show _ = some (Value.slice xu O.out.length xv) from rfl)
        have j0 := (cell_of_row _ _ 0 _ _ _ n14).trans (show _ = some (Value.int .i64 O.op) from rfl)
        have j1 := (cell_of_row _ _ 1 _ _ _ n14).trans (show _ = some (Value.int .i64 O.n) from rfl)
        have j2 := (cell_of_row _ _ 2 _ _ _ n14).trans (show _ = some (Value.int .i64 O.steps) from rfl)
        have j3 := (cell_of_row _ _ 3 _ _ _ n14).trans (show _ = some (Value.int .i64 yo) from rfl)
        have j4 := (cell_of_row _ _ 4 _ _ _ n14).trans (show _ = some (Value.int .i64 yn) from rfl)
        have j5 := (cell_of_row _ _ 5 _ _ _ n14).trans (show _ = some (Value.string ys) from rfl)
        have j6 := (cell_of_row _ _ 6 _ _ _ n14).trans (show _ = some (Value.slice none 0 0) from rfl)
        have j7 := (cell_of_row _ _ 7 _ _ _ n14).trans (show _ = some (Value.slice ya yl.length yc) from rfl)
        have j8 := (cell_of_row _ _ 8 _ _ _ n14).trans (show _ = some (Value.slice yu O.out.length yv) from rfl)
        by_cases h3 : O.op = 3
        · have h3b : (O.op == 3) = true := by rw [h3]; rfl
          go_wp2_with fail
          go_ret
          exact ⟨rfl, HBF.out⟩
        · have h3b : (O.op == 3) = false := beq_eq_false_iff_ne.2 h3
          go_wp2_with (go_at_call 13; refine HE.out.mono ?_; rintro e w9 ⟨rfl, hb9⟩)
          go_ret
          exact ⟨rfl, HBF.out.trans (hb9.mono HBF.out.size)⟩
end Go.Proofs.YtidolpcbbbakmaaGreat
