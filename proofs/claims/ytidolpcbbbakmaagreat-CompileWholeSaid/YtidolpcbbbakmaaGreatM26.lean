/- compile.Program: the walk. -/
import Derived.Test.YtidolpcbbbakmaaGreatM25
namespace Go.Proofs.YtidolpcbbbakmaaGreat
open Go Go.RowKit
open Go.Maps

theorem expCells_snoc (l : List ExpD) (x : ExpD) : expCells (l ++ [x]) = expCells l ++ [.int .i64 x.op, .int .i64 x.n, .string x.s, x.lv] := by simp [expCells, expEnc]
theorem funCells_snoc (l : List FunD) (f : FunD) : funCells (l ++ [f]) = funCells l ++ [.int .i64 f.c, .int .i64 f.l, .int .i64 f.d, f.v] := by simp [funCells]
theorem FunsAt.stays {V V' : World} {pb B2 : Nat} {fv : Value} {funs : List FunD} {r : Option Nat} (h : FunsAt V pb B2 fv funs) (hg : V.grownBy V' r) (hr : ∀ j, r = some j → j ≤ pb) (hB : pb < B2) : FunsAt V' pb B2 fv funs :=
  ⟨owns_grown h.own hg (fun k hk e => by have := (owns_lt h.own _ e).1; have := hr k hk; omega), fun f hf => by
    obtain ⟨h1, h2⟩ := h.code f hf
    exact ⟨row_stays h1 hg.size fun g hgv => hg.block g (h2 g hgv).2.1 (fun e => by have := hr g e.symm; have := (h2 g hgv).1; omega), fun g hgv => ⟨(h2 g hgv).1, Nat.lt_of_lt_of_le (h2 g hgv).2.1 hg.size, (h2 g hgv).2.2⟩⟩⟩
theorem set3_other {V : World} {R g : Nat} {a b c : Value} (h : g ≠ R) : (((V.setCell ⟨R, 0, none⟩ a).setCell ⟨R, 1, none⟩ b).setCell ⟨R, 2, none⟩ c).heap[g]? = V.heap[g]? :=
  (Below.heap_setCell _ _ _ _ h).trans ((Below.heap_setCell _ _ _ _ h).trans (Below.heap_setCell _ _ _ _ h))
theorem zero_prog {V : World} {R : Nat} (gR : V.heap[R]? = some (.cells #[.slice none 0 0, .slice none 0 0, .int .i64 0] 36 (0, 0))) : (V.frozen? ⟨R, 0, none⟩ = false ∧ V.frozen? ⟨R, 1, none⟩ = false ∧ V.frozen? ⟨R, 2, none⟩ = false) ∧ V.cell? ⟨R, 0, none⟩ = some (.slice none 0 0) ∧ V.cell? ⟨R, 1, none⟩ = some (.slice none 0 0) ∧ V.cell? ⟨R, 2, none⟩ = some (.int .i64 0) :=
  ⟨⟨Lib.frozen_of_heap gR 0, Lib.frozen_of_heap gR 1, Lib.frozen_of_heap gR 2⟩, by simp [World.cell?, gR], by simp [World.cell?, gR], by simp [World.cell?, gR]⟩
/-- A further function. -/
theorem FunsAt.push {V V' : World} {pb B2 g cap : Nat} {fv : Value} {funs : List FunD} {f : FunD} (h : FunsAt V pb B2 fv funs) (hf : IsCode V f.v f.code) (hfb : ∀ j, f.v.ownBlock = some j → pb < j ∧ j < V.heap.size ∧ fv.ownBlock ≠ some j)
    (hown : V'.ownsRow B2 43 4 (.slice (some ⟨g, 0, none⟩) (funs.length + 1) cap) (funs.length + 1) (funCells funs ++ [.int .i64 f.c, .int .i64 f.l, .int .i64 f.d, f.v])) (hg : V.grownBy V' fv.ownBlock) (hat : fv.ownBlock = some g ∨ V.heap.size ≤ g) :
    FunsAt V' pb B2 (.slice (some ⟨g, 0, none⟩) (funs.length + 1) cap) (funs ++ [f]) := by
  have step : ∀ x : FunD, IsCode V x.v x.code → (∀ j, x.v.ownBlock = some j → pb < j ∧ j < V.heap.size ∧ fv.ownBlock ≠ some j) → IsCode V' x.v x.code ∧ ∀ j, x.v.ownBlock = some j → pb < j ∧ j < V'.heap.size ∧ (Value.slice (some ⟨g, 0, none⟩) (funs.length + 1) cap).ownBlock ≠ some j := fun x h1 h2 =>
    ⟨row_stays h1 hg.size fun j hj => hg.block j (h2 j hj).2.1 (fun e => (h2 j hj).2.2 e.symm), fun j hj => ⟨(h2 j hj).1, Nat.lt_of_lt_of_le (h2 j hj).2.1 hg.size, fun e => by
      have e2 : g = j := Option.some.inj e
      subst e2
      rcases hat with e3 | e3
      · exact (h2 g hj).2.2 e3
      · have := (h2 g hj).2.1; omega⟩⟩
  refine ⟨by rw [funCells_snoc, List.length_append, List.length_singleton]; exact hown, fun x hx => ?_⟩
  rcases List.mem_append.1 hx with hx | hx
  · exact step x (h.code x hx).1 (h.code x hx).2
  · simp at hx; subst hx; exact step x hf hfb
theorem FunsAt.isFuns {V : World} {pb B2 : Nat} {fv : Value} {funs : List FunD} (h : FunsAt V pb B2 fv funs) : IsFuns V fv funs := ⟨isRow_owns h.own, fun f hf => (h.code f hf).1⟩
set_option maxHeartbeats 8000000 in
set_option maxRecDepth 100000 in
theorem program_any (B : Nat) (fv : Value) (fl : List FlatD) (main : Int) (w : World) (hF : IsFlats B w fv fl) (hBw : B ≤ w.heap.size) (hfit : Fit fl) :
    Calls Tryz.prog 9 #[fv, .int .i64 main] w (ProgAns fl main w) := by
  obtain ⟨hfl, hfs, hfh⟩ := hfit
  have hsz : ∀ f ∈ fl, sizeX f.body ≤ 600 ∧ heightX f.body ≤ 211 := fun f hf => ⟨by
    have : sizeX f.body ≤ sizeL (fl.map FlatD.body) := sizeL_mem (List.mem_map_of_mem hf)
    unfold sizeF at hfs; omega, hfh f hf⟩
  have HFit := Lib.hid hsz
  have HF := Lib.hid hF
  have hgR := grown_alloc w (.cells #[.slice none 0 0, .slice none 0 0, .int .i64 0] 36)
  have gR := new_heap w (.cells #[.slice none 0 0, .slice none 0 0, .int .i64 0] 36)
  have hBR := grown_under hgR (Nat.le_refl _) (by nofun)
  have hm' : fl.length ≤ 9223372036854775807 := by omega
  have HV := Lib.hid (validF_any B fv fl main (w.alloc (.cells #[.slice none 0 0, .slice none 0 0, .int .i64 0] 36)) (hF.under (hBR.mono hBw)) (by have := hgR.size; omega) hsz)
  have HVA := Lib.hid (@valid_all fl main)
  obtain ⟨⟨fa, fc, rfl, hfc, _⟩, _⟩ := hF
  have HBR := Lib.hid hBR
  have HGR := Lib.hid gR
  have hszR := hgR.size
  clear hgR hBR hsz gR
  obtain ⟨bb, hbb⟩ : ∃ bb, validF fl main = bb := ⟨_, rfl⟩
  have Hbb := Lib.hid hbb
  rw [hbb] at HV
  clear hbb
  go_enter Tryz.func9, Tryz.ntmps9
  go_wp2_with fail
  generalize w.alloc (.cells #[.slice none 0 0, .slice none 0 0, .int .i64 0] 36) = W at *
  refine HV.out.mono ?_
  rintro e w2 ⟨rfl, hb2⟩
  have gR2 := (hb2.block _ (heap_lt HGR.out)).trans HGR.out
  have HB2 := Lib.hid (HBR.out.trans (hb2.mono HBR.out.size))
  have HGR2 := Lib.hid gR2
  obtain ⟨⟨hfz0, hfz1, hfz2⟩, r0, r1, r2⟩ := zero_prog gR2
  clear hb2 gR2 HV
  cases bb
  · obtain ⟨gs, hgs⟩ := set3 HGR2.out (.slice none 0 0) (.slice none 0 0) (.int .i64 0)
    have hbs := HB2.out.trans (grown_under (B := w.heap.size) hgs HB2.out.size (fun k hk => by cases hk; exact Nat.le_refl _))
    have HGS := Lib.hid gs
    have HBS := Lib.hid hbs
    clear gs hgs hbs
    go_wp2_with fail
    have hg1 := HGS.out
    refine bodyPost_ret (v := .tuple #[.agg #[.slice none 0 0, .slice none 0 0, .int .i64 0], .int .i64 1]) ?_ rfl ⟨HBS.out, .inl ⟨Hbb.out, rfl⟩⟩
    rw [results_cell_tmp (p := 4) (u := 5) (ty := 36) rfl]
    simp [asAddr, run_loadVar_row _ _ _ _ _ _ _ hg1 Tryz.underlying36 rfl prog_info, Result.andThen]
    try rfl
  · obtain ⟨hl4, hl0, hmain0, hmain1, hcm, hfun⟩ := HVA.out Hbb.out
    have HFUN := Lib.hid hfun
    have HCM := Lib.hid hcm
    clear hfun hcm hfz0 hfz1 hfz2 r0 r1 r2 HVA
    have HBW := Lib.hid (Below.refl w2.heap.size w2)
    obtain ⟨ie0, hie, hiez0, hiez1, hiez2⟩ := info_parts info_exp
    obtain ⟨if0, hif, hifz0, hifz1, hifz2⟩ := info_parts info_fun
    have hsz2 := HB2.out.size
    have hR2 := heap_lt HGR2.out
    go_wp2_with fail
    go_loopw [6, 23] (fun bv i wr => ∃ k : Nat, k ≤ fl.length ∧ i = .int .i64 k ∧ Hid (wr.ownsRow w2.heap.size 29 4 bv k (expCells ((fl.map FlatD.body).take k))) ∧ Hid (Below w2.heap.size w2 wr)) (fun _ i _ => fl.length - (intOf i).toNat)
    case atStart => exact ⟨0, Nat.zero_le _, rfl, World.ownsRow_nil _ _ _ _, HBW⟩
    case round =>
      obtain ⟨k, hk, rfl, HO, HB⟩ := hrel
      have hszr := HB.out.size
      by_cases hkl : k < fl.length
      · have hbw : Below w.heap.size w wr := HB2.out.trans (HB.out.mono hsz2)
        have hFr := HF.out.under (hbw.mono hBw)
        obtain ⟨b, off, c', ha, _, hbB, c0, c1, c2, c3, c4⟩ := flats_at hFr.1 k hkl
        obtain rfl := (Value.slice.inj ha).1
        have hmem := getD_mem default fl k hkl
        have hxk := hFr.2.2 _ hmem
        have HT := Lib.hid (map_take' fl k hkl)
        generalize fl.getD k default = f at *
        clear ha hmem hFr
        obtain ⟨caps, ⟨xo, xn, xs, xv, xl⟩⟩ := f
        obtain ⟨xa, xc, hxv, _⟩ := hxk.parts.1
        subst hxv
        simp only [ExpD.op, ExpD.n, ExpD.s, ExpD.lv] at c0 c1 c2 c3 c4
        have hg3 := grown_alloc wr (.cells #[.int .i64 caps, .int .i64 xo, .int .i64 xn, .string xs, .slice xa xl.length xc] 31)
        have gX := new_heap wr (.cells #[.int .i64 caps, .int .i64 xo, .int .i64 xn, .string xs, .slice xa xl.length xc] 31)
        obtain ⟨e0, e1, e2, e3, e4⟩ := five_cells gX
        obtain ⟨oa, oc, rfl⟩ := own_shape HO.out
        have hown0 := owns_lt HO.out
        have HO3 := Lib.hid (owns_grown HO.out hg3 (by nofun))
        have HB3 := Lib.hid (HB.out.trans (grown_under (B := w2.heap.size) hg3 hszr (by nofun)))
        have hszg := hg3.size
        clear hg3 gX hxk hbw
        generalize hW3 : wr.alloc (.cells #[.int .i64 caps, .int .i64 xo, .int .i64 xn, .string xs, .slice xa xl.length xc] 31) = W3 at *
        go_wp2_with (at_builtin; refine wpList_append_lies _ rfl _ _ 27 rfl w2.heap.size 29 ie0 (.agg #[.int .i64 0, .int .i64 0, .string ByteArray.empty, .slice none 0 0]) 4 56 Tryz.underlying27 hie hiez0 hiez1 hiez2 rfl (by decide) _ k (expCells ((fl.map FlatD.body).take k)) rfl (HO3.out.alloc _) ⟨W3.heap.size, 0, none⟩ 1 1 [.int .i64 xo, .int .i64 xn, .string xs, .slice xa xl.length xc] rfl rfl ?d1 ?d2 (by decide) ?d3 ?d4 ?d5 _ rfl ?_)
        case d2 => exact ⟨rfl, rfl, rfl, rfl⟩
        case d3 => unfold maxLen; omega
        case d4 => omega
        case d5 => omega
        intro g4 cap4 w4 hown4 hgrow4 hat4 hlt4
        have hg7 := grown_alloc W3 (.cells #[.int .i64 xo, .int .i64 xn, .string xs, .slice xa xl.length xc] 29)
        have HO8 : Hid (w4.ownsRow w2.heap.size 29 4 (.slice (some ⟨g4, 0, none⟩) (k + 1) cap4) (k + 1) (expCells ((fl.map FlatD.body).take (k + 1)))) := by rw [HT.out, expCells_snoc]; exact hown4
        have HB8 := Lib.hid ((HB3.out.trans (grown_under (B := w2.heap.size) hg7 (by omega) (by nofun))).trans (grown_under (B := w2.heap.size) hgrow4 (by have := hg7.size; omega) (fun j hj => (hown0 j hj).1)))
        clear hg7 hown4 hgrow4 hat4 hW3
        go_wp2_with fail
        go_roundw
        case rel => exact ⟨k + 1, by omega, by go_num, HO8, HB8⟩
        case measure => simp [intOf]; omega
      · obtain rfl : k = fl.length := by omega
        have hO8 := HO.out
        rw [List.take_of_length_le (by simp)] at hO8
        obtain ⟨oa, oc, rfl⟩ := own_shape hO8
        have hbw : Below w.heap.size w wr := HB2.out.trans (HB.out.mono hsz2)
        have HBw := Lib.hid hbw
        have hrow : RowB wr.heap.size wr (.slice oa fl.length oc) (fl.map FlatD.body).length (expCells (fl.map FlatD.body)) := by rw [List.length_map]; exact isRow_owns hO8
        have hFr := HF.out.under (hbw.mono hBw)
        have hbs : ∀ y ∈ fl.map FlatD.body, IsExp wr.heap.size wr y := fun y hy => by
          obtain ⟨f, hf, rfl⟩ := List.mem_map.1 hy
          exact (hFr.2.2 f hf).mono (by omega)
        have HWITH := Lib.hid (with_nil _ (fl.map FlatD.body) wr hrow hbs (by unfold sizeF at hfs; omega) (fun s hs => by have := all_small HFUN.out s hs; unfold maxLen; omega))
        have gRr := (HB.out.block _ hR2).trans HGR2.out
        have HGRr := Lib.hid gRr
        have hltR := heap_lt gRr
        clear hO8 hrow hFr hbs hbw gRr
        have hall : textsL (fl.map FlatD.body) = allT fl := rfl
        rw [hall] at HWITH
        clear hall
        obtain ⟨all, hae⟩ : ∃ all, allT fl = all := ⟨_, rfl⟩
        have HAE := Lib.hid hae
        have hsa := all_small HFUN.out
        rw [hae] at HWITH hsa
        have HSA := Lib.hid hsa
        clear hae hsa
        go_wp2_with fail
        refine HWITH.out.mono ?_
        rintro e w3 ⟨hb3, hcase⟩
        have HB3 := Lib.hid (HBw.out.trans (hb3.mono HBw.out.size))
        have gR3 := (hb3.block _ hltR).trans HGRr.out
        have HGR3 := Lib.hid gR3
        have hsz3 := hb3.size
        clear hb3
        rcases hcase with ⟨hq, rfl⟩ | ⟨hq, hlen, rfl⟩ | ⟨hq, hlen, tv, rfl, hT, htb⟩
        · obtain ⟨⟨hfz0, hfz1, hfz2⟩, r0, r1, r2⟩ := zero_prog gR3
          obtain ⟨gs, hgs⟩ := set3 gR3 (.slice none 0 0) (.slice none 0 0) (.int .i64 0)
          have hbs := HB3.out.trans (grown_under (B := w.heap.size) hgs HB3.out.size (fun k hk => by cases hk; exact Nat.le_refl _))
          have HGS := Lib.hid gs
          have HBS := Lib.hid hbs
          have HQ := Lib.hid hq
          clear gs hgs hbs gR3 hq
          go_wp2_with fail
          have hg1 := HGS.out
          refine bodyPost_ret (v := .tuple #[.agg #[.slice none 0 0, .slice none 0 0, .int .i64 0], .int .i64 3]) ?_ rfl ⟨HBS.out, .inr (.inl ⟨Hbb.out, by rw [HAE.out]; exact HQ.out, rfl⟩)⟩
          rw [results_cell_tmp (p := 4) (u := 5) (ty := 36) rfl]
          simp [asAddr, run_loadVar_row _ _ _ _ _ _ _ hg1 Tryz.underlying36 rfl prog_info, Result.andThen]
          try rfl
        · obtain ⟨⟨hfz0, hfz1, hfz2⟩, r0, r1, r2⟩ := zero_prog gR3
          obtain ⟨gs, hgs⟩ := set3 gR3 (.slice none 0 0) (.slice none 0 0) (.int .i64 0)
          have hbs := HB3.out.trans (grown_under (B := w.heap.size) hgs HB3.out.size (fun k hk => by cases hk; exact Nat.le_refl _))
          have HGS := Lib.hid gs
          have HBS := Lib.hid hbs
          have HQ := Lib.hid hq
          have HLN := Lib.hid hlen
          clear gs hgs hbs gR3 hq hlen
          go_wp2_with fail
          have hg1 := HGS.out
          refine bodyPost_ret (v := .tuple #[.agg #[.slice none 0 0, .slice none 0 0, .int .i64 0], .int .i64 5]) ?_ rfl ⟨HBS.out, .inr (.inr (.inl ⟨Hbb.out, by rw [HAE.out]; exact HQ.out, by rw [HAE.out]; exact HLN.out, rfl⟩))⟩
          rw [results_cell_tmp (p := 4) (u := 5) (ty := 36) rfl]
          simp [asAddr, run_loadVar_row _ _ _ _ _ _ _ hg1 Tryz.underlying36 rfl prog_info, Result.andThen]
          try rfl
        · have HQ := Lib.hid hq
          have HT3 := Lib.hid hT
          have HTB := Lib.hid htb
          obtain ⟨ts, hts⟩ : ∃ ts, dedup all = ts := ⟨_, rfl⟩
          have HTS := Lib.hid hts
          rw [hts] at hlen HT3
          have hsts : ∀ s ∈ ts, s.size ≤ maxLen := fun s hs => by
            have := HSA.out s (dedup_mem (hts ▸ hs)); unfold maxLen; omega
          have HSTS := Lib.hid hsts
          clear hq hT htb hts gR3 hsts
          obtain ⟨ta, tc, rfl, htc, _⟩ := HT3.out
          have hgp := grown_alloc w3 (.cells #[.slice none 0 0, .slice ta ts.length tc, .int .i64 main] 36)
          have gPB := new_heap w3 (.cells #[.slice none 0 0, .slice ta ts.length tc, .int .i64 main] 36)
          have HGPB := Lib.hid gPB
          have HBP := Lib.hid (Below.refl w3.heap.size (w3.alloc (.cells #[.slice none 0 0, .slice ta ts.length tc, .int .i64 main] 36)))
          have HTP : Hid (RowB w3.heap.size (w3.alloc (.cells #[.slice none 0 0, .slice ta ts.length tc, .int .i64 main] 36)) (.slice ta ts.length tc) ts.length (strCells ts)) := RowB.kept HT3.out (fun b hb => (grown_under hgp (Nat.le_refl _) (by nofun)).block b hb)
          have HB4 := Lib.hid (HB3.out.trans (grown_under (B := w.heap.size) hgp HB3.out.size (by nofun)))
          have hszp : (w3.alloc (.cells #[.slice none 0 0, .slice ta ts.length tc, .int .i64 main] 36)).heap.size = w3.heap.size + 1 := by simp
          have gR4 := (hgp.block _ (heap_lt HGR3.out) (by nofun)).trans HGR3.out
          have HGR4 := Lib.hid gR4
          have hltR3 := heap_lt HGR3.out
          have HFN : Hid (FunsAt (w3.alloc (.cells #[.slice none 0 0, .slice ta ts.length tc, .int .i64 main] 36)) w3.heap.size (w3.heap.size + 1) (.slice none 0 0) []) := ⟨World.ownsRow_nil _ _ _ _, by nofun⟩
          clear hgp gPB gR4
          go_wp2_with fail
          generalize w3.alloc (.cells #[.slice none 0 0, .slice ta ts.length tc, .int .i64 main] 36) = W3 at *
          have hw3s := hsz3
          generalize hpb : w3.heap.size = pb at *
          go_loopw [47] (fun i wr => ∃ (k : Nat) (fvk : Value) (funs : List FunD), i = .int .i64 k ∧ k ≤ fl.length ∧ funs.length = k ∧ Hid (FunsAt wr pb (pb + 1) fvk funs) ∧ Hid (wr.heap[pb]? = some (.cells #[fvk, .slice ta ts.length tc, .int .i64 main] 36 (0, 0))) ∧ Hid (Below pb W3 wr) ∧ W3.heap.size ≤ wr.heap.size ∧ Hid (∀ i, i < k → FunOf ts (fl.getD i default) (funs.getD i default))) (fun i _ => fl.length - (intOf i).toNat)
          case atStart => exact ⟨0, .slice none 0 0, [], rfl, Nat.zero_le _, rfl, HFN, HGPB, HBP, Nat.le_refl _, fun i hi => by omega⟩
          case round =>
            obtain ⟨k, fvk, funs, rfl, hk, hfk, HFA, HGP, HBl, hszl, HFO⟩ := hrel
            subst hfk
            have hwpb : w.heap.size ≤ pb := by have := HBw.out.size; omega
            have hbw : Below w.heap.size w wr := HB4.out.trans (HBl.out.mono hwpb)
            obtain ⟨va, vc, rfl⟩ := own_shape HFA.out.own
            by_cases hkl : funs.length < fl.length
            · have hFr := HF.out.under (hbw.mono hBw)
              obtain ⟨b, off, c', ha, _, hbB, c0, c1, c2, c3, c4⟩ := flats_at hFr.1 funs.length hkl
              obtain rfl := (Value.slice.inj ha).1
              have hmem := getD_mem default fl funs.length hkl
              have hxk := hFr.2.2 _ hmem
              have hTr : IsTexts wr (.slice ta ts.length tc) ts := (RowB.kept HTP.out HBl.out.block).mono (by omega)
              have hcfun := cfunF_any B fl hl4 (fun f hf => fun_caps (HFUN.out f hf)) (fl.getD funs.length default) (.slice ta ts.length tc) ts
              have hfb := HFUN.out _ hmem
              obtain ⟨hs6, hh2⟩ := HFit.out _ hmem
              obtain ⟨f, hfe⟩ : ∃ f, fl.getD funs.length default = f := ⟨_, rfl⟩
              have HFE := Lib.hid hfe
              rw [hfe] at c0 c1 c2 c3 c4 hxk hcfun hfb hs6 hh2
              clear ha hmem hFr hfe
              obtain ⟨caps, ⟨xo, xn, xs, xv, xl⟩⟩ := f
              obtain ⟨xa, xc, hxv, _⟩ := hxk.parts.1
              subst hxv
              simp only [ExpD.op, ExpD.n, ExpD.s, ExpD.lv] at c0 c1 c2 c3 c4
              have hg3 := grown_alloc wr (.cells #[.int .i64 caps, .int .i64 xo, .int .i64 xn, .string xs, .slice xa xl.length xc] 31)
              have gX := new_heap wr (.cells #[.int .i64 caps, .int .i64 xo, .int .i64 xn, .string xs, .slice xa xl.length xc] 31)
              obtain ⟨e0, e1, e2, e3, e4⟩ := five_cells gX
              have hszg := hg3.size
              have hszw := hbw.size
              have HM := Lib.hid (hcfun _ (by omega) (hxk.grown hg3 (by omega) (by nofun)) hfb hs6 hh2 (IsRow.below hTr (grown_under hg3 (Nat.le_refl _) (by nofun))) (by omega) HSTS.out)
              rw [show flatDV ⟨caps, .mk xo xn xs (.slice xa xl.length xc) xl⟩ = .agg #[.int .i64 caps, .int .i64 xo, .int .i64 xn, .string xs, .slice xa xl.length xc] from rfl] at HM
              have HFA3 := Lib.hid (HFA.out.stays hg3 (by nofun) (Nat.lt_succ_self pb))
              have HGP3 := Lib.hid ((hg3.block _ (heap_lt HGP.out) (by nofun)).trans HGP.out)
              have HBl3 := Lib.hid (HBl.out.trans (grown_under (B := pb) hg3 (by omega) (by nofun)))
              clear hg3 gX hxk hbw hTr hcfun hfb
              generalize hV1 : wr.alloc (.cells #[.int .i64 caps, .int .i64 xo, .int .i64 xn, .string xs, .slice xa xl.length xc] 31) = V1 at *
              go_wp2_with fail
              refine HM.out.mono ?_
              rintro e V2 ⟨code, d, cv, rfl, hI, hW, hD, hb2, hcb⟩
              have HFO2 : Hid (FunOf ts ⟨caps, .mk xo xn xs (.slice xa xl.length xc) xl⟩ ⟨caps, locX 1 (.mk xo xn xs (.slice xa xl.length xc) xl), d, cv, code⟩) := ⟨rfl, rfl, hW, hD⟩
              have HI2 := Lib.hid hI
              have hlt2 : ∀ j, cv.ownBlock = some j → j < V2.heap.size := fun j hj => by
                obtain ⟨ca, cc, rfl, _, hcell⟩ := hI
                obtain ⟨b, off, rfl, hlt, _⟩ := hcell (by have := hW.2.1; omega)
                cases hj; exact hlt
              obtain ⟨ca, cc, rfl, _⟩ := hI
              obtain ⟨lx, hlx⟩ : ∃ lx, locX 1 (.mk xo xn xs (.slice xa xl.length xc) xl) = lx := ⟨_, rfl⟩
              rw [hlx] at HFO2
              have hg2 := grown_below hb2
              have HFA2 := Lib.hid (HFA3.out.stays hg2 (by nofun) (Nat.lt_succ_self pb))
              have HGP2 := Lib.hid ((hb2.block _ (heap_lt HGP3.out)).trans HGP3.out)
              have HBl2 := Lib.hid (HBl3.out.trans (hb2.mono (by omega)))
              have hsz22 := hb2.size
              have HCB := Lib.hid hcb
              have hltp := heap_lt HGP3.out
              have hg4 := grown_alloc V2 (.cells #[.int .i64 caps, .int .i64 lx, .int .i64 d, .slice ca code.length cc] 43)
              have gY := new_heap V2 (.cells #[.int .i64 caps, .int .i64 lx, .int .i64 d, .slice ca code.length cc] 43)
              obtain ⟨q0, q1, q2, q3⟩ := fun_cells gY
              have HFA4 := Lib.hid (HFA2.out.stays hg4 (by nofun) (Nat.lt_succ_self pb))
              have gP4 := (hg4.block _ (heap_lt HGP2.out) (by nofun)).trans HGP2.out
              have HBl4 := Lib.hid (HBl2.out.trans (grown_under (B := pb) hg4 (by omega) (by nofun)))
              have hsz44 := hg4.size
              have HI4 : Hid (IsCode (V2.alloc (.cells #[.int .i64 caps, .int .i64 lx, .int .i64 d, .slice ca code.length cc] 43)) (.slice ca code.length cc) code) := IsRow.below HI2.out (grown_under hg4 (Nat.le_refl _) (by nofun))
              have HOL := Lib.hid (owns_lt HFA3.out.own)
              have HCLT : Hid (∀ j, (Value.slice ca code.length cc).ownBlock = some j → pb < j ∧ j < V2.heap.size ∧ (Value.slice va funs.length vc).ownBlock ≠ some j) := fun j hj => ⟨by have := HCB.out j hj; omega, hlt2 j hj, fun e => by have := (HOL.out j e).2; have := HCB.out j hj; omega⟩
              have p0 : (V2.alloc (.cells #[.int .i64 caps, .int .i64 lx, .int .i64 d, .slice ca code.length cc] 43)).cell? ⟨pb, 0, none⟩ = some (.slice va funs.length vc) := by simp only [World.cell?, gP4]; rfl
              have HGP4 := Lib.hid gP4
              clear hb2 hg2 hg4 gY gP4 hW hD hcb HM c0 c1 c2 c3 c4 e0 e1 e2 e3 e4
              generalize hV4 : V2.alloc (.cells #[.int .i64 caps, .int .i64 lx, .int .i64 d, .slice ca code.length cc] 43) = V4 at *
              go_wp2_with (at_builtin; refine wpList_append_lies _ rfl _ _ 33 rfl (pb + 1) 43 if0 (.agg #[.int .i64 0, .int .i64 0, .int .i64 0, .slice none 0 0]) 4 48 Tryz.underlying33 hif hifz0 hifz1 hifz2 rfl (by decide) _ funs.length (funCells funs) rfl (HFA4.out.own.alloc _) ⟨V4.heap.size, 0, none⟩ 1 1 [.int .i64 caps, .int .i64 lx, .int .i64 d, .slice ca code.length cc] rfl rfl ?f1 ?f2 (by decide) ?f3 ?f4 ?f5 _ rfl ?_)
              case f1 => exact World.news_of_block (cs := #[.int .i64 caps, .int .i64 lx, .int .i64 d, .slice ca code.length cc]) (new_heap V4 _)
              case f2 => intro u hu; simp at hu; rcases hu with rfl | rfl | rfl | rfl <;> rfl
              case f3 => unfold maxLen; omega
              case f4 => omega
              case f5 => simp; omega
              intro g8 cap8 w8 hown8 hgrow8 hat8 hlt8
              have hg7 := grown_alloc V4 (.cells #[.int .i64 caps, .int .i64 lx, .int .i64 d, .slice ca code.length cc] 43)
              have hFA7 := HFA4.out.stays hg7 (by nofun) (Nat.lt_succ_self pb)
              have hz7 : V4.heap.size ≤ (V4.alloc (.cells #[.int .i64 caps, .int .i64 lx, .int .i64 d, .slice ca code.length cc] 43)).heap.size := hg7.size
              have hFA8 := hFA7.push (f := ⟨caps, lx, d, .slice ca code.length cc, code⟩) (IsRow.below HI4.out (grown_under hg7 (Nat.le_refl _) (by nofun))) (fun j hj => by obtain ⟨h1, h2, h3⟩ := HCLT.out j hj; exact ⟨h1, by omega, h3⟩) hown8 hgrow8 (by
                rcases hat8 with e | e
                · exact .inl e
                · exact .inr (by simp; omega))
              have hol7 := owns_lt hFA7.own
              have gP7 := (hg7.block _ (heap_lt HGP4.out) (by nofun)).trans HGP4.out
              have gP8 := (hgrow8.block _ (heap_lt gP7) (fun e => by have := (hol7 _ e.symm).1; omega)).trans gP7
              have hbl8 := (HBl4.out.trans (grown_under (B := pb) hg7 (by omega) (by nofun))).trans (grown_under (B := pb) hgrow8 (by omega) (fun j hj => by have := (hol7 j hj).1; omega))
              have hgs := grown_set w8 pb 0 (.slice (some ⟨g8, 0, none⟩) (funs.length + 1) cap8)
              have HFA9 := Lib.hid (hFA8.stays hgs (fun j hj => by cases hj; exact Nat.le_refl _) (Nat.lt_succ_self pb))
              have HGP9 := Lib.hid (heap_set_same (i := 0) gP8 (.slice (some ⟨g8, 0, none⟩) (funs.length + 1) cap8))
              have HBl9 := Lib.hid (hbl8.trans (grown_under (B := pb) hgs (by have := hgrow8.size; omega) (fun j hj => by cases hj; exact Nat.le_refl _)))
              have hz9 : W3.heap.size ≤ (w8.setCell ⟨pb, 0, none⟩ (.slice (some ⟨g8, 0, none⟩) (funs.length + 1) cap8)).heap.size := by have := hgs.size; have := hgrow8.size; omega
              have hp8 : w8.cell? ⟨pb, 0, none⟩ = some (.slice va funs.length vc) := by simp only [World.cell?, gP8]; rfl
              have hfz8 : w8.frozen? ⟨pb, 0, none⟩ = false := Lib.frozen_of_heap gP8 0
              have HFO9 : Hid (∀ i, i < funs.length + 1 → FunOf ts (fl.getD i default) ((funs ++ [(⟨caps, lx, d, .slice ca code.length cc, code⟩ : FunD)]).getD i default)) := fun i hi => by
                by_cases e : i = funs.length
                · subst e
                  rw [HFE.out, show (funs ++ [(⟨caps, lx, d, .slice ca code.length cc, code⟩ : FunD)]).getD funs.length default = ⟨caps, lx, d, .slice ca code.length cc, code⟩ by simp [List.getD]]
                  exact HFO2.out
                · rw [show (funs ++ [(⟨caps, lx, d, .slice ca code.length cc, code⟩ : FunD)]).getD i default = funs.getD i default by simp only [List.getD]; rw [List.getElem?_append_left (by omega)]]
                  exact HFO.out i (by omega)
              clear hg7 hFA7 hFA8 hol7 gP7 gP8 hbl8 hgs hown8 hgrow8 hat8 p0 q0 q1 q2 q3 hz7
              go_wp2_with fail
              go_round
              case rel => exact ⟨funs.length + 1, _, _, by go_num, by omega, by simp, HFA9, HGP9, HBl9, hz9, HFO9⟩
              case measure => simp [intOf]; omega
            · obtain hkf : funs.length = fl.length := by omega
              have gRr := (HBl.out.block _ (by omega)).trans HGR4.out
              obtain ⟨⟨hfz0, hfz1, hfz2⟩, r0, r1, r2⟩ := zero_prog gRr
              obtain ⟨gs, hgs⟩ := set3 gRr (.slice va funs.length vc) (.slice ta ts.length tc) (.int .i64 main)
              have p0 : wr.cell? ⟨pb, 0, none⟩ = some (.slice va funs.length vc) := by simp only [World.cell?, HGP.out]; rfl
              have p1 : wr.cell? ⟨pb, 1, none⟩ = some (.slice ta ts.length tc) := by simp only [World.cell?, HGP.out]; rfl
              have p2 : wr.cell? ⟨pb, 2, none⟩ = some (.int .i64 main) := by simp only [World.cell?, HGP.out]; rfl
              have hTr : IsTexts wr (.slice ta ts.length tc) ts := (RowB.kept HTP.out HBl.out.block).mono (by omega)
              have HIP : Hid (IsProg (((wr.setCell ⟨w.heap.size, 0, none⟩ (.slice va funs.length vc)).setCell ⟨w.heap.size, 1, none⟩ (.slice ta ts.length tc)).setCell ⟨w.heap.size, 2, none⟩ (.int .i64 main)) (.slice va funs.length vc) (.slice ta ts.length tc) ⟨funs, ts, main⟩) :=
                ⟨(HFA.out.stays hgs (fun j hj => by cases hj; omega) (Nat.lt_succ_self pb)).isFuns, row_stays hTr hgs.size fun g hg => set3_other (fun e => by have := HTB.out g hg; omega)⟩
              have HBS := Lib.hid (hbw.trans (grown_under (B := w.heap.size) hgs hbw.size (fun k hk => by cases hk; exact Nat.le_refl _)))
              have HGS := Lib.hid gs
              have HKF := Lib.hid hkf
              clear gs hgs gRr hTr hkf
              go_wp2_with fail
              have hg1 := HGS.out
              refine bodyPost_ret (v := .tuple #[.agg #[.slice va funs.length vc, .slice ta ts.length tc, .int .i64 main], .int .i64 0]) ?_ rfl ⟨HBS.out, .inr (.inr (.inr ⟨Hbb.out, by rw [HAE.out]; exact HQ.out, by rw [HAE.out, HTS.out]; exact hlen, _, _, funs, rfl, by rw [HAE.out, HTS.out]; exact HIP.out, HKF.out, fun i hi => by rw [HAE.out, HTS.out]; exact HFO.out i (by have := HKF.out; omega)⟩))⟩
              rw [results_cell_tmp (p := 4) (u := 5) (ty := 36) rfl]
              simp [asAddr, run_loadVar_row _ _ _ _ _ _ _ hg1 Tryz.underlying36 rfl prog_info, Result.andThen]
              try rfl
end Go.Proofs.YtidolpcbbbakmaaGreat
