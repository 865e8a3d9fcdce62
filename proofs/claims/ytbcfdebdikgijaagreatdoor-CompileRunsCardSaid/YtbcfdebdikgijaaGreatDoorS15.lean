/- Part of the proof; its texts: Cy3 Cz1 Cz2. -/
import Derived.Test.YtbcfdebdikgijaaGreatDoorS13
import Derived.Test.YtbcfdebdikgijaaGreatDoorS14
set_option maxRecDepth 100000
set_option linter.unusedVariables false
set_option linter.unusedSimpArgs false
set_option maxHeartbeats 8000000
namespace Go.Proofs.YtbcfdebdikgijaaGreatDoor
open Go Go.RowKit
open Go.Maps
def U0 (acc : List ByteArray) (s : ByteArray) : List ByteArray := if (X5 acc s).isSome = true then acc else acc ++ [s]
def dedup (l : List ByteArray) : List ByteArray := l.foldl U0 []
theorem CF (l : List ByteArray) (k : Nat) (h : k < l.length) : dedup (l.take (k + 1)) = U0 (dedup (l.take k)) (l.getD k default) := by
 unfold dedup; rw [take_one default l k h, List.foldl_append]; rfl
theorem FE (acc : List ByteArray) (s : ByteArray) : (U0 acc s).length <= acc.length + 1 := by unfold U0; split <;> simp
theorem NG (l : List ByteArray) : (dedup l).length <= l.length := by
 have : ∀ (l acc : List ByteArray), (l.foldl U0 acc).length <= acc.length + l.length := fun l => by
  induction l with
  | nil => intro acc; simp
  | cons x r ih => intro acc; rw [List.foldl_cons]; have := ih (U0 acc x); have := FE acc x; simp; omega
 have := this l []
 unfold dedup; simpa using this
theorem zi (w : World) : (zeroValue 4).run Tryz.prog w = .ok (.bool false) w := by kernel_rfl
def UN (V : World) (mb : Nat) (acc : List ByteArray) (k : Nat) : Prop :=
 ∃ (n : Nat) (D : DataW Unit), n <= k /\ V.ownsMap Tryz.prog 9 (plainElem Tryz.prog 4) mb n D /\ ∀ s : ByteArray, D.atKey (SA s) (.lit (.bool false)) = .lit (.bool (X5 acc s).isSome)
theorem UN.start {V : World} : UN (V.alloc (.map #[] 0)) V.heap.size [] 0 := ⟨0, .map [], Nat.le_refl _, World.ownsMap_made V _ _ _, fun s => rfl⟩
theorem UN.stays {V V' : World} {mb : Nat} {acc : List ByteArray} {k : Nat} (h : UN V mb acc k) (e : V'.heap[mb]? = V.heap[mb]?) : UN V' mb acc k := by
 obtain ⟨n, D, hn, ⟨es, clock, hb, hr⟩, hat⟩ := h
 exact ⟨n, D, hn, ⟨es, clock, e.trans hb, hr⟩, hat⟩
theorem UN.lt {V : World} {mb : Nat} {acc : List ByteArray} {k : Nat} (h : UN V mb acc k) : mb < V.heap.size := by obtain ⟨n, D, _, hown, _⟩ := h; exact hown.lt
theorem UN.mono {V : World} {mb : Nat} {acc : List ByteArray} {k : Nat} (h : UN V mb acc k) : UN V mb acc (k + 1) := by obtain ⟨n, D, hn, hr⟩ := h; exact ⟨n, D, by omega, hr⟩
theorem UN.look {V : World} {mb : Nat} {acc : List ByteArray} {k : Nat} (h : UN V mb acc k) (s : ByteArray) (hs : s.size <= maxLen) : (Instr.lookup 116 (.map (some mb)) (.string s) false).run Tryz.prog V = .ok (.bool (X5 acc s).isSome) V := by
 obtain ⟨n, D, hn, hown, hat⟩ := h
 obtain ⟨v, ps, hrun, hv⟩ := hown.lookup RP Tryz.underlying116 (zi V) (plainElem_bool Tryz.underlying4 false) (WideMaps.keyOf_string_mk Tryz.underlying9 hs)
 rw [show D.atKey (.string s.data.toList) (.lit (.bool false)) = _ from hat s] at hv
 have : v = .bool (X5 acc s).isSome := by
  unfold plainElem at hv; rw [Tryz.underlying4] at hv; cases v <;> simp at hv
  rw [hv.1]
 rw [hrun, this]
theorem UN.put {V : World} {mb : Nat} {acc : List ByteArray} {k : Nat} (h : UN V mb acc k) (hk : k <= 1000000) (s : ByteArray) (hs : s.size <= maxLen) :
 ∃ V', (Instr.mapUpdate 116 (.map (some mb)) (.string s) (.bool true)).run Tryz.prog V = .ok () V' /\ UN V' mb (acc ++ [s]) (k + 1) /\ V.grownBy V' (some mb) := by
 obtain ⟨n, D, hn, hown, hat⟩ := h
 obtain ⟨V', hrun, hown', hg⟩ := hown.update RP Tryz.underlying116 (by unfold maxLen; omega) (WideMaps.keyOf_string_mk Tryz.underlying9 hs) (plainElem_bool Tryz.underlying4 true)
 refine ⟨V', hrun, ⟨n + 1, _, by omega, hown', fun t => ?_⟩, hg⟩
 rw [PL]
 by_cases e : s = t
 ·subst e
  rw [ZY rfl]; have : (D.put (SA s) (.lit (.bool true))).atKey (SA s) (.lit (.bool false)) = .lit (.bool true) := atKey_put_same hown.isMap (Ls _) _ _; refine this.trans ?_; cases X5 acc s <;> rfl
 ·rw [Z7 e, Option.or_none]
  have : (D.put (SA s) (.lit (.bool true))).atKey (SA t) (.lit (.bool false)) = D.atKey (SA t) (.lit (.bool false)) := atKey_put_other (AQ (Ne.symm e)) _ _; exact this.trans (hat t)
theorem CB (s : ByteArray) : ((Um s).2 = 0 /\ Vm s = false) \/ ((Um s).2 ≠ 0 /\ Vm s = true) := by
 unfold Um Vm VJ
 by_cases h : s.size <= 16384
 ·by_cases h2 : s.data.toList.all Uv = true
  ·left; rw [ZY h, ZY h2, h2]; simp [h]
  ·right; rw [ZY h, Z7 h2]; simp [h, h2]
 ·right; rw [Z7 h]; simp [h]
theorem Cz (g : Nat) (a : Option Addr) (c : Nat) (all : List ByteArray) (w : World) (h : w.heap[g]? = some (.cells #[.slice none 0 0, .slice a all.length c] 27 (0, 0))) (B : Nat) (hO : Tn w B (.slice a all.length c) all) (hl : all.length <= 1000000) :
 Calls Tryz.prog 52 #[.slice (some ⟨g, 0, none⟩) 2 2] w fun e w' => ∃ v, e = .returned v /\ w'.ownsRow w.heap.size 9 1 v all.length (strCells all) /\ w.grownBy w' none := by
 by_cases hn : all = []
 ·have := hO.2 hn
  subst hn; injection this with h1 h2 h3; subst h1; subst h3; refine (GA g w h).mono ?_; rintro e w' ⟨rfl, rfl⟩; exact ⟨_, rfl, World.ownsRow_nil _ _ _ _, ⟨rfl, rfl, rfl, Nat.le_refl _, fun _ _ _ => rfl⟩⟩
 ·exact uS g a c all w h B hO (List.length_pos_iff.2 hn) hl
def lN (all : List ByteArray) (w : World) (e : Ending) (w' : World) : Prop :=
 Below w.heap.size w w' /\ ((all.any Vm = true /\ e = .returned (.tuple #[.slice none 0 0, .int .i64 3])) \/ (all.any Vm = false /\ 1000 < (dedup all).length /\ e = .returned (.tuple #[.slice none 0 0, .int .i64 5])) \/
  (all.any Vm = false /\ (dedup all).length <= 1000 /\ ∃ v, e = .returned (.tuple #[v, .int .i64 0]) /\ Xv w' v (dedup all) /\ ∀ g, v.ownBlock = some g -> w.heap.size <= g))
theorem Uu.mono {B B' : Nat} {w : World} {v : Value} {n : Nat} {xs : List Value} (h : Uu B w v n xs) (hB : B <= B') : Uu B' w v n xs := by
 obtain ⟨a, c, hv, hlc, hl⟩ := h
 refine ⟨a, c, hv, hlc, fun hne => ?_⟩
 obtain ⟨b, off, ha, hlt, hc⟩ := hl hne
 exact ⟨b, off, ha, by omega, hc⟩
theorem Y0.mono {B B' : Nat} {w : World} {x : Z0} (h : Y0 B w x) (hB : B <= B') : Y0 B' w x := by
 induction h with
 | mk h1 h2 _ ih => exact .mk (h1.mono hB) h2 ih
theorem uQ (bv : Value) (bodies : List Z0) (w : World) (hR : Uu w.heap.size w bv bodies.length (ZR bodies)) (hY : ∀ y ∈ bodies, Y0 w.heap.size w y) (hs : Yv bodies <= 10000) (hsz : ∀ s ∈ YW bodies, s.size <= maxLen) :
 Calls Tryz.prog 22 #[.slice none 0 0, bv] w (lN (YW bodies) w) := by
 have hmm := @run_makeMap Tryz.prog
 have hll := length_le bodies
 have HR := Z9 hR
 have HY := Z9 hY
 have Kr := Z9 hsz
 obtain ⟨ba, bc, rfl, hbc, _⟩ := hR
 obtain ⟨is0, his, Qc, PK, Qb⟩ := info_parts S9
 have htl : (YW bodies).length <= 10000 := by have := Un bodies fun y _ => Tg y; omega
 have HB0 := Z9 (Below.refl w.heap.size w)
 clear hY hsz
 go_in
 go_wp2_with fail
 go_loopw [6, 21] (fun lv i wr => ∃ k : Nat, k <= bodies.length /\ i = .int .i64 k /\ Hid (Tn wr w.heap.size lv (YW (bodies.take k))) /\ Hid (Below w.heap.size w wr)) (fun _ i _ => bodies.length - (intOf i).toNat)
 case atStart => exact ⟨0, Nat.zero_le _, rfl, by rw [List.take_zero, X0]; exact Tn.nil _ _, HB0⟩
 case round =>
  obtain ⟨k, hk, rfl, HO, HB⟩ := hrel; by_cases hkl : k < bodies.length
  ·obtain ⟨b, off, rfl, vK, c0, c1, c2, c3⟩ := XY HR.out HB.out k hkl
   have hmem := Zr default bodies k hkl; have HT := Z9 (show YW (bodies.take (k + 1)) = YW (bodies.take k) ++ YK (bodies.getD k default) from by rw [take_one default bodies k hkl, QM]); have hyk := (HY.out _ hmem).under HB.out; have hlen : (YW (bodies.take k)).length + YO (bodies.getD k default) <= 100000 := by
    have h1 := Un (bodies.take k) fun y _ => Tg y
    have h2 := V8 bodies (k + 1); rw [take_one default bodies k hkl, VB] at h2; omega
   clear hmem; generalize bodies.getD k default = x at *; obtain ⟨xo, xn, xs, xv, xl⟩ := x; obtain ⟨xa, xc, rfl, _⟩ := hyk.parts.1; simp only [Z0.op, Z0.n, Z0.s, Z0.lv] at c0 c1 c2 c3; have hg3 := Z8 wr (.cells #[.int .i64 xo, .int .i64 xn, .string xs, .slice xa xl.length xc] 36); have gX := ZV wr (.cells #[.int .i64 xo, .int .i64 xn, .string xs, .slice xa xl.length xc] 36); obtain ⟨e0, e1, e2, e3⟩ := ZP gX; have CK := HB.out.size; have lS := hg3.size; have hlv := Zw HO.out.1; have HM := Z9 (FH w.heap.size w.heap.size (Nat.le_refl _) _ u6 _ (wr.alloc (.cells #[.int .i64 xo, .int .i64 xn, .string xs, .slice xa xl.length xc] 36)) (by omega) (hyk.grown hg3 CK (by nofun)) (HO.out.grown hg3 (by nofun)) hlen); have HB2 := Z9 (HB.out.trans (ZX hg3 CK (by nofun))); rw [ZE] at HM; clear hyk gX hg3 hlen; go_wp2_with fail; refine HM.out.mono ?_; rintro e w2 ⟨lv2, rfl, hO2, hg4, hf4⟩; have HO2 : Hid (Tn w2 w.heap.size lv2 (YW (bodies.take (k + 1)))) := by rw [HT.out]; exact hO2
   have HB3 := Z9 (HB2.out.trans (ZX (B := w.heap.size) hg4 (by omega) (fun j hj => (hlv j hj).1))); clear hO2 hg4 hf4 HM c0 c1 c2 c3 e0 e1 e2 e3; go_wp2_with fail; go_roundw
   case rel => exact ⟨k + 1, by omega, by go_num, HO2, HB3⟩
   case measure => simp [intOf]; omega
  ·have hO2 := HO.out
   rw [List.take_of_length_le (by omega)] at hO2; obtain ⟨la, lc, rfl⟩ := Yg hO2.1; obtain ⟨all, hall⟩ : ∃ all, YW bodies = all := ⟨_, rfl⟩; rw [hall] at hO2 htl Kr; simp only [hall]; have hlv := Zw hO2.1; have hg3 := Z8 wr (.cells #[.slice none 0 0, .slice la all.length lc] 27); have gA := ZV wr (.cells #[.slice none 0 0, .slice la all.length lc] 27); have HO3 := Z9 (hO2.grown hg3 (by nofun)); have HC := Z9 (Cz _ la lc all _ gA w.heap.size HO3.out (by omega)); have HB3 := Z9 (HB.out.trans (ZX hg3 HB.out.size (by nofun))); have wT := hg3.size; clear gA hg3 hO2; go_wp2_with fail; refine HC.out.mono ?_; rintro e w2 ⟨cv, rfl, hcv, hgc⟩; obtain ⟨ca, cc, rfl⟩ := Yg hcv; have hT2 : Xv w2 (.slice ca all.length cc) all := Xn hcv; have HT2 := Z9 hT2; have HB4 := Z9 (HB3.out.trans (ZX (B := w.heap.size) hgc HB3.out.size (by nofun))); have HO4 := Z9 (HO3.out.grown hgc (by nofun)); have SL := Z9 (Below.refl w2.heap.size w2); clear hcv hgc HC hT2; have jJ : all.length <= 9223372036854775807 := by omega
   go_wp2_with fail; go_loopw [34] (fun i wr => ∃ k : Nat, k <= all.length /\ i = .int .i64 k /\ Hid ((all.take k).any Vm = false) /\ Hid (Below w2.heap.size w2 wr)) (fun i _ => all.length - (intOf i).toNat)
   case atStart => exact ⟨0, Nat.zero_le _, rfl, rfl, SL⟩
   case round =>
    obtain ⟨k, hk, rfl, hno, HB⟩ := hrel; by_cases hkl : k < all.length
    ·obtain ⟨tb, FJ, tc', zA, _, _, t0⟩ := Vj (Xe.below HT2.out HB.out) k hkl
     obtain rfl := (Value.slice.inj zA).1; have HQ := Z9 (zk (all.getD k default) wr); have Hn := Z9 (TY default all Vm k hkl hno.out); have Hy := Z9 (Sw default all Vm k hkl); have hq := CB (all.getD k default); generalize all.getD k default = x at *; clear zA; obtain ⟨q1, hq1⟩ : ∃ q1, (Um x).1 = q1 := ⟨_, rfl⟩; obtain ⟨q2, hq2⟩ : ∃ q2, (Um x).2 = q2 := ⟨_, rfl⟩; unfold AL at HQ; rw [hq1, hq2] at HQ; rw [hq2] at hq; clear hq1 hq2; rcases hq with ⟨rfl, hq⟩ | ⟨hqe, hq⟩
     ·have HN := Z9 (Hn.out hq)
      go_wp2_with fail; refine HQ.out.mono ?_; rintro e w3 ⟨rfl, hb3⟩; have HB5 := Z9 (HB.out.trans (hb3.mono HB.out.size)); clear hb3; go_wp2_with fail; go_roundw
      case rel => exact ⟨k + 1, by omega, by go_num, HN, HB5⟩
      case measure => simp [intOf]; omega
     ·have HN := Z9 (Hy.out hq)
      have ab0 : (q2 == 0) = false := Zt hqe; go_wp2_with fail; refine HQ.out.mono ?_; rintro e w3 ⟨rfl, hb3⟩; have HB5 := Z9 (HB4.out.trans ((HB.out.trans (hb3.mono HB.out.size)).mono HB4.out.size)); clear hb3; go_wp2; go_ret2; exact ⟨HB5.out, by rw [hall]; exact .inl ⟨HN.out, rfl⟩⟩
    ·have Lp := hno.out
     rw [List.take_of_length_le (by omega)] at Lp; have lM := Z9 Lp; have HB5 := Z9 (HB4.out.trans (HB.out.mono HB4.out.size)); have HO5 := Z9 (HO4.out.grown (Yf HB.out) (by nofun)); clear Lp; go_wp2_with fail; refine (Br _).mono ?_; rintro e w' ⟨rfl, rfl⟩; go_wp2_with fail; go_loop [51] (fun i => i = .int .i64 0) (fun _ => 0)
     case atStart => rfl
     case round =>
      subst hrel; have hgm := Z8 wr (.map #[] 0); have HS6 : Hid (UN (wr.alloc (.map #[] 0)) wr.heap.size [] 0) := UN.start; have HO6 := Z9 (HO5.out.grown hgm (by nofun)); have HB6 := Z9 (HB5.out.trans (ZX (B := w.heap.size) hgm HB5.out.size (by nofun))); have ab1 : (wr.alloc (.map #[] 0)).heap.size = wr.heap.size + 1 := by simp
      have iq := HB5.out.size; have aal := Zw HO5.out.1; clear hgm; go_wp2_with fail; generalize wr.alloc (.map #[] 0) = W at *; generalize wr.heap.size = mb at *; have IY := Z9 (Below.refl mb W); have PG : Hid (Tn W (mb + 1) (.slice none 0 0) []) := Tn.nil _ _; go_loopw [13, 60] (fun ov i wr => ∃ k : Nat, k <= all.length /\ i = .int .i64 k /\ Hid (Tn wr (mb + 1) ov (dedup (all.take k))) /\ Hid (UN wr mb (dedup (all.take k)) k) /\ Hid (Below mb W wr)) (fun _ i _ => all.length - (intOf i).toNat)
      case atStart => exact ⟨0, Nat.zero_le _, rfl, by rw [List.take_zero]; exact PG, by rw [List.take_zero]; exact HS6, IY⟩
      case round =>
       obtain ⟨k, hk, rfl, ig, HS, HB⟩ := hrel; have CK := HB.out.size; have hdl := NG (all.take k); have htk : (all.take k).length <= k := by rw [List.length_take]; omega
       have aam := Zw ig.out.1; by_cases hkl : k < all.length
       ·have hO7 := Zw HO6.out.1
        have HO7 : Hid (Tn wr w.heap.size (.slice la all.length lc) all) := ⟨by
         obtain ⟨h1, h2⟩ := HO6.out.1; refine ⟨h1, ?_⟩; rcases h2 with h2 | ⟨g, cap, cur, hv, hb, hh, hrest⟩
         ·exact .inl h2
         ·exact .inr ⟨g, cap, cur, hv, hb, (HB.out.block g (by
           have := aal g (by rw [hv]; rfl); omega)).trans hh, hrest⟩, HO6.out.2⟩
        obtain ⟨tb, FJ, tc', zA, _, _, t0⟩ := Vj HO7.out.texts k hkl; obtain rfl := (Value.slice.inj zA).1; have hsx := Kr.out _ (Zr default all k hkl); have QN := HS.out.look (all.getD k default) hsx; have hdt := CF all k hkl; have zy := Z9 (HS.out.put (by omega) (all.getD k default) hsx); unfold U0 at hdt; generalize all.getD k default = x at *; obtain ⟨bb, hbb⟩ : ∃ bb, (X5 (dedup (all.take k)) x).isSome = bb := ⟨_, rfl⟩; rw [hbb] at QN hdt; clear zA hbb hsx hO7; cases bb
        ·rw [Z7 (by simp)] at hdt
         obtain ⟨V', hput, hS2, hg2⟩ := zy.out; rw [<- hdt] at hS2; have gZ := ig.out.grown hg2 (fun j hj e => by cases hj; have := (aam _ e).1; omega); obtain ⟨oa, oc, rfl⟩ := Yg ig.out.1; have HBP := Z9 (HB.out.trans (ZX (B := mb) hg2 (by omega) (fun j hj => by cases hj; exact Nat.le_refl _))); have HS2 := Z9 hS2; have gU := Z9 gZ; have ab2 := hg2.size; have HDT := Z9 hdt; clear hS2 gZ hg2 hdt zy; go_wp2_with (at_builtin; refine wpList_append_lies _ rfl _ _ 27 rfl (mb + 1) 9 is0 (.string ByteArray.empty) 1 16 Tryz.underlying27 his Qc PK Qb rfl (by decide) _ (dedup (all.take k)).length (strCells (dedup (all.take k))) rfl (gU.out.1.alloc _) ⟨V'.heap.size, 0, none⟩ 1 1 [.string x] rfl rfl ?c1 ?c2 (by decide) ?c3 ?c4 ?c5 _ rfl ?_)
         case c1 => exact World.news_of_block (cs := #[.string x]) (ZV V' _)
         case c2 => intro u hu; simp at hu; subst hu; rfl
         case c3 => unfold maxLen; omega
         case c4 => omega
         case c5 => simp; omega
         intro g8 CY w8 M0 U9 CX iM; have hg7 := Z8 V' (.cells #[.string x] 9); have lK := Zw (gU.out.grown hg7 (by nofun)).1; have HO8 : Hid (Tn w8 (mb + 1) (.slice (some ⟨g8, 0, none⟩) ((dedup (all.take k)).length + 1) CY) (dedup (all.take (k + 1)))) := ⟨by rw [HDT.out, VN, List.length_append, List.length_singleton]; exact M0, fun e => by rw [HDT.out] at e; simp at e⟩; have HS8 := Z9 (HS2.out.stays ((U9.block mb (by have := HS2.out.lt; simp; omega) (fun e => by have := (lK mb e.symm).1; omega)).trans (hg7.block mb HS2.out.lt (by nofun)))); have HB8 := Z9 ((HBP.out.trans (ZX (B := mb) hg7 (by omega) (by nofun))).trans (ZX (B := mb) U9 (by have := hg7.size; omega) (fun j hj => by have := (lK j hj).1; omega))); clear hg7 lK M0 U9 CX; go_wp2_with fail; go_roundw
         case rel => exact ⟨k + 1, by omega, by go_num, HO8, HS8, HB8⟩
         case measure => simp [intOf]; omega
        ·rw [ZY rfl] at hdt
         have HO8 : Hid (Tn wr (mb + 1) u13 (dedup (all.take (k + 1)))) := by rw [hdt]; exact ig
         have HS8 : Hid (UN wr mb (dedup (all.take (k + 1))) (k + 1)) := by rw [hdt]; exact HS.out.mono
         clear hdt zy; go_wp2_with fail; go_roundw
         case rel => exact ⟨k + 1, by omega, by go_num, HO8, HS8, HB⟩
         case measure => simp [intOf]; omega
       ·have hO8 := ig.out
        rw [List.take_of_length_le (by omega)] at hO8; obtain ⟨oa, oc, rfl⟩ := Yg hO8.1; have HT8 := Z9 hO8.texts; have HTB := Z9 (fun g hg => show w.heap.size <= g from by have := (Zw hO8.1 g hg).1; omega); have HB8 := Z9 (HB6.out.trans (HB.out.mono iq)); have ab3 := NG all; clear hO8; by_cases h1000 : 1000 < ((dedup all).length : Int)
        ·go_wp2
         go_ret2; refine ⟨HB8.out, ?_⟩
         try rw [hall]
         exact .inr (.inl ⟨lM.out, by omega, rfl⟩)
        ·go_wp2
         go_ret2; refine ⟨HB8.out, ?_⟩
         try rw [hall]
         exact .inr (.inr ⟨lM.out, by omega, _, rfl, HT8.out, HTB.out⟩)
theorem uP : (Tryz.prog.info? 36).map (fun i => (i.zero, i.size, i.bytes)) = some (some (.agg #[.int .i64 0, .int .i64 0, .string ByteArray.empty, .slice none 0 0]), 4, 56) := by kernel_rfl
theorem uO : (Tryz.prog.info? 53).map (fun i => (i.zero, i.size, i.bytes)) = some (some (.agg #[.int .i64 0, .int .i64 0, .int .i64 0, .slice none 0 0]), 4, 48) := by kernel_rfl
theorem Qp : (Tryz.prog.info? 29).map (·.size) = some 3 := by kernel_rfl
theorem qx {V : World} {R : Nat} {x y z : Value} (h : V.heap[R]? = some (.cells #[x, y, z] 29 (0, 0))) (a b c : Value) : (((V.setCell ⟨R, 0, none⟩ a).setCell ⟨R, 1, none⟩ b).setCell ⟨R, 2, none⟩ c).heap[R]? = some (.cells #[a, b, c] 29 (0, 0)) /\ V.grownBy (((V.setCell ⟨R, 0, none⟩ a).setCell ⟨R, 1, none⟩ b).setCell ⟨R, 2, none⟩ c) (some R) :=
 ⟨ZL (ZL (ZL h _) _) _, VD (VD (Zv V R 0 a) (Zv _ R 1 b)) (Zv _ R 2 c)⟩
theorem ND {w w' : World} {v : Value} {n : Nat} {xs : List Value} (h : Xe w v n xs) (hs : w.heap.size <= w'.heap.size) (hk : ∀ g, v.ownBlock = some g -> w'.heap[g]? = w.heap[g]?) : Xe w' v n xs := by
 obtain ⟨a, c, rfl, hlc, hl⟩ := h
 refine ⟨a, c, rfl, hlc, fun hne => ?_⟩
 obtain ⟨b, off, rfl, hlt, hc⟩ := hl hne
 exact ⟨b, off, rfl, by omega, fun j hj => by rw [<- hc j hj]; unfold World.cell?; rw [show w'.heap[b]? = _ from hk b rfl]⟩
def Lm (ts : List ByteArray) (f : ZJ) (g : WU) : Prop := g.c = f.caps /\ g.l = Xm 1 f.body /\ Whole g.code (Ux ts) f.body /\ TA g.code g.d 0
def allT (fl : List ZJ) : List ByteArray := YW (fl.map ZJ.body)
def qw (fl : List ZJ) (main : Int) (w : World) (e : Ending) (w' : World) : Prop :=
 Below w.heap.size w w' /\ ((XI fl main = false /\ e = .returned (.tuple #[.agg #[.slice none 0 0, .slice none 0 0, .int .i64 0], .int .i64 1])) \/
  (XI fl main = true /\ (allT fl).any Vm = true /\ e = .returned (.tuple #[.agg #[.slice none 0 0, .slice none 0 0, .int .i64 0], .int .i64 3])) \/
  (XI fl main = true /\ (allT fl).any Vm = false /\ 1000 < (dedup (allT fl)).length /\ e = .returned (.tuple #[.agg #[.slice none 0 0, .slice none 0 0, .int .i64 0], .int .i64 5])) \/
  (XI fl main = true /\ (allT fl).any Vm = false /\ (dedup (allT fl)).length <= 1000 /\ ∃ (fv tv : Value) (Zu : List WU), e = .returned (.tuple #[.agg #[fv, tv, .int .i64 main], .int .i64 0]) /\ Rp w' fv tv ⟨Zu, dedup (allT fl), main⟩ /\ Zu.length = fl.length /\ ∀ i, i < fl.length -> Lm (dedup (allT fl)) (fl.getD i default) (Zu.getD i default)))
structure Sb (V : World) (pb B2 : Nat) (fv : Value) (Zu : List WU) : Prop where
 own : V.ownsRow B2 53 4 fv Zu.length (XE Zu)
 code : ∀ f ∈ Zu, VE V f.v f.code /\ ∀ g, f.v.ownBlock = some g -> pb < g /\ g < V.heap.size /\ fv.ownBlock ≠ some g
theorem U3 {fl : List ZJ} {main : Int} (h : XI fl main = true) : fl.length <= 4096 /\ 0 < fl.length /\ 0 <= main /\ main < fl.length /\ (fl.getD main.toNat default).caps = 0 /\ ∀ f ∈ fl, V6 (YM fl) f = true := by
 unfold XI at h
 simp only [Bool.and_eq_true] at h
 obtain ⟨h1, h2, h3, h4⟩ := h
 unfold Y7 at h1 h2
 simp at h1 h2
 refine ⟨by omega, by omega, by omega, by omega, by simpa using h3, fun f hf => ?_⟩
 exact List.all_eq_true.1 h4 f hf
theorem FD {fl : List ZJ} {f : ZJ} (h : V6 (YM fl) f = true) : 0 <= f.caps /\ f.caps <= 1000 := by
 unfold V6 at h
 rw [Bool.and_eq_true] at h
 have := h.1
 unfold Y7 at this
 simpa using this
theorem JL (fl : List ZJ) (k : Nat) (h : k < fl.length) : (fl.map ZJ.body).take (k + 1) = (fl.map ZJ.body).take k ++ [(fl.getD k default).body] := by
 rw [take_one default _ k (by simpa using h)]
 simp [List.getD, h]
theorem Cy {caps : Int} {Ze : Int -> Int -> Bool} (x : Z0) : ∀ loc, ZI caps Ze loc x = true -> ∀ s ∈ YK x, s.size <= 16384 := by
 induction x using Z0.induct with
 | h op n s lv l ih =>
   intro loc h t ht; obtain ⟨h1, h2⟩ := Za h; rw [YG] at ht; by_cases h3 : op = 3
   ·subst h3
    rw [ZY rfl] at ht; have := (Sd h1).1; simp at this; simp at ht; subst ht; exact this.2.2
   ·rw [Z7 h3] at ht
    have : ∀ l' : List Z0, (∀ y ∈ l', y ∈ l) -> t ∈ YW l' -> ∃ y ∈ l, t ∈ YK y := fun l' => by
     induction l' with
     | nil => intro _ h; rw [X0] at h; cases h
     | cons x r ih2 =>
       intro hm h; rw [YZ] at h; rcases List.mem_append.1 h with h | h
       ·exact ⟨x, hm x (by simp), h⟩
       ·exact ih2 (fun y hy => hm y (by simp [hy])) h
    obtain ⟨y, hy, hty⟩ := this l (fun _ h => h) ht; obtain ⟨k, hk, rfl⟩ := List.mem_iff_getElem.1 hy; have := h2 k hk; rw [show l.getD k default = l[k] by simp [List.getD, hk]] at this; exact ih _ hy _ this t hty
theorem NC {fl : List ZJ} (h : ∀ f ∈ fl, V6 (YM fl) f = true) : ∀ s ∈ allT fl, s.size <= 16384 := by
 intro s hs
 have : ∀ l' : List ZJ, (∀ y ∈ l', y ∈ fl) -> s ∈ YW (l'.map ZJ.body) -> ∃ f ∈ fl, s ∈ YK f.body := fun l' => by
  induction l' with
  | nil => intro _ h; rw [List.map_nil, X0] at h; cases h
  | cons x r ih2 =>
    intro hm h; rw [List.map_cons, YZ] at h; rcases List.mem_append.1 h with h | h
    ·exact ⟨x, hm x (by simp), h⟩
    ·exact ih2 (fun y hy => hm y (by simp [hy])) h
 obtain ⟨f, hf, hsf⟩ := this fl (fun _ h => h) hs
 have := h f hf
 unfold V6 at this
 rw [Bool.and_eq_true] at this
 exact Cy f.body 1 this.2 s hsf
theorem NA {l : List ByteArray} {s : ByteArray} (h : s ∈ dedup l) : s ∈ l := by
 have : ∀ (l acc : List ByteArray), s ∈ l.foldl U0 acc -> s ∈ acc \/ s ∈ l := fun l => by
  induction l with
  | nil => intro acc h; exact .inl h
  | cons x r ih =>
    intro acc h; rw [List.foldl_cons] at h; rcases ih _ h with h | h
    ·unfold U0 at h
     split at h
     ·exact .inl h
     ·rcases List.mem_append.1 h with h | h
      ·exact .inl h
      ·simp at h; subst h; exact .inr (by simp)
    ·exact .inr (by simp [h])
 rcases this l [] h with h | h
 ·cases h
 ·exact h
theorem P7 (l : List Z0) (x : Z0) : ZR (l ++ [x]) = ZR l ++ [.int .i64 x.op, .int .i64 x.n, .string x.s, x.lv] := by simp [ZR, TK]
theorem Ko (l : List WU) (f : WU) : XE (l ++ [f]) = XE l ++ [.int .i64 f.c, .int .i64 f.l, .int .i64 f.d, f.v] := by simp [XE]
theorem Sb.stays {V V' : World} {pb B2 : Nat} {fv : Value} {Zu : List WU} {r : Option Nat} (h : Sb V pb B2 fv Zu) (hg : V.grownBy V' r) (hr : ∀ j, r = some j -> j <= pb) (hB : pb < B2) : Sb V' pb B2 fv Zu :=
 ⟨Zx h.own hg (fun k hk e => by have := (Zw h.own _ e).1; have := hr k hk; omega), fun f hf => by
   obtain ⟨h1, h2⟩ := h.code f hf; exact ⟨ND h1 hg.size fun g hgv => hg.block g (h2 g hgv).2.1 (fun e => by have := hr g e.symm; have := (h2 g hgv).1; omega), fun g hgv => ⟨(h2 g hgv).1, Nat.lt_of_lt_of_le (h2 g hgv).2.1 hg.size, (h2 g hgv).2.2⟩⟩⟩
theorem Cx {V : World} {R g : Nat} {a b c : Value} (h : g ≠ R) : (((V.setCell ⟨R, 0, none⟩ a).setCell ⟨R, 1, none⟩ b).setCell ⟨R, 2, none⟩ c).heap[g]? = V.heap[g]? :=
 (Below.heap_setCell _ _ _ _ h).trans ((Below.heap_setCell _ _ _ _ h).trans (Below.heap_setCell _ _ _ _ h))
theorem Qo {V : World} {R : Nat} (gR : V.heap[R]? = some (.cells #[.slice none 0 0, .slice none 0 0, .int .i64 0] 29 (0, 0))) : (V.frozen? ⟨R, 0, none⟩ = false /\ V.frozen? ⟨R, 1, none⟩ = false /\ V.frozen? ⟨R, 2, none⟩ = false) /\ V.cell? ⟨R, 0, none⟩ = some (.slice none 0 0) /\ V.cell? ⟨R, 1, none⟩ = some (.slice none 0 0) /\ V.cell? ⟨R, 2, none⟩ = some (.int .i64 0) :=
 ⟨⟨Lib.frozen_of_heap gR 0, Lib.frozen_of_heap gR 1, Lib.frozen_of_heap gR 2⟩, by simp [World.cell?, gR], by simp [World.cell?, gR], by simp [World.cell?, gR]⟩
theorem Sb.push {V V' : World} {pb B2 g cap : Nat} {fv : Value} {Zu : List WU} {f : WU} (h : Sb V pb B2 fv Zu) (hf : VE V f.v f.code) (Ll : ∀ j, f.v.ownBlock = some j -> pb < j /\ j < V.heap.size /\ fv.ownBlock ≠ some j)
 (hown : V'.ownsRow B2 53 4 (.slice (some ⟨g, 0, none⟩) (Zu.length + 1) cap) (Zu.length + 1) (XE Zu ++ [.int .i64 f.c, .int .i64 f.l, .int .i64 f.d, f.v])) (hg : V.grownBy V' fv.ownBlock) (hat : fv.ownBlock = some g \/ V.heap.size <= g) :
 Sb V' pb B2 (.slice (some ⟨g, 0, none⟩) (Zu.length + 1) cap) (Zu ++ [f]) := by
 have step : ∀ x : WU, VE V x.v x.code -> (∀ j, x.v.ownBlock = some j -> pb < j /\ j < V.heap.size /\ fv.ownBlock ≠ some j) -> VE V' x.v x.code /\ ∀ j, x.v.ownBlock = some j -> pb < j /\ j < V'.heap.size /\ (Value.slice (some ⟨g, 0, none⟩) (Zu.length + 1) cap).ownBlock ≠ some j := fun x h1 h2 =>
  ⟨ND h1 hg.size fun j hj => hg.block j (h2 j hj).2.1 (fun e => (h2 j hj).2.2 e.symm), fun j hj => ⟨(h2 j hj).1, Nat.lt_of_lt_of_le (h2 j hj).2.1 hg.size, fun e => by
    have e2 : g = j := Option.some.inj e; subst e2; rcases hat with e3 | e3
    ·exact (h2 g hj).2.2 e3
    ·have := (h2 g hj).2.1; omega⟩⟩
 refine ⟨by rw [Ko, List.length_append, List.length_singleton]; exact hown, fun x hx => ?_⟩
 rcases List.mem_append.1 hx with hx | hx
 ·exact step x (h.code x hx).1 (h.code x hx).2
 ·simp at hx; subst hx; exact step x hf Ll
theorem Sb.lJ {V : World} {pb B2 : Nat} {fv : Value} {Zu : List WU} (h : Sb V pb B2 fv Zu) : Tc V fv Zu := ⟨Xn h.own, fun f hf => (h.code f hf).1⟩
theorem FC (B : Nat) (fv : Value) (fl : List ZJ) (main : Int) (w : World) (hF : Xh B w fv fl) (hBw : B <= w.heap.size) (hfit : Fit fl) :
 Calls Tryz.prog 7 #[fv, .int .i64 main] w (qw fl main w) := by
 obtain ⟨hfl, hfs, hfh⟩ := hfit
 have hsz : ∀ f ∈ fl, YO f.body <= 600 /\ Y5 f.body <= 211 := fun f hf => ⟨by
  have : YO f.body <= Yv (fl.map ZJ.body) := RS (List.mem_map_of_mem hf); unfold Uz at hfs; omega, hfh f hf⟩
 have aan := Z9 hsz
 have HF := Z9 hF
 have hgR := Z8 w (.cells #[.slice none 0 0, .slice none 0 0, .int .i64 0] 29)
 have gR := ZV w (.cells #[.slice none 0 0, .slice none 0 0, .int .i64 0] 29)
 have hBR := ZX hgR (Nat.le_refl _) (by nofun)
 have hm' : fl.length <= 9223372036854775807 := by omega
 have HV := Z9 (LB B fv fl main (w.alloc (.cells #[.slice none 0 0, .slice none 0 0, .int .i64 0] 29)) (hF.under (hBR.mono hBw)) (by have := hgR.size; omega) hsz)
 have HVA := Z9 (@U3 fl main)
 obtain ⟨⟨fa, fc, rfl, hfc, _⟩, _⟩ := hF
 have SL := Z9 hBR
 have lX := Z9 gR
 have ab4 := hgR.size
 clear hgR hBR hsz gR
 obtain ⟨bb, hbb⟩ : ∃ bb, XI fl main = bb := ⟨_, rfl⟩
 have VU := Z9 hbb
 rw [hbb] at HV
 clear hbb
 go_in
 go_wp2_with fail
 generalize w.alloc (.cells #[.slice none 0 0, .slice none 0 0, .int .i64 0] 29) = W at *
 refine HV.out.mono ?_
 rintro e w2 ⟨rfl, hb2⟩
 have gR2 := (hb2.block _ (Z6 lX.out)).trans lX.out
 have HB2 := Z9 (SL.out.trans (hb2.mono SL.out.size))
 have lI := Z9 gR2
 obtain ⟨⟨vS, DC, Dz⟩, r0, r1, r2⟩ := Qo gR2
 clear hb2 gR2 HV
 cases bb
 ·obtain ⟨gs, hgs⟩ := qx lI.out (.slice none 0 0) (.slice none 0 0) (.int .i64 0)
  have hbs := HB2.out.trans (ZX (B := w.heap.size) hgs HB2.out.size (fun k hk => by cases hk; exact Nat.le_refl _)); have nV := Z9 gs; have lH := Z9 hbs; clear gs hgs hbs; go_wp2_with fail; have hg1 := nV.out; refine Y4 (v := .tuple #[.agg #[.slice none 0 0, .slice none 0 0, .int .i64 0], .int .i64 1]) ?_ rfl ⟨lH.out, .inl ⟨VU.out, rfl⟩⟩; rw [results_cell_tmp (p := 4) (u := 5) (ty := 29) rfl]; simp [asAddr, run_loadVar_row _ _ _ _ _ _ _ hg1 Tryz.underlying29 rfl Qp, Result.andThen]
  try rfl
 ·obtain ⟨hl4, hl0, aao, aap, hcm, hfun⟩ := HVA.out VU.out
  have Fz := Z9 hfun; have HCM := Z9 hcm; clear hfun hcm vS DC Dz r0 r1 r2 HVA; have IY := Z9 (Below.refl w2.heap.size w2); obtain ⟨ie0, hie, gT, gQ, gL⟩ := info_parts uP; obtain ⟨if0, hif, gK, gJ, gH⟩ := info_parts uO; have hsz2 := HB2.out.size; have hR2 := Z6 lI.out; go_wp2_with fail; go_loopw [6, 23] (fun bv i wr => ∃ k : Nat, k <= fl.length /\ i = .int .i64 k /\ Hid (wr.ownsRow w2.heap.size 36 4 bv k (ZR ((fl.map ZJ.body).take k))) /\ Hid (Below w2.heap.size w2 wr)) (fun _ i _ => fl.length - (intOf i).toNat)
  case atStart => exact ⟨0, Nat.zero_le _, rfl, World.ownsRow_nil _ _ _ _, IY⟩
  case round =>
   obtain ⟨k, hk, rfl, HO, HB⟩ := hrel; have CK := HB.out.size; by_cases hkl : k < fl.length
   ·have hbw : Below w.heap.size w wr := HB2.out.trans (HB.out.mono hsz2)
    have KA := HF.out.under (hbw.mono hBw); obtain ⟨b, off, c', ha, _, Rx, c0, c1, c2, c3, c4⟩ := VT KA.1 k hkl; obtain rfl := (Value.slice.inj ha).1; have hmem := Zr default fl k hkl; have hxk := KA.2.2 _ hmem; have HT := Z9 (JL fl k hkl); generalize fl.getD k default = f at *; clear ha hmem KA; obtain ⟨caps, ⟨xo, xn, xs, xv, xl⟩⟩ := f; obtain ⟨xa, xc, hxv, _⟩ := hxk.parts.1; subst hxv; simp only [Z0.op, Z0.n, Z0.s, Z0.lv] at c0 c1 c2 c3 c4; have hg3 := Z8 wr (.cells #[.int .i64 caps, .int .i64 xo, .int .i64 xn, .string xs, .slice xa xl.length xc] 38); have gX := ZV wr (.cells #[.int .i64 caps, .int .i64 xo, .int .i64 xn, .string xs, .slice xa xl.length xc] 38); obtain ⟨e0, e1, e2, e3, e4⟩ := XR gX; obtain ⟨oa, oc, rfl⟩ := Yg HO.out; have hown0 := Zw HO.out; have HO3 := Z9 (Zx HO.out hg3 (by nofun)); have HB3 := Z9 (HB.out.trans (ZX (B := w2.heap.size) hg3 CK (by nofun))); have lS := hg3.size; clear hg3 gX hxk hbw; generalize hW3 : wr.alloc (.cells #[.int .i64 caps, .int .i64 xo, .int .i64 xn, .string xs, .slice xa xl.length xc] 38) = W3 at *; go_wp2_with (at_builtin; refine wpList_append_lies _ rfl _ _ 34 rfl w2.heap.size 36 ie0 (.agg #[.int .i64 0, .int .i64 0, .string ByteArray.empty, .slice none 0 0]) 4 56 Tryz.underlying34 hie gT gQ gL rfl (by decide) _ k (ZR ((fl.map ZJ.body).take k)) rfl (HO3.out.alloc _) ⟨W3.heap.size, 0, none⟩ 1 1 [.int .i64 xo, .int .i64 xn, .string xs, .slice xa xl.length xc] rfl rfl ?d1 ?d2 (by decide) ?d3 ?d4 ?d5 _ rfl ?_)
    case d2 => exact ⟨rfl, rfl, rfl, rfl⟩
    case d3 => unfold maxLen; omega
    case d4 => omega
    case d5 => omega
    intro g4 cap4 w4 Vl WS OO Kv; have hg7 := Z8 W3 (.cells #[.int .i64 xo, .int .i64 xn, .string xs, .slice xa xl.length xc] 36); have HO8 : Hid (w4.ownsRow w2.heap.size 36 4 (.slice (some ⟨g4, 0, none⟩) (k + 1) cap4) (k + 1) (ZR ((fl.map ZJ.body).take (k + 1)))) := by rw [HT.out, P7]; exact Vl
    have HB8 := Z9 ((HB3.out.trans (ZX (B := w2.heap.size) hg7 (by omega) (by nofun))).trans (ZX (B := w2.heap.size) WS (by have := hg7.size; omega) (fun j hj => (hown0 j hj).1))); clear hg7 Vl WS OO hW3; go_wp2_with fail; go_roundw
    case rel => exact ⟨k + 1, by omega, by go_num, HO8, HB8⟩
    case measure => simp [intOf]; omega
   ·obtain rfl : k = fl.length := by omega
    have hO8 := HO.out; rw [List.take_of_length_le (by simp)] at hO8; obtain ⟨oa, oc, rfl⟩ := Yg hO8; have hbw : Below w.heap.size w wr := HB2.out.trans (HB.out.mono hsz2); have qp := Z9 hbw; have hrow : Uu wr.heap.size wr (.slice oa fl.length oc) (fl.map ZJ.body).length (ZR (fl.map ZJ.body)) := by rw [List.length_map]; exact Xn hO8
    have KA := HF.out.under (hbw.mono hBw); have hbs : ∀ y ∈ fl.map ZJ.body, Y0 wr.heap.size wr y := fun y hy => by
     obtain ⟨f, hf, rfl⟩ := List.mem_map.1 hy; exact (KA.2.2 f hf).mono (by omega)
    have uN := Z9 (uQ _ (fl.map ZJ.body) wr hrow hbs (by unfold Uz at hfs; omega) (fun s hs => by have := NC Fz.out s hs; unfold maxLen; omega)); have uT := (HB.out.block _ hR2).trans lI.out; have aaq := Z9 uT; have aar := Z6 uT; clear hO8 hrow KA hbs hbw uT; have hall : YW (fl.map ZJ.body) = allT fl := rfl; rw [hall] at uN; clear hall; obtain ⟨all, hae⟩ : ∃ all, allT fl = all := ⟨_, rfl⟩; have lG := Z9 hae; have hsa := NC Fz.out; rw [hae] at uN hsa; have HSA := Z9 hsa; clear hae hsa; go_wp2_with fail; refine uN.out.mono ?_; rintro e w3 ⟨hb3, hcase⟩; have HB3 := Z9 (qp.out.trans (hb3.mono qp.out.size)); have gR3 := (hb3.block _ aar).trans aaq.out; have lF := Z9 gR3; have wT := hb3.size; clear hb3; rcases hcase with ⟨hq, rfl⟩ | ⟨hq, hlen, rfl⟩ | ⟨hq, hlen, tv, rfl, hT, htb⟩
    ·obtain ⟨⟨vS, DC, Dz⟩, r0, r1, r2⟩ := Qo gR3
     obtain ⟨gs, hgs⟩ := qx gR3 (.slice none 0 0) (.slice none 0 0) (.int .i64 0); have hbs := HB3.out.trans (ZX (B := w.heap.size) hgs HB3.out.size (fun k hk => by cases hk; exact Nat.le_refl _)); have nV := Z9 gs; have lH := Z9 hbs; have HQ := Z9 hq; clear gs hgs hbs gR3 hq; go_wp2_with fail; have hg1 := nV.out; refine Y4 (v := .tuple #[.agg #[.slice none 0 0, .slice none 0 0, .int .i64 0], .int .i64 3]) ?_ rfl ⟨lH.out, .inr (.inl ⟨VU.out, by rw [lG.out]; exact HQ.out, rfl⟩)⟩; rw [results_cell_tmp (p := 4) (u := 5) (ty := 29) rfl]; simp [asAddr, run_loadVar_row _ _ _ _ _ _ _ hg1 Tryz.underlying29 rfl Qp, Result.andThen]
     try rfl
    ·obtain ⟨⟨vS, DC, Dz⟩, r0, r1, r2⟩ := Qo gR3
     obtain ⟨gs, hgs⟩ := qx gR3 (.slice none 0 0) (.slice none 0 0) (.int .i64 0); have hbs := HB3.out.trans (ZX (B := w.heap.size) hgs HB3.out.size (fun k hk => by cases hk; exact Nat.le_refl _)); have nV := Z9 gs; have lH := Z9 hbs; have HQ := Z9 hq; have gG := Z9 hlen; clear gs hgs hbs gR3 hq hlen; go_wp2_with fail; have hg1 := nV.out; refine Y4 (v := .tuple #[.agg #[.slice none 0 0, .slice none 0 0, .int .i64 0], .int .i64 5]) ?_ rfl ⟨lH.out, .inr (.inr (.inl ⟨VU.out, by rw [lG.out]; exact HQ.out, by rw [lG.out]; exact gG.out, rfl⟩))⟩; rw [results_cell_tmp (p := 4) (u := 5) (ty := 29) rfl]; simp [asAddr, run_loadVar_row _ _ _ _ _ _ _ hg1 Tryz.underlying29 rfl Qp, Result.andThen]
     try rfl
    ·have HQ := Z9 hq
     have HT3 := Z9 hT; have HTB := Z9 htb; obtain ⟨ts, hts⟩ : ∃ ts, dedup all = ts := ⟨_, rfl⟩; have rD := Z9 hts; rw [hts] at hlen HT3; have gu : ∀ s ∈ ts, s.size <= maxLen := fun s hs => by
      have := HSA.out s (NA (hts ▸ hs)); unfold maxLen; omega
     have aas := Z9 gu; clear hq hT htb hts gR3 gu; obtain ⟨ta, tc, rfl, htc, _⟩ := HT3.out; have bP := Z8 w3 (.cells #[.slice none 0 0, .slice ta ts.length tc, .int .i64 main] 29); have gPB := ZV w3 (.cells #[.slice none 0 0, .slice ta ts.length tc, .int .i64 main] 29); have aat := Z9 gPB; have HBP := Z9 (Below.refl w3.heap.size (w3.alloc (.cells #[.slice none 0 0, .slice ta ts.length tc, .int .i64 main] 29))); have HTP : Hid (Uu w3.heap.size (w3.alloc (.cells #[.slice none 0 0, .slice ta ts.length tc, .int .i64 main] 29)) (.slice ta ts.length tc) ts.length (strCells ts)) := Uu.kept HT3.out (fun b hb => (ZX bP (Nat.le_refl _) (by nofun)).block b hb); have HB4 := Z9 (HB3.out.trans (ZX (B := w.heap.size) bP HB3.out.size (by nofun))); have ab5 : (w3.alloc (.cells #[.slice none 0 0, .slice ta ts.length tc, .int .i64 main] 29)).heap.size = w3.heap.size + 1 := by simp
     have gR4 := (bP.block _ (Z6 lF.out) (by nofun)).trans lF.out; have qA := Z9 gR4; have abI := Z6 lF.out; have Sn : Hid (Sb (w3.alloc (.cells #[.slice none 0 0, .slice ta ts.length tc, .int .i64 main] 29)) w3.heap.size (w3.heap.size + 1) (.slice none 0 0) []) := ⟨World.ownsRow_nil _ _ _ _, by nofun⟩; clear bP gPB gR4; go_wp2_with fail; generalize w3.alloc (.cells #[.slice none 0 0, .slice ta ts.length tc, .int .i64 main] 29) = W3 at *; have ab6 := wT; generalize hpb : w3.heap.size = pb at *; go_loopw [47] (fun i wr => ∃ (k : Nat) (fvk : Value) (Zu : List WU), i = .int .i64 k /\ k <= fl.length /\ Zu.length = k /\ Hid (Sb wr pb (pb + 1) fvk Zu) /\ Hid (wr.heap[pb]? = some (.cells #[fvk, .slice ta ts.length tc, .int .i64 main] 29 (0, 0))) /\ Hid (Below pb W3 wr) /\ W3.heap.size <= wr.heap.size /\ Hid (∀ i, i < k -> Lm ts (fl.getD i default) (Zu.getD i default))) (fun i _ => fl.length - (intOf i).toNat)
     case atStart => exact ⟨0, .slice none 0 0, [], rfl, Nat.zero_le _, rfl, Sn, aat, HBP, Nat.le_refl _, fun i hi => by omega⟩
     case round =>
      obtain ⟨k, fvk, Zu, rfl, hk, R4, rC, WO, G8, ab7, P6⟩ := hrel; subst R4; have aau : w.heap.size <= pb := by have := qp.out.size; omega
      have hbw : Below w.heap.size w wr := HB4.out.trans (G8.out.mono aau); obtain ⟨va, vc, rfl⟩ := Yg rC.out.own; by_cases hkl : Zu.length < fl.length
      ·have KA := HF.out.under (hbw.mono hBw)
       obtain ⟨b, off, c', ha, _, Rx, c0, c1, c2, c3, c4⟩ := VT KA.1 Zu.length hkl; obtain rfl := (Value.slice.inj ha).1; have hmem := Zr default fl Zu.length hkl; have hxk := KA.2.2 _ hmem; have hTr : Xv wr (.slice ta ts.length tc) ts := (Uu.kept HTP.out G8.out.block).mono (by omega); have uM := zB B fl hl4 (fun f hf => FD (Fz.out f hf)) (fl.getD Zu.length default) (.slice ta ts.length tc) ts; have Ll := Fz.out _ hmem; obtain ⟨hs6, hh2⟩ := aan.out _ hmem; obtain ⟨f, hfe⟩ : ∃ f, fl.getD Zu.length default = f := ⟨_, rfl⟩; have HFE := Z9 hfe; rw [hfe] at c0 c1 c2 c3 c4 hxk uM Ll hs6 hh2; clear ha hmem KA hfe; obtain ⟨caps, ⟨xo, xn, xs, xv, xl⟩⟩ := f; obtain ⟨xa, xc, hxv, _⟩ := hxk.parts.1; subst hxv; simp only [Z0.op, Z0.n, Z0.s, Z0.lv] at c0 c1 c2 c3 c4; have hg3 := Z8 wr (.cells #[.int .i64 caps, .int .i64 xo, .int .i64 xn, .string xs, .slice xa xl.length xc] 38); have gX := ZV wr (.cells #[.int .i64 caps, .int .i64 xo, .int .i64 xn, .string xs, .slice xa xl.length xc] 38); obtain ⟨e0, e1, e2, e3, e4⟩ := XR gX; have lS := hg3.size; have iq := hbw.size; have HM := Z9 (uM _ (by omega) (hxk.grown hg3 (by omega) (by nofun)) Ll hs6 hh2 (Xe.below hTr (ZX hg3 (Nat.le_refl _) (by nofun))) (by omega) aas.out); rw [show TJ ⟨caps, .mk xo xn xs (.slice xa xl.length xc) xl⟩ = .agg #[.int .i64 caps, .int .i64 xo, .int .i64 xn, .string xs, .slice xa xl.length xc] from rfl] at HM; have fZ := Z9 (rC.out.stays hg3 (by nofun) (Nat.lt_succ_self pb)); have CZ := Z9 ((hg3.block _ (Z6 WO.out) (by nofun)).trans WO.out); have aav := Z9 (G8.out.trans (ZX (B := pb) hg3 (by omega) (by nofun))); clear hg3 gX hxk hbw hTr uM Ll; generalize hV1 : wr.alloc (.cells #[.int .i64 caps, .int .i64 xo, .int .i64 xn, .string xs, .slice xa xl.length xc] 38) = V1 at *; go_wp2_with fail; refine HM.out.mono ?_; rintro e V2 ⟨code, d, cv, rfl, hI, hW, hD, hb2, hcb⟩; have uL : Hid (Lm ts ⟨caps, .mk xo xn xs (.slice xa xl.length xc) xl⟩ ⟨caps, Xm 1 (.mk xo xn xs (.slice xa xl.length xc) xl), d, cv, code⟩) := ⟨rfl, rfl, hW, hD⟩; have HI2 := Z9 hI; have hlt2 : ∀ j, cv.ownBlock = some j -> j < V2.heap.size := fun j hj => by
        obtain ⟨ca, cc, rfl, _, hcell⟩ := hI; obtain ⟨b, off, rfl, hlt, _⟩ := hcell (by have := hW.2.1; omega); cases hj; exact hlt
       obtain ⟨ca, cc, rfl, _⟩ := hI; obtain ⟨lx, hlx⟩ : ∃ lx, Xm 1 (.mk xo xn xs (.slice xa xl.length xc) xl) = lx := ⟨_, rfl⟩; rw [hlx] at uL; have hg2 := Yf hb2; have aaw := Z9 (fZ.out.stays hg2 (by nofun) (Nat.lt_succ_self pb)); have vL := Z9 ((hb2.block _ (Z6 CZ.out)).trans CZ.out); have aax := Z9 (aav.out.trans (hb2.mono (by omega))); have abJ := hb2.size; have HCB := Z9 hcb; have ab8 := Z6 CZ.out; have hg4 := Z8 V2 (.cells #[.int .i64 caps, .int .i64 lx, .int .i64 d, .slice ca code.length cc] 53); have gY := ZV V2 (.cells #[.int .i64 caps, .int .i64 lx, .int .i64 d, .slice ca code.length cc] 53); obtain ⟨q0, q1, q2, q3⟩ := WQ gY; have fV := Z9 (aaw.out.stays hg4 (by nofun) (Nat.lt_succ_self pb)); have gP4 := (hg4.block _ (Z6 vL.out) (by nofun)).trans vL.out; have aay := Z9 (aax.out.trans (ZX (B := pb) hg4 (by omega) (by nofun))); have abK := hg4.size; have HI4 : Hid (VE (V2.alloc (.cells #[.int .i64 caps, .int .i64 lx, .int .i64 d, .slice ca code.length cc] 53)) (.slice ca code.length cc) code) := Xe.below HI2.out (ZX hg4 (Nat.le_refl _) (by nofun)); have HOL := Z9 (Zw fZ.out.own); have aaz : Hid (∀ j, (Value.slice ca code.length cc).ownBlock = some j -> pb < j /\ j < V2.heap.size /\ (Value.slice va Zu.length vc).ownBlock ≠ some j) := fun j hj => ⟨by have := HCB.out j hj; omega, hlt2 j hj, fun e => by have := (HOL.out j e).2; have := HCB.out j hj; omega⟩
       have p0 : (V2.alloc (.cells #[.int .i64 caps, .int .i64 lx, .int .i64 d, .slice ca code.length cc] 53)).cell? ⟨pb, 0, none⟩ = some (.slice va Zu.length vc) := by simp only [World.cell?, gP4]; rfl
       have uU := Z9 gP4; clear hb2 hg2 hg4 gY gP4 hW hD hcb HM c0 c1 c2 c3 c4 e0 e1 e2 e3 e4; generalize hV4 : V2.alloc (.cells #[.int .i64 caps, .int .i64 lx, .int .i64 d, .slice ca code.length cc] 53) = V4 at *; go_wp2_with (at_builtin; refine wpList_append_lies _ rfl _ _ 26 rfl (pb + 1) 53 if0 (.agg #[.int .i64 0, .int .i64 0, .int .i64 0, .slice none 0 0]) 4 48 Tryz.underlying26 hif gK gJ gH rfl (by decide) _ Zu.length (XE Zu) rfl (fV.out.own.alloc _) ⟨V4.heap.size, 0, none⟩ 1 1 [.int .i64 caps, .int .i64 lx, .int .i64 d, .slice ca code.length cc] rfl rfl ?f1 ?f2 (by decide) ?f3 ?f4 ?f5 _ rfl ?_)
       case f1 => exact World.news_of_block (cs := #[.int .i64 caps, .int .i64 lx, .int .i64 d, .slice ca code.length cc]) (ZV V4 _)
       case f2 => intro u hu; simp at hu; rcases hu with rfl | rfl | rfl | rfl <;> rfl
       case f3 => unfold maxLen; omega
       case f4 => omega
       case f5 => simp; omega
       intro g8 CY w8 M0 U9 CX iM; have hg7 := Z8 V4 (.cells #[.int .i64 caps, .int .i64 lx, .int .i64 d, .slice ca code.length cc] 53); have lD := fV.out.stays hg7 (by nofun) (Nat.lt_succ_self pb); have hz7 : V4.heap.size <= (V4.alloc (.cells #[.int .i64 caps, .int .i64 lx, .int .i64 d, .slice ca code.length cc] 53)).heap.size := hg7.size; have fU := lD.push (f := ⟨caps, lx, d, .slice ca code.length cc, code⟩) (Xe.below HI4.out (ZX hg7 (Nat.le_refl _) (by nofun))) (fun j hj => by obtain ⟨h1, h2, h3⟩ := aaz.out j hj; exact ⟨h1, by omega, h3⟩) M0 U9 (by
        rcases CX with e | e
        ·exact .inl e
        ·exact .inr (by simp; omega))
       have lC := Zw lD.own; have gP7 := (hg7.block _ (Z6 uU.out) (by nofun)).trans uU.out; have gP8 := (U9.block _ (Z6 gP7) (fun e => by have := (lC _ e.symm).1; omega)).trans gP7; have fT := (aay.out.trans (ZX (B := pb) hg7 (by omega) (by nofun))).trans (ZX (B := pb) U9 (by omega) (fun j hj => by have := (lC j hj).1; omega)); have hgs := Zv w8 pb 0 (.slice (some ⟨g8, 0, none⟩) (Zu.length + 1) CY); have aaA := Z9 (fU.stays hgs (fun j hj => by cases hj; exact Nat.le_refl _) (Nat.lt_succ_self pb)); have aaB := Z9 (ZL (i := 0) gP8 (.slice (some ⟨g8, 0, none⟩) (Zu.length + 1) CY)); have aaC := Z9 (fT.trans (ZX (B := pb) hgs (by have := U9.size; omega) (fun j hj => by cases hj; exact Nat.le_refl _))); have hz9 : W3.heap.size <= (w8.setCell ⟨pb, 0, none⟩ (.slice (some ⟨g8, 0, none⟩) (Zu.length + 1) CY)).heap.size := by have := hgs.size; have := U9.size; omega
       have hp8 : w8.cell? ⟨pb, 0, none⟩ = some (.slice va Zu.length vc) := by simp only [World.cell?, gP8]; rfl
       have ab9 : w8.frozen? ⟨pb, 0, none⟩ = false := Lib.frozen_of_heap gP8 0; have aaD : Hid (∀ i, i < Zu.length + 1 -> Lm ts (fl.getD i default) ((Zu ++ [(⟨caps, lx, d, .slice ca code.length cc, code⟩ : WU)]).getD i default)) := fun i hi => by
        by_cases e : i = Zu.length
        ·subst e
         rw [HFE.out, show (Zu ++ [(⟨caps, lx, d, .slice ca code.length cc, code⟩ : WU)]).getD Zu.length default = ⟨caps, lx, d, .slice ca code.length cc, code⟩ by simp [List.getD]]; exact uL.out
        ·rw [show (Zu ++ [(⟨caps, lx, d, .slice ca code.length cc, code⟩ : WU)]).getD i default = Zu.getD i default by simp only [List.getD]; rw [List.getElem?_append_left (by omega)]]
         exact P6.out i (by omega)
       clear hg7 lD fU lC gP7 gP8 fT hgs M0 U9 CX p0 q0 q1 q2 q3 hz7; go_wp2_with fail; go_round
       case rel => exact ⟨Zu.length + 1, _, _, by go_num, by omega, by simp, aaA, aaB, aaC, hz9, aaD⟩
       case measure => simp [intOf]; omega
      ·obtain hkf : Zu.length = fl.length := by omega
       have uT := (G8.out.block _ (by omega)).trans qA.out; obtain ⟨⟨vS, DC, Dz⟩, r0, r1, r2⟩ := Qo uT; obtain ⟨gs, hgs⟩ := qx uT (.slice va Zu.length vc) (.slice ta ts.length tc) (.int .i64 main); have p0 : wr.cell? ⟨pb, 0, none⟩ = some (.slice va Zu.length vc) := by simp only [World.cell?, WO.out]; rfl
       have p1 : wr.cell? ⟨pb, 1, none⟩ = some (.slice ta ts.length tc) := by simp only [World.cell?, WO.out]; rfl
       have p2 : wr.cell? ⟨pb, 2, none⟩ = some (.int .i64 main) := by simp only [World.cell?, WO.out]; rfl
       have hTr : Xv wr (.slice ta ts.length tc) ts := (Uu.kept HTP.out G8.out.block).mono (by omega); have HIP : Hid (Rp (((wr.setCell ⟨w.heap.size, 0, none⟩ (.slice va Zu.length vc)).setCell ⟨w.heap.size, 1, none⟩ (.slice ta ts.length tc)).setCell ⟨w.heap.size, 2, none⟩ (.int .i64 main)) (.slice va Zu.length vc) (.slice ta ts.length tc) ⟨Zu, ts, main⟩) :=
        ⟨(rC.out.stays hgs (fun j hj => by cases hj; omega) (Nat.lt_succ_self pb)).lJ, ND hTr hgs.size fun g hg => Cx (fun e => by have := HTB.out g hg; omega)⟩
       have lH := Z9 (hbw.trans (ZX (B := w.heap.size) hgs hbw.size (fun k hk => by cases hk; exact Nat.le_refl _))); have nV := Z9 gs; have HKF := Z9 hkf; clear gs hgs uT hTr hkf; go_wp2_with fail; have hg1 := nV.out; refine Y4 (v := .tuple #[.agg #[.slice va Zu.length vc, .slice ta ts.length tc, .int .i64 main], .int .i64 0]) ?_ rfl ⟨lH.out, .inr (.inr (.inr ⟨VU.out, by rw [lG.out]; exact HQ.out, by rw [lG.out, rD.out]; exact hlen, _, _, Zu, rfl, by rw [lG.out, rD.out]; exact HIP.out, HKF.out, fun i hi => by rw [lG.out, rD.out]; exact P6.out i (by have := HKF.out; omega)⟩))⟩; rw [results_cell_tmp (p := 4) (u := 5) (ty := 29) rfl]; simp [asAddr, run_loadVar_row _ _ _ _ _ _ _ hg1 Tryz.underlying29 rfl Qp, Result.andThen]
       try rfl
end Go.Proofs.YtbcfdebdikgijaaGreatDoor
