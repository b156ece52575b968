/-
  A proof among a law's arguments; the walk of the law ChunksAreChecked: it returns true. Conditions: a proof of the type's form, a sum of 32 octets. Slices of octets, and slices of such slices, among a law's arguments. Conditions: the types' forms. Arguments that are arrays of octets, opened for the walks. No condition.
-/
import Derived.Test.YtbljihhelladbaaHCkF
import Derived.Test.YtbljihhelladbaaHShBC
namespace Go.Proofs.Ytbljihhelladbaa.ck
open Go.RowKit Go.Proofs.Ytbljihhelladbaa.st Go.Proofs.Ytbljihhelladbaa.hs Go.Proofs.Ytbljihhelladbaa.shr Go.Proofs.Ytbljihhelladbaa.sh Go.Proofs.Ytbljihhelladbaa.wr Go.ChangeShapes Go.WideShapes Go.ChangeAt
set_option linter.unusedSimpArgs false
set_option linter.unusedVariables false
set_option pp.maxSteps 6000
set_option maxRecDepth 100000 in
theorem sumsCells {H : Type} {enc : TypeId × Value → H} {W : World} {base : Nat} {held : Bool} {fuel : Nat} {cs : List Value} {x : DataW H × List MemPlace}
    (hf : DataW.trod enc Try.prog W base (fun _ => true) held fuel 70 cs = some x) :
    ∃ (l : List (List Int)) (ao : Option Addr) (cap : Nat), cs = [.slice ao l.length cap] ∧ RowM W ao l ∧ (∀ s ∈ l, SumLOk s) ∧ l.length ≤ cap ∧ cap ≤ maxLen := by
  rcases Go.Deep.open_slice Try.underlying70 hf with ⟨h1, h2⟩ | ⟨ad, ln, cp, m, n, D, Pl, h1, h3, h4, h5, h6, h7, h8⟩
  · exact ⟨[], none, 0, h1, Or.inl rfl, (fun s hs => by cases hs), Nat.le_refl _, by decide⟩
  · simp only [if_true] at h6
    subst h6
    rw [show Try.prog.cellsOf 73 = 32 by kernel_rfl] at h8
    have hs : ∀ i, i < m → ∃ s : List Int, SumLOk s ∧ At W (ad.add (i * 32)) (s.map (Value.int .u8)) := by
      intro i hi
      obtain ⟨cs', hc, ht⟩ := h8 i hi
      obtain ⟨s, rfl, hsl, hw⟩ := arr_of_trod Try.underlying73 Try.underlying5 (by kernel_rfl) (by kernel_rfl) ht
      obtain ⟨_, hcl, hat⟩ := World.cells?_some hc
      refine ⟨s, ⟨hsl, fun c hc => bounds_u8 (hw c hc)⟩, fun j u hu => ?_⟩
      have hj : j < 32 := by rw [← hcl]; exact (List.getElem?_eq_some_iff.1 hu).1
      rw [hat j hj, hu]
    have hs' : ∃ f : Nat → List Int, ∀ i, i < m → SumLOk (f i) ∧ At W (ad.add (i * 32)) ((f i).map (Value.int .u8)) := by
      refine ⟨fun i => if h : i < m then Classical.choose (hs i h) else [], fun i hi => ?_⟩
      simp only [dif_pos hi]
      exact Classical.choose_spec (hs i hi)
    obtain ⟨f, hf2⟩ := hs'
    have hlen : ((List.range ln).map f).length = ln := by simp
    refine ⟨(List.range ln).map f, some ad, m, by rw [hlen]; exact h1, ?_, ?_, by rw [hlen]; exact h4, h5⟩
    · by_cases hl : ln = 0
      · exact Or.inl (by subst hl; rfl)
      · have c0 := (hf2 0 (by omega)).2
        have hl0 : 0 < ((f 0).map (Value.int .u8)).length := by rw [List.length_map, (hf2 0 (by omega)).1.1]; decide
        have hcs : ((f 0).map (Value.int .u8))[0]? = some (((f 0).map (Value.int .u8))[0]'hl0) := List.getElem?_eq_getElem _
        have c1 := c0 0 _ hcs
        obtain ⟨b, off, spot⟩ := ad
        have hspot : spot = none := by simpa [Addr.add] using World.cell?_spot c1
        subst hspot
        have c2 : W.cell? ⟨b, off, none⟩ = some (((f 0).map (Value.int .u8))[0]'hl0) := by simpa [Addr.add] using c1
        refine Or.inr ⟨b, off, rfl, opn.lt_of_cell' c2, fun i hi => ?_⟩
        rw [hlen] at hi
        have e : ((List.range ln).map f).getD i [] = f i := by simp [List.getD_eq_getElem?_getD, hi]
        rw [e]
        have := (hf2 i (by omega)).2
        rwa [show (⟨b, off, none⟩ : Addr).add (i * 32) = ⟨b, off + i * 32, none⟩ by unfold Addr.add; split <;> simp_all] at this
    · intro s hs
      obtain ⟨i, hi, rfl⟩ := List.mem_map.1 hs
      exact (hf2 i (by have := List.mem_range.1 hi; omega)).1
set_option maxRecDepth 100000 in
theorem prfCells {H : Type} {enc : TypeId × Value → H} {w : World} {base : Nat} {held : Bool} {fuel : Nat} {cs : List Value} {x : DataW H × List MemPlace}
    (h : DataW.trod enc Try.prog w base (fun _ => true) held fuel 100 cs = some x) : ∃ s : Prf, s.Ok w ∧ cs = s.cs := by
  obtain ⟨xs, n, rfl, _, h1, h2, h3⟩ := DataW.trod_struct Try.underlying100 h
  rw [show Try.prog.cellsOf 100 = 3 by kernel_rfl] at h1
  have g0 : DataW.trod enc Try.prog w base (fun _ => true) held n 3 ((cs.drop 0).take (Try.prog.cellsOf 3)) = xs[0]? := h3 0 _ rfl
  have g1 : DataW.trod enc Try.prog w base (fun _ => true) held n 3 ((cs.drop 1).take (Try.prog.cellsOf 3)) = xs[1]? := h3 1 _ rfl
  have g2 : DataW.trod enc Try.prog w base (fun _ => true) held n 70 ((cs.drop 2).take (Try.prog.cellsOf 70)) = xs[2]? := h3 2 _ rfl
  have hx : xs.length = 3 := h2
  rw [List.getElem?_eq_getElem (by omega)] at g0 g1 g2
  simp only [show Try.prog.cellsOf 3 = 1 by kernel_rfl, show Try.prog.cellsOf 70 = 1 by kernel_rfl] at g0 g1 g2
  obtain ⟨x0, e0, _, w0⟩ := DataW.trod_int Try.underlying3 g0
  obtain ⟨x1, e1, _, w1⟩ := DataW.trod_int Try.underlying3 g1
  obtain ⟨l, ao, cap, e2, r2, o2, hl, hc⟩ := sumsCells g2
  refine ⟨⟨x0, x1, l, ao, cap⟩, ⟨r2, o2, hl, hc⟩, ?_⟩
  have q0 := cut_step e0
  have q1 := cut_step e1
  have q2 := cut_step e2
  have q3 : cs.drop 3 = [] := List.drop_of_length_le (by omega)
  rw [show cs = cs.drop 0 from rfl, q0, show 0 + 1 = 1 from rfl, q1, show 1 + 1 = 2 from rfl, q2, show 2 + 1 = 3 from rfl, q3]
  rfl
set_option maxRecDepth 100000 in
theorem prfArg {H : Type} {enc : TypeId × Value → H} {W : World} {base : Nat} {held : Bool} {r : Reach} {b0 : Nat} {v : Value} {d : DataW H} {ps : List MemPlace}
    (hval : Value.okWide Try.prog W r b0 100 v) (hd : DataW.Trod enc Try.prog W base (fun _ => true) held 100 v d ps) : ∃ s : Prf, s.Ok W ∧ v = .agg s.cs.toArray := by
  have hv : ∃ cs, v = .agg cs := by
    simp only [Value.okWide, Try.underlying100] at hval
    obtain ⟨cs, h, _⟩ := hval
    exact ⟨cs, h⟩
  obtain ⟨cs, rfl⟩ := hv
  obtain ⟨fuel, hf⟩ := hd
  obtain ⟨s, hs, hc⟩ := prfCells hf
  exact ⟨s, hs, by rw [show cs = s.cs.toArray from Array.ext' hc]⟩
set_option maxRecDepth 100000 in
set_option maxHeartbeats 4000000 in
theorem checked_bad (root c : List Int) (x : Prf) (ao : Option Addr) (cap n : Nat) (w : World) (hr : root.length = 32) (hn : n = c.length) (HP : Pt.Ok w ⟨ao, cap, c⟩) (hx : x.Ok w) (h : ¬ (1 ≤ n ∧ n ≤ 1024)) :
    Calls Try.prog 10 #[.agg (root.map (Value.int .u8)).toArray, .slice ao n cap, .agg x.cs.toArray] w fun e w' => e = .returned (.bool true) ∧ Below w.heap.size w w' := by
  obtain ⟨B, HB⟩ : ∃ B, Hid (B = w.heap.size) := ⟨_, rfl⟩
  have hsz : w.heap.size = B := HB.out.symm
  obtain ⟨R, HR⟩ : ∃ L, Hid (L = root.map (Value.int .u8)) := ⟨_, rfl⟩
  have hRl : R.length = 32 := by rw [HR.out, List.length_map, hr]
  obtain ⟨CS, HCS⟩ : ∃ C, Hid (C = x.cs) := ⟨_, rfl⟩
  have hCl : CS.length = 3 := by rw [HCS.out]; rfl
  have hva := fun y => hid (vaults_any y)
  have hck := fun y (hb : Below B w y) => hid (Check_any root c x ao cap n y hr hn (HP.below (hsz ▸ hb)) (hx.below (hsz ▸ hb)))
  have hin := fun y => hid (In_b (n : Int) 1 1024 y)
  have hE : checkE root c x = 2 := by unfold checkE; rw [← hn, if_neg h]
  have hI : inB (n : Int) 1 1024 = false := by unfold inB; simp; omega
  have hwh := fun y => hid (When_any true 2 y)
  rw [show whenE true 2 = 2 from rfl] at hwh
  rw [hI] at hin
  rw [hE] at hck
  rw [← HR.out, ← HCS.out] at hck ⊢
  clear hr hn HP hx h hI hE
  go_enter Try.func10, Try.ntmps10
  go_wp2_with (first | (go_at_call 67; refine (hck wc bbc).out.mono ?_; rintro e wd ⟨rfl, hbd⟩; have bbd := bbc.trans (hbd.mono (by have := hPc.lt; omega : B ≤ _))) | (refine wl_loadD 30 rfl (by rfl) 100 _ rfl ⟨B + 1, 0, none⟩ rfl 3 CS hCl aggPr hPc.at0 ?_) | (refine wl_loadD 28 rfl (by rfl) 73 _ rfl ⟨B, 0, none⟩ rfl 32 R hRl aggSumT hAc.at0 ?_) | (go_at_call 66; refine (hva _).out.mono ?_; rintro e wc ⟨rfl, hbc⟩; have hAc := hAb.below hbc hAb.lt; have hPc := hPb.below hbc hPb.lt; have bbc := bbb.trans (hbc.mono (by omega : B ≤ _))) | (go_at_call 21; refine (hwh _).out.mono ?_; rintro e w'' ⟨rfl, hw''⟩; subst hw'') | (go_at_call 16; refine (hin wb).out.mono ?_; rintro e w' ⟨rfl, hw'⟩; subst hw') | (refine wl_boxV rfl 100 _ rfl CS rfl (B + 1) hsa ?_; intro wb hPb hbb hsb; have hAb := hAa.below hbb (by omega); have bbb := hba.trans (hbb.mono (by omega : B ≤ _)); clear hAa hba hbb) | (refine wl_boxV rfl 73 _ rfl R rfl B hsz ?_; intro wa hAa hba hsa))
  go_ret
  exact ⟨rfl, by first | exact bbd | (rw [hsz]; exact bbd)⟩
set_option maxRecDepth 100000 in
set_option maxHeartbeats 4000000 in
theorem checked_ok (root c : List Int) (x : Prf) (ao : Option Addr) (cap n : Nat) (w : World) (hr : root.length = 32) (hn : n = c.length) (HP : Pt.Ok w ⟨ao, cap, c⟩) (hx : x.Ok w) (h1 : 1 ≤ n) (h2 : n ≤ 1024) :
    Calls Try.prog 10 #[.agg (root.map (Value.int .u8)).toArray, .slice ao n cap, .agg x.cs.toArray] w fun e w' => e = .returned (.bool true) ∧ Below w.heap.size w w' := by
  obtain ⟨B, HB⟩ : ∃ B, Hid (B = w.heap.size) := ⟨_, rfl⟩
  have hsz : w.heap.size = B := HB.out.symm
  obtain ⟨R, HR⟩ : ∃ L, Hid (L = root.map (Value.int .u8)) := ⟨_, rfl⟩
  have hRl : R.length = 32 := by rw [HR.out, List.length_map, hr]
  obtain ⟨CS, HCS⟩ : ∃ C, Hid (C = x.cs) := ⟨_, rfl⟩
  have hCl : CS.length = 3 := by rw [HCS.out]; rfl
  have hva := fun y => hid (vaults_any y)
  have hck := fun y (hb : Below B w y) => hid (Check_any root c x ao cap n y hr hn (HP.below (hsz ▸ hb)) (hx.below (hsz ▸ hb)))
  have hin := fun y => hid (In_b (n : Int) 1 1024 y)
  have hE : checkE root c x = provedE root (sumL 1 c) x := by unfold checkE; rw [← hn, if_pos ⟨h1, h2⟩]
  have hI : inB (n : Int) 1 1024 = true := by unfold inB; simp; omega
  have hwh := fun y => hid (When_any false 2 y)
  rw [show whenE false 2 = 0 from rfl] at hwh
  rw [hI] at hin
  obtain ⟨Z, HZ⟩ : ∃ Z, Hid (Z = zSum) := ⟨_, rfl⟩
  have hz := hid zeroSumZ
  rw [← HZ.out] at hz
  have hZl : Z.length = 32 := by rw [HZ.out]; simp [zSum]
  obtain ⟨V, HV⟩ : ∃ V, Hid (V = (sumL 1 c).map (Value.int .u8)) := ⟨_, rfl⟩
  have hVl : V.length = 32 := by rw [HV.out, List.length_map]; exact sumL_length _ _
  have hV1 : ∀ u ∈ V, u.oneCell' = true := by rw [HV.out]; exact ints_one _ _
  have hlf := fun y (hb : Below B w y) => hid (Leaf_in ao cap n c y hn (HP.below (hsz ▸ hb)) (by omega))
  have hpr := fun y (hb : Below B w y) => hid (Proved_any root hr (sumL 1 c) x y (sumL_length _ _) (sumL_octs _ _) (hx.below (hsz ▸ hb)))
  obtain ⟨E, HE2⟩ : ∃ E, Hid (E = provedE root (sumL 1 c) x) := ⟨_, rfl⟩
  rw [hE, ← HE2.out] at hck
  simp only [← HV.out] at hlf hpr
  simp only [← HE2.out, ← HR.out, ← HCS.out] at hpr
  rw [← HR.out, ← HCS.out] at hck ⊢
  have hEE : (E == E) = true := by simp
  clear hr hn HP hx h1 h2 hI hE
  go_enter Try.func10, Try.ntmps10
  go_wp2_with (first | (go_at_call 67; refine (hck wg bbg).out.mono ?_; rintro e wh ⟨rfl, hbh⟩; have bbh := bbg.trans (hbh.mono (by have := hPg.lt; omega : B ≤ _))) | (refine wl_loadD 30 rfl (by rfl) 100 _ rfl ⟨B + 1, 0, none⟩ rfl 3 CS hCl aggPr hPg.at0 ?_) | (refine wl_loadD 28 rfl (by rfl) 73 _ rfl ⟨B, 0, none⟩ rfl 32 R hRl aggSumT hAg.at0 ?_) | (go_at_call 66; refine (hva wf).out.mono ?_; rintro e wg ⟨rfl, hbg⟩; have hAg := hAf.below hbg hAf.lt; have hPg := hPf.below hbg hPf.lt; have bbg := bbf.trans (hbg.mono (by have := hAf.lt; omega : B ≤ _)); clear hAf hPf bbf hbg) | (go_at_call 65; refine (hpr we bbe).out.mono ?_; rintro e wf ⟨rfl, hbf⟩; have hAf := hAe.below hbf hAe.lt; have hPf := hPe.below hbf hPe.lt; have bbf := bbe.trans (hbf.mono (by have := hAe.lt; omega : B ≤ _)); clear hAe hPe hTe bbe hbf) | (refine wl_load rfl 100 _ rfl ⟨B + 1, 0, none⟩ rfl CS (by rw [hCl]; exact aggPr) hPe.at0 ?_) | (refine wl_load rfl 73 _ rfl ⟨wc.heap.size, 0, none⟩ rfl V (by rw [hVl]; exact aggSumT) hTe.at0 ?_) | (refine wl_load rfl 73 _ rfl ⟨B, 0, none⟩ rfl R (by rw [hRl]; exact aggSumT) hAe.at0 ?_) | (refine wl_storeV rfl 73 _ _ rfl 73 wc.heap.size rfl V rfl 32 aggSumT hVl Z hTd hZl hV1 ?_; intro we hTe hbe hse; have hAe := hAd.below hbe (by omega); have hPe := hPd.below hbe (by omega); have bbe := bbd.trans (hbe.mono (by omega : B ≤ _)); clear hTd hAd hPd bbd hbe) | (refine wl_allocV rfl 73 rfl Z hz.out wc.heap.size rfl ?_; intro wd hTd hbd hsd; have hAd := hAc.below hbd hAc.lt; have hPd := hPc.below hbd hPc.lt; have bbd := bbc.trans (hbd.mono (by have := hAc.lt; omega : B ≤ _)); clear hAc hPc bbc hbd) | (go_at_call 64; refine (hlf _ bbb).out.mono ?_; rintro e wc ⟨rfl, hbc⟩; have hAc := hAb.below hbc hAb.lt; have hPc := hPb.below hbc hPb.lt; have bbc := bbb.trans (hbc.mono (by omega : B ≤ _)); have hsc := hbc.size; clear hAb hPb bbb hbc) | (go_at_call 21; refine (hwh _).out.mono ?_; rintro e w'' ⟨rfl, hw''⟩; subst hw'') | (go_at_call 16; refine (hin wb).out.mono ?_; rintro e w' ⟨rfl, hw'⟩; subst hw') | (refine wl_boxV rfl 100 _ rfl CS rfl (B + 1) hsa ?_; intro wb hPb hbb hsb; have hAb := hAa.below hbb (by omega); have bbb := hba.trans (hbb.mono (by omega : B ≤ _)); clear hAa hba hbb) | (refine wl_boxV rfl 73 _ rfl R rfl B hsz ?_; intro wa hAa hba hsa))
  go_ret
  exact ⟨rfl, by first | exact bbh | (rw [hsz]; exact bbh)⟩
theorem checked_law (root c : List Int) (x : Prf) (ao : Option Addr) (cap n : Nat) (w : World) (hr : root.length = 32) (hn : n = c.length) (HP : Pt.Ok w ⟨ao, cap, c⟩) (hx : x.Ok w) :
    Calls Try.prog 10 #[.agg (root.map (Value.int .u8)).toArray, .slice ao n cap, .agg x.cs.toArray] w fun e w' => e = .returned (.bool true) ∧ Below w.heap.size w w' := by
  by_cases h : 1 ≤ n ∧ n ≤ 1024
  · exact checked_ok root c x ao cap n w hr hn HP hx h.1 h.2
  · exact checked_bad root c x ao cap n w hr hn HP hx h
end Go.Proofs.Ytbljihhelladbaa.ck
namespace Go.Proofs.Ytbljihhelladbaa.wr
open Go.ChangeShapes Go.WideShapes Go.ChangeAt Go.RowKit
open Go.Proofs.Ytbljihhelladbaa.st Go.Proofs.Ytbljihhelladbaa.hs Go.Proofs.Ytbljihhelladbaa.shr
set_option linter.unusedSimpArgs false
set_option linter.unusedVariables false
theorem shape_lt {w : World} {g : Nat} {x : TypeId × Nat} (h : w.shape? g = some x) : g < w.heap.size := by
  by_cases hb : g < w.heap.size
  · exact hb
  · unfold World.shape? at h
    rw [Array.getElem?_eq_none (by omega)] at h
    cases h
set_option maxRecDepth 100000 in
theorem ptTop {W : World} {r : Reach} {b0 n cap : Nat} {ao : Option Addr} {l : List Int} (hval : Value.okWide Try.prog W r b0 69 (.slice ao n cap)) (hr : RowI .u8 W ao l) (hle : l.length ≤ cap) (hc : cap ≤ maxLen) (ho : Octs l) : Pt.Ok W ⟨ao, cap, l⟩ := by
  refine ⟨hr, hle, hc, ho, fun b e => ?_⟩
  change ao = some b at e
  subst e
  have hh : ∃ row cells, W.shape? b.block = some (row, cells) := by
    simp only [Value.okWide, Cell.okWide, Cell.ok, Try.underlying69, World.has] at hval
    obtain ⟨_, _, _, _, row, cells, h, _⟩ := hval
    exact ⟨row, cells, h⟩
  obtain ⟨row, cells, h⟩ := hh
  exact shape_lt h
end Go.Proofs.Ytbljihhelladbaa.wr
namespace Go.Proofs.Ytbljihhelladbaa.opn
set_option linter.unusedSimpArgs false
set_option linter.unusedVariables false
open Go.ChangeShapes Go.WideShapes Go.ChangeAt Go.RowKit
theorem octArr {H : Type} {enc : TypeId × Value → H} {P : Program} {W : World} {base : Nat} {spare : Nat → Bool} {held : Bool} {r : Reach} {b0 : Nat} {t e : TypeId} {n : Nat} {v : Value} {d : DataW H} {ps : List MemPlace}
    (ht : P.underlying t = some (.array n e)) (he : P.underlying e = some (.int .u8)) (hc : P.cellsOf e = 1) (hct : P.cellsOf t = n) (hval : Value.okWide P W r b0 t v) (hd : DataW.Trod enc P W base spare held t v d ps) :
    ∃ l : List Int, v = .agg (l.map (Value.int .u8)).toArray ∧ l.length = n ∧ ∀ c ∈ l, 0 ≤ c ∧ c ≤ 255 := by
  have hv : ∃ cs, v = .agg cs := by
    simp only [Value.okWide, ht] at hval
    obtain ⟨cs, h, _⟩ := hval
    exact ⟨cs, h⟩
  obtain ⟨cs, rfl⟩ := hv
  obtain ⟨fuel, hf⟩ := hd
  obtain ⟨xs, m, rfl, _, h1, h2, h3⟩ := DataW.trod_array ht hf
  simp only [Value.cells] at h1 h3
  rw [hct] at h1
  have h4 : ∀ i, i < n → ∃ c : Int, cs.toList[i]? = some (.int .u8 c) ∧ 0 ≤ c ∧ c ≤ 255 := by
    intro i hi
    have h5 := h3 i hi
    rw [hc, Nat.mul_one, List.getElem?_eq_getElem (by omega)] at h5
    have hcs : (cs.toList.drop i).take 1 = [cs.toList[i]'(by omega)] := by
      rw [List.drop_eq_getElem_cons (by omega)]
      rfl
    rw [hcs] at h5
    obtain ⟨c, hcc, _, hw⟩ := DataW.trod_int he h5
    have hb := bounds_u8 hw
    simp only [List.cons.injEq, and_true] at hcc
    exact ⟨c, by rw [List.getElem?_eq_getElem (by omega), hcc], hb⟩
  refine ⟨cs.toList.map fun u => match u with | .int _ c => c | _ => 0, ?_, by rw [List.length_map]; exact h1, ?_⟩
  · congr 1
    apply Array.ext'
    rw [List.map_map]
    symm
    apply List.ext_getElem
    · simp
    · intro i hi1 hi2
      obtain ⟨c, h6, _⟩ := h4 i (by omega)
      rw [List.getElem?_eq_getElem (by omega)] at h6
      simp only [Option.some.injEq] at h6
      simp [h6]
  · intro c hc'
    obtain ⟨u, hu, rfl⟩ := List.mem_map.1 hc'
    obtain ⟨i, hi, rfl⟩ := List.getElem_of_mem hu
    obtain ⟨c, h6, h7⟩ := h4 i (by omega)
    rw [List.getElem?_eq_getElem hi] at h6
    simp only [Option.some.injEq] at h6
    rw [h6]
    exact h7
end Go.Proofs.Ytbljihhelladbaa.opn
