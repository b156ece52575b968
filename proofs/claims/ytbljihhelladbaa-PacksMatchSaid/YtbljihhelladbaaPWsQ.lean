/-
  Contracts of wrap.Pack and keyref2.Packed: a pack's octets. Conditions: parts of octets that lie in memory and have no fault. Slices of octets that are cut; mix.Number where there are too few octets. Conditions: as stated.
-/
import Derived.Test.YtbljihhelladbaaPWsP
import Derived.Test.YtbljihhelladbaaPWsO
import Derived.Laws.Slices
namespace Go.Proofs.Ytbljihhelladbaa.wr
open Go.RowKit Go.Proofs.Ytbljihhelladbaa.st Go.Proofs.Ytbljihhelladbaa.hs Go.Proofs.Ytbljihhelladbaa.shr Go.Proofs.Ytbljihhelladbaa.sh
set_option linter.unusedSimpArgs false
set_option linter.unusedVariables false
set_option pp.maxSteps 6000
def kwp : List Int := [75, 87, 80, 49]
def partL (l : List Int) : List Int := o4 (l.length : Int) ++ l
def bodyL (ls : List (List Int)) : List Int := (ls.map partL).flatten
/-- a pack's octets -/
def packL (ls : List (List Int)) : List Int := kwp ++ [(ls.length : Int)] ++ bodyL ls
theorem bodyL_snoc (ls : List (List Int)) (j : Nat) (h : j < ls.length) : bodyL (ls.take (j + 1)) = bodyL (ls.take j) ++ partL ls[j] := by
  unfold bodyL
  rw [List.take_succ_eq_append_getElem h, List.map_append, List.flatten_append]; simp
/-- what a faultless pack's parts are -/
theorem packGo_zero : ∀ (ls seen : List (List Int)) (f : Option (List Int)), packGo ls seen f = 0 → (∀ l ∈ ls, readE l = 0) ∧ (ls.map fun l => (readX l).b).Nodup ∧ ∀ l ∈ ls, (readX l).b ∉ seen
  | [], _, _, _ => ⟨(fun l h => by cases h), List.nodup_nil, (fun l h => by cases h)⟩
  | l :: r, seen, f, h => by
    by_cases hE : readE l = 0
    · by_cases hs : (readX l).b ∈ seen
      · rw [packGo_twice hE hs] at h; cases h
      · have key : ∃ f', packGo r (seen ++ [(readX l).b]) f' = 0 := by
          by_cases hv : (readX l).v = 2
          · cases f with
            | none => rw [packGo_first hE hs hv] at h; exact ⟨_, h⟩
            | some o =>
              by_cases h4 : (readX l).o = o
              · rw [packGo_same hE hs hv h4] at h; exact ⟨_, h⟩
              · rw [packGo_unlike hE hs hv h4] at h; cases h
          · rw [packGo_one hE hs hv] at h; exact ⟨_, h⟩
        obtain ⟨f', hf'⟩ := key
        obtain ⟨h1, h2, h3⟩ := packGo_zero r _ f' hf'
        refine ⟨fun x hx => ?_, ?_, fun x hx => ?_⟩
        · rcases List.mem_cons.1 hx with e | e
          · rw [e]; exact hE
          · exact h1 x e
        · rw [List.map_cons, List.nodup_cons]
          refine ⟨fun hm => ?_, h2⟩
          obtain ⟨y, hy, e⟩ := List.mem_map.1 hm
          exact h3 y hy (by rw [e]; exact List.mem_append_right _ (List.mem_singleton.2 rfl))
        · rcases List.mem_cons.1 hx with e | e
          · rw [e]; exact hs
          · exact fun hm => h3 x e (List.mem_append_left _ hm)
    · rw [packGo_err hE] at h; exact absurd h hE
theorem packE_zero {ls : List (List Int)} (h : packE ls = 0) : 0 < ls.length ∧ ls.length ≤ 100 ∧ (∀ l ∈ ls, readE l = 0) ∧ (ls.map fun l => (readX l).b).Nodup := by
  unfold packE at h
  split at h
  · cases h
  · split at h
    · cases h
    · obtain ⟨h1, h2, _⟩ := packGo_zero ls [] none h
      exact ⟨by omega, by omega, h1, h2⟩
theorem readE_len {l : List Int} (h : readE l = 0) : l.length = 88 ∨ l.length = 136 := by
  obtain ⟨_, _, h1 | h1⟩ := readE_zero h
  · exact Or.inl h1.2
  · exact Or.inr h1.2
theorem bodyL_le {ls : List (List Int)} (h : ∀ l ∈ ls, readE l = 0) (j : Nat) : (bodyL (ls.take j)).length ≤ 140 * j := by
  induction j with
  | zero => simp [bodyL]
  | succ j ih =>
    by_cases hj : j < ls.length
    · rw [bodyL_snoc ls j hj, List.length_append]
      have := readE_len (h _ (List.getElem_mem hj))
      have e : (partL ls[j]).length = 4 + ls[j].length := by unfold partL; rw [List.length_append]; rfl
      omega
    · rw [List.take_of_length_le (by omega)]
      rw [List.take_of_length_le (by omega)] at ih
      omega
/-- an own row of octets that is not empty -/
def Own8 (B : Nat) (w : World) (g c m : Nat) (L : List Int) : Prop := w.ownsRow B 5 1 (.slice (some ⟨g, 0, none⟩) m c) m (L.map (Value.int .u8))
theorem Own8.of {B m c : Nat} {w : World} {ao : Option Addr} {L : List Int} (h : Mine w B 5 1 (.slice ao m c) m (L.map (Value.int .u8))) (hm : 0 < m) : ∃ g, ao = some ⟨g, 0, none⟩ ∧ B ≤ g ∧ g < w.heap.size ∧ Own8 B w g c m L := by
  have h1 := mine_own h hm
  obtain ⟨g, cur, e, hg, hb, _⟩ := own_blk h1 hm
  subst e
  exact ⟨g, rfl, hg, hb.lt, h1⟩
theorem Own8.row {B m c g : Nat} {w : World} {L : List Int} (h : Own8 B w g c m L) : RowI .u8 w (some ⟨g, 0, none⟩) L := by
  obtain ⟨ao', cap', hv, _, hr⟩ := Mine.row (Or.inl h)
  injection hv with e1 e2 e3
  rw [← e1] at hr
  exact hr.i
theorem Own8.lt {B m c g : Nat} {w : World} {L : List Int} (h : Own8 B w g c m L) : B ≤ g ∧ g < w.heap.size := World.ownsRow.lt h g rfl
set_option maxRecDepth 100000 in
set_option maxHeartbeats 4000000 in
theorem Pack_ok (po : Option Addr) (cap n : Nat) (ps : List Pt) (w : World) (hn : n = ps.length) (hrow : RowV w po (ps.map Pt.v)) (hps : ∀ x ∈ ps, x.Ok w) (hE : packE (ps.map Pt.l) = 0) :
    Calls Try.prog 79 #[.slice po n cap] w fun e w' => ∃ g c m, e = .returned (.tuple #[.slice (some ⟨g, 0, none⟩) m c, .int .i64 0]) ∧ Hid (m = (packL (ps.map Pt.l)).length) ∧ Own8 w.heap.size w' g c m (packL (ps.map Pt.l)) ∧ Below w.heap.size w w' := by
  obtain ⟨B, HB⟩ : ∃ B, Hid (B = w.heap.size) := ⟨_, rfl⟩
  have hsz : w.heap.size = B := HB.out.symm
  obtain ⟨k0, k1, k2, _⟩ := packE_zero hE
  rw [List.length_map] at k0 k1
  have hpf := hid (packFault_any po cap n ps w hn hrow (fun x hx _ => hps x hx))
  rw [hE] at hpf
  obtain ⟨LS, HLS⟩ : ∃ LS, Hid (LS = ps.map Pt.l) := ⟨_, rfl⟩
  have hLl : Hid (LS.length = n) := hid (by rw [HLS.out, List.length_map, hn])
  have HK := hid k2
  rw [← HLS.out] at HK ⊢
  have HN := hid hn
  have hw8 : IntKind.u8.wrap (n : Int) = (n : Int) := IntWalk.u8_in _ (by omega)
  have hn1 : n ≤ 100 := by omega
  have hn0 : 0 < n := by omega
  clear hn hE k2 k0 k1
  have hBs : B ≤ w.heap.size := by rw [HB.out]; exact Nat.le_refl _
  go_enter Try.func79, Try.ntmps79
  go_wp2_with (first | (at_builtin; refine wl_appendArg rfl _ _ rfl ⟨w1.heap.size, 0, none⟩ 4 4 rfl [.int .u8 75, .int .u8 87, .int .u8 80, .int .u8 49] rfl hAd ⟨wc.heap.size, 0, none⟩ 1 1 rfl [.int .u8 n] rfl hDd.at0 (by decide) (by decide) B (by have := hb1.size; omega) 5 rfl ?_; intro ao2 cap2 w2 hc2 hM2 hg2; have bb2 : Below B w w2 := bbd.grown hg2 (by have := hb1.size; omega) (fun k hk => by cases hk); clear bbd hAd hDd) | (refine wl_lit rfl 69 5 1 _ rfl Try.underlying69 (.int .u8 0) 1 1 info8 (by decide) (by decide) [.int .u8 n] (by kernel_rfl) wc.heap.size rfl ?_; intro wd hDd hbd hsd; have hAd := at_below hAc hbd (by omega); have bbd := bbc.trans (hbd.mono (by have := hb1.size; omega : B ≤ _)); clear hAc bbc hbd) | (refine wl_convC rfl _ rfl [.int .u8 75, .int .u8 87, .int .u8 80, .int .u8 49] 4 4 rfl w1.heap.size rfl ?_; intro wc hAc hbc hsc; have bbc : Below B w wc := hb1.trans (hbc.mono (by have := hb1.size; omega : B ≤ _)); clear hbc) | (go_at_call 146; refine hpf.out.mono ?_; rintro e w1 ⟨rfl, hb1'⟩; have hb1 : Below B w w1 := by rw [← HB.out] at hb1'; exact hb1'))
  obtain ⟨g2, rfl, hg2B, hg2l, hO2⟩ := Own8.of (L := kwp ++ [(n : Int)]) hM2 (by decide)
  go_loopw [5, 22] (fun v i wr => ∃ (j g c m : Nat) (L : List Int), j ≤ n ∧ i = .int .i64 j ∧ v = .slice (some ⟨g, 0, none⟩) m c ∧ Hid (L = kwp ++ [(n : Int)] ++ bodyL (LS.take j)) ∧ Hid (L.length = m) ∧ m ≤ 5 + 140 * j ∧ Own8 B wr g c m L ∧ Below B w wr) (fun _ i _ => n - (intOf i).toNat)
  case atStart => exact ⟨0, g2, cap2, 5, kwp ++ [(n : Int)], by omega, rfl, rfl, by show _ = _; simp [bodyL], rfl, by omega, hO2, bb2⟩
  case round =>
    clear hO2 bb2 hM2 hg2 hg2l
    obtain ⟨j, g, c, m, L, hj, rfl, rfl, HL, HLm, hmj, hO, hb⟩ := hrel
    by_cases hjn : j < n
    · have hjI : (j : Int) < (n : Int) := by omega
      have hjp : j < ps.length := by have := HN.out; omega
      have hjm : j < (ps.map Pt.v).length := by rw [List.length_map]; exact hjp
      obtain ⟨b, off, rfl, hbw, hcell⟩ := hrow.resolve_left (by intro e; rw [e] at hjm; cases hjm)
      have hx := hps ps[j] (List.getElem_mem hjp)
      have hc := hcell j _ (List.getElem?_eq_getElem hjm)
      rw [List.getElem_map] at hc
      obtain ⟨xa, HXA⟩ : ∃ xa, Hid (xa = (ps[j]'hjp).a) := ⟨_, rfl⟩
      obtain ⟨xc, HXC⟩ : ∃ xc, Hid (xc = (ps[j]'hjp).c) := ⟨_, rfl⟩
      obtain ⟨xl, HXL⟩ : ∃ xl : List Int, Hid (xl = (ps[j]'hjp).l) := ⟨_, rfl⟩
      obtain ⟨mx, HM⟩ : ∃ m, Hid (m = xl.length) := ⟨_, rfl⟩
      have hv : Pt.v ps[j] = .slice xa mx xc := by rw [HM.out, HXA.out, HXC.out, HXL.out]; rfl
      rw [hv] at hc
      have hcw : wr.cell? ⟨b, off + j, none⟩ = some (.slice xa mx xc) := by rw [hb.cell (p := ⟨b, off + j, none⟩) (by rw [HB.out]; exact hbw)]; exact hc
      have hPx : Pt.Ok wr ⟨xa, xc, xl⟩ := by rw [HXA.out, HXL.out, HXC.out]; exact hx.below (by rw [← HB.out]; exact hb)
      have hjL : j < LS.length := by rw [hLl.out]; exact hjn
      have hLj : LS[j] = xl := by
        have e : LS[j]? = some xl := by rw [HLS.out, List.getElem?_map, List.getElem?_eq_getElem hjp, HXL.out]; rfl
        rw [List.getElem?_eq_getElem hjL] at e; exact Option.some.inj e
      have hmx : mx = 88 ∨ mx = 136 := by rw [HM.out]; exact readE_len (by rw [← hLj]; exact HK.out _ (List.getElem_mem hjL))
      have HSN : Hid (bodyL (LS.take (j + 1)) = bodyL (LS.take j) ++ (o4 (mx : Int) ++ xl)) := hid (by rw [bodyL_snoc LS j hjL, hLj]; unfold partL; rw [HM.out])
      have hxne : xa = none → xc = 0 := fun e => by
        have h0 := hPx.row
        rcases h0 with h0 | ⟨b1, o1, h1, _⟩
        · dsimp only at h0; have := HM.out; rw [h0] at this; simp at this; omega
        · dsimp only at h1; rw [e] at h1; cases h1
      have hxl1 : Hid ((xl.map (Value.int .u8)).length = mx * 1) := hid (by rw [List.length_map, HM.out]; omega)
      have hs3 : B ≤ wr.heap.size := by have := hO.lt; omega
      have hxB : ∀ b, xa = some b → b.block < B := fun b e => by rw [HB.out]; exact hx.lt b (by rw [← e, HXA.out])
      clear hx hc hv hcell hjm hLj hjL
      have hw32 : IntKind.u32.wrap (mx : Int) = (mx : Int) := IntWalk.u32_in _ (by omega)
      have hpn := hid (PutNumber_any (some ⟨g, 0, none⟩) m c L (mx : Int) wr HLm.out.symm hO.row (fun b e => by cases e; exact hO.lt.2) (fun h => by cases h) (by omega))
      go_wp2_with (first | (at_builtin; refine wl_appendS rfl _ _ 69 rfl 5 (.int .u8 0) 1 1 Try.underlying69 info8 rfl (by decide) B _ (m + 4) _ rfl (hM5.mono hs3) xa mx xc rfl hxne (xl.map (Value.int .u8)) hxl1.out (hPx.below hb5).row.v (ints_one _ _) (by unfold maxLen; omega) (by omega) (by have := hb5.size; omega) (m + 4 + mx) rfl ?_; intro ao6 c6 w6 row6 hc6 hM6 hv6 hg6 hrow6) | (go_at_call 133; refine hpn.out.mono ?_; rintro e w5 ⟨ao5, c5, rfl, hM5, hb5⟩))
      have bb6 : Below B w w6 := (hb.trans (hb5.mono hs3)).grown hg6 (by have := hb5.size; omega) (fun k hk => (hrow6 k hk).1)
      rw [← List.map_append] at hM6
      obtain ⟨g6, rfl, _, _, hO6⟩ := Own8.of hM6 (by omega)
      go_roundw
      case rel => exact ⟨j + 1, g6, c6, m + 4 + mx, _, by omega, by go_num, rfl, by show _ = _; rw [HSN.out, HL.out]; simp only [List.append_assoc], by show _ = _; simp only [List.length_append]; rw [HLm.out, ← HM.out]; rfl, by omega, hO6, bb6⟩
      case measure => simp [intOf] <;> omega
    · obtain rfl : j = n := by omega
      have hE2 : L = packL LS := by rw [HL.out, List.take_of_length_le (by rw [hLl.out]; exact Nat.le_refl _)]; unfold packL; rw [hLl.out]
      rw [hE2] at hO HLm
      go_wp2_with fail
      go_ret2
      exact ⟨g, c, m, rfl, HLm.out.symm, by rw [← HB.out]; exact hO, by rw [← HB.out]; exact hb⟩
set_option maxRecDepth 100000 in
set_option maxHeartbeats 4000000 in
theorem Packed_ok (po : Option Addr) (cap n : Nat) (ps : List Pt) (w : World) (hn : n = ps.length) (hrow : RowV w po (ps.map Pt.v)) (hps : ∀ x ∈ ps, x.Ok w) (hE : packE (ps.map Pt.l) = 0) :
    Calls Try.prog 81 #[.slice po n cap] w fun e w' => ∃ g c m, e = .returned (.slice (some ⟨g, 0, none⟩) m c) ∧ Hid (m = (packL (ps.map Pt.l)).length) ∧ Own8 w.heap.size w' g c m (packL (ps.map Pt.l)) ∧ Below w.heap.size w w' := by
  obtain ⟨B, HB⟩ : ∃ B, Hid (B = w.heap.size) := ⟨_, rfl⟩
  have hsz : w.heap.size = B := HB.out.symm
  obtain ⟨k0, k1, k2, _⟩ := packE_zero hE
  rw [List.length_map] at k0 k1
  obtain ⟨LS, HLS⟩ : ∃ LS, Hid (LS = ps.map Pt.l) := ⟨_, rfl⟩
  have hLl : Hid (LS.length = n) := hid (by rw [HLS.out, List.length_map, hn])
  have HK := hid k2
  rw [← HLS.out] at HK ⊢
  have HN := hid hn
  have hw8 : IntKind.u8.wrap (n : Int) = (n : Int) := IntWalk.u8_in _ (by omega)
  have hn1 : n ≤ 100 := by omega
  have hn0 : 0 < n := by omega
  clear hn hE k2 k0 k1 hsz
  have hBs : B ≤ w.heap.size := by rw [HB.out]; exact Nat.le_refl _
  go_enter Try.func81, Try.ntmps81
  go_wp2_with (first | (at_builtin; refine wl_appendArg rfl _ _ rfl ⟨w.heap.size, 0, none⟩ 4 4 rfl [.int .u8 75, .int .u8 87, .int .u8 80, .int .u8 49] rfl hAd ⟨wc.heap.size, 0, none⟩ 1 1 rfl [.int .u8 n] rfl hDd.at0 (by decide) (by decide) B (by omega) 5 rfl ?_; intro ao2 cap2 w2 hc2 hM2 hg2; have bb2 : Below B w w2 := bbd.grown hg2 (by omega) (fun k hk => by cases hk); clear bbd hAd hDd) | (refine wl_lit rfl 69 5 1 _ rfl Try.underlying69 (.int .u8 0) 1 1 info8 (by decide) (by decide) [.int .u8 n] (by kernel_rfl) wc.heap.size rfl ?_; intro wd hDd hbd hsd; have hAd := at_below hAc hbd (by omega); have bbd := bbc.trans (hbd.mono (by omega : B ≤ _)); clear hAc bbc hbd) | (refine wl_convC rfl _ rfl [.int .u8 75, .int .u8 87, .int .u8 80, .int .u8 49] 4 4 rfl w.heap.size rfl ?_; intro wc hAc hbc hsc; have bbc : Below B w wc := (Below.refl _ _).trans (hbc.mono (by omega : B ≤ _)); clear hbc))
  obtain ⟨g2, rfl, hg2B, hg2l, hO2⟩ := Own8.of (L := kwp ++ [(n : Int)]) hM2 (by decide)
  go_loopw [3, 15] (fun v i wr => ∃ (j g c m : Nat) (L : List Int), j ≤ n ∧ i = .int .i64 j ∧ v = .slice (some ⟨g, 0, none⟩) m c ∧ Hid (L = kwp ++ [(n : Int)] ++ bodyL (LS.take j)) ∧ Hid (L.length = m) ∧ m ≤ 5 + 140 * j ∧ Own8 B wr g c m L ∧ Below B w wr) (fun _ i _ => n - (intOf i).toNat)
  case atStart => exact ⟨0, g2, cap2, 5, kwp ++ [(n : Int)], by omega, rfl, rfl, by show _ = _; simp [bodyL], rfl, by omega, hO2, bb2⟩
  case round =>
    clear hO2 bb2 hM2 hg2 hg2l
    obtain ⟨j, g, c, m, L, hj, rfl, rfl, HL, HLm, hmj, hO, hb⟩ := hrel
    by_cases hjn : j < n
    · have hjI : (j : Int) < (n : Int) := by omega
      have hjp : j < ps.length := by have := HN.out; omega
      have hjm : j < (ps.map Pt.v).length := by rw [List.length_map]; exact hjp
      obtain ⟨b, off, rfl, hbw, hcell⟩ := hrow.resolve_left (by intro e; rw [e] at hjm; cases hjm)
      have hx := hps ps[j] (List.getElem_mem hjp)
      have hc := hcell j _ (List.getElem?_eq_getElem hjm)
      rw [List.getElem_map] at hc
      obtain ⟨xa, HXA⟩ : ∃ xa, Hid (xa = (ps[j]'hjp).a) := ⟨_, rfl⟩
      obtain ⟨xc, HXC⟩ : ∃ xc, Hid (xc = (ps[j]'hjp).c) := ⟨_, rfl⟩
      obtain ⟨xl, HXL⟩ : ∃ xl : List Int, Hid (xl = (ps[j]'hjp).l) := ⟨_, rfl⟩
      obtain ⟨mx, HM⟩ : ∃ m, Hid (m = xl.length) := ⟨_, rfl⟩
      have hv : Pt.v ps[j] = .slice xa mx xc := by rw [HM.out, HXA.out, HXC.out, HXL.out]; rfl
      rw [hv] at hc
      have hcw : wr.cell? ⟨b, off + j, none⟩ = some (.slice xa mx xc) := by rw [hb.cell (p := ⟨b, off + j, none⟩) (by rw [HB.out]; exact hbw)]; exact hc
      have hPx : Pt.Ok wr ⟨xa, xc, xl⟩ := by rw [HXA.out, HXL.out, HXC.out]; exact hx.below (by rw [← HB.out]; exact hb)
      have hjL : j < LS.length := by rw [hLl.out]; exact hjn
      have hLj : LS[j] = xl := by
        have e : LS[j]? = some xl := by rw [HLS.out, List.getElem?_map, List.getElem?_eq_getElem hjp, HXL.out]; rfl
        rw [List.getElem?_eq_getElem hjL] at e; exact Option.some.inj e
      have hmx : mx = 88 ∨ mx = 136 := by rw [HM.out]; exact readE_len (by rw [← hLj]; exact HK.out _ (List.getElem_mem hjL))
      have HSN : Hid (bodyL (LS.take (j + 1)) = bodyL (LS.take j) ++ (o4 (mx : Int) ++ xl)) := hid (by rw [bodyL_snoc LS j hjL, hLj]; unfold partL; rw [HM.out])
      have hxne : xa = none → xc = 0 := fun e => by
        have h0 := hPx.row
        rcases h0 with h0 | ⟨b1, o1, h1, _⟩
        · dsimp only at h0; have := HM.out; rw [h0] at this; simp at this; omega
        · dsimp only at h1; rw [e] at h1; cases h1
      have hxl1 : Hid ((xl.map (Value.int .u8)).length = mx * 1) := hid (by rw [List.length_map, HM.out]; omega)
      have hs3 : B ≤ wr.heap.size := by have := hO.lt; omega
      have hxB : ∀ b, xa = some b → b.block < B := fun b e => by rw [HB.out]; exact hx.lt b (by rw [← e, HXA.out])
      clear hx hc hv hcell hjm hLj hjL
      have hoc := fun w => hid (Octets_any (mx : Int) 4 w (by omega))
      simp only [octN_four] at hoc
      go_wp2_with (first | (at_builtin; refine wl_appendS rfl _ _ 69 rfl 5 (.int .u8 0) 1 1 Try.underlying69 info8 rfl (by decide) B _ (m + 4) _ rfl hM5 xa mx xc rfl hxne (xl.map (Value.int .u8)) hxl1.out (RowV.kept (hPx.below hb4).row.v hg5 (fun b e hr => by have h8 := (hrow5 _ hr).1; have h9 := hxB b e; omega)) (ints_one _ _) (by unfold maxLen; omega) (by omega) (by have := hb4.size; have := hg5.size; omega) (m + 4 + mx) rfl ?_; intro ao6 c6 w6 row6 hc6 hM6 hv6 hg6 hrow6) | (at_builtin; refine wl_appendS rfl _ _ 69 rfl 5 (.int .u8 0) 1 1 Try.underlying69 info8 rfl (by decide) B (.slice (some ⟨g, 0, none⟩) m c) m _ rfl (Mine.belowAll (Or.inl hO) hb4) (some ⟨wr.heap.size, 0, none⟩) 4 4 rfl (fun h => by cases h) ((o4 (mx : Int)).map (Value.int .u8)) rfl hO4.row.v (ints_one _ _) (by unfold maxLen; omega) (by omega) (by have := hb4.size; omega) (m + 4) rfl ?_; intro ao5 c5 w5 row5 hc5 hM5 hv5 hg5 hrow5) | (go_at_call 112; refine (hoc wr).out.mono ?_; rintro e w4 ⟨rfl, hO4, hb4⟩))
      have bb6 : Below B w w6 := ((hb.trans (hb4.mono hs3)).grown hg5 (by have := hb4.size; omega) (fun k hk => (hrow5 k hk).1)).grown hg6 (by have := hb4.size; have := hg5.size; omega) (fun k hk => (hrow6 k hk).1)
      rw [← List.map_append, ← List.map_append] at hM6
      obtain ⟨g6, rfl, _, _, hO6⟩ := Own8.of hM6 (by omega)
      go_roundw
      case rel => exact ⟨j + 1, g6, c6, m + 4 + mx, _, by omega, by go_num, rfl, by show _ = _; rw [HSN.out, HL.out]; simp only [List.append_assoc], by show _ = _; simp only [List.length_append]; rw [HLm.out, ← HM.out]; rfl, by omega, hO6, bb6⟩
      case measure => simp [intOf] <;> omega
    · obtain rfl : j = n := by omega
      have hE2 : L = packL LS := by rw [HL.out, List.take_of_length_le (by rw [hLl.out]; exact Nat.le_refl _)]; unfold packL; rw [hLl.out]
      rw [hE2] at hO HLm
      go_wp2_with fail
      go_ret
      exact ⟨g, c, m, rfl, HLm.out.symm, by rw [← HB.out]; exact hO, by rw [← HB.out]; exact hb⟩
end Go.Proofs.Ytbljihhelladbaa.wr
namespace Go.Proofs.Ytbljihhelladbaa.wr
open Go.RowKit Go.Proofs.Ytbljihhelladbaa.st Go.Proofs.Ytbljihhelladbaa.hs Go.Proofs.Ytbljihhelladbaa.shr Go.Proofs.Ytbljihhelladbaa.sh
set_option linter.unusedSimpArgs false
set_option linter.unusedVariables false
set_option pp.maxSteps 6000
theorem ptCut {w : World} {a : Option Addr} {c : Nat} {L : List Int} (HP : Pt.Ok w ⟨a, c, L⟩) (l h m : Nat) (h1 : l ≤ h) (h2 : h ≤ L.length) (h3 : h ≤ m) (h4 : m ≤ c) : Pt.Ok w ⟨if m = l then a else a.map (·.add (l * 1)), m - l, (L.drop l).take (h - l)⟩ := by
  have hlen : ((L.drop l).take (h - l)).length = h - l := by rw [List.length_take, List.length_drop]; omega
  refine ⟨?_, by show ((L.drop l).take (h - l)).length ≤ m - l; rw [hlen]; omega, Nat.le_trans (by show m - l ≤ c; omega) HP.cap, fun x hx => HP.oct x (List.mem_of_mem_drop (List.mem_of_mem_take hx)), fun b e => ?_⟩
  · by_cases e : l = h
    · left; show (L.drop l).take (h - l) = []; rw [e, Nat.sub_self, List.take_zero]
    · obtain ⟨b, off, hao, hb, hc⟩ := HP.row.at (i := 0) (by show 0 < L.length; omega)
      dsimp only at hao
      right
      refine ⟨b, off + l, ?_, hb, fun i hi => ?_⟩
      · show (if m = l then a else a.map (·.add (l * 1))) = _
        rw [if_neg (by omega), hao, Nat.mul_one]
        show some (Addr.add _ _) = _
        rw [addr_add]
      · dsimp only at hi
        rw [hlen] at hi
        show w.cell? ⟨b, off + l + i, none⟩ = some (.int .u8 (((L.drop l).take (h - l)).getD i 0))
        have := hc (l + i) (by show l + i < L.length; omega)
        rw [Nat.add_assoc, this]
        simp [List.getD_eq_getElem?_getD, List.getElem?_take, hi]
  · dsimp only at e
    by_cases e2 : m = l
    · rw [if_pos e2] at e; exact HP.lt b e
    · rw [if_neg e2] at e
      cases a with
      | none => cases e
      | some a0 =>
        have h9 := HP.lt a0 rfl
        simp only [Option.map_some, Option.some.injEq] at e
        rw [← e]
        unfold Addr.add
        split <;> exact h9
theorem some_cut (ao : Option Addr) (m l k : Nat) (d0 : Addr) (h : ao = some d0) : ∃ d, (if m = l then ao else ao.map (·.add k)) = some d ∧ d.block = d0.block := by
  subst h
  split
  · exact ⟨d0, rfl, rfl⟩
  · refine ⟨_, rfl, ?_⟩
    unfold Addr.add
    split <;> rfl
theorem elem8 : Try.prog.underlying 69 = some (.slice (Try.prog.elem 69)) := by kernel_rfl
theorem size8e (w : World) : (sizeOf (Try.prog.elem 69)).run Try.prog w = .ok 1 w := by kernel_rfl
section
variable {w : World} {ops : Array Oper} {rest : List Oper} {o : Oper} {a : Act} {Q : Exit → Act → World → Prop}
theorem wl_cutL (hgd : o.guard = none) (x y : Operand) (ho : o.op = .slice 69 x (some y) none none) (ao : Option Addr) (n c : Nat) (L : List Int) (hx : a.eval x = .slice ao n c) (l : Nat) (li : Int) (hy : a.eval y = .int .i64 li) (hli : li = (l : Int)) (hn : n = L.length) (HP : Pt.Ok w ⟨ao, c, L⟩) (hl : l ≤ n) (N C : Nat) (hN : N = n - l) (hC : C = c - l)
    (hK : ∀ ao', (∀ d0, ao = some d0 → ∃ d, ao' = some d ∧ d.block = d0.block) → Pt.Ok w ⟨ao', C, L.drop l⟩ → wpList Try.prog ops Q rest (a.put o.dst (.slice ao' N C)) w) : wpList Try.prog ops Q (o :: rest) a w := by
  subst hN hC hli
  have hcn : n ≤ c := by rw [hn]; exact HP.len
  have hrun := run_slice_l (P := Try.prog) w 69 ao n c elem8 .i64 (l : Int) (by omega) (by omega)
  rw [size8e] at hrun
  simp only [Result.andThen_ok, Int.toNat_natCast, sliced] at hrun
  have h2 := ptCut HP l L.length c (by omega) (Nat.le_refl _) (by omega) (Nat.le_refl _)
  rw [List.take_of_length_le (by rw [List.length_drop]; omega)] at h2
  refine wpList_plain hgd fun K hK' => ?_
  unfold Oper.wp
  simp only [execOp, ho, hx, Option.map_some, Option.map_none, hy, run_sliceAt_slice (P := Try.prog) w _ _ _ _ _ elem8, hrun, Sem.run_bind, Result.andThen_ok, Sem.run_pure]
  exact hK' _ _ (hK _ (some_cut ao _ _ _) h2)
theorem wl_cutLH (hgd : o.guard = none) (x y z : Operand) (ho : o.op = .slice 69 x (some y) (some z) none) (ao : Option Addr) (n c : Nat) (L : List Int) (hx : a.eval x = .slice ao n c) (l h : Nat) (li hi : Int) (hy : a.eval y = .int .i64 li) (hli : li = (l : Int)) (hz : a.eval z = .int .i64 hi) (hhi : hi = (h : Int)) (hn : n = L.length) (HP : Pt.Ok w ⟨ao, c, L⟩) (hl : l ≤ h) (hh : h ≤ n) (N C : Nat) (hN : N = h - l) (hC : C = c - l)
    (hK : ∀ ao', (∀ d0, ao = some d0 → ∃ d, ao' = some d ∧ d.block = d0.block) → Pt.Ok w ⟨ao', C, (L.drop l).take N⟩ → wpList Try.prog ops Q rest (a.put o.dst (.slice ao' N C)) w) : wpList Try.prog ops Q (o :: rest) a w := by
  subst hN hC hli hhi
  have hcn : n ≤ c := by rw [hn]; exact HP.len
  have hrun := run_slice_lh (P := Try.prog) w 69 ao n c elem8 .i64 .i64 (l : Int) (h : Int) (by omega) (by omega) (by omega)
  rw [size8e] at hrun
  simp only [Result.andThen_ok, Int.toNat_natCast, sliced] at hrun
  have h2 := ptCut HP l h c hl (by omega) (by omega) (Nat.le_refl _)
  refine wpList_plain hgd fun K hK' => ?_
  unfold Oper.wp
  simp only [execOp, ho, hx, Option.map_some, Option.map_none, hy, hz, run_sliceAt_slice (P := Try.prog) w _ _ _ _ _ elem8, hrun, Sem.run_bind, Result.andThen_ok, Sem.run_pure]
  exact hK' _ _ (hK _ (some_cut ao _ _ _) h2)
theorem wl_cutLHM (hgd : o.guard = none) (x y z u : Operand) (ho : o.op = .slice 69 x (some y) (some z) (some u)) (ao : Option Addr) (n c : Nat) (L : List Int) (hx : a.eval x = .slice ao n c) (l h m : Nat) (li hi mi : Int) (hy : a.eval y = .int .i64 li) (hli : li = (l : Int)) (hz : a.eval z = .int .i64 hi) (hhi : hi = (h : Int)) (hu : a.eval u = .int .i64 mi) (hmi : mi = (m : Int)) (hn : n = L.length) (HP : Pt.Ok w ⟨ao, c, L⟩) (hl : l ≤ h) (hh : h ≤ n) (hm : h ≤ m) (hmc : m ≤ c) (N C : Nat) (hN : N = h - l) (hC : C = m - l)
    (hK : ∀ ao', (∀ d0, ao = some d0 → ∃ d, ao' = some d ∧ d.block = d0.block) → Pt.Ok w ⟨ao', C, (L.drop l).take N⟩ → wpList Try.prog ops Q rest (a.put o.dst (.slice ao' N C)) w) : wpList Try.prog ops Q (o :: rest) a w := by
  subst hN hC hli hhi hmi
  have hcn : n ≤ c := by rw [hn]; exact HP.len
  have hrun := run_slice_lhm (P := Try.prog) w 69 ao n c elem8 .i64 .i64 .i64 (l : Int) (h : Int) (m : Int) (by omega) (by omega) (by omega) (by omega)
  rw [size8e] at hrun
  simp only [Result.andThen_ok, Int.toNat_natCast, sliced] at hrun
  have h2 := ptCut HP l h m hl (by omega) hm hmc
  refine wpList_plain hgd fun K hK' => ?_
  unfold Oper.wp
  simp only [execOp, ho, hx, Option.map_some, Option.map_none, hy, hz, hu, run_sliceAt_slice (P := Try.prog) w _ _ _ _ _ elem8, hrun, Sem.run_bind, Result.andThen_ok, Sem.run_pure]
  exact hK' _ _ (hK _ (some_cut ao _ _ _) h2)
theorem wl_cutH (hd : Region.wanted o (yielded ops a.tmps) = true) (x z : Operand) (ho : o.op = .slice 69 x none (some z) none) (ao : Option Addr) (n c : Nat) (L : List Int) (hx : a.eval x = .slice ao n c) (h : Nat) (hi : Int) (hz : a.eval z = .int .i64 hi) (hhi : hi = (h : Int)) (hn : n = L.length) (HP : Pt.Ok w ⟨ao, c, L⟩) (hh : h ≤ n) (hpo : 0 < h)
    (hK : Pt.Ok w ⟨ao, c, L.take h⟩ → wpList Try.prog ops Q rest (a.put o.dst (.slice ao h c)) w) : wpList Try.prog ops Q (o :: rest) a w := by
  subst hhi
  have hcn : n ≤ c := by rw [hn]; exact HP.len
  have hrun := run_slice_h (P := Try.prog) w 69 ao n c elem8 .i64 (h : Int) (by omega) (by omega)
  rw [size8e] at hrun
  simp only [Result.andThen_ok, Int.toNat_natCast, sliced] at hrun
  have h2 := ptCut HP 0 h c (Nat.zero_le _) (by omega) (by omega) (Nat.le_refl _)
  rw [List.drop_zero, Nat.sub_zero, Nat.sub_zero] at h2
  have hao : (if c = 0 then ao else ao.map (·.add (0 * 1))) = ao := by
    split
    · rfl
    · cases ao with
      | none => rfl
      | some a0 =>
        simp only [Option.map_some, Nat.zero_mul]
        unfold Addr.add
        rw [if_pos rfl]
  rw [hao] at h2 hrun
  refine wpList_step fun K hK' => ?_
  rw [if_pos hd]
  unfold Oper.wp
  simp only [execOp, ho, hx, Option.map_some, Option.map_none, hz, run_sliceAt_slice (P := Try.prog) w _ _ _ _ _ elem8, hrun, Nat.sub_zero, Sem.run_bind, Result.andThen_ok, Sem.run_pure]
  exact hK' _ _ (hK h2)
end
set_option maxRecDepth 100000 in
set_option maxHeartbeats 1000000 in
theorem Number_short (ao : Option Addr) (cap n : Nat) (w : World) (h : n < 4) :
    Calls Try.prog 128 #[.slice ao n cap, .int .i64 0] w fun e w' => e = .returned (.tuple #[.int .u32 0, .int .i64 1]) ∧ Below w.heap.size w w' := by
  have hro := hid (room_short ao n cap 0 4 w (by omega) (by unfold maxLen; omega))
  go_enter Try.func128, Try.ntmps128
  go_wp2_with (go_at_call 178; refine hro.out.mono ?_; rintro e w1 ⟨rfl, rfl⟩)
  go_ret2
  exact ⟨rfl, Below.refl _ _⟩
end Go.Proofs.Ytbljihhelladbaa.wr
