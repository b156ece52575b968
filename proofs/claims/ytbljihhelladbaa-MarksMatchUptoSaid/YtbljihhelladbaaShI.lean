/-
  Contracts of share.CheckShares; of keyref2.SharesError's closure; of package slices with that closure. Conditions: shares of the type's form.
-/
import Derived.Test.YtbljihhelladbaaShH
import Derived.Test.YtbljihhelladbaaEqA
namespace Go.Proofs.Ytbljihhelladbaa.shr
set_option linter.unusedVariables false
open Go.RowKit Go.Proofs.Ytbljihhelladbaa.sh
set_option linter.unusedSimpArgs false
set_option pp.maxSteps 6000

theorem CheckShares_any (need : Int) (ao : Option Addr) (cap : Nat) (l : List Sh) (w : World) (hr : RowS w ao l) (hok : ∀ s ∈ l, s.Ok) (hn : l.length ≤ 9223372036854775807) :
    Calls Try.prog 34 #[.int .i64 need, .slice ao l.length cap] w fun e w' => e = .returned (.int .i64 (sharesE false need l)) ∧ Below w.heap.size w w' := by
  have HOK := hid hok
  clear hok
  unfold sharesE
  cases hin : inB need 1 32
  · go_enter Try.func34, Try.ntmps34
    go_wp2_with (go_at_call 86; refine (outside_any _ _ _ _).mono ?_; rintro e w1 ⟨rfl, rfl⟩)
    go_ret
    exact ⟨rfl, Below.refl _ _⟩
  · by_cases h1 : (l.length : Int) < need
    · go_enter Try.func34, Try.ntmps34
      go_wp2_with (go_at_call 86; refine (outside_any _ _ _ _).mono ?_; rintro e w1 ⟨rfl, rfl⟩)
      go_ret
      exact ⟨rv (ri (by simp [h1])), Below.refl _ _⟩
    · by_cases h2 : 32 < l.length
      · go_enter Try.func34, Try.ntmps34
        go_wp2_with (go_at_call 86; refine (outside_any _ _ _ _).mono ?_; rintro e w1 ⟨rfl, rfl⟩)
        go_ret
        exact ⟨rv (ri (by simp [h1, h2])), Below.refl _ _⟩
      · have H1 := hid h1
        have H2 := hid h2
        go_enter Try.func34, Try.ntmps34
        go_wp2_with (first | (go_at_call 86; refine (outside_any _ _ _ _).mono ?_; rintro e w1 ⟨rfl, rfl⟩) | (go_at_call 103; refine (eachFault_any _ _ l _ hr HOK.out (by omega)).mono ?_; rintro e w1 ⟨rfl, hb1⟩))
        go_ret
        exact ⟨rv (ri (by simp [H1.out, H2.out])), hb1⟩

set_option maxRecDepth 100000 in
theorem same1 (s t : Sh) (hs : s.Ok) (ht : t.Ok) (g : Nat) (w : World) (hg : BlkV 61 w g s.cs) :
    Calls Try.prog 98 #[.agg t.cs.toArray, .pointer (some ⟨g, 0, none⟩)] w fun e w' => e = .returned (.bool (same s t)) ∧ Below w.heap.size w w' := by
  have hT0 : BlkV 61 (w.alloc (.cells t.cs.toArray 61)) w.heap.size t.cs := BlkV.new _ _ _ rfl
  have hS0 := hg.alloc (.cells t.cs.toArray 61)
  have cT := (hT0.cell 16).trans (cs_x t ht)
  have cS := (hS0.cell 16).trans (cs_x s hs)
  have aT := at_h ht hT0
  have aS := at_h hs hS0
  have heq := fun w => run_equalIn_ints (P := Try.prog) w 9998 57 5 16 .u8 Try.underlying57 Try.underlying5 (fun w => by kernel_rfl) t.h s.h ht.hl hs.hl
  have hb := (Below.refl w.heap.size w).alloc (Nat.le_refl _) (.cells t.cs.toArray 61)
  have HTL : Hid (t.cs.length = 49) := ht.csl
  have HT1 : Hid ((t.h.map (Value.int .u8)).length = 16) := by show _ = _; rw [List.length_map]; exact ht.hl
  have HS1 : Hid ((s.h.map (Value.int .u8)).length = 16) := by show _ = _; rw [List.length_map]; exact hs.hl
  unfold same
  generalize t.cs = T at *
  generalize t.h.map (Value.int .u8) = TH at *
  generalize s.h.map (Value.int .u8) = SH at *
  clear hS0 hT0 hg
  by_cases hx : t.x = s.x
  · have hx' : (t.x == s.x) = true := by simp [hx]
    have HX := hid hx'
    clear hx
    go_enter Try.func98, Try.ntmps98
    go_wp2
    go_ret
    exact ⟨rv (rb (by rw [HX.out]; rfl)), hb⟩
  · have hx' : (t.x == s.x) = false := by simp [hx]
    have HX := hid hx'
    clear hx
    go_enter Try.func98, Try.ntmps98
    go_wp2_with (first | (refine wl_loadG (by rfl) 57 _ rfl ⟨w.heap.size, 0, none⟩ rfl 16 TH HT1.out aggID aT ?_) | (refine wl_loadG (by rfl) 57 _ rfl ⟨g, 0, none⟩ rfl 16 SH HS1.out aggID aS ?_))
    go_ret
    exact ⟨rv (rb (by rw [HX.out]; rfl)), hb⟩

set_option maxRecDepth 100000 in
theorem idxSame (caps : Array Value) (p : Sh → Bool) (ao : Option Addr) (cap n : Nat) (l : List Sh) (w : World) (hl : n = l.length) (hr : RowS w ao l) (hn : l.length ≤ 4611686018427387904) (hok : ∀ s ∈ l, s.Ok)
    (hf : ∀ i, i < l.length → ∀ w', Below w.heap.size w w' → Calls Try.prog 98 (#[.agg (l.getD i nil).cs.toArray] ++ caps) w' fun e w'' => e = .returned (.bool (p (l.getD i nil))) ∧ Below w'.heap.size w' w'') :
    Calls Try.prog 119 #[.slice ao n cap, .func (.func 98) #[] caps] w fun e w' => e = .returned (.int .i64 (slInt.findI p l 0)) ∧ Below w.heap.size w w' := by
  subst hl
  have HOK := hid hok
  clear hok
  go_enter Try.func119, Try.ntmps119
  go_wp2
  go_loopw [5, 8] (fun _ i wr => ∃ k : Nat, k ≤ l.length ∧ i = .int .i64 k ∧ Hid (slInt.findI p (l.drop k) k = slInt.findI p l 0) ∧ Below w.heap.size w wr) (fun _ i _ => l.length - (intOf i).toNat)
  case atStart => exact ⟨0, Nat.zero_le _, rfl, rfl, Below.refl _ _⟩
  case round =>
    obtain ⟨k, hk, rfl, HA, hbl⟩ := hrel
    by_cases h0 : k < l.length
    · obtain ⟨b, off, s, rfl, hb, HS, hat0⟩ := hr.elem (i := k) h0
      have hs : s.Ok := by rw [HS.out, getD_lt' l nil h0]; exact HOK.out _ (List.getElem_mem h0)
      have hat := At.belowB hat0 hbl hb
      have HCL := hid hs.csl
      have HD := slInt.findI_drop p l nil k h0
      rw [← HS.out, HA.out] at HD
      replace HD := hid HD
      have HF := hf k h0 _ hbl
      rw [← HS.out] at HF
      replace HF := hid HF
      clear hf hat0
      cases hc : p s
      · have HN := hid hc
        rw [hc] at HF
        clear hc
        go_wp2_with (first | (refine wl_loadG (by rfl) 61 _ rfl ⟨b, off + k * 49, none⟩ rfl 49 s.cs HCL.out aggS hat ?_) | (go_at_call 98; refine HF.out.mono ?_; rintro e w1 ⟨rfl, hb1⟩))
        go_roundw
        case rel => exact ⟨k + 1, by omega, by go_num, by show _ = _; rw [HD.out, if_neg (by rw [HN.out]; simp)], hbl.trans (hb1.mono hbl.size)⟩
        case measure => simp [intOf] <;> omega
      · have HN := hid hc
        rw [hc] at HF
        clear hc
        go_wp2_with (first | (refine wl_loadG (by rfl) 61 _ rfl ⟨b, off + k * 49, none⟩ rfl 49 s.cs HCL.out aggS hat ?_) | (go_at_call 98; refine HF.out.mono ?_; rintro e w1 ⟨rfl, hb1⟩))
        go_ret
        exact ⟨rv (ri (by rw [HD.out, if_pos HN.out])), hbl.trans (hb1.mono hbl.size)⟩
    · go_wp2
      go_ret
      exact ⟨rv (ri (by rw [← HA.out, List.drop_eq_nil_of_le (by omega)]; rfl)), hbl⟩

set_option maxRecDepth 100000 in
theorem conSame (caps : Array Value) (p : Sh → Bool) (ao : Option Addr) (cap n : Nat) (l : List Sh) (w : World) (hl : n = l.length) (hr : RowS w ao l) (hn : l.length ≤ 4611686018427387904) (hok : ∀ s ∈ l, s.Ok)
    (hf : ∀ i, i < l.length → ∀ w', Below w.heap.size w w' → Calls Try.prog 98 (#[.agg (l.getD i nil).cs.toArray] ++ caps) w' fun e w'' => e = .returned (.bool (p (l.getD i nil))) ∧ Below w'.heap.size w' w'') :
    Calls Try.prog 58 #[.slice ao n cap, .func (.func 98) #[] caps] w fun e w' => e = .returned (.bool (l.any p)) ∧ Below w.heap.size w w' := by
  subst hl
  have HF := hid (slInt.findI_any p l 0)
  have HI := hid (idxSame caps p ao cap l.length l w rfl hr hn hok hf)
  clear hf hok
  go_enter Try.func58, Try.ntmps58
  go_wp2_with (go_at_call 119; refine HI.out.mono ?_; rintro e w1 ⟨rfl, hb1⟩)
  go_ret
  exact ⟨rv (rb HF.out), hb1⟩
end Go.Proofs.Ytbljihhelladbaa.shr
