/-
  Contract of keyref1.IsName. Conditions: a string of at most maxLen octets.
-/
import Derived.Test.YtdhipjoplkpgmaaGreatDoorHCmB
import Derived.Deep.LoopGhost
set_option maxRecDepth 100000
set_option linter.unusedSimpArgs false
set_option linter.unusedVariables false
set_option maxHeartbeats 2000000
namespace Go.Proofs.YtdhipjoplkpgmaaGreatDoor.wr
open Go.RowKit st hs shr sh
theorem nameC_large {r : Nat} (h : 128 ≤ r) : nameC (r : Int) = false := by
 cases e : nameC (r : Int)
 ·rfl
 ·have := nameC_small e; omega
theorem ContainsRune_any (r : Nat) (w : World) (h2 : r ≤ 1114111) : Calls Tryz.prog 105 #[.string KS, .int .i32 r] w fun e w' => e = .returned (.bool (nameC (r : Int))) ∧ Below w.heap.size w w' := by
 by_cases h : r < 128
 ·have hk := hid (KS_ascii ⟨r, h⟩)
  have hi := fun w => hid (IndexRune_ascii r w h)
  have e1 : UInt8.ofNat r = r.toUInt8 := rfl
  obtain ⟨I, HI⟩ := hidE (Lib.indexByte KS.data.toList r.toUInt8)
  have hk2 : Hid (decide (0 ≤ I) = nameC (r : Int)) := hid (by rw [HI.out]; exact hk.out)
  rw [← HI.out] at hi
  obtain ⟨K, HK⟩ := hidE KS
  rw [← HK.out] at hi ⊢
  go_enter Tryz.func105, Tryz.ntmps105
  go_wp2_with (go_at_call 188; refine (hi w).out.mono ?_; rintro e w' ⟨rfl, rfl⟩)
  go_ret
  exact ⟨rv (rb hk2.out), Below.refl _ _⟩
 ·have hi := fun w => hid (IndexRune_none r w (by omega) h2)
  have hn := hid (nameC_large (r := r) (by omega))
  rw [hn.out]
  obtain ⟨K, HK⟩ := hidE KS
  rw [← HK.out] at hi ⊢
  go_enter Tryz.func105, Tryz.ntmps105
  go_wp2_with (go_at_call 188; refine (hi w).out.mono ?_; rintro e w' ⟨rfl, hb⟩)
  go_ret
  exact ⟨rfl, hb⟩
theorem notName_any (r : Nat) (w : World) (h2 : r ≤ 1114111) : Calls Tryz.prog 104 #[.int .i32 r] w fun e w' => e = .returned (.bool (!nameC (r : Int))) ∧ Below w.heap.size w w' := by
 have hc := fun w => hid (ContainsRune_any r w h2)
 have e : KS = ⟨#[97, 98, 99, 100, 101, 102, 103, 104, 105, 106, 107, 108, 109, 110, 111, 112, 113, 114, 115, 116, 117, 118, 119, 120, 121, 122, 48, 49, 50, 51, 52, 53, 54, 55, 56, 57, 45, 46, 95]⟩ := rfl
 rw [e] at hc
 obtain ⟨N, HN⟩ := hidE (nameC (r : Int))
 rw [← HN.out] at hc ⊢
 clear e
 go_enter Tryz.func104, Tryz.ntmps104
 go_wp2_with (go_at_call 105; refine (hc w).out.mono ?_; rintro e w' ⟨rfl, hb⟩)
 go_ret
 exact ⟨rfl, hb⟩
def badR (s : ByteArray) : Nat → Nat → Bool
 | 0, _ => false
 | f + 1, pos => if pos < s.size then !nameC ((Utf8.decode s pos).1 : Int) || badR s f (pos + (Utf8.decode s pos).2) else false
theorem badR_succ (s : ByteArray) (f pos : Nat) : badR s (f + 1) pos = if pos < s.size then !nameC ((Utf8.decode s pos).1 : Int) || badR s f (pos + (Utf8.decode s pos).2) else false := rfl
theorem badR_end (s : ByteArray) (f pos : Nat) (h : ¬ pos < s.size) : badR s f pos = false := by cases f <;> simp [badR, h]
theorem decode_low (s : ByteArray) (pos : Nat) (h : (s.get! pos).toNat < 128) : Utf8.decode s pos = ((s.get! pos).toNat, 1) := by
 unfold Utf8.decode
 simp only [Nat.add_zero]
 rw [if_pos h]
theorem decode_high (s : ByteArray) (pos : Nat) (h : 128 ≤ (s.get! pos).toNat) : 128 ≤ (Utf8.decode s pos).1 := by
 unfold Utf8.decode Utf8.runeError
 simp only [Nat.add_zero]
 rw [if_neg (by omega)]
 repeat' split
 all_goals (first | (simp only; omega) | (simp at *; omega) | (simp; done))
theorem badR_all (s : ByteArray) : ∀ f pos, s.size ≤ pos + f → badR s f pos = ((s.data.toList.drop pos).any fun c => !nameC (c.toNat : Int))
 | 0, pos, h => by
  rw [List.drop_of_length_le (by show s.data.toList.length ≤ pos; simpa using h)]
  rfl
 | f + 1, pos, h => by
  unfold badR
  by_cases hp : pos < s.size
  ·rw [if_pos hp]
   have hl : pos < s.data.toList.length := by simpa using hp
   have hg : s.get! pos = s.data.toList[pos] := by
    show s.data[pos]! = _
    rw [getElem!_pos s.data pos (by simpa using hl)]; simp
   rw [List.drop_eq_getElem_cons hl, List.any_cons]
   by_cases hc : (s.get! pos).toNat < 128
   ·rw [decode_low s pos hc, badR_all s f (pos + 1) (by omega), hg]
   ·have hd := decode_high s pos (by omega)
    have h1 : nameC ((Utf8.decode s pos).1 : Int) = false := nameC_large hd
    have h2 : nameC ((s.data.toList[pos]).toNat : Int) = false := nameC_large (by rw [← hg]; omega)
    rw [h1, h2]; rfl
  ·rw [if_neg hp, List.drop_of_length_le (by simpa using hp)]
   rfl
theorem indexFunc_any (s : ByteArray) (w : World) :
  Calls Tryz.prog 295 #[.string s, .func (.func 104) #[] #[], .bool true] w fun e w' => ∃ i : Int, e = .returned (.int .i64 i) ∧ decide (0 ≤ i) = badR s s.size 0 ∧ Below w.heap.size w w' := by
 have hfn := fun (r : Nat) (w : World) (h : r ≤ 1114111) => hid (notName_any r w h)
 go_enter Tryz.func295, Tryz.ntmps295
 go_wp2
 go_loopg [] s.size (fun gf wx => ∃ pos : Nat, wx.heap[w.heap.size]? = some (.stringIter s pos) ∧ Below w.heap.size w wx ∧ Hid (badR s gf pos = badR s s.size 0) ∧ s.size ≤ pos + gf)
 case atStart => exact ⟨0, World.iter_heap w s 0, (Below.refl _ w).alloc (Nat.le_refl _) _, rfl, by omega⟩
 case round =>
  obtain ⟨pos, hit, hbw, hleft, hfu⟩ := hrel
  by_cases hps : pos < s.size
  ·obtain ⟨g', rfl⟩ : ∃ g', gk = g' + 1 := ⟨gk - 1, by omega⟩
   have hnx : ∀ ty, (Instr.next (.pointer (some ⟨w.heap.size, 0, none⟩)) true ty).run Tryz.prog wr = _ := fun ty => Lib.run_next_any_at wr w.heap.size s pos ty hit hps
   have hwd := Lib.width_pos s pos
   have hle := Lib.rune_le s pos
   have hl2 := hleft.out
   obtain ⟨R, hR⟩ : ∃ R, (Utf8.decode s pos).1 = R := ⟨_, rfl⟩
   obtain ⟨K, hK⟩ : ∃ K, (Utf8.decode s pos).2 = K := ⟨_, rfl⟩
   rw [badR_succ, if_pos hps, hR, hK] at hl2
   rw [hR, hK] at hnx
   rw [hK] at hwd
   rw [hR] at hle
   have hit2 := Lib.iterAt_heap wr w.heap.size s pos (pos + K) hit
   have hbw2 := Lib.below_iterAt hbw (k := w.heap.size) (Nat.le_refl _) s (pos + K)
   obtain ⟨W, hWd⟩ : ∃ W, wr.iterAt w.heap.size s (pos + K) = W := ⟨_, rfl⟩
   rw [hWd] at hnx hit2 hbw2
   have hltW : w.heap.size < W.heap.size := (Array.getElem?_eq_some_iff.1 hit2).1
   have cS := hfn R W hle
   clear hfn hleft
   cases hsp : nameC (R : Int) <;> rw [hsp] at cS hl2
   ·have HL2 := hid hl2
    clear hl2 hsp
    go_wp2_with (go_at_call 104; refine cS.out.mono ?_; rintro e W' ⟨rfl, hbc⟩)
    go_ret
    exact ⟨_, rfl, by rw [← HL2.out]; simp, hbw2.trans (hbc.mono hbw2.size)⟩
   ·have HL2 : Hid (badR s g' (pos + K) = badR s s.size 0) := hid (by rw [← hl2]; simp)
    clear hl2 hsp
    go_wp2_with (go_at_call 104; refine cS.out.mono ?_; rintro e W' ⟨rfl, hbc⟩)
    go_roundg g'
    case measure => omega
    case rel => exact ⟨pos + K, (hbc.block _ hltW).trans hit2, hbw2.trans (hbc.mono hbw2.size), HL2, by omega⟩
  ·have hnx : ∀ ty, (Instr.next (.pointer (some ⟨w.heap.size, 0, none⟩)) true ty).run Tryz.prog wr = _ := fun ty => Lib.run_next_end_at wr w.heap.size s pos ty hit hps
   have hl2 := hid (hleft.out.symm.trans (badR_end s gk pos hps))
   go_wp2
   go_ret
   exact ⟨_, rfl, by rw [hl2.out]; rfl, hbw⟩
theorem IndexFunc_any (s : ByteArray) (w : World) :
  Calls Tryz.prog 187 #[.string s, .func (.func 104) #[] #[]] w fun e w' => ∃ i : Int, e = .returned (.int .i64 i) ∧ decide (0 ≤ i) = badR s s.size 0 ∧ Below w.heap.size w w' := by
 have hi := fun w => hid (indexFunc_any s w)
 go_enter Tryz.func187, Tryz.ntmps187
 go_wp2_with (go_at_call 295; refine (hi w).out.mono ?_; rintro e w' ⟨i, rfl, h1, h2⟩)
 go_ret
 exact ⟨_, rfl, h1, h2⟩
theorem ContainsFunc_any (s : ByteArray) (w : World) :
  Calls Tryz.prog 103 #[.string s, .func (.func 104) #[] #[]] w fun e w' => e = .returned (.bool (badR s s.size 0)) ∧ Below w.heap.size w w' := by
 have hi := fun w => hid (IndexFunc_any s w)
 go_enter Tryz.func103, Tryz.ntmps103
 go_wp2_with (go_at_call 187; refine (hi w).out.mono ?_; rintro e w' ⟨i, rfl, h1, h2⟩; have H1 := hid h1; clear h1)
 go_ret
 exact ⟨rv (rb H1.out), h2⟩
theorem isName_bad2 (s : ByteArray) : isName s = (!badR s s.size 0 && (decide (0 < s.size) && decide (s.size ≤ 32))) := by
 rw [badR_all s s.size 0 (by omega), List.drop_zero]
 unfold isName
 congr 1
 rw [List.not_any_eq_all_not]
 simp
theorem RefIsName_any (s : ByteArray) (w : World) (hs : s.size ≤ maxLen) :
  Calls Tryz.prog 43 #[.string s] w fun e w' => e = .returned (.bool (isName s)) ∧ Below w.heap.size w w' := by
 unfold maxLen at hs
 have hc := fun w => hid (ContainsFunc_any s w)
 have hn := hid (isName_bad2 s)
 by_cases h0 : s = ⟨#[]⟩
 ·subst h0
  have e : isName ⟨#[]⟩ = false := by decide
  rw [e]
  clear hc hn e
  go_enter Tryz.func43, Tryz.ntmps43
  go_wp2
  go_ret
  exact ⟨rfl, Below.refl _ _⟩
 ·have hpos : 0 < s.size := by
   rcases Nat.eq_zero_or_pos s.size with h | h
   ·exact absurd (by cases s; rename_i d; congr 1; exact Array.eq_empty_of_size_eq_zero h) h0
   ·exact h
  have hne : (s.toList == []) = false := by
   have h1 := str_ne h0
   have h2 : (⟨#[]⟩ : ByteArray).toList = [] := by rw [toList_eq]
   rw [h2] at h1
   exact h1
  by_cases h32 : s.size ≤ 32
  ·have hI : (s.size : Int) ≤ 32 := by omega
   have e : Hid (isName s = !badR s s.size 0) := hid (by rw [hn.out, decide_eq_true hpos, decide_eq_true h32]; simp)
   rw [e.out]
   obtain ⟨b, Hb⟩ := hidE (badR s s.size 0)
   rw [← Hb.out] at hc ⊢
   clear h0 e hn
   go_enter Tryz.func43, Tryz.ntmps43
   go_wp2_with (go_at_call 103; refine (hc w).out.mono ?_; rintro e w' ⟨rfl, hb⟩)
   go_ret
   exact ⟨rfl, hb⟩
  ·have hI : ¬ (s.size : Int) ≤ 32 := by omega
   have e : isName s = false := by rw [hn.out, decide_eq_false h32]; simp
   rw [e]
   clear h0 e hn hc
   go_enter Tryz.func43, Tryz.ntmps43
   go_wp2
   go_ret
   exact ⟨rfl, Below.refl _ _⟩
end Go.Proofs.YtdhipjoplkpgmaaGreatDoor.wr
