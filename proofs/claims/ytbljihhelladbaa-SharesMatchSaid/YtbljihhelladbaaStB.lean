/-
  Contracts of both Stir functions: both make 'stirL'. Condition: the state is octets.
-/
import Derived.Test.YtbljihhelladbaaStA
import Derived.StillTailTactics
import Derived.Deep.RegionWith
import Derived.Deep.RegionLaw
import Derived.BigRegion
import Derived.IntWalk
namespace Go.Proofs.Ytbljihhelladbaa.st
open Go.RowKit
set_option pp.maxSteps 4000

def Octs (l : List Int) : Prop := ∀ c ∈ l, Oct c
theorem Octs.getD {l : List Int} (h : Octs l) (i : Nat) : Oct (l.getD i 0) := by
  by_cases hi : i < l.length
  · rw [getD_lt' _ _ hi]; exact h _ (List.getElem_mem hi)
  · rw [List.getD_eq_getElem?_getD, List.getElem?_eq_none (by omega)]; exact ⟨by simp, by simp⟩

/-- a row that is filled from the front -/
def fillTo (f : Nat → Int) (n k : Nat) : List Int := (List.range k).map f ++ List.replicate (n - k) 0
theorem fillTo_length (f : Nat → Int) (n k : Nat) (h : k ≤ n) : (fillTo f n k).length = n := by
  unfold fillTo; rw [List.length_append, List.length_map, List.length_range, List.length_replicate]; omega
theorem fillTo_zero (f : Nat → Int) (n : Nat) : fillTo f n 0 = List.replicate n 0 := by unfold fillTo; rw [List.range_zero]; rfl
theorem fillTo_all (f : Nat → Int) (n : Nat) : fillTo f n n = (List.range n).map f := by unfold fillTo; rw [Nat.sub_self, List.replicate_zero, List.append_nil]
theorem fillTo_get (f : Nat → Int) (n k i : Nat) : (fillTo f n k)[i]? = if i < k then some (f i) else if i < k + (n - k) then some 0 else none := by
  unfold fillTo
  rw [List.getElem?_append, List.length_map, List.length_range, List.getElem?_replicate]
  by_cases h : i < k
  · rw [if_pos h, if_pos h, List.getElem?_map, List.getElem?_range h]; rfl
  · rw [if_neg h, if_neg h]
    by_cases h2 : i < k + (n - k)
    · rw [if_pos h2, if_pos (by omega)]
    · rw [if_neg h2, if_neg (by omega)]
theorem fillTo_set (f : Nat → Int) (n k : Nat) (h : k < n) : (fillTo f n k).set k (f k) = fillTo f n (k + 1) := by
  apply List.ext_getElem?
  intro i
  rw [List.getElem?_set, fillTo_length f n k (by omega), fillTo_get, fillTo_get]
  by_cases e : k = i
  · subst e; rw [if_pos rfl, if_pos h, if_pos (by omega)]
  · rw [if_neg e]
    by_cases h1 : i < k
    · rw [if_pos h1, if_pos (by omega)]
    · rw [if_neg h1, if_neg (by omega : ¬ i < k + 1), show k + (n - k) = k + 1 + (n - (k + 1)) by omega]

theorem at_ints {k : IntKind} {t : TypeId} {w : World} {g : Nat} {l : List Int} (h : BlkV t w g (l.map (Value.int k))) (off : Nat) (ds : List Int) (hd : ∀ j, j < ds.length → off + j < l.length ∧ ds.getD j 0 = l.getD (off + j) 0) : At w ⟨g, off, none⟩ (ds.map (Value.int k)) :=
  h.at off _ fun j u hu => by
    have hj : j < ds.length := by have := (List.getElem?_eq_some_iff.1 hu).1; simpa using this
    obtain ⟨h1, h2⟩ := hd j hj
    rw [List.getElem?_map, List.getElem?_eq_getElem hj] at hu
    rw [List.getElem?_map, List.getElem?_eq_getElem h1]
    rw [getD_lt' _ _ hj, getD_lt' _ _ h1] at h2
    rw [← h2]
    exact hu

theorem run_arrayAt4 (w : World) (a : Addr) (cap : Nat) : (Instr.arrayAt 204 (.slice (some a) 4 cap)).run Try.prog w = .ok (.pointer (some a)) w := by
  simp [Instr.arrayAt, run_underlying Try.underlying204, Result.andThen]

theorem zero16 : (Try.prog.info? 236).map (·.zero) = some (some (.agg ((List.replicate 16 (0 : Int)).map (Value.int .u32)).toArray)) := by kernel_rfl
theorem zero64 : (Try.prog.info? 152).map (·.zero) = some (some (.agg ((List.replicate 64 (0 : Int)).map (Value.int .u8)).toArray)) := by kernel_rfl

set_option maxRecDepth 100000 in
set_option maxHeartbeats 1000000 in
theorem wordsOf (s : List Int) (w : World) (hl : s.length = 64) (hs : Octs s) :
    Calls Try.prog 228 #[.agg (s.map (Value.int .u8)).toArray] w fun e w' => e = .returned (.agg ((wordsL s 16).map (Value.int .u32)).toArray) ∧ Below w.heap.size w w' := by
  have HL := hid hl
  have HZ := hid zero16
  obtain ⟨Z, HZ'⟩ : ∃ Z, Hid (Z = (List.replicate 16 (0 : Int)).map (Value.int .u32)) := ⟨_, rfl⟩
  rw [← HZ'.out] at HZ
  obtain ⟨S, HS⟩ : ∃ S, Hid (S = s.map (Value.int .u8)) := ⟨_, rfl⟩
  rw [← HS.out]
  clear hl
  go_enter Try.func228, Try.ntmps228
  go_wp2_with (first | (refine wl_alloc rfl 236 rfl Z HZ.out ?_))
  go_loopw [5] (fun i wr => ∃ k : Nat, k ≤ 16 ∧ i = .int .i64 k ∧ BlkV 152 wr w.heap.size S ∧ BlkI .u32 236 wr (w.heap.size + 2) (fillTo (fun i => w4 (s.getD (4 * i) 0) (s.getD (4 * i + 1) 0) (s.getD (4 * i + 2) 0) (s.getD (4 * i + 3) 0)) 16 k) ∧ BlkV 236 wr (w.heap.size + 1) Z ∧ Below w.heap.size w wr) (fun i _ => 16 - (intOf i).toNat)
  case atStart =>
    refine ⟨0, by omega, rfl, ((BlkV.new _ w S rfl).alloc _).alloc _, ?_, (BlkV.new _ _ Z (by simp)).alloc _, (((Below.refl _ _).alloc (Nat.le_refl _) _).alloc (by simp) _).alloc (by simp; omega) _⟩
    rw [fillTo_zero]
    have := BlkV.new 236 ((w.alloc (.cells S.toArray 152)).alloc (.cells Z.toArray 236)) (g := w.heap.size + 2) Z (by simp)
    rw [HZ'.out] at this ⊢
    exact this
  case round =>
    obtain ⟨k, hk, rfl, hS, hW, hR, hb⟩ := hrel
    by_cases h0 : k < 16
    · obtain ⟨a, HA⟩ : ∃ a, Hid (a = s.getD (4 * k) 0) := ⟨_, rfl⟩
      obtain ⟨b, HB⟩ : ∃ b, Hid (b = s.getD (4 * k + 1) 0) := ⟨_, rfl⟩
      obtain ⟨c, HC⟩ : ∃ c, Hid (c = s.getD (4 * k + 2) 0) := ⟨_, rfl⟩
      obtain ⟨d, HD⟩ : ∃ d, Hid (d = s.getD (4 * k + 3) 0) := ⟨_, rfl⟩
      have ha : Oct a := by rw [HA.out]; exact hs.getD _
      have hbo : Oct b := by rw [HB.out]; exact hs.getD _
      have hc : Oct c := by rw [HC.out]; exact hs.getD _
      have hd : Oct d := by rw [HD.out]; exact hs.getD _
      have hAt : At wr ⟨w.heap.size, 4 * k, none⟩ ([a, b, c, d].map (Value.int .u8)) := at_ints (l := s) (by rw [← HS.out]; exact hS) _ _ fun j hj => by
        match j, hj with
        | 0, _ => exact ⟨by rw [HL.out]; omega, HA.out⟩
        | 1, _ => exact ⟨by rw [HL.out]; omega, HB.out⟩
        | 2, _ => exact ⟨by rw [HL.out]; omega, HC.out⟩
        | 3, _ => exact ⟨by rw [HL.out]; omega, HD.out⟩
      have hal : Try.prog.arrayLen 152 = 64 := by kernel_rfl
      have hAA := run_arrayAt4
      have hb1 : (0 : Int) ≤ 4 * (k : Int) := by omega
      have hb2 : 4 * (k : Int) ≤ 4 * (k : Int) + 4 := by omega
      have hb3 : 4 * (k : Int) + 4 ≤ 64 := by omega
      have hSl : Hid (S.length = 64) := by show S.length = 64; rw [HS.out, List.length_map, HL.out]
      go_wp2_with (first | (refine wl_load rfl 204 _ rfl ⟨w.heap.size, 4 * k, none⟩ rfl ([a, b, c, d].map (Value.int .u8)) agg4 hAt ?_))
      refine (word a b c d wr ha hbo hc hd).mono ?_
      rintro e wn ⟨rfl, hbn⟩
      have hfr := (hW.below hbn hW.lt).frozen k
      have hWn := hW.below hbn hW.lt
      have hcell := hWn.cell (i := k) (by rw [fillTo_length _ _ _ (by omega)]; exact h0)
      have hST := hWn.set k (w4 a b c d)
      go_wp2
      go_roundw
      case rel => exact ⟨k + 1, by omega, by go_num, (hS.below hbn hS.lt).other (by simp; omega) _, by rw [← fillTo_set _ _ _ h0, ← HA.out, ← HB.out, ← HC.out, ← HD.out]; exact hST, (hR.below hbn hR.lt).other (by simp) _, (hb.trans (hbn.mono hb.size)).setCell (by simp; omega) _⟩
      case measure => simp [intOf] <;> omega
    · obtain rfl : k = 16 := by omega
      rw [fillTo_all] at hW
      have hWl := wordsL_length s 16
      obtain ⟨R, HR⟩ : ∃ R, Hid (R = (wordsL s 16).map (Value.int .u32)) := ⟨_, rfl⟩
      have hWv : BlkV 236 wr (w.heap.size + 2) R := by rw [HR.out]; exact BlkI.v hW
      have hRl : R.length = 16 := by rw [HR.out, List.length_map, hWl]
      have hR1 : ∀ u ∈ R, u.oneCell' = true := by rw [HR.out]; exact ints_one _ _
      have hZl : Z.length = 16 := by rw [HZ'.out]; simp
      have HRL := hid hRl
      have HZL := hid hZl
      clear hW hRl hZl hWl
      go_wp2_with (first | (refine wl_load rfl 236 _ rfl ⟨w.heap.size + 2, 0, none⟩ rfl R (by rw [HRL.out]; exact agg16) hWv.at0 ?_) | (refine wl_storeAll rfl 236 _ _ rfl 236 (w.heap.size + 1) rfl R rfl 16 agg16 HRL.out Z hR HZL.out hR1 ?_; intro hRR))
      (try simp only [Exit.inBlock, Exit.then]); refine bodyPost_ret (results_cell rfl _ _ _ _ rfl R (by rw [HRL.out]; exact agg16) hRR.at0) rfl ?_
      exact ⟨by rw [HR.out], below_setRow' hb (by omega) _⟩
end Go.Proofs.Ytbljihhelladbaa.st
