/-
  Contracts of share.Through and share.Value: errors in their order, and the polynomial. Condition: no slice takes more than 2^47 bytes.
-/
import Derived.Test.YtlhfoelabanlfaaShC
import Derived.Test.YtlhfoelabanlfaaAgg
namespace Go.Proofs.Ytlhfoelabanlfaa.sh
open Go.RowKit Go.Proofs.Ytlhfoelabanlfaa.Fld

/-- the number at place i stands there already -/
def dupAt (l : List Int) (i : Nat) : Bool := (l.take i).any fun y => l.getD i 0 == y
def twiceTo (l : List Int) (k : Nat) : Bool := (List.range k).any (dupAt l)
theorem twiceTo_succ (l : List Int) (k : Nat) : twiceTo l (k + 1) = (twiceTo l k || dupAt l k) := by
  unfold twiceTo; rw [List.range_succ, List.any_append]; simp
theorem twiceTo_mono (l : List Int) (k m : Nat) (h : twiceTo l k = true) (hm : k ≤ m) : twiceTo l m = true := by
  unfold twiceTo at *
  rw [List.any_eq_true] at *
  obtain ⟨x, h1, h2⟩ := h
  exact ⟨x, by simp at *; omega, h2⟩

theorem apart_of_twice (l : List Int) (hr : Rng l) (h : twiceTo l l.length = false) : ApartTo l l.length := by
  intro i j hij hj hc
  have hi := hr.getD i
  have hjj := hr.getD j
  have he : l.getD i 0 = l.getD j 0 := hc.eq hi hjj
  have hd : dupAt l j = true := by
    unfold dupAt
    rw [List.any_eq_true]
    refine ⟨l.getD i 0, ?_, by rw [he]; simp⟩
    rw [getD_lt l 0 (by omega : i < l.length)]
    exact List.mem_take_iff_getElem.2 ⟨i, by omega, rfl⟩
  have : twiceTo l l.length = true := twiceTo_mono l (j + 1) l.length (by rw [twiceTo_succ, hd]; simp) (by omega)
  rw [h] at this; cases this

/-- the error of Through -/
def thrE (xs ys : List Int) : Int :=
  if xs.length ≠ ys.length then 2 else if 64 < xs.length then 5 else if (allN xs && allN ys) = false then 4 else if twiceTo xs xs.length = true then 8 else 0

/-- what has been seen of the first k places -/
def seen (l : List Int) (k : Nat) : List Value := (List.range 257).map fun (i : Nat) => Value.bool ((l.take k).any fun y => (i : Int) == y)
theorem seen_length (l : List Int) (k : Nat) : (seen l k).length = 257 := by unfold seen; rw [List.length_map, List.length_range]
theorem seen_get (l : List Int) (k n : Nat) (hn : n < 257) : (seen l k)[n]? = some (.bool ((l.take k).any fun y => (n : Int) == y)) := by
  unfold seen
  rw [List.getElem?_map, List.getElem?_range hn]
  rfl
theorem seen_succ (l : List Int) (k n : Nat) (hk : k < l.length) (h : l.getD k 0 = (n : Int)) : seen l (k + 1) = (seen l k).set n (.bool true) := by
  apply List.ext_getElem?
  intro i
  by_cases hi : i < 257
  · rw [List.getElem?_set, seen_length, seen_get _ _ _ hi]
    rw [List.take_succ_eq_append_getElem hk, List.any_append]
    rw [getD_lt l 0 hk] at h
    by_cases e : n = i
    · subst e; simp [h, hi]
    · have : ¬ ((i : Int) = (n : Int)) := by omega
      rw [if_neg e, seen_get _ _ _ hi]
      simp [h, this]
  · rw [List.getElem?_eq_none (by rw [seen_length]; omega), List.getElem?_eq_none (by rw [List.length_set, seen_length]; omega)]
theorem seen_zero (l : List Int) : seen l 0 = List.replicate 257 (.bool false) := by
  apply List.ext_getElem?
  intro i
  by_cases hi : i < 257
  · rw [seen_get _ _ _ hi, List.getElem?_replicate, if_pos hi]; rfl
  · rw [List.getElem?_eq_none (by rw [seen_length]; omega), List.getElem?_eq_none (by rw [List.length_replicate]; omega)]

theorem zeroSeen : (Try.prog.info? 133).map (·.zero) = some (some (.agg (List.replicate 257 (Value.bool false)).toArray)) := by kernel_rfl
theorem sizeSeen : (Try.prog.info? 133).map (·.size) = some 257 := by kernel_rfl
theorem builtSeen : Try.prog.built 133 [] = some (List.replicate 257 (Value.bool false)).toArray := by kernel_rfl

/-- what Through leaves -/
def ThroughPost (xs ys : List Int) (w : World) (e : Ending) (w' : World) : Prop :=
  Below w.heap.size w w' ∧ ((thrE xs ys = 0 ∧ ∃ g, w.heap.size ≤ g ∧ e = .returned (.tuple #[.slice (some ⟨g, 0, none⟩) xs.length xs.length, .int .i64 0]) ∧ BlkI .i64 3 w' g (through xs ys)) ∨
    (thrE xs ys ≠ 0 ∧ e = .returned (.tuple #[.slice none 0 0, .int .i64 (thrE xs ys)])))

set_option maxRecDepth 100000 in
set_option maxHeartbeats 1000000 in
theorem Through_loop (ax ay : Option Addr) (cx cy : Nat) (xs ys : List Int) (w : World) (hx : RowI .i64 w ax xs) (hy : RowI .i64 w ay ys) (hl : ys.length = xs.length) (rx : Rng xs) (ry : Rng ys) (hn : xs.length ≤ 64) :
    Calls Try.prog 27 #[.slice ax xs.length cx, .slice ay ys.length cy] w (ThroughPost xs ys w) := by
  have h1 : rfE xs = 0 := by unfold rfE; rw [if_pos (allN_rng.2 rx)]
  have h2 : rfE ys = 0 := by unfold rfE; rw [if_pos (allN_rng.2 ry)]
  have H1 := hid h1
  have H2 := hid h2
  have hne : ((xs.length : Int) != (ys.length : Int)) = false := by simp [hl]
  have HL := hid hl
  clear hl h1 h2
  obtain ⟨L, HSL⟩ : ∃ L, Hid (L = List.replicate 257 (Value.bool false)) := ⟨_, rfl⟩
  have hLl : L.length = 257 := by rw [HSL.out]; simp
  have HLL := hid hLl
  have HZ := hid zeroSeen
  have HB := hid builtSeen
  rw [← HSL.out] at HZ HB
  have hL1 : ∀ u ∈ L, u.oneCell' = true := by rw [HSL.out]; intro u hu; rw [(List.mem_replicate.1 hu).2]; rfl
  clear hLl
  go_enter Try.func27, Try.ntmps27
  go_wp2_with fail
  refine (rangeFault_any _ _ _ _ hx (by omega)).mono ?_
  rintro e w1 ⟨rfl, rfl⟩
  rw [H1.out]
  go_wp2_with fail
  refine (rangeFault_any _ _ _ _ hy (by have := HL.out; omega)).mono ?_
  rintro e w1 ⟨rfl, rfl⟩
  rw [H2.out]
  go_wp2_with (first | (refine wl_build0 rfl 133 rfl L HB.out ?_) | (refine wl_alloc rfl 133 rfl L HZ.out ?_) | (refine wl_store rfl 133 _ _ rfl 133 w.heap.size 0 rfl L rfl (by rw [HLL.out]; exact sizeSeen) L (BlkV.new 133 w L rfl) (by simp) hL1 ?_))
  have hS : BlkV 133 ((w.alloc (.cells L.toArray 133)).setRow w.heap.size L.toArray) w.heap.size (seen xs 0) := by
    rw [seen_zero, ← HSL.out]
    exact (BlkV.new 133 w L rfl).setRow L
  have hb0 : Below w.heap.size w ((w.alloc (.cells L.toArray 133)).setRow w.heap.size L.toArray) := below_setRow' ((Below.refl _ _).alloc (Nat.le_refl _) _) (Nat.le_refl _) _
  generalize (w.alloc (.cells L.toArray 133)).setRow w.heap.size L.toArray = w1 at *
  go_wp2_with fail
  go_loopw [28] (fun i wr => ∃ k : Nat, k ≤ xs.length ∧ i = .int .i64 k ∧ Hid (twiceTo xs k = false) ∧ BlkV 133 wr w.heap.size (seen xs k) ∧ Below w.heap.size w wr) (fun i _ => xs.length - (intOf i).toNat)
  case atStart => exact ⟨0, Nat.zero_le _, rfl, rfl, hS, hb0⟩
  case round =>
    clear hS hb0
    obtain ⟨k, hk, rfl, HT, hS, hb⟩ := hrel
    by_cases h0 : k < xs.length
    · obtain ⟨b, off, c, rfl, hbb, HC, hcell0⟩ := hx.elem (i := k) h0
      have hcell := (hb.cell (p := ⟨b, off + k, none⟩) hbb).trans hcell0
      have hcr : 0 ≤ c ∧ c ≤ 256 := by rw [HC.out]; exact rx.getD k
      obtain ⟨n, rfl⟩ : ∃ n : Nat, c = n := ⟨c.toNat, by omega⟩
      have hs0 := (hS.cell n).trans (seen_get xs k n (by omega))
      have hsz := hS.frozen n
      have HSN := hid (seen_succ xs k n h0 HC.out.symm)
      have HTN := hid (twiceTo_succ xs k)
      have HDA : Hid (dupAt xs k = (xs.take k).any fun y => (n : Int) == y) := by show dupAt xs k = _; unfold dupAt; rw [← HC.out]
      have hS' := hS.set n (.bool true)
      rw [← HSN.out] at hS'
      clear hcell0
      cases hd : (xs.take k).any fun y => (n : Int) == y
      · rw [hd] at hs0 HDA
        clear hd
        go_wp2
        go_roundw
        case rel => exact ⟨k + 1, by omega, by go_num, by show _ = _; rw [HTN.out, HT.out, HDA.out]; rfl, hS', hb.setCell (Nat.le_refl _) _⟩
        case measure => simp [intOf] <;> omega
      · rw [hd] at hs0 HDA
        clear hd
        go_wp2
        go_ret2
        have ht : twiceTo xs xs.length = true := twiceTo_mono xs (k + 1) _ (by rw [HTN.out, HDA.out]; simp) (by omega)
        have he : thrE xs ys = 8 := by
          unfold thrE
          rw [if_neg (by rw [HL.out]; simp), if_neg (by omega), if_neg (by rw [allN_rng.2 rx, allN_rng.2 ry]; simp), if_pos ht]
        exact ⟨hb, Or.inr ⟨by rw [he]; decide, by rw [he]; rfl⟩⟩
    · have hk' : k = xs.length := by omega
      have HT' : Hid (twiceTo xs xs.length = false) := by rw [← hk']; exact HT
      have he : thrE xs ys = 0 := by
        unfold thrE
        rw [if_neg (by rw [HL.out]; simp), if_neg (by omega), if_neg (by rw [allN_rng.2 rx, allN_rng.2 ry]; simp), if_neg (by rw [HT'.out]; simp)]
      have HE := hid he
      have hxr := hx.below hb
      have hyr := hy.below hb
      clear he hk'
      go_wp2_with fail
      refine (through_ys _ _ _ _ xs ys _ hxr hyr HL.out rx ry (apart_of_twice xs rx HT'.out) hn).mono ?_
      rintro e w2 ⟨rfl, hG, hb2⟩
      go_wp2
      go_ret2
      exact ⟨hb.trans (hb2.mono hb.size), Or.inl ⟨HE.out, _, hb.size, rfl, hG⟩⟩

theorem Through_any (ax ay : Option Addr) (cx cy : Nat) (xs ys : List Int) (w : World) (hx : RowI .i64 w ax xs) (hy : RowI .i64 w ay ys) (bx : xs.length ≤ 4611686018427387904) (by_ : ys.length ≤ 4611686018427387904) :
    Calls Try.prog 27 #[.slice ax xs.length cx, .slice ay ys.length cy] w (ThroughPost xs ys w) := by
  by_cases hl : ys.length = xs.length
  · have hne : ((xs.length : Int) != (ys.length : Int)) = false := by simp [hl]
    by_cases hn : xs.length ≤ 64
    · by_cases rx : Rng xs
      · by_cases ry : Rng ys
        · exact Through_loop ax ay cx cy xs ys w hx hy hl rx ry hn
        · have hay : allN ys = false := by cases h : allN ys with | false => rfl | true => exact absurd (allN_rng.1 h) ry
          have H1 : Hid (rfE xs = 0) := by show rfE xs = 0; unfold rfE; rw [if_pos (allN_rng.2 rx)]
          have H2 : Hid (rfE ys = 4) := by show rfE ys = 4; unfold rfE; rw [hay]; rfl
          have HE : Hid (thrE xs ys = 4) := by
            show thrE xs ys = 4
            unfold thrE
            rw [if_neg (by rw [hl]; simp), if_neg (by omega), if_pos (by rw [hay]; simp)]
          clear hl hay rx ry
          go_enter Try.func27, Try.ntmps27
          go_wp2_with fail
          refine (rangeFault_any _ _ _ _ hx bx).mono ?_
          rintro e w1 ⟨rfl, rfl⟩
          rw [H1.out]
          go_wp2_with fail
          refine (rangeFault_any _ _ _ _ hy by_).mono ?_
          rintro e w1 ⟨rfl, rfl⟩
          rw [H2.out]
          go_wp2
          go_ret2
          exact ⟨Below.refl _ _, Or.inr ⟨by rw [HE.out]; decide, by rw [HE.out]; rfl⟩⟩
      · have hax : allN xs = false := by cases h : allN xs with | false => rfl | true => exact absurd (allN_rng.1 h) rx
        have H1 : Hid (rfE xs = 4) := by show rfE xs = 4; unfold rfE; rw [hax]; rfl
        have HE : Hid (thrE xs ys = 4) := by
          show thrE xs ys = 4
          unfold thrE
          rw [if_neg (by rw [hl]; simp), if_neg (by omega), if_pos (by rw [hax]; simp)]
        clear hl hax rx
        go_enter Try.func27, Try.ntmps27
        go_wp2_with fail
        refine (rangeFault_any _ _ _ _ hx bx).mono ?_
        rintro e w1 ⟨rfl, rfl⟩
        rw [H1.out]
        go_wp2
        go_ret2
        exact ⟨Below.refl _ _, Or.inr ⟨by rw [HE.out]; decide, by rw [HE.out]; rfl⟩⟩
    · have HE : Hid (thrE xs ys = 5) := by
        show thrE xs ys = 5
        unfold thrE
        rw [if_neg (by rw [hl]; simp), if_pos (by omega)]
      clear hl
      have hn' : (64 : Int) < (xs.length : Int) := by omega
      go_enter Try.func27, Try.ntmps27
      go_wp2
      go_ret2
      exact ⟨Below.refl _ _, Or.inr ⟨by rw [HE.out]; decide, by rw [HE.out]; rfl⟩⟩
  · have hne : ((xs.length : Int) != (ys.length : Int)) = true := by simp; omega
    have HE : Hid (thrE xs ys = 2) := by
      show thrE xs ys = 2
      unfold thrE
      rw [if_pos (by omega)]
    clear hl
    go_enter Try.func27, Try.ntmps27
    go_wp2
    go_ret2
    exact ⟨Below.refl _ _, Or.inr ⟨by rw [HE.out]; decide, by rw [HE.out]; rfl⟩⟩

/-- the error of Value -/
def valE (l : List Int) (x : Int) : Int := if 64 < l.length then 5 else if (allN l && isN x) = false then 4 else 0

def valV (l : List Int) (x : Int) : Int := if valE l x = 0 then ev l x % 257 else 0

theorem Value_any (ao : Option Addr) (cap : Nat) (l : List Int) (x : Int) (w : World) (hr : RowI .i64 w ao l) (hn : l.length ≤ 4611686018427387904) :
    Calls Try.prog 22 #[.slice ao l.length cap, .int .i64 x] w fun e w' => e = .returned (.tuple #[.int .i64 (valV l x), .int .i64 (valE l x)]) ∧ Below w.heap.size w w' := by
  by_cases hl : l.length ≤ 64
  · by_cases rl : Rng l
    · have H1 : Hid (rfE l = 0) := by show rfE l = 0; unfold rfE; rw [if_pos (allN_rng.2 rl)]
      by_cases hx : 0 ≤ x ∧ x ≤ 256
      · have hxi := hid (isN_yes hx)
        have HE : Hid (valE l x = 0) := by
          show valE l x = 0
          unfold valE
          rw [if_neg (by omega), if_neg (by rw [allN_rng.2 rl, hxi.out]; simp)]
        go_enter Try.func22, Try.ntmps22
        go_wp2_with fail
        refine (rangeFault_any _ _ _ _ hr hn).mono ?_
        rintro e w1 ⟨rfl, rfl⟩
        rw [H1.out]
        go_wp2_with fail
        refine (rangeFault_one x w).mono ?_
        rintro e w1 ⟨rfl, rfl⟩
        rw [hxi.out]
        go_wp2_with fail
        refine (value_any _ _ _ _ _ (hr.below ((Below.refl _ _).alloc (Nat.le_refl _) _)) rl hx hn).mono ?_
        rintro e w1 ⟨rfl, rfl⟩
        go_wp2
        go_ret2
        exact ⟨rv (rt2 (by unfold valV; rw [HE.out]; rfl) (by rw [HE.out]; rfl)), (Below.refl _ _).alloc (Nat.le_refl _) _⟩
      · have hxi := hid (isN_no hx)
        have HE : Hid (valE l x = 4) := by
          show valE l x = 4
          unfold valE
          rw [if_neg (by omega), if_pos (by rw [hxi.out]; simp)]
        go_enter Try.func22, Try.ntmps22
        go_wp2_with fail
        refine (rangeFault_any _ _ _ _ hr hn).mono ?_
        rintro e w1 ⟨rfl, rfl⟩
        rw [H1.out]
        go_wp2_with fail
        refine (rangeFault_one x w).mono ?_
        rintro e w1 ⟨rfl, rfl⟩
        rw [hxi.out]
        go_wp2
        go_ret2
        exact ⟨rv (rt2 (by unfold valV; rw [HE.out]; rfl) (by rw [HE.out]; rfl)), (Below.refl _ _).alloc (Nat.le_refl _) _⟩
    · have hal : allN l = false := by cases h : allN l with | false => rfl | true => exact absurd (allN_rng.1 h) rl
      have H1 : Hid (rfE l = 4) := by show rfE l = 4; unfold rfE; rw [hal]; rfl
      have HE : Hid (valE l x = 4) := by
        show valE l x = 4
        unfold valE
        rw [if_neg (by omega), if_pos (by rw [hal]; simp)]
      clear hal rl
      go_enter Try.func22, Try.ntmps22
      go_wp2_with fail
      refine (rangeFault_any _ _ _ _ hr hn).mono ?_
      rintro e w1 ⟨rfl, rfl⟩
      rw [H1.out]
      go_wp2
      go_ret2
      exact ⟨rv (rt2 (by unfold valV; rw [HE.out]; rfl) (by rw [HE.out]; rfl)), Below.refl _ _⟩
  · have HE : Hid (valE l x = 5) := by
      show valE l x = 5
      unfold valE
      rw [if_pos (by omega)]
    have hn' : (64 : Int) < (l.length : Int) := by omega
    clear hl
    go_enter Try.func22, Try.ntmps22
    go_wp2
    go_ret2
    exact ⟨rv (rt2 (by unfold valV; rw [HE.out]; rfl) (by rw [HE.out]; rfl)), Below.refl _ _⟩

end Go.Proofs.Ytlhfoelabanlfaa.sh
