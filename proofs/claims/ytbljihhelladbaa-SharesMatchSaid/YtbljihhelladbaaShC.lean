/-
  Contract of share.through: the polynomial that Newton's steps give, in new memory. Conditions: as many places as values, 64 at most, all from 0 to 256, the places different.
-/
import Derived.Test.YtbljihhelladbaaShB
import Derived.Deep.OwnRows
namespace Go.Proofs.Ytbljihhelladbaa.sh
open Go.RowKit Go.Proofs.Ytbljihhelladbaa.Fld

theorem value_n {n : Nat} (ao : Option Addr) (cap : Nat) (l : List Int) (x : Int) (w : World) (hn : n = l.length) (hr : RowI .i64 w ao l) (hl : Rng l) (hx : 0 ≤ x ∧ x ≤ 256) (hs : n ≤ 4611686018427387904) :
    Calls Try.prog 92 #[.slice ao n cap, .int .i64 x] w fun e w' => e = .returned (.int .i64 (ev l x % 257)) ∧ w' = w := by
  subst hn
  exact (value_any ao cap l x w hr hl hx hs).mono fun _ _ ⟨h1, h2⟩ => ⟨h1, h2.symm⟩

theorem infoInt : (Try.prog.info? 3).map (fun i => (i.zero, i.size, i.bytes)) = some (some (.int .i64 0), 1, 8) := by kernel_rfl

set_option maxRecDepth 100000 in
set_option maxHeartbeats 2000000 in
theorem through_any (ax ay : Option Addr) (cx cy : Nat) (xs ys : List Int) (w : World) (hx : RowI .i64 w ax xs) (hy : RowI .i64 w ay ys) (hl : ys.length = xs.length) (rx : Rng xs) (ry : Rng ys) (hap : ApartTo xs xs.length) (hn : xs.length ≤ 64) :
    Calls Try.prog 94 #[.slice ax xs.length cx, .slice ay xs.length cy] w fun e w' => e = .returned (.slice (some ⟨w.heap.size, 0, none⟩) xs.length xs.length) ∧ BlkI .i64 3 w' w.heap.size (through xs ys) ∧ Below w.heap.size w w' := by
  have hmk := run_make_row' (P := Try.prog) 26 3 (.int .i64 0) 8 Try.underlying26 infoInt rfl .i64 .i64 xs.length (by omega) (by omega)
  have HL := hid hl; clear hl
  go_enter Try.func94, Try.ntmps94
  go_wp2
  go_loopw [6, 19] (fun gr i wr => ∃ k gg : Nat, k ≤ xs.length ∧ i = .int .i64 k ∧ gr = .slice (some ⟨gg, 0, none⟩) (k + 1) (k + 1) ∧ w.heap.size < gg ∧
      BlkI .i64 3 wr w.heap.size (thr xs ys k).1 ∧ BlkI .i64 3 wr gg (thr xs ys k).2 ∧ Below w.heap.size w wr) (fun _ i _ => xs.length - (intOf i).toNat)
  case atStart => exact ⟨0, w.heap.size + 1, Nat.zero_le _, rfl, rfl, by omega, (BlkI.made .i64 _ w _).alloc _, BlkI.new' .i64 _ _ [1] (by simp), ((Below.refl _ _).alloc (Nat.le_refl _) _).alloc (by simp) _⟩
  case round =>
    obtain ⟨k, gg, hk, rfl, rfl, hgg, hO, hG, hb⟩ := hrel
    by_cases h0 : k < xs.length
    · obtain ⟨f1, f2, f3, f4, f5, f6⟩ := thr_facts xs ys hap k hk
      obtain ⟨bx, ox, x, rfl, hbx, HX, cx0⟩ := hx.elem (i := k) h0
      obtain ⟨by_, oy, y, rfl, hby, HY, cy0⟩ := hy.elem (i := k) (by rw [HL.out]; exact h0)
      have cx1 := (hb.cell (p := ⟨bx, ox + k, none⟩) hbx).trans cx0
      have cy1 := (hb.cell (p := ⟨by_, oy + k, none⟩) hby).trans cy0
      have bxx : 0 ≤ x ∧ x ≤ 256 := by rw [HX.out]; exact rx.getD k
      have byy : 0 ≤ y ∧ y ≤ 256 := by rw [HY.out]; exact ry.getD k
      have F1 := hid f1
      have F2 := hid f2
      clear f1 f2 f5 f6 cy0
      have hmk2 := run_make_row' (P := Try.prog) 26 3 (.int .i64 0) 8 Try.underlying26 infoInt rfl .i64 .i64 (k + 2) (by omega) (by omega)
      have e2 : ((k + 2 : Nat) : Int) = (k : Int) + 1 + 1 := by omega
      rw [e2] at hmk2
      clear e2
      have hkz : (k : Int) < (xs.length : Int) := by omega
      have he1 := mod_range (ev (thr xs ys k).1 x)
      have he2 := mod_range (ev (thr xs ys k).2 x)
      go_wp2_with fail
      go_quiet ((go_at_call 92; exact Calls.quiet_of_same (value_n _ _ _ _ _ F1.out.symm (hO.row.drewN _) f3 bxx (by omega))))
      go_wp2_with fail
      refine (value_n _ _ _ _ _ F2.out.symm (hG.row.drewN _) f4 bxx (by omega)).mono ?_
      rintro e w1 ⟨rfl, rfl⟩
      go_wp2_with fail
      refine (over_any _ _ _ (by omega) (by omega)).mono ?_
      rintro e w1 ⟨rfl, rfl⟩
      have hf := overP_range ((y - ev (thr xs ys k).1 x) % 257) (ev (thr xs ys k).2 x % 257)
      obtain ⟨f, HF⟩ : ∃ f, Hid (f = overP ((y - ev (thr xs ys k).1 x) % 257) (ev (thr xs ys k).2 x % 257)) := ⟨_, rfl⟩
      rw [← HF.out] at hf ⊢
      go_wp2_with fail
      have hOn := (hO.drewN nq).alloc (.cells (madeCells #[.int .i64 0] (k + 2)) 3)
      have hGn := (hG.drewN nq).alloc (.cells (madeCells #[.int .i64 0] (k + 2)) 3)
      have HT : Hid (thr xs ys (k + 1) = (inO f (thr xs ys k).2 (thr xs ys k).1 (k + 1), inN x (thr xs ys k).2 (k + 1))) := by
        rw [HF.out, HX.out, HY.out]
        show thr xs ys (k + 1) = _
        simp only [thr]
        rw [F2.out]
      clear HF HY cy1 byy
      have hbn := (bdN hb nq).alloc (Nat.le_of_lt (by have := hO.lt; simpa using this)) (.cells (madeCells #[.int .i64 0] (k + 2)) 3)
      have hNn := BlkI.made' .i64 3 (wr.drewN nq) (g := wr.heap.size) (k + 2) rfl
      have hBg := hG.lt
      generalize (thr xs ys k).1 = o at *
      generalize (thr xs ys k).2 = g at *
      generalize hGN : wr.heap.size = GN at *
      clear hGN hO hG hb hx hy hmk hmk2
      go_loopw [49] (fun i wi => ∃ m : Nat, m ≤ k + 1 ∧ i = .int .i64 m ∧ BlkI .i64 3 wi w.heap.size (inO f g o m) ∧ BlkI .i64 3 wi gg g ∧ BlkI .i64 3 wi GN (inN x g m) ∧ Below w.heap.size w wi) (fun i _ => k + 1 - (intOf i).toNat)
      case atStart => exact ⟨0, by omega, rfl, hOn, hGn, by unfold inN; rw [F2.out]; exact hNn, hbn⟩
      case round =>
        obtain ⟨m, hm, rfl, hOi, hGi, hNi, hbi⟩ := hrel
        by_cases h1 : m < k + 1
        · obtain ⟨c1, HC1, cO⟩ := hOi.elem (i := m) (by rw [inO_length, F1.out]; omega)
          obtain ⟨c2, HC2, cG⟩ := hGi.elem (i := m) (by rw [F2.out]; omega)
          obtain ⟨c3, HC3, cN1⟩ := hNi.elem (i := m + 1) (by rw [inN_length, F2.out]; omega)
          obtain ⟨c4, HC4, cN0⟩ := hNi.elem (i := m) (by rw [inN_length, F2.out]; omega)
          have zO := hOi.frozen m
          have zN1 := hNi.frozen (m + 1)
          have zN0 := hNi.frozen m
          have cX := (hbi.cell (p := ⟨bx, ox + k, none⟩) hbx).trans (by assumption : w.cell? ⟨bx, ox + k, none⟩ = some (.int .i64 x))
          have b1 : 0 ≤ c1 ∧ c1 ≤ 256 := by rw [HC1.out]; exact (inO_rng f3 m).getD m
          have b2 : 0 ≤ c2 ∧ c2 ≤ 256 := by rw [HC2.out]; exact f4.getD m
          have b3 : 0 ≤ c3 ∧ c3 ≤ 256 := by rw [HC3.out]; exact (inN_rng x g m).getD (m + 1)
          have b4 : 0 ≤ c4 ∧ c4 ≤ 256 := by rw [HC4.out]; exact (inN_rng x g m).getD m
          have m12 := mul_bd hf b2
          have m42 : 0 ≤ (257 - x) * c2 ∧ (257 - x) * c2 ≤ 65792 := ⟨Int.mul_nonneg (by omega) b2.1, by have := Int.mul_le_mul (a := 257 - x) (c := 257) (b := c2) (d := 256) (by omega) b2.2 b2.1 (by omega); omega⟩
          go_wp2_with fail
          go_region
          go_wp2
          have E1 : inO f g o (m + 1) = (inO f g o m).set m ((c1 + f * c2) % 257) := by rw [HC1.out, HC2.out]; rfl
          have E2 : inN x g (m + 1) = ((inN x g m).set (m + 1) ((c3 + c2) % 257)).set m ((c4 + (257 - x) * c2) % 257) := by
            have h := inN1_getD g (inN x g m) m m (by rw [inN_length, F2.out]; omega)
            rw [if_neg (by omega)] at h
            rw [HC2.out, HC3.out, HC4.out, ← h]
            rfl
          go_roundw
          case rel =>
            refine ⟨m + 1, by omega, by go_num, ?_, ?_, ?_, ?_⟩
            · rw [E1]; exact ((hOi.set m _).other (by simp; omega) _).other (by simp; omega) _
            · exact ((hGi.other (by simp; omega) _).other (by simp; omega) _).other (by simp; omega) _
            · rw [E2]; exact ((hNi.other (by simp; omega) _).set (m + 1) _).set m _
            · exact (((hbi.setCell (by simp) _).setCell (by simp; omega) _).setCell (by simp; omega) _).drew
          case measure => simp [intOf] <;> omega
        · obtain rfl : m = k + 1 := by omega
          go_wp2
          go_roundw
          case rel => exact ⟨k + 1, GN, by omega, by go_num, rfl, by omega, by rw [HT.out]; exact hOi, by rw [HT.out]; exact hNi, hbi⟩
          case measure => simp [intOf] <;> omega
    · obtain rfl : k = xs.length := by omega
      go_wp2
      go_ret
      exact ⟨rfl, hO, hb⟩

theorem through_ys (ax ay : Option Addr) (cx cy : Nat) (xs ys : List Int) (w : World) (hx : RowI .i64 w ax xs) (hy : RowI .i64 w ay ys) (hl : ys.length = xs.length) (rx : Rng xs) (ry : Rng ys) (hap : ApartTo xs xs.length) (hn : xs.length ≤ 64) :
    Calls Try.prog 94 #[.slice ax xs.length cx, .slice ay ys.length cy] w fun e w' => e = .returned (.slice (some ⟨w.heap.size, 0, none⟩) xs.length xs.length) ∧ BlkI .i64 3 w' w.heap.size (through xs ys) ∧ Below w.heap.size w w' := by
  rw [hl]
  exact through_any ax ay cx cy xs ys w hx hy hl rx ry hap hn
end Go.Proofs.Ytbljihhelladbaa.sh
