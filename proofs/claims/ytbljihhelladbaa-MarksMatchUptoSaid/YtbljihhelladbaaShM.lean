/-
  Contract of share.polynomials: the polynomials through good shares, in rows of the call's own. Conditions: good shares of the type's form, 64 at most.
-/
import Derived.Test.YtbljihhelladbaaShL
import Derived.Test.YtbljihhelladbaaShK
namespace Go.Proofs.Ytbljihhelladbaa.shr
set_option linter.unusedVariables false
open Go.RowKit Go.Proofs.Ytbljihhelladbaa.sh Go.Proofs.Ytbljihhelladbaa.Fld
set_option linter.unusedSimpArgs false
set_option pp.maxSteps 6000

theorem through_n (ax ay : Option Addr) (cx cy n : Nat) (xs ys : List Int) (w : World) (hn' : n = xs.length) (hx : RowI .i64 w ax xs) (hy : RowI .i64 w ay ys) (hl : ys.length = xs.length) (rx : Rng xs) (ry : Rng ys) (hap : ApartTo xs xs.length) (hn : xs.length ≤ 64) :
    Calls Try.prog 94 #[.slice ax n cx, .slice ay n cy] w fun e w' => e = .returned (.slice (some ⟨w.heap.size, 0, none⟩) n n) ∧ BlkI .i64 3 w' w.heap.size (through xs ys) ∧ Below w.heap.size w w' := by
  subst hn'
  exact through_any ax ay cx cy xs ys w hx hy hl rx ry hap hn

/-- the first polynomials lie in rows above B -/
structure PolyBlk (B : Nat) (w : World) (l : List Sh) (ps : List Value) (k : Nat) : Prop where
  len : ps.length = 32
  one : ∀ u ∈ ps, u.oneCell' = true
  at_ : ∀ o, o < k → ∃ g, B < g ∧ ps[o]? = some (.slice (some ⟨g, 0, none⟩) l.length l.length) ∧ BlkI .i64 3 w g (polyOf l o)

/-- the polynomials through shares, as a value -/
structure PolysAt (w : World) (l : List Sh) (ps : List Value) : Prop where
  len : ps.length = 32
  one : ∀ u ∈ ps, u.oneCell' = true
  at_ : ∀ o, o < 32 → ∃ ao, ps[o]? = some (.slice ao l.length l.length) ∧ RowI .i64 w ao (polyOf l o)
theorem PolysAt.below {w w' : World} {l : List Sh} {ps : List Value} (h : PolysAt w l ps) (hb : Below w.heap.size w w') : PolysAt w' l ps :=
  ⟨h.len, h.one, fun o ho => by obtain ⟨ao, h1, h2⟩ := h.at_ o ho; exact ⟨ao, h1, h2.below hb⟩⟩

/-- the same, the rows in blocks of the call's own -/
structure PolysHi (B : Nat) (w : World) (l : List Sh) (ps : List Value) : Prop where
  len : ps.length = 32
  one : ∀ u ∈ ps, u.oneCell' = true
  at_ : ∀ o, o < 32 → ∃ g, B ≤ g ∧ ps[o]? = some (.slice (some ⟨g, 0, none⟩) l.length l.length) ∧ BlkI .i64 3 w g (polyOf l o)
theorem PolysHi.at {B : Nat} {w : World} {l : List Sh} {ps : List Value} (h : PolysHi B w l ps) : PolysAt w l ps :=
  ⟨h.len, h.one, fun o ho => by obtain ⟨g, _, h1, h2⟩ := h.at_ o ho; exact ⟨_, h1, h2.row⟩⟩

def noSlices : List Value := List.replicate 32 (.slice none 0 0)
theorem aggP : Agg Try.prog 139 32 := Agg.arr Try.underlying139 (by kernel_rfl)
theorem zeroP : (Try.prog.info? 139).map (·.zero) = some (some (.agg noSlices.toArray)) := by kernel_rfl
theorem row_of_owns {w : World} {base n : Nat} {ao : Option Addr} {cap : Nat} {l : List Int} (h : w.ownsRow base 3 1 (.slice ao n cap) n (l.map (Value.int .i64))) : RowI .i64 w ao l := by
  obtain ⟨a, c, h1, _, h2⟩ := Mine.row (Or.inl h)
  cases h1
  exact h2.i

set_option maxRecDepth 100000 in
theorem polynomials_hi (ao : Option Addr) (cap n : Nat) (l : List Sh) (w : World) (hn' : n = l.length) (hr : RowS w ao l) (hok : ∀ s ∈ l, s.Ok) (hg : Good l) (hn : l.length ≤ 64) :
    Calls Try.prog 100 #[.slice ao n cap] w fun e w' => ∃ ps, e = .returned (.agg ps.toArray) ∧ PolysHi w.heap.size w' l ps ∧ Below w.heap.size w w' := by
  subst hn'
  have HOK := hid hok
  clear hok
  obtain ⟨Z, HZ⟩ : ∃ Z, Hid (Z = noSlices) := ⟨_, rfl⟩
  have HZ0 := hid zeroP
  rw [← HZ.out] at HZ0
  have HZL : Hid (Z.length = 32) := by rw [HZ.out]; rfl
  go_enter Try.func100, Try.ntmps100
  go_wp2_with (first | (refine wl_alloc rfl 139 rfl Z HZ0.out ?_))
  go_loopw [5] (fun i wr => ∃ (k : Nat) (ps : List Value), k ≤ 32 ∧ i = .int .i64 k ∧ BlkV 139 wr w.heap.size Z ∧ BlkV 139 wr (w.heap.size + 1) ps ∧ PolyBlk (w.heap.size + 1) wr l ps k ∧ Below w.heap.size w wr) (fun i _ => 32 - (intOf i).toNat)
  case atStart => exact ⟨0, Z, by omega, rfl, (BlkV.new _ w Z rfl).alloc _, BlkV.new _ _ Z (by simp), ⟨HZL.out, by rw [HZ.out]; intro u hu; rw [List.eq_of_mem_replicate hu]; rfl, fun o ho => absurd ho (Nat.not_lt_zero o)⟩, ((Below.refl _ _).alloc (Nat.le_refl _) _).alloc (by simp) _⟩
  case round =>
    obtain ⟨k, ps, hk, rfl, hR, hC, hP, hbl⟩ := hrel
    by_cases h0 : k < 32
    · have hrw := hr.below hbl
      have hkI : (k : Int) < 32 := by omega
      have hkI0 : (0 : Int) ≤ (k : Int) := by omega
      have hltC := hC.lt
      go_wp2_with fail
      refine (points_any _ _ _ l k wr rfl hrw HOK.out (by omega) h0).mono ?_
      rintro e w1 ⟨ax, cx, ay, cy, rfl, hcx, hcy, hX, hY, _, hb1⟩
      go_wp2_with fail
      refine (through_n ax ay cx cy l.length (xsOf l) (ysOf l k) w1 (xsOf_length l).symm (row_of_owns hX) (row_of_owns hY) (by rw [ysOf_length, xsOf_length]) hg.rx (hg.ry k) hg.ap (by rw [xsOf_length]; exact hn)).mono ?_
      rintro e w2 ⟨rfl, hG, hb2⟩
      have hb12 : Below wr.heap.size wr w2 := hb1.trans (hb2.mono hb1.size)
      have hC2 := hC.below hb12 hltC
      have hc1 := hC2.cell k
      have hfz := hC2.frozen k
      have hpk : ps[k]? = some (ps[k]'(by rw [hP.len]; exact h0)) := List.getElem?_eq_getElem _
      rw [hpk] at hc1
      have h1 := hb1.size
      go_wp2
      go_roundw
      case rel =>
        refine ⟨k + 1, ps.set k (.slice (some ⟨w1.heap.size, 0, none⟩) l.length l.length), by omega, by go_num, (hR.below hb12 (by omega)).other (by simp) _, hC2.set k _, ⟨by rw [List.length_set]; exact hP.len, ?_, ?_⟩, (hbl.trans (hb12.mono hbl.size)).setCell (by simp) _⟩
        · intro u hu
          rcases List.mem_or_eq_of_mem_set hu with h | rfl
          · exact hP.one u h
          · rfl
        · intro o ho
          by_cases e : o = k
          · subst e
            exact ⟨w1.heap.size, by omega, by rw [List.getElem?_set_self (by rw [hP.len]; exact h0)], hG.other (by simp; omega) _⟩
          · obtain ⟨g, h2, h3, h4⟩ := hP.at_ o (by omega)
            exact ⟨g, h2, by rw [List.getElem?_set_ne (fun h => e h.symm)]; exact h3, (h4.below hb12 h4.lt).other (by simp; omega) _⟩
      case measure => simp [intOf] <;> omega
    · obtain rfl : k = 32 := by omega
      have hPL := hid hP.len
      have hZl : Hid (Z.length = 32) := HZL
      have ha := hC.at0
      go_wp2_with (first | (refine wl_loadG (by rfl) 139 _ rfl ⟨w.heap.size + 1, 0, none⟩ rfl 32 ps hPL.out aggP ha ?_) | (refine wl_storeAll rfl 139 _ _ rfl 139 w.heap.size rfl ps rfl 32 aggP hPL.out Z hR hZl.out hP.one ?_; intro hS))
      (try simp only [Exit.inBlock, Exit.then]); refine bodyPost_ret (results_cell rfl _ _ _ _ rfl ps (by rw [hPL.out]; exact aggP) hS.at0) rfl ?_
      refine ⟨ps, rfl, ⟨hPL.out, hP.one, fun o ho => ?_⟩, below_setRow' hbl (Nat.le_refl _) _⟩
      obtain ⟨g, h2, h3, h4⟩ := hP.at_ o ho
      have h5 : BlkI .i64 3 (wr.setRow w.heap.size ps.toArray) g (polyOf l o) := BlkV.otherRow h4.v (by omega) _
      exact ⟨g, by omega, h3, h5⟩
theorem polynomials_any (ao : Option Addr) (cap n : Nat) (l : List Sh) (w : World) (hn' : n = l.length) (hr : RowS w ao l) (hok : ∀ s ∈ l, s.Ok) (hg : Good l) (hn : l.length ≤ 64) :
    Calls Try.prog 100 #[.slice ao n cap] w fun e w' => ∃ ps, e = .returned (.agg ps.toArray) ∧ PolysAt w' l ps ∧ Below w.heap.size w w' :=
  (polynomials_hi ao cap n l w hn' hr hok hg hn).mono fun _ _ ⟨ps, h1, h2, h3⟩ => ⟨ps, h1, h2.at, h3⟩
end Go.Proofs.Ytbljihhelladbaa.shr
