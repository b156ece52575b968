/-
  The walk of the law PolynomialsMatch: it returns true. Conditions: no list takes more than 2^47 bytes when two are joined; no slice is longer than its room.
-/
import Derived.Test.YtlhfoelabanlfaaPolA
namespace Go.Proofs.Ytlhfoelabanlfaa.pol
set_option linter.unusedSimpArgs false
open Go.RowKit Go.Proofs.Ytlhfoelabanlfaa.Fld Go.Proofs.Ytlhfoelabanlfaa.sh Go.Proofs.Ytlhfoelabanlfaa.slInt

theorem bel {w w1 w2 : World} (h : Below w.heap.size w w1) (k : Below w1.heap.size w1 w2) : Below w.heap.size w w2 := h.trans (k.mono h.size)

theorem RowI.take {k : IntKind} {w : World} {ao : Option Addr} {l : List Int} (h : RowI k w ao l) (n : Nat) : RowI k w ao (l.take n) := by
  rcases h with h | ⟨b, off, h1, h2, h3⟩
  · exact Or.inl (by simp [h])
  · refine Or.inr ⟨b, off, h1, h2, fun i hi => ?_⟩
    rw [List.length_take] at hi
    rw [h3 i (by omega)]
    simp [List.getD_eq_getElem?_getD, List.getElem?_take, show i < n by omega]
theorem Contains_n {n : Nat} (ao : Option Addr) (cap : Nat) (l : List Int) (x : Int) (w : World) (hr : RowI .i64 w ao l) (hl : l.length = n) (hn : n ≤ 4611686018427387904) :
    Calls Try.prog 29 #[.slice ao n cap, .int .i64 x] w fun e w' => e = .returned (.bool (l.any fun y => x == y)) ∧ w = w' := by
  subst hl; exact Contains_any ao cap l x w hr hn
theorem ValueOf_n {n : Nat} (ao : Option Addr) (cap : Nat) (l : List Int) (x : Int) (w : World) (hn' : l.length = n) (hr : RowI .i64 w ao l) (hl : Rng l) (hx : 0 ≤ x ∧ x ≤ 256) (hn : n ≤ 4611686018427387904) :
    Calls Try.prog 26 #[.slice ao n cap, .int .i64 x] w fun e w' => e = .returned (.int .i64 (ev l x % 257)) ∧ w' = w := by
  subst hn'; exact (ValueOf_any ao cap l x w hr hl hx hn).mono fun e w' h => ⟨h.1, h.2.symm⟩
theorem ContainsFunc_n {n : Nat} (ao : Option Addr) (cap : Nat) (l : List Int) (w : World) (hn' : l.length = n) (hr : RowI .i64 w ao l) (hn : n ≤ 4611686018427387904) :
    Calls Try.prog 30 #[.slice ao n cap, .func (.func 31) #[] #[]] w fun e w' => e = .returned (.bool (l.any fun c => !isN c)) ∧ Below w.heap.size w w' := by
  subst hn'; exact ContainsFunc_rng #[] (fun c => !isN c) ao cap l w hr hn fun i _ w' _ => closure_any _ w'

theorem heap_alloc_new' (w : World) (o : Obj) {g : Nat} (hg : g = w.heap.size) : (w.alloc o).heap[g]? = some o := by subst hg; exact heap_alloc_new w o

theorem Through_var (ax ay : Option Addr) (cx cy : Nat) (xs ys : List Int) (w : World) (hx : RowI .i64 w ax xs) (hy : RowI .i64 w ay ys) (bx : xs.length ≤ 4611686018427387904) (by_ : ys.length ≤ 4611686018427387904) :
    Calls Try.prog 27 #[.slice ax xs.length cx, .slice ay ys.length cy] w fun e w' => Below w.heap.size w w' ∧ ∃ (pa : Option Addr) (pn : Nat) (T : Int), e = .returned (.tuple #[.slice pa pn pn, .int .i64 T]) ∧ Hid (T = thrE xs ys) ∧
      Hid (T = 0 → pn = xs.length ∧ w.heap.size ≤ w'.heap.size ∧ RowI .i64 w' pa (through xs ys)) ∧ Hid (T ≠ 0 → pn = 0) := by
  refine (Through_any ax ay cx cy xs ys w hx hy bx by_).mono fun e w' h => ⟨h.1, ?_⟩
  rcases h.2 with ⟨h0, g, hg, he, hG⟩ | ⟨h0, he⟩
  · exact ⟨_, _, _, he, h0.symm, fun _ => ⟨rfl, h.1.size, hG.row⟩, fun h => absurd rfl h⟩
  · exact ⟨_, _, _, he, rfl, fun h => absurd h h0, fun _ => rfl⟩

/-- what Through's errors leave out -/
theorem thr_zero {xs ys : List Int} (h : thrE xs ys = 0) : ys.length = xs.length ∧ Rng xs ∧ Rng ys ∧ ApartTo xs xs.length := by
  unfold thrE at h
  split at h; · cases h
  split at h; · cases h
  split at h; · cases h
  split at h; · cases h
  rename_i h1 h2 h3 h4
  have h5 : (allN xs && allN ys) = true := by simpa using h3
  rw [Bool.and_eq_true] at h5
  exact ⟨by omega, allN_rng.1 h5.1, allN_rng.1 h5.2, apart_of_twice xs (allN_rng.1 h5.1) (by simpa using h4)⟩

theorem val_zero {l : List Int} {x : Int} (h : valE l x = 0) : Rng l ∧ (0 ≤ x ∧ x ≤ 256) ∧ valV l x = ev l x % 257 := by
  have h' := h
  unfold valE at h
  split at h; · cases h
  split at h; · cases h
  rename_i h1 h2
  have h5 : (allN l && isN x) = true := by simpa using h2
  rw [Bool.and_eq_true] at h5
  exact ⟨allN_rng.1 h5.1, (isN_iff x).1 h5.2, by unfold valV; rw [if_pos h']⟩
theorem val_ne {l : List Int} {x : Int} (h : valE l x ≠ 0) : valV l x = 0 := by unfold valV; rw [if_neg h]

theorem through_at {xs ys : List Int} (h : ApartTo xs xs.length) (hy : Rng ys) (i : Nat) (hi : i < xs.length) : ev (through xs ys) (xs.getD i 0) % 257 = ys.getD i 0 := by
  have h1 := (through_interp xs ys h).2 i hi
  have h2 := hy.getD i
  unfold Cg at h1
  omega

theorem any_no {l : List Int} (h : Rng l) : (l.any fun c => !isN c) = false := by
  rw [List.any_eq_false]
  intro c hc
  rw [(isN_iff c).2 (h c hc)]
  simp

set_option maxRecDepth 100000 in
set_option maxHeartbeats 4000000 in
theorem walk_ok (al ax ay : Option Addr) (cl cx cy : Nat) (l xs ys : List Int) (x : Int) (w : World) (hl : RowI .i64 w al l) (hx : RowI .i64 w ax xs) (hy : RowI .i64 w ay ys) (hno : al = none → cl = 0 ∧ l.length = 0) (hnx : ax = none → cx = 0) (hny : ay = none → cy = 0) (hcx : xs.length ≤ cx) (bl : l.length ≤ 1048576) (bx : xs.length ≤ 1048576) (by_ : ys.length ≤ 1048576) (hE : valE l x = 0) :
    Calls Try.prog 5 #[.slice al l.length cl, .int .i64 x, .slice ax xs.length cx, .slice ay ys.length cy] w fun e w' => e = .returned (.bool true) ∧ Below w.heap.size w w' := by
  obtain ⟨rl, rx0, hv⟩ := val_zero hE
  obtain ⟨V, HV⟩ : ∃ V, Hid (V = ev l x % 257) := ⟨_, rfl⟩
  rw [← HV.out] at hv
  have hVV : (V != ev l x % 257) = false := by rw [HV.out]; simp
  have HVv := hid hv
  have HE := hid hE
  clear hv hE
  go_enter Try.func5, Try.ntmps5
  go_wp2_with fail
  refine (Value_any _ _ _ _ _ hl (by omega)).mono ?_
  rintro e w1 ⟨rfl, b1⟩
  rw [HVv.out, HE.out]
  have hl1 := hl.below b1
  have hx1 := hx.below b1
  have hy1 := hy.below b1
  go_wp2_with (first | (go_at_call 23; refine (When_any _ _ _).mono ?_; rintro e wn ⟨rfl, rfl⟩))
  refine (Clone_any al l.length cl (l.map (Value.int .i64)) _ hl1.v (by simp) (by simp [Value.oneCell']) hno (by omega)).mono ?_
  rintro e w2 ⟨v, rfl, hM, b2⟩
  have b12 := bel b1 b2
  go_wp2_with (at_builtin; refine wl_appendS rfl _ _ 32 rfl 3 (.int .i64 0) 1 8 Try.underlying32 slInt.info rfl (by decide) w1.heap.size _ l.length _ rfl (hM.belowAll ((Below.refl _ _).alloc (Nat.le_refl _) _)) (some ⟨w2.heap.size, 0, none⟩) 1 1 rfl (fun h => by cases h) [.int .i64 x] rfl (RowI.v (l := [x]) (BlkI.new .i64 3 w2 [x]).row) (by simp [Value.oneCell']) (by unfold maxLen; omega) (by omega) (by have := b2.size; simp; omega) (l.length + 1) rfl ?_; intro ao1 cap1 w3 row1 hcap1 hM1 hR1 hg1 hrow1)
  have bA : Below w.heap.size w w3 := bel b1 (bel2 (b2.trans ((Below.refl _ _).alloc b2.size _)) hg1 fun k hk => (hrow1 k hk).1)
  have hRI : RowI .i64 w3 ao1 (l ++ [x]) := RowV.i (by rw [List.map_append]; exact hR1)
  clear hR1 hM1 hg1 hrow1 hM b12 b2 hl1 b1
  go_wp2_with fail
  go_loopw [11, 37] (fun t i wr => ∃ (k : Nat) (z : Int), k ≤ l.length + 1 ∧ i = .int .i64 k ∧ t = .int .i64 z ∧ Hid (z = wantTo (whenE (decide ((64 : Int) < (l.length : Int))) 5) (l ++ [x]) k) ∧ Below w3.heap.size w3 wr) (fun _ i _ => l.length + 1 - (intOf i).toNat)
  case atStart => exact ⟨0, _, Nat.zero_le _, rfl, rfl, rfl, Below.refl _ _⟩
  case round =>
    obtain ⟨k, z, hk, rfl, rfl, HZ, hb⟩ := hrel
    by_cases h0 : k < l.length + 1
    · obtain ⟨b, off, c, rfl, hbb, HC, hcell0⟩ := hRI.elem (i := k) (by simp; omega)
      have hcell := (hb.cell (p := ⟨b, off + k, none⟩) hbb).trans hcell0
      go_wp2_with (first | (go_at_call 17; refine (In_any _ _ _ _).mono ?_; rintro e wn ⟨rfl, rfl⟩) | (go_at_call 23; refine (When_any _ _ _).mono ?_; rintro e wn ⟨rfl, rfl⟩) | (go_at_call 25; refine (First_two _ _ _ _ rfl).mono ?_; rintro e wn ⟨rfl, rfl⟩))
      go_roundw
      case rel => exact ⟨k + 1, _, by omega, by go_num, rfl, by show _ = _; rw [HZ.out, HC.out]; rfl, hb.alloc hb.size _⟩
      case measure => simp [intOf] <;> omega
    · have hzE : z = valE l x := by rw [HZ.out, show k = l.length + 1 by omega]; exact want_val l x
      rw [HE.out] at hzE
      subst hzE
      have bB := bel bA hb
      clear hb HZ hRI
      go_wp2_with (first | (go_at_call 18; refine (shares_any _).mono ?_; rintro e wn ⟨rfl, bS⟩) | (go_at_call 26; refine (ValueOf_any _ _ _ _ _ (hl.below (bel bB bS)) rl rx0 (by omega)).mono ?_; rintro e wn ⟨rfl, rfl⟩))
      have bC := bel bB bS
      clear bB bS h0 hk bA hx1 hy1
      have hx2 := hx.below bC
      have hy2 := hy.below bC
      go_wp2_with fail
      refine (Through_var _ _ _ _ xs ys _ hx2 hy2 (by omega) (by omega)).mono ?_
      rintro e w4 ⟨b4, pa, pn, T, rfl, HT, HTz, HTn⟩
      have b4' := bel bC b4
      have hx4 := hx.below b4'
      have hy4 := hy.below b4'
      have rx4 := hid (HTz.out)
      go_wp2_with (first | (go_at_call 23; refine (When_any _ _ _).mono ?_; rintro e wn ⟨rfl, rfl⟩) | (go_at_call 25; refine (First_two _ _ _ _ rfl).mono ?_; rintro e wn ⟨rfl, rfl⟩))
      refine (Concat_two ⟨ax, xs.length, cx, xs.map (.int .i64)⟩ ⟨ay, ys.length, cy, ys.map (.int .i64)⟩ _ _ (heap_alloc_new' _ _ (by simp)) ⟨(hx4.v.alloc _).alloc _, by simp, by simp [Value.oneCell'], hnx⟩ ⟨(hy4.v.alloc _).alloc _, by simp, by simp [Value.oneCell'], hny⟩ (by simp only; omega)).mono ?_
      rintro e w5 ⟨v5, rfl, hM5, b5⟩
      obtain ⟨ao5, cap5, rfl, hcap5, hR5⟩ := hM5.row
      have b5' : Below w.heap.size w w5 := bel (b4'.alloc b4'.size _ |>.alloc (by have := b4'.size; simp; omega) _) b5
      have b45 : Below w4.heap.size w4 w5 := bel (((Below.refl _ _).alloc (Nat.le_refl _) _).alloc (by simp) _) b5
      have hRI5 : RowI .i64 w5 ao5 (xs ++ ys) := RowV.i (by rw [List.map_append]; exact hR5)
      simp only at hcap5
      clear hR5 hM5 b5 hx4 hy4 rx4
      go_wp2_with fail
      go_loopw [11, 102] (fun t i wr => ∃ (k : Nat) (z : Int), k ≤ xs.length + ys.length ∧ i = .int .i64 k ∧ t = .int .i64 z ∧ Hid (z = wantTo (firstE2 (whenE ((xs.length : Int) != (ys.length : Int)) 2) (whenE (decide ((64 : Int) < (xs.length : Int))) 5)) (xs ++ ys) k) ∧ Below w5.heap.size w5 wr) (fun _ i _ => xs.length + ys.length - (intOf i).toNat)
      case atStart => exact ⟨0, _, Nat.zero_le _, rfl, rfl, rfl, Below.refl _ _⟩
      case round =>
        obtain ⟨k, z, hk, rfl, rfl, HZ, hb⟩ := hrel
        by_cases h0 : k < xs.length + ys.length
        · obtain ⟨b, off, c, rfl, hbb, HC, hcell0⟩ := hRI5.elem (i := k) (by simp; omega)
          have hcell := (hb.cell (p := ⟨b, off + k, none⟩) hbb).trans hcell0
          go_wp2_with (first | (go_at_call 17; refine (In_any _ _ _ _).mono ?_; rintro e wn ⟨rfl, rfl⟩) | (go_at_call 23; refine (When_any _ _ _).mono ?_; rintro e wn ⟨rfl, rfl⟩) | (go_at_call 25; refine (First_two _ _ _ _ rfl).mono ?_; rintro e wn ⟨rfl, rfl⟩))
          go_roundw
          case rel => exact ⟨k + 1, _, by omega, by go_num, rfl, by show _ = _; rw [HZ.out, HC.out]; rfl, hb.alloc hb.size _⟩
          case measure => simp [intOf] <;> omega
        · have HK : Hid (k = xs.length + ys.length) := by show k = _; omega
          rw [HK.out] at HZ
          clear HK
          have b6 := bel b5' hb
          have b46 := bel b45 hb
          clear hRI5 b5' b45 hk hb
          rename World => wA
          have hx6 := hx.below b6
          go_wp2_with fail
          go_loopw [11, 116] (fun t i wv => ∃ (k : Nat) (y : Int), k ≤ xs.length ∧ i = .int .i64 k ∧ t = .int .i64 y ∧ Hid (y = dupTo z xs k) ∧ Below wA.heap.size wA wv) (fun _ i _ => xs.length - (intOf i).toNat)
          case atStart => exact ⟨0, _, Nat.zero_le _, rfl, rfl, rfl, Below.refl _ _⟩
          case round =>
            obtain ⟨k, y, hk, rfl, rfl, HY, hb⟩ := hrel
            by_cases h0 : k < xs.length
            · obtain ⟨b, off, c, rfl, hbb, HC, hcell0⟩ := hx6.elem (i := k) h0
              have hcell := (hb.cell (p := ⟨b, off + k, none⟩) hbb).trans hcell0
              obtain ⟨lk, HLK⟩ : ∃ lk, Hid (lk = xs.take k) := ⟨_, rfl⟩
              have HLN : lk.length = k := by rw [HLK.out, List.length_take]; omega
              have hRk : RowI .i64 wA (some ⟨b, off, none⟩) lk := by rw [HLK.out]; exact RowI.take hx6 k
              have hRk' := hRk.below hb
              clear hRk
              go_wp2_with (first | (go_at_call 29; refine (Contains_n _ _ lk c _ hRk' HLN (by omega)).mono ?_; rintro e wn ⟨rfl, rfl⟩) | (go_at_call 23; refine (When_any _ _ _).mono ?_; rintro e wn ⟨rfl, rfl⟩) | (go_at_call 25; refine (First_two _ _ _ _ rfl).mono ?_; rintro e wn ⟨rfl, rfl⟩))
              go_roundw
              case rel => exact ⟨k + 1, _, by omega, by go_num, rfl, by show _ = _; rw [HY.out, HC.out, HLK.out]; rfl, hb.alloc hb.size _⟩
              case measure => simp [intOf] <;> omega
            · have hyT : y = T := by rw [HY.out, show k = xs.length by omega, HZ.out, HT.out]; exact want_thr xs ys
              subst hyT
              rename World => wB
              have b7 := bel b6 hb
              have b47 := bel b46 hb
              clear hx6 b6 b46 hb HZ HY hk
              by_cases hT : y = 0
              · subst hT
                obtain ⟨rfl, _, hP⟩ := HTz.out rfl
                obtain ⟨hyl, rx, ry, hap⟩ := thr_zero HT.out.symm
                have HYL := hid hyl
                have hPl : RowI .i64 wB pa (through xs ys) := hP.below b47
                have HPL := hid (through_length xs ys hap)
                have hPR := through_rng xs ys hap
                have hx7 := hx.below b7
                have hy7 := hy.below b7
                clear HTz HTn HT hP b47
                go_wp2_with fail
                go_loopw [152] (fun i wu => ∃ (k : Nat), k ≤ xs.length ∧ i = .int .i64 k ∧ Below wB.heap.size wB wu) (fun i _ => xs.length - (intOf i).toNat)
                case atStart => exact ⟨0, Nat.zero_le _, rfl, Below.refl _ _⟩
                case round =>
                  obtain ⟨k, hk, rfl, hb⟩ := hrel
                  by_cases h0 : k < xs.length
                  · obtain ⟨b, off, c, rfl, hbb, HC, hcell0⟩ := hx7.elem (i := k) h0
                    have hcell := (hb.cell (p := ⟨b, off + k, none⟩) hbb).trans hcell0
                    obtain ⟨bq, ofq, d, rfl, hbq, HD, hcellq0⟩ := hy7.elem (i := k) (by rw [HYL.out]; exact h0)
                    have hcellq := (hb.cell (p := ⟨bq, ofq + k, none⟩) hbq).trans hcellq0
                    have hq : (ev (through xs ys) c % 257 != d) = false := by rw [HC.out, HD.out, through_at hap ry k h0]; simp
                    have hc : 0 ≤ c ∧ c ≤ 256 := by rw [HC.out]; exact rx.getD k
                    have hPk := hPl.below hb
                    go_wp2_with (go_quiet ((go_at_call 26; exact Calls.quiet_of_same (ValueOf_n _ _ _ _ _ HPL.out (hPk.drewN _) hPR hc (by omega)))))
                    go_roundw
                    case rel => exact ⟨k + 1, by omega, by go_num, bdN hb _⟩
                    case measure => simp [intOf] <;> omega
                  · have hz := any_no hPR
                    have b8 := bel b7 hb
                    have hPk := hPl.below hb
                    go_wp2_with fail
                    refine (ContainsFunc_n _ _ _ _ HPL.out hPk (by omega)).mono ?_
                    rintro e w9 ⟨rfl, b9⟩
                    rw [hz]
                    go_wp2
                    go_ret
                    exact ⟨rfl, bel b8 b9⟩
              · obtain rfl := HTn.out hT
                have hT1 : (y != 0) = true := by simpa using hT
                clear hT HT HTz HTn
                go_wp2
                go_ret
                exact ⟨rfl, b7⟩

set_option maxRecDepth 100000 in
set_option maxHeartbeats 4000000 in
theorem walk_no (al ax ay : Option Addr) (cl cx cy : Nat) (l xs ys : List Int) (x : Int) (w : World) (hl : RowI .i64 w al l) (hx : RowI .i64 w ax xs) (hy : RowI .i64 w ay ys) (hno : al = none → cl = 0 ∧ l.length = 0) (hnx : ax = none → cx = 0) (hny : ay = none → cy = 0) (hcx : xs.length ≤ cx) (bl : l.length ≤ 1048576) (bx : xs.length ≤ 1048576) (by_ : ys.length ≤ 1048576) (hE : ¬ valE l x = 0) :
    Calls Try.prog 5 #[.slice al l.length cl, .int .i64 x, .slice ax xs.length cx, .slice ay ys.length cy] w fun e w' => e = .returned (.bool true) ∧ Below w.heap.size w w' := by
  obtain ⟨E, HE'⟩ : ∃ E, Hid (E = valE l x) := ⟨_, rfl⟩
  have HE : Hid (valE l x = E) := HE'.out.symm
  have hn0 : (E == 0) = false := by rw [HE'.out]; simpa using hE
  have hn1 : (E != 0) = true := by rw [HE'.out]; simpa using hE
  have HVv := hid (val_ne hE)
  clear hE HE'
  go_enter Try.func5, Try.ntmps5
  go_wp2_with fail
  refine (Value_any _ _ _ _ _ hl (by omega)).mono ?_
  rintro e w1 ⟨rfl, b1⟩
  rw [HVv.out, HE.out]
  have hl1 := hl.below b1
  have hx1 := hx.below b1
  have hy1 := hy.below b1
  go_wp2_with (first | (go_at_call 23; refine (When_any _ _ _).mono ?_; rintro e wn ⟨rfl, rfl⟩))
  refine (Clone_any al l.length cl (l.map (Value.int .i64)) _ hl1.v (by simp) (by simp [Value.oneCell']) hno (by omega)).mono ?_
  rintro e w2 ⟨v, rfl, hM, b2⟩
  have b12 := bel b1 b2
  go_wp2_with (at_builtin; refine wl_appendS rfl _ _ 32 rfl 3 (.int .i64 0) 1 8 Try.underlying32 slInt.info rfl (by decide) w1.heap.size _ l.length _ rfl (hM.belowAll ((Below.refl _ _).alloc (Nat.le_refl _) _)) (some ⟨w2.heap.size, 0, none⟩) 1 1 rfl (fun h => by cases h) [.int .i64 x] rfl (RowI.v (l := [x]) (BlkI.new .i64 3 w2 [x]).row) (by simp [Value.oneCell']) (by unfold maxLen; omega) (by omega) (by have := b2.size; simp; omega) (l.length + 1) rfl ?_; intro ao1 cap1 w3 row1 hcap1 hM1 hR1 hg1 hrow1)
  have bA : Below w.heap.size w w3 := bel b1 (bel2 (b2.trans ((Below.refl _ _).alloc b2.size _)) hg1 fun k hk => (hrow1 k hk).1)
  have hRI : RowI .i64 w3 ao1 (l ++ [x]) := RowV.i (by rw [List.map_append]; exact hR1)
  clear hR1 hM1 hg1 hrow1 hM b12 b2 hl1 b1
  go_wp2_with fail
  go_loopw [11, 37] (fun t i wr => ∃ (k : Nat) (z : Int), k ≤ l.length + 1 ∧ i = .int .i64 k ∧ t = .int .i64 z ∧ Hid (z = wantTo (whenE (decide ((64 : Int) < (l.length : Int))) 5) (l ++ [x]) k) ∧ Below w3.heap.size w3 wr) (fun _ i _ => l.length + 1 - (intOf i).toNat)
  case atStart => exact ⟨0, _, Nat.zero_le _, rfl, rfl, rfl, Below.refl _ _⟩
  case round =>
    obtain ⟨k, z, hk, rfl, rfl, HZ, hb⟩ := hrel
    by_cases h0 : k < l.length + 1
    · obtain ⟨b, off, c, rfl, hbb, HC, hcell0⟩ := hRI.elem (i := k) (by simp; omega)
      have hcell := (hb.cell (p := ⟨b, off + k, none⟩) hbb).trans hcell0
      go_wp2_with (first | (go_at_call 17; refine (In_any _ _ _ _).mono ?_; rintro e wn ⟨rfl, rfl⟩) | (go_at_call 23; refine (When_any _ _ _).mono ?_; rintro e wn ⟨rfl, rfl⟩) | (go_at_call 25; refine (First_two _ _ _ _ rfl).mono ?_; rintro e wn ⟨rfl, rfl⟩))
      go_roundw
      case rel => exact ⟨k + 1, _, by omega, by go_num, rfl, by show _ = _; rw [HZ.out, HC.out]; rfl, hb.alloc hb.size _⟩
      case measure => simp [intOf] <;> omega
    · have hzE : z = valE l x := by rw [HZ.out, show k = l.length + 1 by omega]; exact want_val l x
      rw [HE.out] at hzE
      subst hzE
      have bB := bel bA hb
      clear hb HZ hRI
      go_wp2_with (first | (go_at_call 18; refine (shares_any _).mono ?_; rintro e wn ⟨rfl, bS⟩) | (go_at_call 26; refine (ValueOf_any _ _ _ _ _ (hl.below (bel bB bS)) rl rx0 (by omega)).mono ?_; rintro e wn ⟨rfl, rfl⟩))
      have bC := bel bB bS
      clear bB bS h0 hk bA hx1 hy1
      have hx2 := hx.below bC
      have hy2 := hy.below bC
      go_wp2_with fail
      refine (Through_var _ _ _ _ xs ys _ hx2 hy2 (by omega) (by omega)).mono ?_
      rintro e w4 ⟨b4, pa, pn, T, rfl, HT, HTz, HTn⟩
      have b4' := bel bC b4
      have hx4 := hx.below b4'
      have hy4 := hy.below b4'
      have rx4 := hid (HTz.out)
      go_wp2_with (first | (go_at_call 23; refine (When_any _ _ _).mono ?_; rintro e wn ⟨rfl, rfl⟩) | (go_at_call 25; refine (First_two _ _ _ _ rfl).mono ?_; rintro e wn ⟨rfl, rfl⟩))
      refine (Concat_two ⟨ax, xs.length, cx, xs.map (.int .i64)⟩ ⟨ay, ys.length, cy, ys.map (.int .i64)⟩ _ _ (heap_alloc_new' _ _ (by simp)) ⟨(hx4.v.alloc _).alloc _, by simp, by simp [Value.oneCell'], hnx⟩ ⟨(hy4.v.alloc _).alloc _, by simp, by simp [Value.oneCell'], hny⟩ (by simp only; omega)).mono ?_
      rintro e w5 ⟨v5, rfl, hM5, b5⟩
      obtain ⟨ao5, cap5, rfl, hcap5, hR5⟩ := hM5.row
      have b5' : Below w.heap.size w w5 := bel (b4'.alloc b4'.size _ |>.alloc (by have := b4'.size; simp; omega) _) b5
      have b45 : Below w4.heap.size w4 w5 := bel (((Below.refl _ _).alloc (Nat.le_refl _) _).alloc (by simp) _) b5
      have hRI5 : RowI .i64 w5 ao5 (xs ++ ys) := RowV.i (by rw [List.map_append]; exact hR5)
      simp only at hcap5
      clear hR5 hM5 b5 hx4 hy4 rx4
      go_wp2_with fail
      go_loopw [11, 102] (fun t i wr => ∃ (k : Nat) (z : Int), k ≤ xs.length + ys.length ∧ i = .int .i64 k ∧ t = .int .i64 z ∧ Hid (z = wantTo (firstE2 (whenE ((xs.length : Int) != (ys.length : Int)) 2) (whenE (decide ((64 : Int) < (xs.length : Int))) 5)) (xs ++ ys) k) ∧ Below w5.heap.size w5 wr) (fun _ i _ => xs.length + ys.length - (intOf i).toNat)
      case atStart => exact ⟨0, _, Nat.zero_le _, rfl, rfl, rfl, Below.refl _ _⟩
      case round =>
        obtain ⟨k, z, hk, rfl, rfl, HZ, hb⟩ := hrel
        by_cases h0 : k < xs.length + ys.length
        · obtain ⟨b, off, c, rfl, hbb, HC, hcell0⟩ := hRI5.elem (i := k) (by simp; omega)
          have hcell := (hb.cell (p := ⟨b, off + k, none⟩) hbb).trans hcell0
          go_wp2_with (first | (go_at_call 17; refine (In_any _ _ _ _).mono ?_; rintro e wn ⟨rfl, rfl⟩) | (go_at_call 23; refine (When_any _ _ _).mono ?_; rintro e wn ⟨rfl, rfl⟩) | (go_at_call 25; refine (First_two _ _ _ _ rfl).mono ?_; rintro e wn ⟨rfl, rfl⟩))
          go_roundw
          case rel => exact ⟨k + 1, _, by omega, by go_num, rfl, by show _ = _; rw [HZ.out, HC.out]; rfl, hb.alloc hb.size _⟩
          case measure => simp [intOf] <;> omega
        · have HK : Hid (k = xs.length + ys.length) := by show k = _; omega
          rw [HK.out] at HZ
          clear HK
          have b6 := bel b5' hb
          have b46 := bel b45 hb
          clear hRI5 b5' b45 hk hb
          rename World => wA
          have hx6 := hx.below b6
          go_wp2_with fail
          go_loopw [11, 116] (fun t i wv => ∃ (k : Nat) (y : Int), k ≤ xs.length ∧ i = .int .i64 k ∧ t = .int .i64 y ∧ Hid (y = dupTo z xs k) ∧ Below wA.heap.size wA wv) (fun _ i _ => xs.length - (intOf i).toNat)
          case atStart => exact ⟨0, _, Nat.zero_le _, rfl, rfl, rfl, Below.refl _ _⟩
          case round =>
            obtain ⟨k, y, hk, rfl, rfl, HY, hb⟩ := hrel
            by_cases h0 : k < xs.length
            · obtain ⟨b, off, c, rfl, hbb, HC, hcell0⟩ := hx6.elem (i := k) h0
              have hcell := (hb.cell (p := ⟨b, off + k, none⟩) hbb).trans hcell0
              obtain ⟨lk, HLK⟩ : ∃ lk, Hid (lk = xs.take k) := ⟨_, rfl⟩
              have HLN : lk.length = k := by rw [HLK.out, List.length_take]; omega
              have hRk : RowI .i64 wA (some ⟨b, off, none⟩) lk := by rw [HLK.out]; exact RowI.take hx6 k
              have hRk' := hRk.below hb
              clear hRk
              go_wp2_with (first | (go_at_call 29; refine (Contains_n _ _ lk c _ hRk' HLN (by omega)).mono ?_; rintro e wn ⟨rfl, rfl⟩) | (go_at_call 23; refine (When_any _ _ _).mono ?_; rintro e wn ⟨rfl, rfl⟩) | (go_at_call 25; refine (First_two _ _ _ _ rfl).mono ?_; rintro e wn ⟨rfl, rfl⟩))
              go_roundw
              case rel => exact ⟨k + 1, _, by omega, by go_num, rfl, by show _ = _; rw [HY.out, HC.out, HLK.out]; rfl, hb.alloc hb.size _⟩
              case measure => simp [intOf] <;> omega
            · have hyT : y = T := by rw [HY.out, show k = xs.length by omega, HZ.out, HT.out]; exact want_thr xs ys
              subst hyT
              rename World => wB
              have b7 := bel b6 hb
              have b47 := bel b46 hb
              clear hx6 b6 b46 hb HZ HY hk
              by_cases hT : y = 0
              · subst hT
                obtain ⟨rfl, _, hP⟩ := HTz.out rfl
                obtain ⟨hyl, rx, ry, hap⟩ := thr_zero HT.out.symm
                have HYL := hid hyl
                have hPl : RowI .i64 wB pa (through xs ys) := hP.below b47
                have HPL := hid (through_length xs ys hap)
                have hPR := through_rng xs ys hap
                have hx7 := hx.below b7
                have hy7 := hy.below b7
                clear HTz HTn HT hP b47
                go_wp2_with fail
                go_loopw [152] (fun i wu => ∃ (k : Nat), k ≤ xs.length ∧ i = .int .i64 k ∧ Below wB.heap.size wB wu) (fun i _ => xs.length - (intOf i).toNat)
                case atStart => exact ⟨0, Nat.zero_le _, rfl, Below.refl _ _⟩
                case round =>
                  obtain ⟨k, hk, rfl, hb⟩ := hrel
                  by_cases h0 : k < xs.length
                  · obtain ⟨b, off, c, rfl, hbb, HC, hcell0⟩ := hx7.elem (i := k) h0
                    have hcell := (hb.cell (p := ⟨b, off + k, none⟩) hbb).trans hcell0
                    obtain ⟨bq, ofq, d, rfl, hbq, HD, hcellq0⟩ := hy7.elem (i := k) (by rw [HYL.out]; exact h0)
                    have hcellq := (hb.cell (p := ⟨bq, ofq + k, none⟩) hbq).trans hcellq0
                    have hq : (ev (through xs ys) c % 257 != d) = false := by rw [HC.out, HD.out, through_at hap ry k h0]; simp
                    have hc : 0 ≤ c ∧ c ≤ 256 := by rw [HC.out]; exact rx.getD k
                    have hPk := hPl.below hb
                    go_wp2_with (go_quiet ((go_at_call 26; exact Calls.quiet_of_same (ValueOf_n _ _ _ _ _ HPL.out (hPk.drewN _) hPR hc (by omega)))))
                    go_roundw
                    case rel => exact ⟨k + 1, by omega, by go_num, bdN hb _⟩
                    case measure => simp [intOf] <;> omega
                  · have hz := any_no hPR
                    have b8 := bel b7 hb
                    have hPk := hPl.below hb
                    go_wp2_with fail
                    refine (ContainsFunc_n _ _ _ _ HPL.out hPk (by omega)).mono ?_
                    rintro e w9 ⟨rfl, b9⟩
                    rw [hz]
                    go_wp2
                    go_ret
                    exact ⟨rfl, bel b8 b9⟩
              · obtain rfl := HTn.out hT
                have hT1 : (y != 0) = true := by simpa using hT
                clear hT HT HTz HTn
                go_wp2
                go_ret
                exact ⟨rfl, b7⟩

theorem walk (al ax ay : Option Addr) (cl cx cy : Nat) (l xs ys : List Int) (x : Int) (w : World) (hl : RowI .i64 w al l) (hx : RowI .i64 w ax xs) (hy : RowI .i64 w ay ys) (hno : al = none → cl = 0 ∧ l.length = 0) (hnx : ax = none → cx = 0) (hny : ay = none → cy = 0) (hcx : xs.length ≤ cx) (bl : l.length ≤ 1048576) (bx : xs.length ≤ 1048576) (by_ : ys.length ≤ 1048576) :
    Calls Try.prog 5 #[.slice al l.length cl, .int .i64 x, .slice ax xs.length cx, .slice ay ys.length cy] w fun e w' => e = .returned (.bool true) ∧ Below w.heap.size w w' := by
  by_cases hE : valE l x = 0
  · exact walk_ok al ax ay cl cx cy l xs ys x w hl hx hy hno hnx hny hcx bl bx by_ hE
  · exact walk_no al ax ay cl cx cy l xs ys x w hl hx hy hno hnx hny hcx bl bx by_ hE

end Go.Proofs.Ytlhfoelabanlfaa.pol
