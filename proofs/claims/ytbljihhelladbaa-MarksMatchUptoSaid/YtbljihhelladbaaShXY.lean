/-
  Contract of keyref2.ZeroOf; slices of shares that a call has made. Conditions: shares of the type's form.
-/
import Derived.Test.YtbljihhelladbaaShUW
import Derived.StillTailTactics
/- Contract of keyref2.ZeroOf. Conditions: shares of the type's form at places from 0 to 256, 32 at most; a seed of octets, a need from 1 to 32. -/
namespace Go.Proofs.Ytbljihhelladbaa.shr
open Go.RowKit Go.Proofs.Ytbljihhelladbaa.sh Go.Proofs.Ytbljihhelladbaa.Fld
set_option linter.unusedSimpArgs false
set_option linter.unusedVariables false
set_option pp.maxSteps 6000

def zeros32 : List Int := List.replicate 32 0
theorem zeros32_octs : st.Octs zeros32 := by
  intro c hc
  rw [List.eq_of_mem_replicate hc]; exact ⟨by decide, by decide⟩

set_option maxRecDepth 100000 in
set_option maxHeartbeats 1000000 in
theorem ZeroOf_any (m : Nat) (ao : Option Addr) (cap : Nat) (l : List Sh) (seed : List Int) (w : World) (hr : RowS w ao l) (hok : ∀ s ∈ l, s.Ok) (hn : l.length ≤ 32) (hx : ∀ s ∈ l, 0 ≤ s.x ∧ s.x ≤ 256) (hs : seed.length = 32) (hso : st.Octs seed) (hm1 : 1 ≤ m) (hm : m ≤ 32) :
    Calls Try.prog 56 #[.int .i64 m, .slice ao l.length cap, .agg (seed.map (Value.int .u8)).toArray] w fun e w' => ∃ ao' cap', e = .returned (.slice ao' l.length cap') ∧ l.length ≤ cap' ∧ RowS w' ao' (onAll (polyZ m seed) l) ∧ Below w.heap.size w w' := by
  have HOK := hid hok
  have HX := hid hx
  clear hok hx
  obtain ⟨Z, HZ⟩ : ∃ Z, Hid (Z = noSlices) := ⟨_, rfl⟩
  have HZ0 := hid zeroP
  rw [← HZ.out] at HZ0
  have HZL : Hid (Z.length = 32) := by rw [HZ.out]; rfl
  obtain ⟨ZK, HZK⟩ : ∃ Z, Hid (Z = zeros32.map (Value.int .u8)) := ⟨_, rfl⟩
  have HBU : Hid ((Try.prog.built 23 []) = some ZK.toArray) := by rw [HZK.out]; exact (by kernel_rfl : (Try.prog.built 23 []) = some (zeros32.map (Value.int .u8)).toArray)
  have HP := hid (fun w => polysZ zeros32 seed m w rfl zeros32_octs hs hso hm1 hm)
  obtain ⟨KV, HKV⟩ : ∃ K, Hid (K = seed.map (Value.int .u8)) := ⟨_, rfl⟩
  have HKL : Hid (KV.length = 32) := by show _ = _; rw [HKV.out, List.length_map]; exact hs
  rw [← HZK.out, ← HKV.out] at HP
  rw [← HKV.out]
  obtain ⟨f, HF⟩ : ∃ f, Hid (f = polyZ m seed) := ⟨_, rfl⟩
  rw [← HF.out] at HP ⊢
  have HFr : Hid (∀ o, Rng (f o)) := fun o => by rw [HF.out]; exact polyZ_rng m seed o
  have HFl : Hid (∀ o, (f o).length ≤ 32) := fun o => by rw [HF.out]; exact Nat.le_trans (polyZ_len hm1 seed o) hm
  have hb0 : Below w.heap.size w (w.alloc (.cells KV.toArray 23)) := (Below.refl _ _).alloc (Nat.le_refl _) _
  have hK0 : BlkV 23 (w.alloc (.cells KV.toArray 23)) w.heap.size KV := BlkV.new _ _ _ rfl
  go_enter Try.func56, Try.ntmps56
  go_wp2_with (first | (refine wl_build0 rfl 23 rfl ZK HBU.out ?_) | (refine wl_load rfl 23 _ rfl ⟨w.heap.size, 0, none⟩ rfl KV (by rw [HKL.out]; exact aggKey) hK0.at0 ?_) | (go_at_call 118; refine (HP.out _).mono ?_; rintro e w1 ⟨ps, rfl, hP, hb1⟩; obtain ⟨N, HN⟩ : ∃ N, Hid (w1.heap.size = N) := ⟨_, rfl⟩; have HPL := hid hP.len) | (refine wl_allocV rfl 139 rfl Z HZ0.out N HN.out ?_; intro wA hA hbA hsA) | (refine wl_storeV rfl 139 _ _ rfl 139 N rfl ps rfl 32 aggP HPL.out Z hA HZL.out hP.one ?_; intro wS hS hbS hsS))
  have hbw1 : Below w1.heap.size w1 wS := by rw [HN.out]; exact hbA.trans hbS
  have hPS := hP.below hbw1
  have hbw : Below w.heap.size w wS := (hb0.trans (hb1.mono hb0.size)).trans (hbw1.mono (Nat.le_trans hb0.size hb1.size))
  have hrS := hr.below hbw
  obtain ⟨B, HB⟩ : ∃ B, Hid (wS.heap.size = B) := ⟨_, rfl⟩
  have hNB : N < B := by rw [← HB.out]; exact hS.lt
  clear hA hbA hsA hbS hsS hb0 hK0 hb1 hP hbw1
  go_loopw [8, 19] (fun o i wr => ∃ (k : Nat) (ax : Option Addr) (cx : Nat), k ≤ l.length ∧ i = .int .i64 k ∧ o = .slice ax k cx ∧ wr.ownsRow B 61 49 (.slice ax k cx) k (flatS (onAll f (l.take k))) ∧ Below B wS wr) (fun _ i _ => l.length - (intOf i).toNat)
  case atStart => exact ⟨0, none, 0, Nat.zero_le _, rfl, rfl, World.ownsRow_nil _ _ _ _, Below.refl _ _⟩
  case round =>
    obtain ⟨k, ax, cx, hk, rfl, rfl, hO, hbl⟩ := hrel
    by_cases h0 : k < l.length
    · rw [HB.out.symm] at hbl
      have hrr := hrS.below hbl
      obtain ⟨b, off, s, rfl, hb, HS, hat⟩ := hrr.elem (i := k) h0
      have hs : s.Ok := by rw [HS.out, getD_lt' l nil h0]; exact HOK.out _ (List.getElem_mem h0)
      have hsx : 0 ≤ s.x ∧ s.x ≤ 256 := by rw [HS.out, getD_lt' l nil h0]; exact HX.out _ (List.getElem_mem h0)
      have HCL := hid hs.csl
      have c1 := cs_one s
      obtain ⟨M, HM⟩ : ∃ M, Hid (wr.heap.size = M) := ⟨_, rfl⟩
      have hBM : B ≤ M := by rw [← HB.out, ← HM.out]; exact hbl.size
      have HBT := hid (fun V => built_sh (h := s.h) hs.hl s.x V)
      have HHL := hid (show (s.h.map (Value.int .u8)).length = 16 by rw [List.length_map]; exact hs.hl)
      obtain ⟨V, HV⟩ : ∃ V : Nat → Int, Hid (V = fun o => ev (f o) s.x % 257) := ⟨_, rfl⟩
      have HTL := hid ((shTo_ok (V := V) (k := 0) hs.hl hs.hb hs.xb (fun o => by rw [HV.out]; have := ev_bd (f o) s.x; simp only []; omega) (by omega)).csl)
      have HT1 := hid (cs_one (shTo s.h s.x V 0))
      go_wp2_with (first | (refine wl_load rfl 61 _ rfl ⟨b, off + k * 49, none⟩ rfl s.cs (by rw [HCL.out]; exact aggS) hat ?_; clear hat) | (refine wl_allocV rfl 61 rfl sh0.cs sh0_zero M HM.out ?_; intro wA hA hbA hsA) | (refine wl_storeV rfl 61 _ _ rfl 61 M rfl s.cs rfl 49 aggS HCL.out sh0.cs hA sh0_len c1 ?_; intro wC hC hbC hsC; have cX := (hC.cell 16).trans (cs_x s hs); have aH := at_h hs hC; have hbC' := hbA.trans hbC; have hsC' : wC.heap.size = M + 1 := (by omega); clear hA hbA hbC hsA hsC) | (refine wl_load rfl 57 _ rfl ⟨M, 0, none⟩ rfl (s.h.map (Value.int .u8)) (by rw [HHL.out]; exact aggID) aH ?_; clear aH) | (refine wl_build2 rfl 61 0 1 _ _ rfl _ _ rfl rfl (shTo s.h s.x V 0).cs (HBT.out V) ?_) | (refine wl_allocV rfl 61 rfl sh0.cs sh0_zero (M + 1) hsC' ?_; intro wD hD hbD hsD; clear hsC') | (refine wl_storeV rfl 61 _ _ rfl 61 (M + 1) rfl (shTo s.h s.x V 0).cs rfl 49 aggS HTL.out sh0.cs hD sh0_len HT1.out ?_; intro wE hE hbE hsE; have hbE' := hbD.trans hbE; have hsE' : wE.heap.size = M + 2 := (by omega); clear hD hbD hbE hsD hsE))
      have hbE2 : Below M wr wE := hbC'.trans (hbE'.mono (by omega))
      have hOE := ownsRow_below hO M HM.out hbE2
      have hOl : ∀ g, (Value.slice ax k cx).ownBlock = some g → g < M := fun g hg => by rw [← HM.out]; exact ownsRow_lt hO g hg
      have hblE : Below B wS wE := by rw [HB.out] at hbl; exact hbl.trans (hbE2.mono hBM)
      have hCE : BlkV 61 wE M s.cs := hC.below hbE' (by omega)
      clear hC cX hbC' hbE' hO hbE2 hbl hrr
      go_loopw [28] (fun i wx => ∃ j : Nat, j ≤ 32 ∧ i = .int .i64 j ∧ BlkV 61 wx (M + 1) (shTo s.h s.x V j).cs ∧ Below (M + 1) wE wx) (fun i _ => 32 - (intOf i).toNat)
      case atStart => exact ⟨0, by omega, rfl, hE, Below.refl _ _⟩
      case round =>
        clear hE
        obtain ⟨j, hj, rfl, hT, hbx⟩ := hrel
        by_cases h1 : j < 32
        · have hjI : (j : Int) < 32 := by omega
          have hjI0 : (0 : Int) ≤ (j : Int) := by omega
          obtain ⟨pa, pc, hpk, hrow0⟩ := hPS.at_ j h1
          have hbSx : Below B wS wr := hblE.trans (hbx.mono (by omega))
          have hrow := hid (hrow0.below (by rw [HB.out]; exact hbSx))
          have cP := (hS.below hbSx hNB).cell j
          rw [hpk] at cP
          have cX := ((hCE.below hbx (by omega)).cell 16).trans (cs_x s hs)
          have cT := hT.cell (17 + j)
          rw [shTo_get s.x V hs.hl hj h1] at cT
          have fT := hT.frozen (17 + j)
          obtain ⟨v, Hv⟩ : ∃ v, Hid (v = V j) := ⟨_, rfl⟩
          have hvv : ev (f j) s.x % 257 = v := by rw [Hv.out, HV.out]
          have hvb := ev_bd (f j) s.x
          rw [hvv] at hvb
          have hvw : IntKind.u16.wrap v = v := IntWalk.u16_in _ (by omega)
          have hcall := hid (ValueOf_n pa pc (f j) s.x wr.drew rfl hrow.out.drew (HFr.out j) hsx (by have := HFl.out j; omega) v hvv)
          clear hvv hpk hrow0 hrow
          go_wp2_with fail
          refine wp_region_still_tail 10 (by kernel_rfl) (by kernel_rfl) ?_
          simp only [List.take_succ_cons, List.take_zero, List.drop_succ_cons, List.drop_zero]
          change wpStill _ _ wr.drew (fun a' => wpList _ _ _ _ a' wr.drew) _ _
          repeat still_step
          still_call hcall.out
          repeat still_step
          refine wpStill_nil ?_
          go_wp2
          go_roundw
          case rel => exact ⟨j + 1, by omega, by go_num, by rw [← shTo_set s.x V hs.hl h1, ← Hv.out]; exact (hT.drew).set (17 + j) _, (hbx.drew).setCell (by simp) _⟩
          case measure => simp [intOf] <;> omega
        · obtain rfl : j = 32 := by omega
          have hZ : shTo s.h s.x V 32 = onSh f s := by rw [HV.out]; rfl
          rw [hZ] at hT
          have hzok := onSh_ok f hs
          obtain ⟨z, Hz⟩ : ∃ z, Hid (z = onSh f s) := ⟨_, rfl⟩
          rw [← Hz.out] at hT hzok
          have HZC := hid hzok.csl
          obtain ⟨Q, HQ⟩ : ∃ Q, Hid (wr.heap.size = Q) := ⟨_, rfl⟩
          have hMQ : M + 2 ≤ Q := by rw [← HQ.out, ← hsE']; exact hbx.size
          have hOr := owns_belowB hOE hbx (fun g hg => Nat.lt_succ_of_lt (hOl g hg))
          have hbSr : Below B wS wr := hblE.trans (hbx.mono (by omega))
          have haT := hT.at0
          have HOA := hid (onAll_succ f l k h0)
          rw [← HS.out, ← Hz.out] at HOA
          have hok1 : ∀ t ∈ onAll f (l.take k), t.Ok := onAll_ok f fun t ht => HOK.out t (List.mem_of_mem_take ht)
          go_wp2_with (first | (refine wl_load rfl 61 _ rfl ⟨M + 1, 0, none⟩ rfl z.cs (by rw [HZC.out]; exact aggS) haT ?_; clear haT) | (refine wl_slice1 rfl 47 61 _ rfl Try.underlying47 49 sh0.cs (by kernel_rfl) sh0_len (by decide) (by decide) z.cs rfl HZC.out Q HQ.out ?_; intro wG hG hbG hsG; have hOG := ownsRow_below hOr Q HQ.out hbG) | (at_builtin; refine wl_appendSh rfl _ _ rfl B (.slice ax k cx) k (onAll f (l.take k)) rfl (Or.inl hOG) (some ⟨Q, 0, none⟩) 1 1 rfl (fun h => by cases h) [z] rfl (RowS.of_blk hG) (fun t ht => by rw [List.mem_singleton.1 ht]; exact hzok) hok1 (by omega) (by omega) (k + 1) rfl ?_; intro aoA capA wA rowA hcapA hMA hVA hgA hrowA))
          have hbA : Below B wS wA := (hbSr.trans (hbG.mono (by omega))).grown hgA (by omega) (fun k hk => (hrowA k hk).1)
          go_roundw
          case rel =>
            refine ⟨k + 1, aoA, capA, by omega, by go_num, rfl, ?_, hbA⟩
            rw [HOA.out]
            exact st.own_of_mine hMA (by omega)
          case measure => simp [intOf] <;> omega
    · obtain rfl : k = l.length := by omega
      rw [List.take_length] at hO
      obtain ⟨ao', cap', hv, hcap, hV⟩ := Mine.row (Or.inl hO)
      cases hv
      go_wp2
      go_ret
      exact ⟨ax, cx, rfl, hcap, RowS.of_flat hV (onAll_ok f HOK.out), hbw.trans (hbl.mono (by rw [← HB.out]; exact hbw.size))⟩
end Go.Proofs.Ytbljihhelladbaa.shr

/- A slice of shares that a call has made, as a block whose first cells are known (RowB); its shares are given values one by one. No program, no condition but the form. -/
namespace Go.Proofs.Ytbljihhelladbaa.shr
open Go.RowKit Go.Proofs.Ytbljihhelladbaa.sh Go.Proofs.Ytbljihhelladbaa.Fld
set_option linter.unusedSimpArgs false
set_option linter.unusedVariables false
set_option pp.maxSteps 6000

/-- block g begins with these cells, and none is frozen -/
def RowB (t : TypeId) (w : World) (g : Nat) (cs : List Value) : Prop := ∃ cur, BlkV t w g cur ∧ cur.take cs.length = cs
section
variable {t : TypeId} {w w' : World} {g : Nat} {cs : List Value}
theorem RowB.lt (h : RowB t w g cs) : g < w.heap.size := by obtain ⟨cur, h, _⟩ := h; exact h.lt
theorem RowB.cell (h : RowB t w g cs) {i : Nat} {u : Value} (hi : cs[i]? = some u) : w.cell? ⟨g, i, none⟩ = some u := by
  obtain ⟨cur, h, h2⟩ := h
  rw [h.cell]
  have hlt : i < cs.length := (List.getElem?_eq_some_iff.1 hi).1
  rw [← hi, ← h2, List.getElem?_take, if_pos hlt]
theorem RowB.frozen (h : RowB t w g cs) (i : Nat) : w.frozen? ⟨g, i, none⟩ = false := by obtain ⟨cur, h, _⟩ := h; exact h.frozen i
theorem RowB.set (h : RowB t w g cs) (i : Nat) (v : Value) : RowB t (w.setCell ⟨g, i, none⟩ v) g (cs.set i v) := by
  obtain ⟨cur, h, h2⟩ := h
  refine ⟨cur.set i v, h.set i v, ?_⟩
  rw [List.length_set, List.take_set, h2]
theorem RowB.drew (h : RowB t w g cs) : RowB t w.drew g cs := h
theorem RowB.drewN (h : RowB t w g cs) (n : Nat) : RowB t (w.drewN n) g cs := h
theorem RowB.below {B : Nat} (h : RowB t w g cs) (hb : Below B w w') (hg : g < B) : RowB t w' g cs := by obtain ⟨cur, h, h2⟩ := h; exact ⟨cur, h.below hb hg, h2⟩
theorem RowB.grown {row : Option Nat} (h : RowB t w g cs) (hg : w.grownBy w' row) (hr : row ≠ some g) : RowB t w' g cs := by obtain ⟨cur, h, h2⟩ := h; exact ⟨cur, h.grown hg hr, h2⟩
theorem RowB.row (h : RowB t w g cs) : RowV w (some ⟨g, 0, none⟩) cs := Or.inr ⟨g, 0, rfl, h.lt, fun j u hu => by rw [Nat.zero_add]; exact h.cell hu⟩
theorem RowB.of_owns {base size n : Nat} {v : Value} (h : w.ownsRow base t size v n cs) (hn : 0 < n) : ∃ g cap, v = .slice (some ⟨g, 0, none⟩) n cap ∧ base ≤ g ∧ n ≤ cap ∧ RowB t w g cs := by
  obtain ⟨hl, h | ⟨g, cap, cur, hv, hg, hh, h1, h2, h3, h4⟩⟩ := h
  · omega
  · exact ⟨g, cap, hv, hg, h1, cur.toList, by unfold BlkV; simpa using hh, by rw [hl]; exact h4⟩
theorem grown_below {row : Option Nat} (hb : Below w.heap.size w w') : w.grownBy w' row := ⟨hb.os, hb.tape, hb.output, hb.size, fun k hk _ => hb.block k hk⟩
theorem grown_drew {row : Option Nat} (h : w.grownBy w' row) : w.grownBy w'.drew row := ⟨h.os, h.tape, h.output, h.size, h.block⟩
theorem grown_set {g : Nat} (h : w.grownBy w' (some g)) (i : Nat) (v : Value) : w.grownBy (w'.setCell ⟨g, i, none⟩ v) (some g) := h.trans (grown_setCell w' ⟨g, i, none⟩ v)
theorem below_of_grown {B g : Nat} (h : w.grownBy w' (some g)) (hB : B ≤ w.heap.size) (hg : B ≤ g) : Below B w w' := (Below.refl B w).grown h hB fun k hk => by cases hk; exact hg
end

theorem flatS_set (l : List Sh) (hl : ∀ s ∈ l, s.Ok) (i j : Nat) (hi : i < l.length) (hj : j < 49) (v : Value) (s' : Sh) (hs : (l.getD i nil).cs.set j v = s'.cs) : (flatS l).set (i * 49 + j) v = flatS (l.set i s') := by
  induction l generalizing i with
  | nil => simp at hi
  | cons s l ih =>
    have hsl := (hl s (List.mem_cons_self ..)).csl
    unfold flatS at *
    cases i with
    | zero =>
      rw [List.flatMap_cons, List.set_append_left _ _ (by rw [hsl]; omega), List.set_cons_zero, List.flatMap_cons]
      rw [show (s :: l).getD 0 nil = s from rfl] at hs
      rw [Nat.zero_mul, Nat.zero_add, hs]
    | succ i =>
      rw [List.flatMap_cons, List.set_append_right _ _ (by rw [hsl]; omega), hsl, show (i + 1) * 49 + j - 49 = i * 49 + j by omega, ih (fun t ht => hl t (List.mem_cons_of_mem _ ht)) i (by simpa using hi) (by simpa using hs), List.set_cons_succ, List.flatMap_cons]

/-- the values that given polynomials have at a share's place -/
def vals (f : Nat → List Int) (s : Sh) (o : Nat) : Int := ev (f o) s.x % 257
/-- a share with k values laid; all shares; all, and of the first i one more -/
def toSh (f : Nat → List Int) (k : Nat) (s : Sh) : Sh := shTo s.h s.x (vals f s) k
def stp (f : Nat → List Int) (l : List Sh) (k i : Nat) : List Sh := (l.take i).map (toSh f (k + 1)) ++ (l.drop i).map (toSh f k)
theorem vals_bd (f : Nat → List Int) (s : Sh) (o : Nat) : 0 ≤ vals f s o ∧ vals f s o ≤ 65535 := by unfold vals; omega
theorem toSh_ok (f : Nat → List Int) {k : Nat} (hk : k ≤ 32) {s : Sh} (hs : s.Ok) : (toSh f k s).Ok := shTo_ok hs.hl hs.hb hs.xb (vals_bd f s) hk
theorem toSh_all (f : Nat → List Int) (s : Sh) : toSh f 32 s = onSh f s := rfl
theorem stp_zero (f : Nat → List Int) (l : List Sh) (k : Nat) : stp f l k 0 = l.map (toSh f k) := by unfold stp; simp
theorem stp_all (f : Nat → List Int) (l : List Sh) (k : Nat) : stp f l k l.length = stp f l (k + 1) 0 := by unfold stp; simp
theorem stp_length (f : Nat → List Int) (l : List Sh) (k i : Nat) : (stp f l k i).length = l.length := by unfold stp; simp; omega
theorem stp_get (f : Nat → List Int) (l : List Sh) (k i : Nat) (hi : i < l.length) : (stp f l k i).getD i nil = toSh f k (l.getD i nil) := by
  unfold stp
  rw [List.getD_eq_getElem?_getD, List.getElem?_append_right (by simp; omega)]
  simp [List.getD_eq_getElem?_getD, hi, Nat.min_eq_left (Nat.le_of_lt hi)]
theorem stp_set (f : Nat → List Int) (l : List Sh) (k i : Nat) (hi : i < l.length) : (stp f l k i).set i (toSh f (k + 1) (l.getD i nil)) = stp f l k (i + 1) := by
  unfold stp
  rw [List.set_append_right _ _ (by simp; omega), List.take_succ_eq_append_getElem hi, List.map_append, List.append_assoc]
  congr 1
  rw [List.drop_eq_getElem_cons hi, List.map_cons, show i - ((l.take i).map (toSh f (k + 1))).length = 0 by simp; omega, List.set_cons_zero, getD_lt' l nil hi]
  rfl
theorem stp_ok (f : Nat → List Int) {l : List Sh} (hl : ∀ s ∈ l, s.Ok) {k : Nat} (hk : k < 32) (i : Nat) : ∀ s ∈ stp f l k i, s.Ok := by
  intro s hs
  unfold stp at hs
  rcases List.mem_append.1 hs with h | h
  · obtain ⟨t, ht, rfl⟩ := List.mem_map.1 h
    exact toSh_ok f (by omega) (hl t (List.mem_of_mem_take ht))
  · obtain ⟨t, ht, rfl⟩ := List.mem_map.1 h
    exact toSh_ok f (by omega) (hl t (List.mem_of_mem_drop ht))
theorem stp_flat (f : Nat → List Int) {l : List Sh} (hl : ∀ s ∈ l, s.Ok) {k : Nat} (hk : k < 32) {i : Nat} (hi : i < l.length) : (flatS (stp f l k i)).set (i * 49 + (17 + k)) (.int .u16 (vals f (l.getD i nil) k)) = flatS (stp f l k (i + 1)) := by
  have hs := hl _ (getD_mem l i hi)
  rw [flatS_set (stp f l k i) (stp_ok f hl hk i) i (17 + k) (by rw [stp_length]; exact hi) (by omega) _ (toSh f (k + 1) (l.getD i nil)) (by rw [stp_get f l k i hi]; exact shTo_set _ _ hs.hl hk), stp_set f l k i hi]
/-- the cells of one share in the midst -/
theorem stp_x (f : Nat → List Int) {l : List Sh} (hl : ∀ s ∈ l, s.Ok) {k : Nat} (hk : k < 32) {i : Nat} (hi : i < l.length) : (flatS (stp f l k i))[i * 49 + 16]? = some (.int .i64 (l.getD i nil).x) := by
  have hs := hl _ (getD_mem l i hi)
  rw [flatS_get _ (stp_ok f hl hk i) i 16 (by rw [stp_length]; exact hi) (by omega), stp_get f l k i hi]
  exact cs_x _ (toSh_ok f (by omega) hs)
theorem stp_y (f : Nat → List Int) {l : List Sh} (hl : ∀ s ∈ l, s.Ok) {k : Nat} (hk : k < 32) {i : Nat} (hi : i < l.length) : ∃ c, (flatS (stp f l k i))[i * 49 + (17 + k)]? = some (.int .u16 c) := by
  have hs := hl _ (getD_mem l i hi)
  rw [flatS_get _ (stp_ok f hl hk i) i (17 + k) (by rw [stp_length]; exact hi) (by omega), stp_get f l k i hi]
  exact ⟨_, cs_yi _ (toSh_ok f (by omega) hs) k hk⟩
theorem stp_end (f : Nat → List Int) (l : List Sh) : l.map (toSh f 32) = onAll f l := rfl
theorem map_succ (f : Sh → Sh) (l : List Sh) (k : Nat) (hk : k < l.length) : (l.take (k + 1)).map f = (l.take k).map f ++ [f (l.getD k nil)] := by
  rw [List.take_succ_eq_append_getElem hk, List.map_append, getD_lt' l nil hk]; rfl
end Go.Proofs.Ytbljihhelladbaa.shr
