/-
  Slices of holders: what lies there, the argument opened; contract of keyref2.HoldersError. Conditions: holders of 16 octets.
-/
import Derived.Test.YtbljihhelladbaaCmp
import Derived.Test.YtbljihhelladbaaShJ
import Derived.StillTailTactics
namespace Go.Proofs.Ytbljihhelladbaa.shr
open Go.RowKit Go.Proofs.Ytbljihhelladbaa.sh Go.Proofs.Ytbljihhelladbaa.cm Go.ChangeShapes Go.WideShapes Go.ChangeAt
set_option linter.unusedSimpArgs false
set_option linter.unusedVariables false
set_option pp.maxSteps 6000

/-- a holder: 16 octets -/
def IdOk (h : List Int) : Prop := h.length = 16 ∧ ∀ c ∈ h, 0 ≤ c ∧ c ≤ 255
/-- behind the address lie these holders -/
def RowH (w : World) (ao : Option Addr) (l : List (List Int)) : Prop :=
  l = [] ∨ ∃ b off, ao = some ⟨b, off, none⟩ ∧ b < w.heap.size ∧ ∀ i, i < l.length → At w ⟨b, off + i * 16, none⟩ ((l.getD i []).map (Value.int .u8))
theorem RowH.at {w : World} {ao : Option Addr} {l : List (List Int)} (h : RowH w ao l) (hl : l ≠ []) : ∃ b off, ao = some ⟨b, off, none⟩ ∧ b < w.heap.size ∧ ∀ i, i < l.length → At w ⟨b, off + i * 16, none⟩ ((l.getD i []).map (Value.int .u8)) := by
  rcases h with h | h
  · exact absurd h hl
  · exact h
theorem RowH.below {w w' : World} {ao : Option Addr} {l : List (List Int)} (h : RowH w ao l) (hb : Below w.heap.size w w') : RowH w' ao l := by
  rcases h with h | ⟨b, off, h1, h2, h3⟩
  · exact Or.inl h
  · exact Or.inr ⟨b, off, h1, Nat.lt_of_lt_of_le h2 hb.size, fun i hi => At.below (h3 i hi) hb h2⟩

structure HoldersAt {H : Type} (W : World) (v : Value) (d : DataW H) (l : List (List Int)) (ao : Option Addr) (cap : Nat) : Prop where
  val : v = .slice ao l.length cap
  le : l.length ≤ cap
  row : RowH W ao l
  none : ao = none → cap = 0 ∧ l.length = 0
  ok : ∀ s ∈ l, IdOk s
  len : cap ≤ maxLen

set_option maxRecDepth 100000 in
theorem holdersArg {H : Type} {enc : TypeId × Value → H} {W : World} {base : Nat} {held : Bool} {r : Reach} {b0 : Nat} {v : Value} {d : DataW H} {ps : List MemPlace}
    (hval : Value.okWide Try.prog W r b0 64 v) (hd : DataW.Trod enc Try.prog W base (fun _ => true) held 64 v d ps) :
    ∃ l ao cap, HoldersAt W v d l ao cap := by
  obtain ⟨a, len, cap, rfl⟩ := okWide_slice Try.underlying64 hval
  obtain ⟨fuel, hf⟩ := hd
  rcases Go.Deep.open_slice Try.underlying64 hf with ⟨h1, h2⟩ | ⟨ad, ln, cp, m, n, D, Pl, h1, h3, h4, h5, h6, h7, h8⟩
  · simp [Value.cells] at h1
    obtain ⟨rfl, rfl, rfl⟩ := h1
    exact ⟨[], none, 0, ⟨rfl, Nat.le_refl _, Or.inl rfl, fun _ => ⟨rfl, rfl⟩, (fun s hs => by cases hs), by decide⟩⟩
  · simp [Value.cells] at h1
    obtain ⟨rfl, rfl, rfl⟩ := h1
    simp only [if_true] at h6
    subst h6
    rw [show Try.prog.cellsOf 57 = 16 by kernel_rfl] at h8
    have hs : ∀ i, i < m → ∃ s : List Int, IdOk s ∧ At W (ad.add (i * 16)) (s.map (Value.int .u8)) := by
      intro i hi
      obtain ⟨cs', hc, ht⟩ := h8 i hi
      obtain ⟨s, rfl, hsl, hw⟩ := arr_of_trod Try.underlying57 Try.underlying5 (by kernel_rfl) (by kernel_rfl) ht
      obtain ⟨_, hcl, hat⟩ := World.cells?_some hc
      refine ⟨s, ⟨hsl, fun c hc => bounds_u8 (hw c hc)⟩, fun j u hu => ?_⟩
      have hj : j < 16 := by rw [← hcl]; exact (List.getElem?_eq_some_iff.1 hu).1
      rw [hat j hj, hu]
    have hs' : ∃ f : Nat → List Int, ∀ i, i < m → IdOk (f i) ∧ At W (ad.add (i * 16)) ((f i).map (Value.int .u8)) := by
      refine ⟨fun i => if h : i < m then Classical.choose (hs i h) else [], fun i hi => ?_⟩
      simp only [dif_pos hi]
      exact Classical.choose_spec (hs i hi)
    obtain ⟨f, hf2⟩ := hs'
    have hlen : ((List.range len).map f).length = len := by simp
    refine ⟨(List.range len).map f, some ad, m, ⟨by rw [hlen], by rw [hlen]; exact h4, ?_, (fun h => by cases h), ?_, h5⟩⟩
    · by_cases hl : len = 0
      · exact Or.inl (by subst hl; rfl)
      · have c0 := (hf2 0 (by omega)).2
        have hl0 : 0 < ((f 0).map (Value.int .u8)).length := by rw [List.length_map, (hf2 0 (by omega)).1.1]; decide
        have hcs : ((f 0).map (Value.int .u8))[0]? = some (((f 0).map (Value.int .u8))[0]'hl0) := List.getElem?_eq_getElem _
        have c1 := c0 0 _ hcs
        obtain ⟨b, off, spot⟩ := ad
        have hspot : spot = none := by simpa [Addr.add] using World.cell?_spot c1
        subst hspot
        have c2 : W.cell? ⟨b, off, none⟩ = some (((f 0).map (Value.int .u8))[0]'hl0) := by simpa [Addr.add] using c1
        refine Or.inr ⟨b, off, rfl, opn.lt_of_cell' c2, fun i hi => ?_⟩
        rw [hlen] at hi
        have e : ((List.range len).map f).getD i [] = f i := by simp [List.getD_eq_getElem?_getD, hi]
        rw [e]
        have := (hf2 i (by omega)).2
        rwa [show (⟨b, off, none⟩ : Addr).add (i * 16) = ⟨b, off + i * 16, none⟩ by unfold Addr.add; split <;> simp_all] at this
    · intro s hs
      obtain ⟨i, hi, rfl⟩ := List.mem_map.1 hs
      exact (hf2 i (by have := List.mem_range.1 hi; omega)).1

/-- the first k holders are in order, each once -/
def ordAt (l : List (List Int)) (i : Nat) : Bool := decide (i = 0) || decide (cmpL (l.getD (i - 1) []) (l.getD i []) < 0)
def ordTo (l : List (List Int)) (k : Nat) : Bool := (List.range k).all (ordAt l)
theorem ordTo_succ (l : List (List Int)) (k : Nat) : ordTo l (k + 1) = (ordTo l k && ordAt l k) := by unfold ordTo; rw [List.range_succ, List.all_append]; simp
/-- the error of holders ahead of their order; and with it -/
def headE (need : Int) (l : List (List Int)) : Int := firstE [whenE (!inB need 1 32) 4, whenE (decide ((32 : Int) < (l.length : Int))) 5, whenE (decide ((l.length : Int) < need)) 18]
def holdE (need : Int) (l : List (List Int)) : Int := if headE need l = 0 then (if ordTo l l.length = true then 0 else 9) else headE need l
def wantH (W : Int) (b : Bool) : Int := if W = 0 then (if b = true then 0 else 9) else W

/-- an operation that its guard leaves out -/
theorem still_skip {P : Program} {w : World} {ops : Array Oper} {rest : List Oper} {o : Oper} {a : Act} {Q : Act → Prop} (d : Nat) (hd : o.dst = some d) (hgd : Region.wanted o (yielded ops a.tmps) = false) (h : wpStill P ops w Q rest (a.put (some d) undef)) : wpStill P ops w Q (o :: rest) a := by
  refine wpStill_step fun K hK => ?_
  rw [if_neg (by rw [hgd]; decide), hd]
  exact hK _ h
theorem wantH_true (W : Int) : wantH W true = W := by
  unfold wantH
  split
  · rename_i h; rw [h]; rfl
  · rfl
theorem wantH_bad (W : Int) (b : Bool) : firstE2 (wantH W b) 9 = wantH W false := by
  unfold firstE2 wantH
  by_cases h : W = 0
  · rw [if_pos h, if_pos h]; cases b <;> rfl
  · rw [if_neg h, if_neg h, if_neg h]
theorem rowH_i {w : World} {b off : Nat} {l : List Int} (hb : b < w.heap.size) (h : At w ⟨b, off, none⟩ (l.map (Value.int .u8))) : RowI .u8 w (some ⟨b, off, none⟩) l := by
  refine Or.inr ⟨b, off, rfl, hb, fun i hi => ?_⟩
  have := h i (.int .u8 (l.getD i 0)) (by rw [List.getElem?_map, List.getElem?_eq_getElem hi, getD_lt' l 0 hi]; rfl)
  rwa [Addr.add_mid] at this

set_option maxRecDepth 100000 in
theorem HoldersError_any (need : Int) (ao : Option Addr) (cap : Nat) (l : List (List Int)) (w : World) (hr : RowH w ao l) (hok : ∀ s ∈ l, IdOk s) (hn : l.length ≤ 9223372036854775807) :
    Calls Try.prog 61 #[.int .i64 need, .slice ao l.length cap] w fun e w' => e = .returned (.int .i64 (holdE need l)) ∧ Below w.heap.size w w' := by
  have HOK := hid hok
  obtain ⟨W, HW⟩ : ∃ W, Hid (W = headE need l) := ⟨_, rfl⟩
  obtain ⟨b1, H1⟩ : ∃ b, Hid (b = inB need 1 32) := ⟨_, rfl⟩
  obtain ⟨b2, H2⟩ : ∃ b, Hid (b = decide ((32 : Int) < (l.length : Int))) := ⟨_, rfl⟩
  obtain ⟨b3, H3⟩ : ∃ b, Hid (b = decide ((l.length : Int) < need)) := ⟨_, rfl⟩
  have HIN : Hid (∀ w, Calls Try.prog 16 #[.int .i64 need, .int .i64 1, .int .i64 32] w fun e w' => e = .returned (.bool b1) ∧ w = w') := fun w => by rw [H1.out]; exact In_any need 1 32 w
  have HWF : Hid (W = firstE [whenE (!b1) 4, whenE b2 5, whenE b3 18]) := by show _ = _; rw [HW.out, H1.out, H2.out, H3.out]; rfl
  have hd2 := H2.out.symm
  have hd3 := H3.out.symm
  clear hok
  go_enter Try.func61, Try.ntmps61
  go_wp2_with (first | (go_at_call 16; refine (HIN.out _).mono ?_; rintro e w1 ⟨rfl, rfl⟩) | (go_at_call 21; refine (When_any _ _ _).mono ?_; rintro e w1 ⟨rfl, rfl⟩) | (go_at_call 23; refine (First_three _ _ _ W _ _ rfl HWF).mono ?_; rintro e w1 ⟨rfl, rfl⟩))
  have hb0 : Below w.heap.size w (w.alloc (.cells #[.int .i64 (whenE (!b1) 4), .int .i64 (whenE b2 5), .int .i64 (whenE b3 18)] 27)) := (Below.refl _ _).alloc (Nat.le_refl _) _
  go_loopw [5, 24] (fun v i wr => ∃ k : Nat, k ≤ l.length ∧ i = .int .i64 k ∧ v = .int .i64 (wantH W (ordTo l k)) ∧ Below w.heap.size w wr) (fun _ i _ => l.length - (intOf i).toNat)
  case atStart => exact ⟨0, Nat.zero_le _, rfl, by rw [show ordTo l 0 = true from rfl, wantH_true], hb0⟩
  case round =>
    clear hb0
    obtain ⟨k, hk, rfl, rfl, hbl⟩ := hrel
    by_cases h0 : k < l.length
    · have hkI : (k : Int) < (l.length : Int) := by omega
      have hkI0 : (0 : Int) ≤ (k : Int) := by omega
      have HOS := hid (ordTo_succ l k)
      by_cases hk0 : k = 0
      · subst hk0
        have HOE : Hid (ordTo l (0 + 1) = ordTo l 0) := by show _ = _; rw [HOS.out]; unfold ordAt; simp
        go_wp2_with fail
        refine wp_region_still_tail 14 (by kernel_rfl) (by kernel_rfl) ?_
        simp only [List.take_succ_cons, List.take_zero, List.drop_succ_cons, List.drop_zero]
        change wpStill _ _ wr.drew (fun a' => wpList _ _ _ _ a' wr.drew) _ _
        iterate 3 still_step
        (with_reducible refine @still_skip _ _ _ _ _ _ _ 30 ?_ ?_ ?_); with_reducible rfl; kernel_rfl
        simp only [Act.put, List.setIfInBounds_toArray, List.set_cons_zero, List.set_cons_succ]
        (with_reducible refine @still_skip _ _ _ _ _ _ _ 31 ?_ ?_ ?_); with_reducible rfl; kernel_rfl
        simp only [Act.put, List.setIfInBounds_toArray, List.set_cons_zero, List.set_cons_succ]
        (with_reducible refine @still_skip _ _ _ _ _ _ _ 32 ?_ ?_ ?_); with_reducible rfl; kernel_rfl
        simp only [Act.put, List.setIfInBounds_toArray, List.set_cons_zero, List.set_cons_succ]
        (with_reducible refine @still_skip _ _ _ _ _ _ _ 33 ?_ ?_ ?_); with_reducible rfl; kernel_rfl
        simp only [Act.put, List.setIfInBounds_toArray, List.set_cons_zero, List.set_cons_succ]
        (with_reducible refine @still_skip _ _ _ _ _ _ _ 34 ?_ ?_ ?_); with_reducible rfl; kernel_rfl
        simp only [Act.put, List.setIfInBounds_toArray, List.set_cons_zero, List.set_cons_succ]
        (with_reducible refine @still_skip _ _ _ _ _ _ _ 35 ?_ ?_ ?_); with_reducible rfl; kernel_rfl
        simp only [Act.put, List.setIfInBounds_toArray, List.set_cons_zero, List.set_cons_succ]
        (with_reducible refine @still_skip _ _ _ _ _ _ _ 36 ?_ ?_ ?_); with_reducible rfl; kernel_rfl
        simp only [Act.put, List.setIfInBounds_toArray, List.set_cons_zero, List.set_cons_succ]
        (with_reducible refine @still_skip _ _ _ _ _ _ _ 37 ?_ ?_ ?_); with_reducible rfl; kernel_rfl
        simp only [Act.put, List.setIfInBounds_toArray, List.set_cons_zero, List.set_cons_succ]
        (with_reducible refine @still_skip _ _ _ _ _ _ _ 38 ?_ ?_ ?_); with_reducible rfl; kernel_rfl
        simp only [Act.put, List.setIfInBounds_toArray, List.set_cons_zero, List.set_cons_succ]
        (with_reducible refine @still_skip _ _ _ _ _ _ _ 39 ?_ ?_ ?_); with_reducible rfl; kernel_rfl
        simp only [Act.put, List.setIfInBounds_toArray, List.set_cons_zero, List.set_cons_succ]
        (with_reducible refine @still_skip _ _ _ _ _ _ _ 40 ?_ ?_ ?_); with_reducible rfl; kernel_rfl
        simp only [Act.put, List.setIfInBounds_toArray, List.set_cons_zero, List.set_cons_succ]
        refine wpStill_nil ?_
        go_wp2
        go_roundw
        case rel => exact ⟨1, by omega, by go_num, by rw [show (1 : Nat) = 0 + 1 from rfl, HOE.out], hbl.drew⟩
        case measure => simp [intOf] <;> omega
      · obtain ⟨j, hj⟩ : ∃ j, k = j + 1 := ⟨k - 1, by omega⟩
        obtain ⟨b, off, rfl, hb, hat⟩ := (hr.below hbl).at (by intro e; rw [e] at h0; simp at h0)
        have a1 := hat j (by omega)
        have a2 := hat k h0
        have o1 : IdOk (l.getD j []) := by rw [getD_lt' l [] (by omega)]; exact HOK.out _ (List.getElem_mem _)
        have o2 : IdOk (l.getD k []) := by rw [getD_lt' l [] h0]; exact HOK.out _ (List.getElem_mem _)
        obtain ⟨c, Hc⟩ : ∃ c, Hid (c = cmpL (l.getD j []) (l.getD k [])) := ⟨_, rfl⟩
        have hcall := hid (slicesCompare ⟨b, off + j * 16, none⟩ ⟨b, off + k * 16, none⟩ 16 16 16 (l.getD j []) (l.getD k []) wr.drew o1.1 o2.1 (by decide) (rowH_i (w := wr.drew) hb a1) (rowH_i (w := wr.drew) hb a2) o1.2 o2.2 c Hc.out.symm)
        have hg1 : decide (0 < k) = true := by simp; omega
        have hg11 : 0 < k := by omega
        have hwj : IntKind.i64.wrap (j : Int) = (j : Int) := IntWalk.i64_in _ (by omega)
        have hw1 : IntKind.i64.wrap ((k : Int) - 1) = (j : Int) := by rw [IntWalk.i64_in _ (by omega)]; omega
        have hjl : (j : Int) < (l.length : Int) := by omega
        have hjl0 : (0 : Int) ≤ (j : Int) := by omega
        have HOA : Hid (ordAt l k = decide (c < 0)) := by
          show _ = _
          unfold ordAt
          rw [Hc.out, show k - 1 = j by omega, show decide (k = 0) = false by simp [hk0]]
          rfl
        clear a1 a2 hat hk0
        by_cases hc : c < 0
        · have hcd : decide (0 ≤ c) = false := by simp; omega
          have HOE : Hid (ordTo l (k + 1) = ordTo l k) := by show _ = _; rw [HOS.out, HOA.out]; simp [hc]
          clear hj
          go_wp2_with fail
          refine wp_region_still_tail 14 (by kernel_rfl) (by kernel_rfl) ?_
          simp only [List.take_succ_cons, List.take_zero, List.drop_succ_cons, List.drop_zero]
          change wpStill _ _ wr.drew (fun a' => wpList _ _ _ _ a' wr.drew) _ _
          repeat still_step
          still_call hcall.out
          repeat still_step
          refine wpStill_nil ?_
          go_wp2
          go_roundw
          case rel => exact ⟨k + 1, by omega, by go_num, by rw [HOE.out], hbl.drew⟩
          case measure => simp [intOf] <;> omega
        · have hcd : decide (0 ≤ c) = true := by simp; omega
          have hcd2 : 0 ≤ c := by omega
          have HOE : Hid (ordTo l (k + 1) = false) := by show _ = _; rw [HOS.out, HOA.out]; simp [hc]
          have HWB := hid (wantH_bad W (ordTo l k))
          obtain ⟨V, HVV⟩ : ∃ V, Hid (V = wantH W (ordTo l k)) := ⟨_, rfl⟩
          rw [← HVV.out] at HWB ⊢
          clear hj
          go_wp2_with fail
          refine wp_region_still_tail 14 (by kernel_rfl) (by kernel_rfl) ?_
          simp only [List.take_succ_cons, List.take_zero, List.drop_succ_cons, List.drop_zero]
          change wpStill _ _ wr.drew (fun a' => wpList _ _ _ _ a' wr.drew) _ _
          repeat still_step
          still_call hcall.out
          repeat still_step
          refine wpStill_nil ?_
          have hb2 : Below w.heap.size w (wr.drew.alloc (.cells #[.int .i64 V, .int .i64 9] 27)) := (hbl.drew).alloc hbl.size _
          go_wp2_with (go_at_call 23; refine (First_two V 9 wr.drew _ rfl).mono ?_; rw [HWB.out]; rintro e w1 ⟨rfl, rfl⟩)
          go_roundw
          case rel => exact ⟨k + 1, by omega, by go_num, by rw [HOE.out], hb2⟩
          case measure => simp [intOf] <;> omega
    · obtain rfl : k = l.length := by omega
      have HF : Hid (wantH W (ordTo l l.length) = holdE need l) := by
        show _ = _
        unfold holdE wantH
        rw [← HW.out]
      go_wp2
      go_ret
      exact ⟨rv (ri HF.out), hbl⟩
end Go.Proofs.Ytbljihhelladbaa.shr
