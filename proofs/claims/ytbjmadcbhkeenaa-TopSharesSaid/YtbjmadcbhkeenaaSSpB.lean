/-
  Contract of share.Split: the shares of a secret. Conditions: holders of 16 octets, a secret and a seed of octets. Contract of share.Split, walked. Conditions: holders of 16 octets, a secret and a seed of octets. Contracts of keyref2.SplitOf and of slices.Index and Contains at shares. Conditions: holders of 16 octets, a secret and a seed of octets; shares of the type's form. Shares of a secret, plain: any of them that are enough give the secret and agree; picks of them are right shares. No program, no condition but the form.
-/
import Derived.Test.YtbjmadcbhkeenaaSGsK
import Derived.Test.YtbjmadcbhkeenaaSShXY
import Derived.Test.YtbjmadcbhkeenaaSShF
import Derived.Test.YtbjmadcbhkeenaaSEqA
import Derived.Test.YtbjmadcbhkeenaaSNmX
namespace Go.Proofs.Ytbjmadcbhkeenaa.shr
open Go.RowKit Go.Proofs.Ytbjmadcbhkeenaa.sh Go.Proofs.Ytbjmadcbhkeenaa.Fld Go.Proofs.Ytbjmadcbhkeenaa.cm
set_option linter.unusedSimpArgs false
set_option linter.unusedVariables false
set_option pp.maxSteps 6000
/-- the shares of holders ahead of their values; of the first k holders -/
def plc (l : List (List Int)) (i : Nat) : Sh := ⟨l.getD i [], (i : Int) + 1, List.replicate 32 0⟩
def plcAll (l : List (List Int)) : List Sh := (List.range l.length).map (plc l)
def plcTo (l : List (List Int)) (k : Nat) : List Sh := (List.range l.length).map fun i => if i < k then plc l i else sh0
theorem sh0_okB : sh0.Ok := by rw [← secTo_zero []]; exact secTo_ok [] (fun c hc => by cases hc) 0 (by omega)
theorem plc_ok {l : List (List Int)} (hl : ∀ s ∈ l, IdOk s) (hn : l.length ≤ 32) {i : Nat} (hi : i < l.length) : (plc l i).Ok := by
  have h : IdOk (l.getD i []) := by rw [getD_lt' l [] hi]; exact hl _ (List.getElem_mem hi)
  refine ⟨h.1, by simp [plc], h.2, ?_, ?_⟩
  · intro c hc
    rw [List.eq_of_mem_replicate hc]; omega
  · show -9223372036854775808 ≤ (i : Int) + 1 ∧ (i : Int) + 1 ≤ 9223372036854775807
    omega
theorem plcAll_ok {l : List (List Int)} (hl : ∀ s ∈ l, IdOk s) (hn : l.length ≤ 32) : ∀ s ∈ plcAll l, s.Ok := by
  intro s hs
  obtain ⟨i, hi, rfl⟩ := List.mem_map.1 hs
  exact plc_ok hl hn (List.mem_range.1 hi)
theorem plcTo_ok {l : List (List Int)} (hl : ∀ s ∈ l, IdOk s) (hn : l.length ≤ 32) (k : Nat) : ∀ s ∈ plcTo l k, s.Ok := by
  intro s hs
  obtain ⟨i, hi, rfl⟩ := List.mem_map.1 hs
  split
  · exact plc_ok hl hn (List.mem_range.1 hi)
  · exact sh0_okB
theorem plcAll_length (l : List (List Int)) : (plcAll l).length = l.length := by simp [plcAll]
theorem plcTo_length (l : List (List Int)) (k : Nat) : (plcTo l k).length = l.length := by simp [plcTo]
theorem plcTo_zero (l : List (List Int)) : plcTo l 0 = List.replicate l.length sh0 := by
  unfold plcTo
  apply List.ext_getElem
  · simp
  · intro i h1 h2; simp
theorem plcTo_all (l : List (List Int)) : plcTo l l.length = plcAll l := by
  unfold plcTo plcAll
  refine List.map_congr_left fun i hi => ?_
  rw [if_pos (List.mem_range.1 hi)]
theorem plcTo_set (l : List (List Int)) (k : Nat) (hk : k < l.length) : (plcTo l k).set k (plc l k) = plcTo l (k + 1) := by
  unfold plcTo
  apply List.ext_getElem
  · simp
  · intro i h1 h2
    simp only [List.length_map, List.length_range] at h2
    rw [List.getElem_set]
    by_cases e : k = i
    · subst e; simp
    · rw [if_neg e]
      simp only [List.getElem_map, List.getElem_range]
      by_cases h : i < k
      · rw [if_pos h, if_pos (by omega)]
      · rw [if_neg h, if_neg (by omega)]
theorem plc_shTo (l : List (List Int)) (i : Nat) (V : Nat → Int) : plc l i = shTo (l.getD i []) ((i : Int) + 1) V 0 := by
  unfold plc shTo
  rw [st.fillTo_zero]
theorem plc_toSh (f : Nat → List Int) (l : List (List Int)) : (plcAll l).map (toSh f 0) = plcAll l := by
  unfold plcAll
  rw [List.map_map]
  refine List.map_congr_left fun i hi => ?_
  show shTo _ _ _ 0 = _
  rw [plc_shTo l i (vals f (plc l i))]
  rfl
theorem plc_x {l : List (List Int)} (hn : l.length ≤ 32) : ∀ s ∈ plcAll l, 0 ≤ s.x ∧ s.x ≤ 256 := by
  intro s hs
  obtain ⟨i, hi, rfl⟩ := List.mem_map.1 hs
  have := List.mem_range.1 hi
  show 0 ≤ (i : Int) + 1 ∧ (i : Int) + 1 ≤ 256
  omega
/-- a whole share stored into cells of shares -/
theorem flatS_put (l : List Sh) (hl : ∀ s ∈ l, s.Ok) (i : Nat) (hi : i < l.length) (s : Sh) (hs : s.Ok) : (flatS l).take (i * 49) ++ s.cs ++ (flatS l).drop (i * 49 + 49) = flatS (l.set i s) := by
  induction l generalizing i with
  | nil => simp at hi
  | cons t l ih =>
    have htl := (hl t (List.mem_cons_self ..)).csl
    unfold flatS at *
    cases i with
    | zero =>
      rw [List.set_cons_zero, List.flatMap_cons, List.flatMap_cons, Nat.zero_mul, Nat.zero_add, List.take_zero, List.nil_append, List.drop_append, htl, List.drop_eq_nil_of_le (by omega)]
      simp
    | succ i =>
      have h := ih (fun u hu => hl u (List.mem_cons_of_mem _ hu)) i (by simpa using hi)
      rw [List.set_cons_succ, List.flatMap_cons, List.flatMap_cons, ← h]
      have e1 : (i + 1) * 49 - t.cs.length = i * 49 := by rw [htl]; omega
      have e2 : (i + 1) * 49 + 49 - t.cs.length = i * 49 + 49 := by rw [htl]; omega
      rw [List.take_append, List.drop_append, e1, e2, List.take_of_length_le (by rw [htl]; omega), List.drop_eq_nil_of_le (by rw [htl]; omega)]
      simp
theorem made_shares (n : Nat) : (madeCells (Value.agg sh0.cs.toArray).cells (n * 49)).toList = flatS (List.replicate n sh0) := by
  apply List.ext_getElem?
  intro j
  have hl : ∀ s ∈ List.replicate n sh0, s.Ok := fun s hs => by rw [List.eq_of_mem_replicate hs]; exact sh0_okB
  by_cases hj : j < n * 49
  · have e : j = j / 49 * 49 + j % 49 := by omega
    have hq : j / 49 < n := by omega
    have h2 := flatS_get (List.replicate n sh0) hl (j / 49) (j % 49) (by simpa using hq) (by omega)
    rw [← e] at h2
    rw [h2]
    have h3 : (List.replicate n sh0).getD (j / 49) nil = sh0 := by simp [List.getD_eq_getElem?_getD, hq]
    rw [h3]
    have h4 : sh0.cs.length = 49 := sh0_len
    have h5 : j % 49 < sh0.cs.toArray.size := by simp [h4]; omega
    simp [madeCells, Value.cells, hj, h4]
    rw [List.getElem?_eq_getElem (by rw [h4]; omega)]
    rfl
  · rw [List.getElem?_eq_none (by simp [madeCells]; omega), List.getElem?_eq_none (by rw [flatS_length _ hl]; simp; omega)]
theorem wl_makeSh {w : World} {ops : Array Oper} {rest : List Oper} {o : Oper} {a : Act} {Q : Exit → Act → World → Prop} (hgd : o.guard = none) (x y : Operand) (ho : o.op = .makeSlice 29 x y)
    (n : Nat) (hn : n ≤ 1099511627776) (hx : a.eval x = .int .i64 n) (hy : a.eval y = .int .i64 n) (N : Nat) (hN : w.heap.size = N)
    (h : ∀ w', BlkV 41 w' N (flatS (List.replicate n sh0)) → Below N w w' → w'.heap.size = N + 1 → wpList Try.prog ops Q rest (a.put o.dst (.slice (some ⟨N, 0, none⟩) n n)) w') : wpList Try.prog ops Q (o :: rest) a w := by
  subst hN
  obtain ⟨i, hi, hz, hs, hb⟩ := infoS.parts
  have hrun := run_make (P := Try.prog) (w := w) 29 41 i (.agg sh0.cs.toArray) Try.underlying29 hi hz .i64 .i64 (n : Int) (n : Int) (by omega) (Int.le_refl _) (by rw [hb]; omega) (by omega)
  rw [Int.toNat_natCast, hs] at hrun
  have e : madeCells (Value.agg sh0.cs.toArray).cells (n * 49) = (flatS (List.replicate n sh0)).toArray := by
    apply Array.ext'
    rw [made_shares]
  rw [e] at hrun
  refine wpList_plain hgd fun K hK' => ?_
  unfold Oper.wp
  simp [execOp, ho, hx, hy, hrun, Result.andThen]
  exact hK' _ _ (h _ (BlkV.new _ w _ rfl) ((Below.refl _ _).alloc (Nat.le_refl _) _) (by simp))
/-- a share stored whole into a block of shares -/
theorem wl_putSh {w : World} {ops : Array Oper} {rest : List Oper} {o : Oper} {a : Act} {Q : Exit → Act → World → Prop} (hgd : o.guard = none) (x y : Operand) (ho : o.op = .store 41 x y)
    (g i : Nat) (hx : a.eval x = .pointer (some ⟨g, i * 49, none⟩)) (s : Sh) (hs : s.Ok) (hy : a.eval y = .agg s.cs.toArray) (l : List Sh) (hl : ∀ s ∈ l, s.Ok) (hi : i < l.length) (hg : BlkV 41 w g (flatS l))
    (h : ∀ w', BlkV 41 w' g (flatS (l.set i s)) → w.grownBy w' (some g) → w'.heap.size = w.heap.size → wpList Try.prog ops Q rest (a.put o.dst undef) w') : wpList Try.prog ops Q (o :: rest) a w := by
  refine wl_store hgd 41 x y ho 41 g (i * 49) hx s.cs hy (by rw [hs.csl]; exact aggS.2) (flatS l) hg (by rw [flatS_length l hl, hs.csl]; omega) (cs_one s) ?_
  rw [hs.csl, flatS_put l hl i hi s hs]
  exact h _ (hg.setRow _) (grown_setRow _ _ _) (by simp)
end Go.Proofs.Ytbjmadcbhkeenaa.shr
namespace Go.Proofs.Ytbjmadcbhkeenaa.shr
open Go.RowKit Go.Proofs.Ytbjmadcbhkeenaa.sh Go.Proofs.Ytbjmadcbhkeenaa.Fld Go.Proofs.Ytbjmadcbhkeenaa.cm
set_option linter.unusedSimpArgs false
set_option linter.unusedVariables false
set_option pp.maxSteps 6000
theorem zeroID : (Try.prog.info? 28).map (·.zero) = some (some (.agg zero16.toArray)) := by kernel_rfl
def SplitBad (E : Int) (w : World) (e : Ending) (w' : World) : Prop := e = .returned (.tuple #[.slice none 0 0, .int .i64 E]) ∧ Below w.heap.size w w'
def SplitGood (f : Nat → List Int) (l : List (List Int)) (w : World) (e : Ending) (w' : World) : Prop :=
  ∃ g cap', e = .returned (.tuple #[.slice (some ⟨g, 0, none⟩) l.length cap', .int .i64 0]) ∧ w.heap.size ≤ g ∧ l.length ≤ cap' ∧ RowB 41 w' g (flatS (onAll f (plcAll l))) ∧ Below w.heap.size w w'
def SplitPost (ob : Bool) (f : Nat → List Int) (l : List (List Int)) (w : World) (e : Ending) (w' : World) : Prop := (ob = true → SplitGood f l w e w') ∧ (ob = false → SplitBad 9 w e w')
section
variable (secret seed : List Int) (need : Int) (ao : Option Addr) (cap : Nat) (l : List (List Int)) (w : World) 
end
theorem ordTo_false {l : List (List Int)} {k : Nat} (hk : k < l.length) (h : ordAt l k = false) : ordTo l l.length = false := by
  unfold ordTo
  rw [List.all_eq_false]
  exact ⟨k, by simpa using hk, by simpa using h⟩
set_option maxRecDepth 100000 in
set_option maxHeartbeats 2000000 in
theorem Split_tail (secret seed : List Int) (m : Nat) (ao : Option Addr) (cap : Nat) (l : List (List Int)) (w : World) (hr : RowH w ao l) (hok : ∀ s ∈ l, IdOk s) (hc : secret.length = 32) (hco : st.Octs secret) (hs : seed.length = 32) (hso : st.Octs seed) (hm1 : 1 ≤ m) (hml : m ≤ l.length) (hl32 : l.length ≤ 32) :
    Calls Try.prog 5 #[.agg (secret.map (Value.int .u8)).toArray, .int .i64 m, .slice ao l.length cap, .agg (seed.map (Value.int .u8)).toArray] w (SplitPost (ordTo l l.length) (polyS secret m seed) l w) := by
  have HOK := hid hok
  obtain ⟨SV, HSV⟩ : ∃ K, Hid (K = secret.map (Value.int .u8)) := ⟨_, rfl⟩
  have HSL : Hid (SV.length = 32) := by show _ = _; rw [HSV.out, List.length_map]; exact hc
  obtain ⟨KV, HKV⟩ : ∃ K, Hid (K = seed.map (Value.int .u8)) := ⟨_, rfl⟩
  have HKL : Hid (KV.length = 32) := by show _ = _; rw [HKV.out, List.length_map]; exact hs
  have HPO : Hid (∀ (o : Nat) (c : Int) (ho : o ≤ 255) (hcc : c = secret.getD o 0) (w : World), Calls Try.prog 19 #[.int .i64 c, .int .i64 m, .agg (seed.map (Value.int .u8)).toArray, .int .i64 0, .int .i64 o] w fun e w' => ∃ ao cap, e = .returned (.slice ao (polyS secret m seed o).length cap) ∧ w'.ownsRow w.heap.size 3 1 (.slice ao (polyS secret m seed o).length cap) (polyS secret m seed o).length ((polyS secret m seed o).map (Value.int .i64)) ∧ Below w.heap.size w w') := fun o c ho hcc w => by subst hcc; exact polynomial_any (secret.getD o 0) m seed 0 o w hs hso hm1 (by omega) (by decide) ho
  have HSG : Hid (∀ o, o < 32 → SV[o]? = some (.int .u8 (secret.getD o 0))) := fun o ho => by rw [HSV.out, List.getElem?_map, List.getElem?_eq_getElem (by omega), getD_lt' secret 0 (by omega)]; rfl
  rw [← HKV.out] at HPO ⊢
  rw [← HSV.out]
  obtain ⟨f, HF⟩ : ∃ f, Hid (f = polyS secret m seed) := ⟨_, rfl⟩
  rw [← HF.out] at HPO ⊢
  have HFr : Hid (∀ o, Rng (f o)) := fun o => by rw [HF.out]; exact polyS_rng hco m seed o
  have HFl : Hid (∀ o, (f o).length ≤ 32) := fun o => by rw [HF.out]; exact Nat.le_trans (polyS_len secret hm1 seed o) (by omega)
  obtain ⟨ob, HOB⟩ : ∃ b, Hid (b = ordTo l l.length) := ⟨_, rfl⟩
  rw [← HOB.out]
  have hb0 : Below w.heap.size w ((w.alloc (.cells SV.toArray 23)).alloc (.cells KV.toArray 23)) := ((Below.refl _ _).alloc (Nat.le_refl _) _).alloc (by simp) _
  have hS0 : BlkV 23 ((w.alloc (.cells SV.toArray 23)).alloc (.cells KV.toArray 23)) w.heap.size SV := (BlkV.new _ _ _ rfl).alloc _
  have hK0 : BlkV 23 ((w.alloc (.cells SV.toArray 23)).alloc (.cells KV.toArray 23)) (w.heap.size + 1) KV := BlkV.new _ _ _ (by simp)
  have hin : (!inB (m : Int) 1 32) = false := by have : inB (m : Int) 1 32 = true := by simp [inB]; omega
                                                 rw [this]; rfl
  have h2' : ¬ (32 : Int) < (l.length : Int) := by omega
  have h3' : ¬ (l.length : Int) < (m : Int) := by omega
  have hd2 : decide ((32 : Int) < (l.length : Int)) = false := by simp; omega
  have hd3 : decide (l.length < m) = false := by simp; omega
  have hd4 : ¬ l.length < m := by omega
  obtain ⟨b, off, rfl, hb, hat⟩ := hr.at (by intro e; rw [e] at hml; simp at hml; omega)
  have HAT := hid hat
  clear hok hat
  go_enter Try.func5, Try.ntmps5
  go_wp2_with (go_at_call 18; refine (outside_any _ _ _ _).mono ?_; rintro e w1 ⟨rfl, rfl⟩)
  generalize ((w.alloc (.cells SV.toArray 23)).alloc (.cells KV.toArray 23)) = w0 at *
  obtain ⟨B, HB⟩ : ∃ B, Hid (w0.heap.size = B) := ⟨_, rfl⟩
  have hwB : w.heap.size + 1 < B := by rw [← HB.out]; exact hK0.lt
  go_loopw [10] (fun i wr => ∃ k : Nat, 1 ≤ k ∧ k ≤ l.length ∧ i = .int .i64 k ∧ Hid (ordTo l k = true) ∧ Below B w0 wr) (fun i _ => l.length - (intOf i).toNat)
  case atStart => exact ⟨1, Nat.le_refl _, by omega, rfl, by show _ = _; unfold ordTo ordAt; rfl, Below.refl _ _⟩
  case round =>
    obtain ⟨k, hk1, hk, rfl, HO, hbl⟩ := hrel
    have hbw : Below w.heap.size w wr := hb0.trans (hbl.mono (by omega))
    by_cases h0 : k < l.length
    · have hkI : (k : Int) < (l.length : Int) := by omega
      have hkI0 : (0 : Int) ≤ (k : Int) := by omega
      have HOS := hid (ordTo_succ l k)
      obtain ⟨j, hj⟩ : ∃ j, k = j + 1 := ⟨k - 1, by omega⟩
      have a1 := At.below (HAT.out j (by omega)) hbw hb
      have a2 := At.below (HAT.out k h0) hbw hb
      have o1 : IdOk (l.getD j []) := by rw [getD_lt' l [] (by omega)]; exact HOK.out _ (List.getElem_mem _)
      have o2 : IdOk (l.getD k []) := by rw [getD_lt' l [] h0]; exact HOK.out _ (List.getElem_mem _)
      obtain ⟨c, Hc⟩ : ∃ c, Hid (c = cmpL (l.getD k []) (l.getD j [])) := ⟨_, rfl⟩
      have hcall := hid (bytesCompare ⟨b, off + k * 16, none⟩ ⟨b, off + j * 16, none⟩ 16 16 16 16 (l.getD k []) (l.getD j []) wr.drew o2.1 o1.1 a2 a1 o2.2 o1.2 c Hc.out.symm)
      have hw1 : IntKind.i64.wrap ((k : Int) - 1) = (j : Int) := by rw [IntWalk.i64_in _ (by omega)]; omega
      have hwj : IntKind.i64.wrap (j : Int) = (j : Int) := IntWalk.i64_in _ (by omega)
      have hjl : (j : Int) < (l.length : Int) := by omega
      have hjl0 : (0 : Int) ≤ (j : Int) := by omega
      have HOA : Hid (ordAt l k = decide (0 < c)) := by
        show _ = _
        unfold ordAt
        rw [Hc.out, show k - 1 = j by omega, show decide (k = 0) = false by simp; omega, cmpL_anti (l.getD j []) (l.getD k []), Bool.false_or]
        exact decide_eq_decide.2 (by omega)
      clear a1 a2
      by_cases hcc : c ≤ 0
      · have HOF : Hid (ob = false) := by show _ = _; rw [HOB.out]; exact ordTo_false h0 (by rw [HOA.out]; simp; omega)
        clear hj
        go_wp2_with fail
        refine wp_region_still_tail 10 (by kernel_rfl) (by kernel_rfl) ?_
        simp only [List.take_succ_cons, List.take_zero, List.drop_succ_cons, List.drop_zero]
        change wpStill _ _ wr.drew (fun a' => wpList _ _ _ _ a' wr.drew) _ _
        repeat still_step
        still_call hcall.out
        repeat still_step
        refine wpStill_nil ?_
        go_wp2
        go_ret2
        exact ⟨fun h => (by rw [HOF.out] at h; cases h), fun _ => ⟨rfl, hbw.drew⟩⟩
      · have HOT : Hid (ordTo l (k + 1) = true) := by show _ = _; rw [HOS.out, HO.out, HOA.out]; simp; omega
        have hcc' : ¬ c ≤ 0 := hcc
        clear hj
        go_wp2_with fail
        refine wp_region_still_tail 10 (by kernel_rfl) (by kernel_rfl) ?_
        simp only [List.take_succ_cons, List.take_zero, List.drop_succ_cons, List.drop_zero]
        change wpStill _ _ wr.drew (fun a' => wpList _ _ _ _ a' wr.drew) _ _
        repeat still_step
        still_call hcall.out
        repeat still_step
        refine wpStill_nil ?_
        go_wp2
        go_roundw
        case rel => exact ⟨k + 1, by omega, by omega, by go_num, HOT, hbl.drew⟩
        case measure => simp [intOf] <;> omega
    · obtain rfl : k = l.length := by omega
      have HOT : Hid (ob = true) := by show _ = _; rw [HOB.out]; exact HO.out
      have hrr := hr.below hbw
      have hSr := hS0.below hbl (by omega)
      have hKr := hK0.below hbl hwB
      obtain ⟨G, HG⟩ : ∃ G, Hid (wr.heap.size = G) := ⟨_, rfl⟩
      have hBG : B ≤ G := by rw [← HG.out]; exact Nat.le_trans (Nat.le_of_eq HB.out.symm) hbl.size
      have hbG : b < G := by rw [← HG.out]; exact Nat.lt_of_lt_of_le hb hbw.size
      have HATr := hid (fun i (hi : i < l.length) => At.below (HAT.out i hi) hbw hb)
      obtain ⟨wS, HWS⟩ : ∃ u, Hid (u = wr) := ⟨_, rfl⟩
      have hGS : wS.heap.size = G := by rw [HWS.out]; exact HG.out
      rw [← HWS.out] at hSr hKr hbw HATr
      have HPK := hid (plcTo_ok HOK.out hl32)
      clear hS0 hK0 hb0 hrr HO hbl
      go_wp2_with (first | (refine wl_makeSh rfl _ _ rfl l.length (by omega) rfl rfl G HG.out ?_; intro wM hM hbM hsM))
      have hbM' : Below G wS wM := by rw [HWS.out]; exact hbM
      rw [← plcTo_zero] at hM
      have hgM : wS.grownBy wM (some G) := grown_below (by rw [hGS]; exact hbM')
      have hMG : G < wM.heap.size := hM.lt
      go_loopw [51] (fun i wx => ∃ k : Nat, k ≤ l.length ∧ i = .int .i64 k ∧ BlkV 41 wx G (flatS (plcTo l k)) ∧ wS.grownBy wx (some G)) (fun i _ => l.length - (intOf i).toNat)
      case atStart => exact ⟨0, Nat.zero_le _, rfl, hM, hgM⟩
      case round =>
        clear hM hgM
        obtain ⟨k, hk, rfl, hG, hgr⟩ := hrel
        by_cases h1 : k < l.length
        · have hkI : (k : Int) < (l.length : Int) := by omega
          have hkI0 : (0 : Int) ≤ (k : Int) := by omega
          have hatk : At wr ⟨b, off + k * 16, none⟩ ((l.getD k []).map (Value.int .u8)) := At.belowB (HATr.out k h1) (below_of_grown (B := G) hgr (by omega) (Nat.le_refl _)) hbG
          obtain ⟨HVk, HHV⟩ : ∃ V, Hid (V = (l.getD k []).map (Value.int .u8)) := ⟨_, rfl⟩
          have hidk : IdOk (l.getD k []) := by rw [getD_lt' l [] h1]; exact HOK.out _ (List.getElem_mem _)
          have HHL : Hid (HVk.length = 16) := by show _ = _; rw [HHV.out, List.length_map]; exact hidk.1
          have hH1 : ∀ u ∈ HVk, u.oneCell' = true := by rw [HHV.out]; exact ints_one _ _
          rw [← HHV.out] at hatk
          have hwk : IntKind.i64.wrap ((k : Int) + 1) = (k : Int) + 1 := IntWalk.i64_in _ (by omega)
          obtain ⟨p, HP⟩ : ∃ p, Hid (p = plc l k) := ⟨_, rfl⟩
          have hpok : p.Ok := by rw [HP.out]; exact plc_ok HOK.out hl32 h1
          have HBT : Hid (Try.prog.built 41 [(0, .agg HVk.toArray), (1, .int .i64 ((k : Int) + 1))] = some p.cs.toArray) := by rw [HHV.out, HP.out, plc_shTo l k (fun _ => 0)]; exact built_sh hidk.1 _ _
          have HSET := hid (plcTo_set l k h1)
          rw [← HP.out] at HSET
          have hlk : k < (plcTo l k).length := by rw [plcTo_length]; exact h1
          obtain ⟨M, HM⟩ : ∃ M, Hid (wr.heap.size = M) := ⟨_, rfl⟩
          have hGM : G < M := by rw [← HM.out]; exact hG.lt
          go_wp2_with (first | (refine wl_load rfl 28 _ rfl ⟨b, off + k * 16, none⟩ rfl HVk (by rw [HHL.out]; exact aggID) hatk ?_; clear hatk) | (refine wl_allocV rfl 28 rfl zero16 zeroID M HM.out ?_; intro wA hA hbA hsA) | (refine wl_storeV rfl 28 _ _ rfl 28 M rfl HVk rfl 16 aggID HHL.out zero16 hA (by decide) hH1 ?_; intro wC hC hbC hsC; have aC := hC.at0; have hbC' := hbA.trans hbC; have hGC := hG.below hbC' hGM; clear hA hbA hbC hsA) | (refine wl_load rfl 28 _ rfl ⟨M, 0, none⟩ rfl HVk (by rw [HHL.out]; exact aggID) aC ?_; clear aC) | (refine wl_build2 rfl 41 0 1 _ _ rfl _ _ rfl rfl p.cs HBT.out ?_) | (refine wl_putSh rfl _ _ rfl G k rfl p hpok rfl (plcTo l k) (HPK.out k) hlk hGC ?_; intro wD hD hgD hsD; clear hGC))
          go_roundw
          case rel => exact ⟨k + 1, by omega, by go_num, by rw [← HSET.out]; exact hD, (hgr.trans (grown_below (by rw [HM.out]; exact hbC'))).trans hgD⟩
          case measure => simp [intOf] <;> omega
        · obtain rfl : k = l.length := by omega
          have hG0 : BlkV 41 wr G (flatS (stp f (plcAll l) 0 0)) := by rw [stp_zero, plc_toSh, ← plcTo_all]; exact hG
          have HLX : Hid (∀ s ∈ plcAll l, 0 ≤ s.x ∧ s.x ≤ 256) := plc_x hl32
          have HLO : Hid (∀ s ∈ plcAll l, s.Ok) := plcAll_ok HOK.out hl32
          have HLL : Hid ((plcAll l).length = l.length) := plcAll_length l
          obtain ⟨L, HL⟩ : ∃ L, Hid (L = plcAll l) := ⟨_, rfl⟩
          rw [← HL.out] at hG0 HLX HLO HLL
          have hS1 := hSr.grown hgr (by intro e; cases e; omega)
          have hK1 := hKr.grown hgr (by intro e; cases e; omega)
          have hbw1 : Below w.heap.size w wr := hbw.trans (below_of_grown hgr hbw.size (by omega))
          have hGw := hG.lt
          obtain ⟨wT, HWT⟩ : ∃ u, Hid (u = wr) := ⟨_, rfl⟩
          rw [← HWT.out] at hS1 hK1 hbw1 hGw
          clear hG hgr hSr hKr hbw hGS HWS
          go_wp2_with fail
          go_loopw [64] (fun i wx => ∃ o : Nat, o ≤ 32 ∧ i = .int .i64 o ∧ RowB 41 wx G (flatS (stp f L o 0)) ∧ wT.grownBy wx (some G)) (fun i _ => 32 - (intOf i).toNat)
          case atStart => exact ⟨0, by omega, rfl, ⟨_, hG0, List.take_length⟩, by rw [HWT.out]; exact World.grownBy.refl _ _⟩
          case round =>
            clear hG0
            obtain ⟨o, ho, rfl, hG, hgr⟩ := hrel
            by_cases h2 : o < 32
            · have hoI : (o : Int) < 32 := by omega
              have hoI0 : (0 : Int) ≤ (o : Int) := by omega
              obtain ⟨c, HCC⟩ : ∃ c, Hid (c = secret.getD o 0) := ⟨_, rfl⟩
              have hcb : 0 ≤ c ∧ c ≤ 255 := by rw [HCC.out]; exact hco.getD o
              have hcw : IntKind.i64.wrap c = c := IntWalk.i64_in _ (by omega)
              have cS := (hS1.grown hgr (by intro e; cases e; omega)).cell o
              rw [HSG.out o h2, ← HCC.out] at cS
              have aK : At wr.drew ⟨w.heap.size + 1, 0, none⟩ KV := (hK1.grown hgr (by intro e; cases e; omega)).at0
              have HP1 := hid (HPO.out o c (by omega) HCC.out wr.drew)
              go_wp2_with fail
              refine wp_region_still_tail 7 (by kernel_rfl) (by kernel_rfl) ?_
              simp only [List.take_succ_cons, List.take_zero, List.drop_succ_cons, List.drop_zero]
              change wpStill _ _ wr.drew (fun a' => wpList _ _ _ _ a' wr.drew) _ _
              iterate 5 still_step
              refine still_load (by kernel_rfl) 23 _ rfl ⟨w.heap.size + 1, 0, none⟩ rfl 32 KV HKL.out aggKey aK ?_
              still_step
              refine wpStill_nil ?_
              go_wp2_with (go_at_call 19; refine HP1.out.mono ?_; rintro e w5 ⟨pa, pc, rfl, hpo, hb5⟩)
              have hG5 : RowB 41 w5 G (flatS (stp f L o 0)) := RowB.below (w := wr.drew) hG.drew hb5 hG.lt
              have hgr5 : wT.grownBy w5 (some G) := hgr.trans ((grown_drew (World.grownBy.refl wr _)).trans (grown_below hb5))
              obtain ⟨R, HR⟩ : ∃ R, Hid (wr.heap.size = R) := ⟨_, rfl⟩
              have hgR : G < R := by rw [← HR.out]; exact hG.lt
              have hpo' : w5.ownsRow R 3 1 (.slice pa (f o).length pc) (f o).length ((f o).map (Value.int .i64)) := by rw [← HR.out]; exact hpo
              clear HP1 hb5 hG hgr hpo aK cS
              go_loopw [77] (fun i wx => ∃ j : Nat, j ≤ l.length ∧ i = .int .i64 j ∧ RowB 41 wx G (flatS (stp f L o j)) ∧ w5.grownBy wx (some G)) (fun i _ => l.length - (intOf i).toNat)
              case atStart => exact ⟨0, Nat.zero_le _, rfl, hG5, World.grownBy.refl _ _⟩
              case round =>
                clear hG5
                obtain ⟨j, hj, rfl, hG, hgx⟩ := hrel
                by_cases h3' : j < l.length
                · have h3 : j < L.length := by rw [HLL.out]; exact h3'
                  have hjI : (j : Int) < (l.length : Int) := by omega
                  have hjI0 : (0 : Int) ≤ (j : Int) := by omega
                  obtain ⟨x, Hx⟩ : ∃ x, Hid (x = (L.getD j nil).x) := ⟨_, rfl⟩
                  obtain ⟨v, Hv⟩ : ∃ v, Hid (v = vals f (L.getD j nil) o) := ⟨_, rfl⟩
                  have hsx : 0 ≤ x ∧ x ≤ 256 := by rw [Hx.out]; exact HLX.out _ (getD_mem L j h3)
                  have hvv : ev (f o) x % 257 = v := by rw [Hv.out, Hx.out]; rfl
                  have hvb := ev_bd (f o) x
                  rw [hvv] at hvb
                  have hvw : IntKind.u16.wrap v = v := IntWalk.u16_in _ (by omega)
                  have cX := hG.cell (stp_x f HLO.out h2 h3)
                  rw [← Hx.out] at cX
                  obtain ⟨cc, hcc⟩ := stp_y f HLO.out h2 h3
                  have cY := hG.cell hcc
                  have fY := hG.frozen (j * 49 + (17 + o))
                  rw [← Nat.add_assoc] at cY fY
                  have hcall := hid (value_q pa pc (f o) x wr.drew rfl (row_of_owns (owns_set hpo' hgx hgR)).drew (HFr.out o) hsx (by have := HFl.out o; omega) v hvv)
                  clear hvv hcc
                  go_wp2_with fail
                  refine wp_region_still_tail 14 (by kernel_rfl) (by kernel_rfl) ?_
                  simp only [List.take_succ_cons, List.take_zero, List.drop_succ_cons, List.drop_zero]
                  change wpStill _ _ wr.drew (fun a' => wpList _ _ _ _ a' wr.drew) _ _
                  repeat still_step
                  still_call hcall.out
                  repeat still_step
                  refine wpStill_nil ?_
                  go_wp2
                  go_roundw
                  case rel => exact ⟨j + 1, by omega, by go_num, by rw [← stp_flat f HLO.out h2 h3, ← Hv.out, ← Nat.add_assoc]; exact hG.drew.set _ _, grown_set (grown_drew hgx) _ _⟩
                  case measure => simp [intOf] <;> omega
                · obtain rfl : j = l.length := by omega
                  rw [← HLL.out, stp_all] at hG
                  go_wp2
                  go_roundw
                  case rel => exact ⟨o + 1, by omega, by go_num, hG, hgr5.trans hgx⟩
                  case measure => simp [intOf] <;> omega
            · obtain rfl : o = 32 := by omega
              rw [stp_zero, stp_end, HL.out] at hG
              go_wp2
              go_ret2
              have hBl := below_of_grown (B := w.heap.size) hgr hbw1.size (by omega)
              exact ⟨fun _ => ⟨G, l.length, rfl, by omega, Nat.le_refl _, hG, hbw1.trans hBl⟩, fun h => (by rw [HOT.out] at h; cases h)⟩
end Go.Proofs.Ytbjmadcbhkeenaa.shr
namespace Go.Proofs.Ytbjmadcbhkeenaa.shr
open Go.RowKit Go.Proofs.Ytbjmadcbhkeenaa.sh Go.Proofs.Ytbjmadcbhkeenaa.Fld Go.Proofs.Ytbjmadcbhkeenaa.cm
set_option linter.unusedSimpArgs false
set_option linter.unusedVariables false
set_option pp.maxSteps 6000
theorem wl_eqE {P : Program} {w : World} {ops : Array Oper} {rest : List Oper} {o : Oper} {a : Act} {Q : Exit → Act → World → Prop} (d : Nat) (hd : o.dst = some d) (hgd : Region.wanted o (yielded ops a.tmps) = true) (ty ty2 : TypeId) (x y : Operand) (ho : o.op = .binOp .eql ty x y ty2)
    (A B : Array Value) (hx : a.eval x = .agg A) (hy : a.eval y = .agg B) (b : Bool) (he : (Op.equalIn 10000 ty (.agg A) (.agg B)).run P w = .ok b w) (hm : P.eqGuardType P.depth ty = false) (h : wpList P ops Q rest (a.put o.dst (.bool b)) w) : wpList P ops Q (o :: rest) a w := by
  refine wpList_step fun K hK' => ?_
  rw [if_pos hgd]
  unfold Oper.wp
  simp [execOp, ho, hx, hy, run_eqGuard_agg, run_eql_struct, hm, he, Result.andThen]
  exact hK' _ _ h
end Go.Proofs.Ytbjmadcbhkeenaa.shr
namespace Go.Proofs.Ytbjmadcbhkeenaa.shr
open Go.RowKit Go.Proofs.Ytbjmadcbhkeenaa.sh Go.Proofs.Ytbjmadcbhkeenaa.Fld Go.Proofs.Ytbjmadcbhkeenaa.cm
set_option linter.unusedSimpArgs false
set_option linter.unusedVariables false
set_option pp.maxSteps 6000
theorem each_of (l : List Sh) (h : ∀ k, k < l.length → faultIn (l.take k) (l.getD k nil) = 0) : eachE l = 0 := by
  have : ∀ k, k ≤ l.length → eachTo l k = 0 := by
    intro k
    induction k with
    | zero => intro _; rfl
    | succ k ih => intro hk; exact eachTo_step l k (ih (by omega)) (h k (by omega))
  exact this l.length (Nat.le_refl _)
/-- the share of number i, and picks by their numbers -/
def shI (f : Nat → List Int) (l : List (List Int)) (i : Nat) : Sh := onSh f (plc l i)
theorem shI_x (f : Nat → List Int) (l : List (List Int)) (i : Nat) : (shI f l i).x = (i : Int) + 1 := rfl
theorem shI_h (f : Nat → List Int) (l : List (List Int)) (i : Nat) : (shI f l i).h = l.getD i [] := rfl
theorem shI_y (f : Nat → List Int) (l : List (List Int)) (i o : Nat) (ho : o < 32) : (shI f l i).y.getD o 0 = ev (f o) ((i : Int) + 1) % 257 := shTo_y _ _ _ o ho
theorem shI_get (f : Nat → List Int) (l : List (List Int)) {i : Nat} (hi : i < l.length) : (onAll f (plcAll l)).getD i nil = shI f l i := by simp [onAll, plcAll, shI, List.getD_eq_getElem?_getD, hi]
theorem ev_at0 (c : Int) (p : List Int) : ev (c :: p) 0 = c := by unfold ev; simp
end Go.Proofs.Ytbjmadcbhkeenaa.shr
