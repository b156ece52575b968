/-
  Contract of share.Fit. Conditions: shares of the type's form; a secret of octets. Contract of keyref2.polynomials; shares with given values. Conditions: a secret and a seed of octets, a need from 1 to 32.
-/
import Derived.Test.YtbjmadcbhkeenaaSNmX
import Derived.Test.YtbjmadcbhkeenaaSShM
import Derived.Test.YtbjmadcbhkeenaaSMem
import Derived.Maps.RangeWalk
namespace Go.Proofs.Ytbjmadcbhkeenaa.shr
set_option linter.unusedVariables false
open Go.RowKit Go.Proofs.Ytbjmadcbhkeenaa.sh Go.Proofs.Ytbjmadcbhkeenaa.Fld
set_option linter.unusedSimpArgs false
set_option pp.maxSteps 6000
set_option maxRecDepth 100000 in
theorem fit1 (ps : List Value) (l : List Sh) (s : Sh) (g : Nat) (w : World) (hG : BlkV 60 w g ps) (hP : PolysAt w l ps) (hg : Good l) (hn : l.length ≤ 64) (hs : s.Ok) (hx : 0 ≤ s.x ∧ s.x ≤ 256) :
    Calls Try.prog 24 #[.agg s.cs.toArray, .pointer (some ⟨g, 0, none⟩)] w fun e w' => e = .returned (.bool (!liesB l s)) ∧ Below w.heap.size w w' := by
  have hPL := hid hP.len
  have HSL : Hid (s.cs.length = 49) := hs.csl
  have hS0 : BlkV 41 (w.alloc (.cells s.cs.toArray 41)) w.heap.size s.cs := BlkV.new _ _ _ (by simp)
  have hb0 : Below w.heap.size w (w.alloc (.cells s.cs.toArray 41)) := (Below.refl _ _).alloc (Nat.le_refl _) _
  have hG0 := hG.alloc (.cells s.cs.toArray 41)
  have hP0 := hP.below hb0
  have HL := hid (lies_any ps l s _ hP0 hg hn hs hx)
  generalize s.cs = S at *
  go_enter Try.func24, Try.ntmps24
  go_wp2_with (first | (refine wl_loadG (by rfl) 60 _ rfl ⟨g, 0, none⟩ rfl 32 ps hPL.out aggP hG0.at0 ?_) | (refine wl_loadG (by rfl) 41 _ rfl ⟨w.heap.size, 0, none⟩ rfl 49 S HSL.out aggS hS0.at0 ?_) | (go_at_call 25; refine HL.out.mono ?_; rintro e w1 ⟨rfl, hb1⟩))
  go_ret
  exact ⟨rfl, hb0.trans (hb1.mono hb0.size)⟩
set_option maxRecDepth 100000 in
theorem idxFit (caps : Array Value) (p : Sh → Bool) (ao : Option Addr) (cap n : Nat) (l : List Sh) (w : World) (hl : n = l.length) (hr : RowS w ao l) (hn : l.length ≤ 4611686018427387904) (hok : ∀ s ∈ l, s.Ok)
    (hf : ∀ i, i < l.length → ∀ w', Below w.heap.size w w' → Calls Try.prog 24 (#[.agg (l.getD i nil).cs.toArray] ++ caps) w' fun e w'' => e = .returned (.bool (p (l.getD i nil))) ∧ Below w'.heap.size w' w'') :
    Calls Try.prog 38 #[.slice ao n cap, .func (.func 24) #[] caps] w fun e w' => e = .returned (.int .i64 (slInt.findI p l 0)) ∧ Below w.heap.size w w' := by
  subst hl
  have HOK := hid hok
  clear hok
  go_enter Try.func38, Try.ntmps38
  go_wp2
  go_loopw [5, 8] (fun _ i wr => ∃ k : Nat, k ≤ l.length ∧ i = .int .i64 k ∧ Hid (slInt.findI p (l.drop k) k = slInt.findI p l 0) ∧ Below w.heap.size w wr) (fun _ i _ => l.length - (intOf i).toNat)
  case atStart => exact ⟨0, Nat.zero_le _, rfl, rfl, Below.refl _ _⟩
  case round =>
    obtain ⟨k, hk, rfl, HA, hbl⟩ := hrel
    by_cases h0 : k < l.length
    · obtain ⟨b, off, s, rfl, hb, HS, hat0⟩ := hr.elem (i := k) h0
      have hs : s.Ok := by rw [HS.out, getD_lt' l nil h0]; exact HOK.out _ (List.getElem_mem h0)
      have hat := At.belowB hat0 hbl hb
      have HCL := hid hs.csl
      have HD := slInt.findI_drop p l nil k h0
      rw [← HS.out, HA.out] at HD
      replace HD := hid HD
      have HF := hf k h0 _ hbl
      rw [← HS.out] at HF
      replace HF := hid HF
      clear hf hat0
      cases hc : p s
      · have HN := hid hc
        rw [hc] at HF
        clear hc
        go_wp2_with (first | (refine wl_loadG (by rfl) 41 _ rfl ⟨b, off + k * 49, none⟩ rfl 49 s.cs HCL.out aggS hat ?_) | (go_at_call 24; refine HF.out.mono ?_; rintro e w1 ⟨rfl, hb1⟩))
        go_roundw
        case rel => exact ⟨k + 1, by omega, by go_num, by show _ = _; rw [HD.out, if_neg (by rw [HN.out]; simp)], hbl.trans (hb1.mono hbl.size)⟩
        case measure => simp [intOf] <;> omega
      · have HN := hid hc
        rw [hc] at HF
        clear hc
        go_wp2_with (first | (refine wl_loadG (by rfl) 41 _ rfl ⟨b, off + k * 49, none⟩ rfl 49 s.cs HCL.out aggS hat ?_) | (go_at_call 24; refine HF.out.mono ?_; rintro e w1 ⟨rfl, hb1⟩))
        go_ret
        exact ⟨rv (ri (by rw [HD.out, if_pos HN.out])), hbl.trans (hb1.mono hbl.size)⟩
    · go_wp2
      go_ret
      exact ⟨rv (ri (by rw [← HA.out, List.drop_eq_nil_of_le (by omega)]; rfl)), hbl⟩
set_option maxRecDepth 100000 in
theorem conFit (caps : Array Value) (p : Sh → Bool) (ao : Option Addr) (cap n : Nat) (l : List Sh) (w : World) (hl : n = l.length) (hr : RowS w ao l) (hn : l.length ≤ 4611686018427387904) (hok : ∀ s ∈ l, s.Ok)
    (hf : ∀ i, i < l.length → ∀ w', Below w.heap.size w w' → Calls Try.prog 24 (#[.agg (l.getD i nil).cs.toArray] ++ caps) w' fun e w'' => e = .returned (.bool (p (l.getD i nil))) ∧ Below w'.heap.size w' w'') :
    Calls Try.prog 23 #[.slice ao n cap, .func (.func 24) #[] caps] w fun e w' => e = .returned (.bool (l.any p)) ∧ Below w.heap.size w w' := by
  subst hl
  have HF := hid (slInt.findI_any p l 0)
  have HI := hid (idxFit caps p ao cap l.length l w rfl hr hn hok hf)
  clear hf hok
  go_enter Try.func23, Try.ntmps23
  go_wp2_with (go_at_call 38; refine HI.out.mono ?_; rintro e w1 ⟨rfl, hb1⟩)
  go_ret
  exact ⟨rv (rb HF.out), hb1⟩
theorem infoS : Info Try.prog 41 (.agg sh0.cs.toArray) 49 88 := by unfold Info; kernel_rfl
theorem builtS : (Try.prog.built 41 []) = some sh0.cs.toArray := by kernel_rfl
/-- the share of a secret, as far as it is written -/
def secTo (s : List Int) (k : Nat) : Sh := ⟨List.replicate 16 0, 0, st.fillTo (fun o => s.getD o 0) 32 k⟩
theorem secTo_zero (s : List Int) : secTo s 0 = sh0 := by unfold secTo sh0; rw [st.fillTo_zero]
theorem secTo_all (s : List Int) (h : s.length = 32) : secTo s 32 = sec s := by
  unfold secTo sec
  rw [st.fillTo_all]
  congr 1
  apply List.ext_getElem
  · simp [h]
  · intro i h1 h2
    simp [List.getD_eq_getElem?_getD, h2]
theorem secTo_ok (s : List Int) (hs : ∀ c ∈ s, 0 ≤ c ∧ c ≤ 255) (k : Nat) (hk : k ≤ 32) : (secTo s k).Ok := by
  refine ⟨by simp [secTo], by unfold secTo; exact st.fillTo_length _ _ _ hk, ?_, ?_, by simp [secTo]⟩
  · intro c hc
    rw [List.eq_of_mem_replicate hc]; omega
  · intro c hc
    unfold secTo st.fillTo at hc
    simp only [List.mem_append, List.mem_map] at hc
    rcases hc with ⟨o, _, rfl⟩ | hc
    · by_cases ho : o < s.length
      · rw [getD_lt' s 0 ho]
        have := hs _ (List.getElem_mem ho)
        omega
      · rw [List.getD_eq_getElem?_getD, List.getElem?_eq_none (by omega)]; decide
    · rw [List.eq_of_mem_replicate hc]; omega
theorem sec_ok (s : List Int) (hs : ∀ c ∈ s, 0 ≤ c ∧ c ≤ 255) (h : s.length = 32) : (sec s).Ok := by rw [← secTo_all s h]; exact secTo_ok s hs 32 (by omega)
theorem secTo_set (s : List Int) (k : Nat) (hk : k < 32) : (secTo s k).cs.set (17 + k) (.int .u16 (s.getD k 0)) = (secTo s (k + 1)).cs := by
  unfold secTo Sh.cs
  simp only []
  rw [← st.fillTo_set _ _ _ hk, List.set_append_right _ _ (by simp; omega)]
  congr 1
  have e : 17 + k - ((List.replicate 16 (0 : Int)).map (Value.int .u8)).length = k + 1 := by simp; omega
  rw [e, List.set_cons_succ, List.map_set]
/-- shares, cell by cell -/
def flatS (l : List Sh) : List Value := l.flatMap (·.cs)
theorem flatS_length (l : List Sh) (hl : ∀ s ∈ l, s.Ok) : (flatS l).length = l.length * 49 := by
  induction l with
  | nil => rfl
  | cons s l ih =>
    unfold flatS at *
    rw [List.flatMap_cons, List.length_append, ih (fun t ht => hl t (List.mem_cons_of_mem _ ht)), (hl s (List.mem_cons_self ..)).csl, List.length_cons]
    omega
theorem flatS_one (l : List Sh) : ∀ u ∈ flatS l, u.oneCell' = true := by
  intro u hu
  unfold flatS at hu
  obtain ⟨s, _, h⟩ := List.mem_flatMap.1 hu
  exact cs_one s u h
theorem flatS_get (l : List Sh) (hl : ∀ s ∈ l, s.Ok) (i j : Nat) (hi : i < l.length) (hj : j < 49) : (flatS l)[i * 49 + j]? = (l.getD i nil).cs[j]? := by
  induction l generalizing i with
  | nil => simp at hi
  | cons s l ih =>
    have hs := (hl s (List.mem_cons_self ..)).csl
    unfold flatS at *
    rw [List.flatMap_cons]
    cases i with
    | zero =>
      rw [List.getElem?_append_left (by rw [hs]; omega)]
      simp
    | succ i =>
      rw [List.getElem?_append_right (by rw [hs]; omega), hs, show (i + 1) * 49 + j - 49 = i * 49 + j by omega, ih (fun t ht => hl t (List.mem_cons_of_mem _ ht)) i (by simpa using hi)]
      simp
theorem RowS.flat {w : World} {ao : Option Addr} {l : List Sh} (h : RowS w ao l) (hl : ∀ s ∈ l, s.Ok) : RowV w ao (flatS l) := by
  rcases h with h | ⟨b, off, h1, h2, h3⟩
  · exact Or.inl (by rw [h]; rfl)
  · refine Or.inr ⟨b, off, h1, h2, fun j u hu => ?_⟩
    have hj := (List.getElem?_eq_some_iff.1 hu).1
    rw [flatS_length l hl] at hj
    have hi : j / 49 < l.length := by omega
    have e : j = j / 49 * 49 + j % 49 := by omega
    rw [e, flatS_get l hl _ _ hi (by omega)] at hu
    have := h3 (j / 49) hi (j % 49) u hu
    rw [Addr.add_mid] at this
    rw [e, ← Nat.add_assoc]
    exact this
theorem RowS.of_flat {w : World} {ao : Option Addr} {l : List Sh} (h : RowV w ao (flatS l)) (hl : ∀ s ∈ l, s.Ok) : RowS w ao l := by
  by_cases h0 : l = []
  · exact Or.inl h0
  · rcases h with h | ⟨b, off, h1, h2, h3⟩
    · have := flatS_length l hl
      rw [h] at this
      have : l.length = 0 := by simp at this; omega
      exact Or.inl (List.eq_nil_of_length_eq_zero this)
    · refine Or.inr ⟨b, off, h1, h2, fun i hi j u hu => ?_⟩
      have hok := hl _ (getD_mem l i hi)
      have hj : j < 49 := by rw [← hok.csl]; exact (List.getElem?_eq_some_iff.1 hu).1
      rw [Addr.add_mid, Nat.add_assoc]
      exact h3 (i * 49 + j) u (by rw [flatS_get l hl i j hi hj]; exact hu)
/-- what Fit answers -/
def fitR (need : Int) (l : List Sh) (s : List Int) : Bool := if sharesE true need l = 0 then agreeB (sec s :: l) need.toNat else false
theorem sharesT_ok {need : Int} {l : List Sh} (h : sharesE true need l = 0) : ∃ m : Nat, need = (m : Int) ∧ 1 ≤ m ∧ m ≤ 32 ∧ l.length ≤ 32 ∧ eachE l = 0 := by
  unfold sharesE at h
  split at h
  · cases h
  · rename_i h1
    split at h
    · cases h
    · split at h
      · cases h
      · rename_i h3
        simp only [inB, Bool.not_eq_false, Bool.and_eq_true, decide_eq_true_eq] at h1
        exact ⟨need.toNat, by omega, by omega, by omega, by omega, h⟩
theorem agree_few (l : List Sh) (n : Nat) (h : l.length ≤ n) : agreeB l n = true := by
  unfold agreeB
  rw [List.drop_eq_nil_of_le h]; rfl
/-- append of shares to an own row of shares -/
theorem wl_appendSh {w : World} {ops : Array Oper} {rest : List Oper} {o : Oper} {a : Act} {Q : Exit → Act → World → Prop} (hgd : o.guard = none) (x1 x2 : Operand)
    (ho : o.op = .call { callee := .builtin .append, args := #[x1, x2], argTypes := #[29, 29] }) (base : Nat) (v : Value) (k : Nat) (olds : List Sh) (hs : a.eval x1 = v) (hown : Mine w base 41 49 v k (flatS olds))
    (ao : Option Addr) (m c : Nat) (hx : a.eval x2 = .slice ao m c) (hno : ao = none → c = 0) (news : List Sh) (hm : m = news.length) (hrow : RowS w ao news) (hok : ∀ s ∈ news, s.Ok) (hoko : ∀ s ∈ olds, s.Ok)
    (b1 : k + m ≤ 1099511627776) (hbase : base ≤ w.heap.size) (N : Nat) (hN : N = k + m)
    (hK : ∀ ao' cap' w' row, N ≤ cap' → Mine w' base 41 49 (.slice ao' N cap') N (flatS (olds ++ news)) → RowS w' ao' (olds ++ news) → w.grownBy w' row → (∀ k, row = some k → base ≤ k ∧ v.ownBlock = some k) → wpList Try.prog ops Q rest (a.put o.dst (.slice ao' N cap')) w') : wpList Try.prog ops Q (o :: rest) a w := by
  have hfl : flatS (olds ++ news) = flatS olds ++ flatS news := by unfold flatS; rw [List.flatMap_append]
  refine wl_appendS hgd x1 x2 29 ho 41 (.agg sh0.cs.toArray) 49 88 Try.underlying29 infoS rfl (by decide) base v k (flatS olds) hs hown ao m c hx hno (flatS news) (by rw [flatS_length news hok, hm]) (hrow.flat hok) (flatS_one news) (by unfold maxLen; omega) (by omega) hbase N hN fun ao' cap' w' row h1 h2 h3 h4 h5 => ?_
  refine hK ao' cap' w' row h1 (by rw [hfl]; exact h2) (RowS.of_flat (by rw [hfl]; exact h3) fun s hs => ?_) h4 h5
  rcases List.mem_append.1 hs with h | h
  · exact hoko s h
  · exact hok s h
theorem size8 : (Try.prog.info? 5).map (·.size) = some 1 := by kernel_rfl
set_option maxRecDepth 100000 in
set_option maxHeartbeats 1000000 in
theorem Fit_x (need : Int) (ao : Option Addr) (cap : Nat) (l : List Sh) (s : List Int) (w : World) (hr : RowS w ao l) (hok : ∀ s ∈ l, s.Ok) (hn : l.length ≤ 9223372036854775807) (hcap : l.length ≤ cap) (hno : ao = none → cap = 0) (hsl : s.length = 32) (hso : ∀ c ∈ s, 0 ≤ c ∧ c ≤ 255) :
    Calls Try.prog 6 #[.int .i64 need, .slice ao l.length cap, .agg (s.map (Value.int .u8)).toArray] w fun e w' => e = .returned (.tuple #[.bool (fitR need l s), .int .i64 (sharesE true need l)]) ∧ Below w.heap.size w w' := by
  have hmf : ∀ (fn : Fn) (first cap : Array Value) (w : World), (Instr.makeFunc fn first cap).run Try.prog w = .ok (.func fn first cap) w := fun _ _ _ _ => rfl
  have HOK := hid hok
  clear hok
  obtain ⟨KV, HKV⟩ : ∃ K, Hid (K = s.map (Value.int .u8)) := ⟨_, rfl⟩
  have HKL : Hid (KV.length = 32) := by show _ = _; rw [HKV.out, List.length_map]; exact hsl
  rw [← HKV.out]
  have hb0 : Below w.heap.size w (w.alloc (.cells KV.toArray 23)) := (Below.refl _ _).alloc (Nat.le_refl _) _
  have hK0 : BlkV 23 (w.alloc (.cells KV.toArray 23)) w.heap.size KV := BlkV.new _ _ _ rfl
  have hr0 := hr.below hb0
  by_cases hin : inB need 1 32 = false
  · have h' : (!inB need 1 32) = true := by rw [hin]; rfl
    have HR : Hid (fitR need l s = false ∧ sharesE true need l = 4) := by
      have e : sharesE true need l = 4 := by unfold sharesE; rw [if_pos hin]
      exact ⟨by unfold fitR; rw [e]; rfl, e⟩
    clear hin
    go_enter Try.func6, Try.ntmps6
    go_wp2_with (first | (go_at_call 18; refine (outside_any _ _ _ _).mono ?_; rintro e w1 ⟨rfl, rfl⟩))
    go_ret2
    exact ⟨rv (rt2 (rb HR.out.1.symm) (ri HR.out.2.symm)), hb0⟩
  · have hin1 : inB need 1 32 = true := by simpa using hin
    have h' : (!inB need 1 32) = false := by rw [hin1]; rfl
    by_cases hlen : 32 < l.length
    · have HR : Hid (fitR need l s = false ∧ sharesE true need l = 5) := by
        have e : sharesE true need l = 5 := by unfold sharesE; rw [if_neg hin, if_neg (by simp), if_pos hlen]
        exact ⟨by unfold fitR; rw [e]; rfl, e⟩
      have hlI : (32 : Int) < (l.length : Int) := by omega
      clear hin hin1
      go_enter Try.func6, Try.ntmps6
      go_wp2_with (first | (go_at_call 18; refine (outside_any _ _ _ _).mono ?_; rintro e w1 ⟨rfl, rfl⟩))
      go_ret2
      exact ⟨rv (rt2 (rb HR.out.1.symm) (ri HR.out.2.symm)), hb0⟩
    · have hE0 : sharesE true need l = eachE l := by unfold sharesE; rw [if_neg hin, if_neg (by simp), if_neg hlen]
      obtain ⟨E, HE⟩ : ∃ E, Hid (E = eachE l) := ⟨_, rfl⟩
      have hlI : (l.length : Int) ≤ 32 := by omega
      have HC := hid (eachFault_any ao cap l _ hr0 HOK.out (by omega))
      rw [← HE.out] at HC
      by_cases h : E = 0
      · obtain ⟨m, rfl, hm1, hm32, _, hea⟩ := sharesT_ok (by rw [hE0, ← HE.out]; exact h)
        have HR : Hid (fitR m l s = agreeB (sec s :: l) m ∧ sharesE true m l = 0) := by
          have e : sharesE true m l = 0 := by rw [hE0, ← HE.out, h]
          exact ⟨by unfold fitR; rw [e, if_pos rfl, Int.toNat_natCast], e⟩
        have hEb : (E != 0) = false := by simp [h]
        have hg := good_sec s hso l HOK.out hea
        have HEA := hid hea
        clear h hea hin hin1 hE0
        obtain ⟨Z, HZ⟩ : ∃ Z, Hid (Z = noSlices) := ⟨_, rfl⟩
        have HZ0 := hid zeroP
        rw [← HZ.out] at HZ0
        have HZL : Hid (Z.length = 32) := by rw [HZ.out]; rfl
        obtain ⟨S0, HS0⟩ : ∃ S, Hid (S = sh0.cs) := ⟨_, rfl⟩
        have HBS : Hid ((Try.prog.built 41 []) = some S0.toArray) := by rw [HS0.out]; exact builtS
        have HSL : Hid (S0.length = 49) := by rw [HS0.out]; exact sh0_len
        go_enter Try.func6, Try.ntmps6
        go_wp2_with (first | (go_at_call 18; refine (outside_any _ _ _ _).mono ?_; rintro e w1 ⟨rfl, rfl⟩) | (go_at_call 21; refine HC.out.mono ?_; rintro e w1 ⟨rfl, hb1⟩) | (refine wl_build0 rfl 41 rfl S0 HBS.out ?_) | (refine wl_slice1 rfl 29 41 _ rfl Try.underlying29 49 sh0.cs (by kernel_rfl) sh0_len (by decide) (by decide) S0 rfl HSL.out w1.heap.size rfl ?_; intro wG hG hbG hsG; have hbw0 := hb0.trans ((hb1.trans (hbG.mono hb1.size)).mono hb0.size); have hKG := (hK0.below hb1 hK0.lt).below hbG (Nat.lt_of_lt_of_le hK0.lt hb1.size)) | (refine wl_loadG (by rfl) 23 _ rfl ⟨w.heap.size, 0, none⟩ rfl 32 KV HKL.out aggKey hKG.at0 ?_))
        rw [HS0.out] at hG
        obtain ⟨G, HG⟩ : ∃ G, Hid (w1.heap.size = G) := ⟨_, rfl⟩
        rw [HG.out] at hG hsG ⊢
        have hwG : w.heap.size < G := by have := hK0.lt; have := hb1.size; rw [← HG.out]; omega
        have hrG := hr.below hbw0
        go_loopw [26] (fun i wr => ∃ k : Nat, k ≤ 32 ∧ i = .int .i64 k ∧ BlkV 41 wr G (secTo s k).cs ∧ Below w.heap.size w wr) (fun i _ => 32 - (intOf i).toNat)
        case atStart => exact ⟨0, by omega, rfl, by rw [secTo_zero]; exact hG, hbw0⟩
        case round =>
          obtain ⟨k, hk, rfl, hC, hbl⟩ := hrel
          clear hG
          by_cases h0 : k < 32
          · obtain ⟨c, HCC⟩ : ∃ c, Hid (c = s.getD k 0) := ⟨_, rfl⟩
            have hKm : KV[k]? = some (.int .u8 c) := by rw [HKV.out, HCC.out, List.getElem?_map, List.getElem?_eq_getElem (by omega), getD_lt' s 0 (by omega)]; rfl
            have hIX := fun w => st.run_index1 (P := Try.prog) w 23 5 32 Try.underlying23 .u8 Try.underlying5 size8 KV k h0 _ hKm
            have hcb : 0 ≤ c ∧ c ≤ 255 := by rw [HCC.out, getD_lt' s 0 (by omega)]; exact hso _ (List.getElem_mem _)
            have hcw : IntKind.u16.wrap c = c := IntWalk.u16_in _ (by omega)
            have hkI : (k : Int) < 32 := by omega
            have hkI0 : (0 : Int) ≤ (k : Int) := by omega
            have hcell := hC.cell (17 + k)
            rw [cs_yi _ (secTo_ok s hso k hk) k h0] at hcell
            have hfz := hC.frozen (17 + k)
            clear hKm
            go_wp2
            go_roundw
            case rel => exact ⟨k + 1, by omega, by go_num, by rw [← secTo_set s k h0, ← HCC.out]; exact hC.set (17 + k) _, hbl.setCell (by simp; omega) _⟩
            case measure => simp [intOf] <;> omega
          · obtain rfl : k = 32 := by omega
            rw [secTo_all s hsl] at hC
            have hok1 := sec_ok s hso hsl
            have hrL := hr.below hbl
            have hown : wr.ownsRow G 41 49 (.slice (some ⟨G, 0, none⟩) 1 1) 1 (flatS [sec s]) := by rw [show flatS [sec s] = (sec s).cs by simp [flatS]]; exact ownsRow_blk hC (Nat.le_refl _) hok1.csl
            have hGlt := hC.lt
            have hlen32 : l.length ≤ 32 := by omega
            obtain ⟨L, HL⟩ : ∃ L, Hid (L = 1 + l.length) := ⟨_, rfl⟩
            have hLl := HL.out
            have hokA : ∀ t ∈ sec s :: l, t.Ok := fun t ht => by
              rcases List.mem_cons.1 ht with rfl | ht
              · exact hok1
              · exact HOK.out t ht
            have hxA : ∀ t ∈ sec s :: l, 0 ≤ t.x ∧ t.x ≤ 256 := fun t ht => by
              rcases List.mem_cons.1 ht with rfl | ht
              · exact ⟨by show (0 : Int) ≤ 0; decide, by show (0 : Int) ≤ 256; decide⟩
              · exact x_of_each HEA.out t ht
            have hAl : Hid ((sec s :: l).length = L) := by show _ = _; rw [List.length_cons, hLl]; omega
            have HLL := hid hLl
            clear hLl
            by_cases hLm : L ≤ m
            · have hLmI : (L : Int) ≤ (m : Int) := by omega
              have hag := hid (agree_few (sec s :: l) m (by rw [hAl.out]; exact hLm))
              go_wp2_with (at_builtin; refine wl_appendSh rfl _ _ rfl G (.slice (some ⟨G, 0, none⟩) 1 1) 1 [sec s] rfl (Or.inl hown) ao l.length cap rfl hno l rfl hrL HOK.out (fun t ht => by rw [List.mem_singleton.1 ht]; exact hok1) (by omega) (by omega) L HLL.out ?_; intro aoA capA wA rowA hcapA hMA hVA hgA hrowA; have hbA : Below w.heap.size w wA := hbl.grown hgA hbl.size (fun k hk => by have := (hrowA k hk).1; omega))
              go_ret2
              exact ⟨rv (rt2 (rb (by rw [HR.out.1, hag.out])) (ri HR.out.2.symm)), hbA⟩
            · have hLmI : ¬ (L : Int) ≤ (m : Int) := by omega
              have hgt := hg.take m
              have hmL : m < L := by omega
              have hmL2 : (m : Int) ≤ (L : Int) := by omega
              have hm0 : (0 : Int) ≤ (m : Int) := by omega
              clear hLm
              go_wp2_with (at_builtin; refine wl_appendSh rfl _ _ rfl G (.slice (some ⟨G, 0, none⟩) 1 1) 1 [sec s] rfl (Or.inl hown) ao l.length cap rfl hno l rfl hrL HOK.out (fun t ht => by rw [List.mem_singleton.1 ht]; exact hok1) (by omega) (by omega) L HLL.out ?_; intro aoA capA wA rowA hcapA hMA hVA hgA hrowA; have hbA : Below w.heap.size w wA := hbl.grown hgA hbl.size (fun k hk => by have := (hrowA k hk).1; omega))
              obtain ⟨b2, off2, rfl, _⟩ := hVA.at (i := 0) (by simp)
              refine (polynomials_any _ capA m ((sec s :: l).take m) wA (by rw [List.length_take, hAl.out]; omega) (hVA.take m) (fun t ht => hokA t (List.mem_of_mem_take ht)) hgt (by rw [List.length_take]; omega)).mono ?_
              rintro e w2 ⟨ps, rfl, hP, hb2⟩
              have hPL := hid hP.len
              have hp1 := hP.one
              obtain ⟨N, HN⟩ : ∃ N, Hid (w2.heap.size = N) := ⟨_, rfl⟩
              have hlm2 : ¬ capA = m := by omega
              go_wp2_with (first | (refine wl_allocV rfl 60 rfl Z HZ0.out N HN.out ?_; intro wB hB hbB hsB) | (refine wl_storeV rfl 60 _ _ rfl 60 N rfl ps rfl 32 aggP hPL.out Z hB HZL.out hp1 ?_; intro wS hS hbS hsS))
              have hbw2 : Below w2.heap.size w2 wS := by rw [HN.out]; exact hbB.trans hbS
              have hPS := hP.below hbw2
              have hbAS : Below wA.heap.size wA wS := hb2.trans (hbw2.mono hb2.size)
              have hVA' : RowS wA (some ⟨b2, off2, none⟩) (sec s :: l) := hVA
              have hVS := hVA'.below hbAS
              have hL33 : L ≤ 33 := by rw [HLL.out]; omega
              refine (conFit #[.pointer (some ⟨N, 0, none⟩)] (fun t => !liesB ((sec s :: l).take m) t) _ _ _ ((sec s :: l).drop m) wS (by rw [List.length_drop, hAl.out]) (hVS.drop m (by rw [hAl.out]; exact hmL)) (by rw [List.length_drop, hAl.out]; omega) (fun t ht => hokA t (List.mem_of_mem_drop ht)) (fun i hi w' hw' => fit1 ps ((sec s :: l).take m) _ N w' (hS.below hw' hS.lt) (hPS.below hw') hgt (by rw [List.length_take]; omega) (hokA _ (List.mem_of_mem_drop (getD_mem _ _ hi))) (hxA _ (List.mem_of_mem_drop (getD_mem _ _ hi))))).mono ?_
              rintro e w4 ⟨rfl, hb4⟩
              go_wp2
              go_ret2
              have hbw : Below w.heap.size w wS := hbA.trans (hbAS.mono hbA.size)
              exact ⟨rv (rt2 (rb (by rw [HR.out.1, any_not_all]; rfl)) (ri HR.out.2.symm)), hbw.trans (hb4.mono hbw.size)⟩
      · have HR : Hid (fitR need l s = false ∧ sharesE true need l = E) := by
          have e : sharesE true need l = E := by rw [hE0, HE.out]
          exact ⟨by unfold fitR; rw [e, if_neg h], e⟩
        have hEb : (E != 0) = true := by simp [h]
        clear h hin hin1 hE0
        go_enter Try.func6, Try.ntmps6
        go_wp2_with (first | (go_at_call 18; refine (outside_any _ _ _ _).mono ?_; rintro e w1 ⟨rfl, rfl⟩) | (go_at_call 21; refine HC.out.mono ?_; rintro e w1 ⟨rfl, hb1⟩))
        go_ret2
        exact ⟨rv (rt2 (rb HR.out.1.symm) (ri HR.out.2.symm)), hb0.trans (hb1.mono hb0.size)⟩
end Go.Proofs.Ytbjmadcbhkeenaa.shr
/- A one-cell store into a variable, the world behind it a letter. Conditions: the cell is there. -/
namespace Go.Proofs.Ytbjmadcbhkeenaa
open Go.RowKit
set_option linter.unusedSimpArgs false
set_option linter.unusedVariables false
set_option pp.maxSteps 6000
/-- one cell stored: the world behind it a letter -/
theorem wl_setV {P : Program} {w : World} {ops : Array Oper} {rest : List Oper} {o : Oper} {a : Act} {Q : Exit → Act → World → Prop} (hgd : o.guard = none) (ty : TypeId) (x y : Operand) (ho : o.op = .store ty x y)
    (t : TypeId) (g i : Nat) (hx : a.eval x = .pointer (some ⟨g, i, none⟩)) (v : Value) (hy : a.eval y = v) (hv : v.cells = #[v]) (h1 : v.oneCell' = true) (hi1 : (P.info? ty).map (·.size) = some 1) (cur : List Value) (hg : BlkV t w g cur) (hi : i < cur.length)
    (h : ∀ w', BlkV t w' g (cur.set i v) → w.grownBy w' (some g) → w'.heap.size = w.heap.size → wpList P ops Q rest (a.put o.dst undef) w') : wpList P ops Q (o :: rest) a w := by
  obtain ⟨f, hf, hs⟩ := Option.map_eq_some_iff.1 hi1
  have hrun : (storeVar ty ⟨g, i, none⟩ v).run P w = .ok () (w.setRow g (cur.set i v).toArray) := by
    have h := run_storeCells_at (P := P) g i t [v] 0 cur.toArray w hg (by simp; omega) (by intro u hu; rw [List.mem_singleton.1 hu]; exact h1)
    simp only [Nat.add_zero] at h
    have e : cur.take i ++ [v] ++ cur.drop (i + 1) = cur.set i v := by
      rw [List.set_eq_take_append_cons_drop, if_pos hi]; simp
    have h' : (storeCells ⟨g, i, none⟩ [v]).run P w = .ok () (w.setRow g (cur.set i v).toArray) := by
      rw [← e]; simpa using h
    simp [storeVar, hv, sizeOf, typeInfo, hf, hs, h']
  refine wpList_plain hgd fun K hK' => ?_
  unfold Oper.wp
  simp [execOp, ho, hx, hy, Instr.storeAt, Instr.sureAddr, hrun, Result.andThen]
  exact hK' _ _ (h _ (hg.setRow _) ⟨rfl, rfl, rfl, by simp, fun k _ hk => setRow_other w g k _ (fun e => hk (by rw [e]))⟩ (by simp))
end Go.Proofs.Ytbjmadcbhkeenaa
/- Contract of keyref2.polynomials: the polynomials of a seed. Conditions: a secret and a seed of octets, a need from 1 to 32. -/
namespace Go.Proofs.Ytbjmadcbhkeenaa.shr
open Go.RowKit Go.Proofs.Ytbjmadcbhkeenaa.sh Go.Proofs.Ytbjmadcbhkeenaa.Fld
set_option linter.unusedSimpArgs false
set_option linter.unusedVariables false
set_option pp.maxSteps 6000
/-- polynomials, as a value -/
structure PolysG (w : World) (f : Nat → List Int) (ps : List Value) : Prop where
  len : ps.length = 32
  one : ∀ u ∈ ps, u.oneCell' = true
  at_ : ∀ o, o < 32 → ∃ ao cap, ps[o]? = some (.slice ao (f o).length cap) ∧ RowI .i64 w ao (f o)
theorem PolysG.below {w w' : World} {f : Nat → List Int} {ps : List Value} (h : PolysG w f ps) (hb : Below w.heap.size w w') : PolysG w' f ps :=
  ⟨h.len, h.one, fun o ho => by obtain ⟨ao, cap, h1, h2⟩ := h.at_ o ho; exact ⟨ao, cap, h1, h2.below hb⟩⟩
structure PolyOwn (B : Nat) (w : World) (f : Nat → List Int) (ps : List Value) (k : Nat) : Prop where
  len : ps.length = 32
  one : ∀ u ∈ ps, u.oneCell' = true
  at_ : ∀ o, o < k → ∃ ao cap, ps[o]? = some (.slice ao (f o).length cap) ∧ w.ownsRow B 3 1 (.slice ao (f o).length cap) (f o).length ((f o).map (Value.int .i64))
theorem grown_setCell (w : World) (a : Addr) (v : Value) : w.grownBy (w.setCell a v) (some a.block) :=
  ⟨rfl, rfl, rfl, by simp, fun i _ hi => heap_setCell_other w a i v (fun e => hi (by rw [e]))⟩
theorem grown_setRow (w : World) (g : Nat) (cs : Array Value) : w.grownBy (w.setRow g cs) (some g) :=
  ⟨rfl, rfl, rfl, by simp, fun i _ hi => setRow_other w g i cs (fun e => hi (by rw [e]))⟩
/-- an own row above B, behind a change of a block below B -/
theorem owns_set {w w' : World} {B g : Nat} {e : TypeId} {size n : Nat} {v : Value} {xs : List Value} (h : w.ownsRow B e size v n xs) (hg : w.grownBy w' (some g)) (hB : g < B) : w'.ownsRow B e size v n xs :=
  h.kept hg (by
    by_cases hv : v.ownBlock = some g
    · have := (h.lt g hv).1; omega
    · exact Or.inr hv)
/-- the polynomials of Zero, of Split -/
def polyZ (m : Nat) (seed : List Int) (o : Nat) : List Int := seedPoly 0 m seed 1 o
def polyS (secret : List Int) (m : Nat) (seed : List Int) (o : Nat) : List Int := seedPoly (secret.getD o 0) m seed 0 o
end Go.Proofs.Ytbjmadcbhkeenaa.shr
/- Shares with given values, plain; the numbers of a seed's polynomial are in range. A struct literal of a share. Conditions: the type's form. -/
namespace Go.Proofs.Ytbjmadcbhkeenaa.shr
open Go.RowKit Go.Proofs.Ytbjmadcbhkeenaa.sh Go.Proofs.Ytbjmadcbhkeenaa.Fld
set_option linter.unusedSimpArgs false
set_option linter.unusedVariables false
set_option pp.maxSteps 6000
theorem pairTo_rng (many : Nat) (b : List Int) (o : List Int) (ho : Rng o) : ∀ j, Rng (st.pairTo many b o j)
  | 0 => ho
  | j + 1 => by
    have ih := pairTo_rng many b o ho j
    show Rng (st.stepN many b (st.pairTo many b o j) j)
    unfold st.stepN
    split
    · split
      · intro c hc
        rcases List.mem_append.1 hc with hc | hc
        · exact ih c hc
        · rw [List.mem_singleton.1 hc]; omega
      · exact ih
    · exact ih
theorem blkTo_rng (many : Nat) (k n : List Int) : ∀ q, Rng (st.blkTo many k n q)
  | 0 => fun c hc => by cases hc
  | q + 1 => pairTo_rng many _ _ (blkTo_rng many k n q) 32
theorem numsOf_rng (many : Nat) (k n : List Int) : Rng (st.numsOf many k n) := blkTo_rng _ _ _ _
theorem seedPoly_rng {first : Int} (h : 0 ≤ first ∧ first ≤ 256) (m : Nat) (seed : List Int) (sign o : Int) : Rng (seedPoly first m seed sign o) := by
  intro c hc
  rcases List.mem_cons.1 hc with rfl | hc
  · exact h
  · exact numsOf_rng _ _ _ c hc
theorem seedPoly_len (first : Int) {m : Nat} (hm : 1 ≤ m) (seed : List Int) (sign o : Int) : (seedPoly first m seed sign o).length ≤ m := by
  have h : (st.numsOf (m - 1) seed (nonceOf sign o)).length ≤ m - 1 := st.blkTo_le _ _ _ _
  unfold seedPoly
  rw [List.length_cons]
  omega
theorem polyZ_rng (m : Nat) (seed : List Int) (o : Nat) : Rng (polyZ m seed o) := seedPoly_rng ⟨by decide, by decide⟩ _ _ _ _
theorem polyZ_len {m : Nat} (hm : 1 ≤ m) (seed : List Int) (o : Nat) : (polyZ m seed o).length ≤ m := seedPoly_len _ hm _ _ _
theorem polyS_rng {secret : List Int} (hs : st.Octs secret) (m : Nat) (seed : List Int) (o : Nat) : Rng (polyS secret m seed o) := seedPoly_rng (by have h : 0 ≤ secret.getD o 0 ∧ secret.getD o 0 ≤ 255 := hs.getD o; exact ⟨h.1, by omega⟩) _ _ _ _
theorem polyS_len (secret : List Int) {m : Nat} (hm : 1 ≤ m) (seed : List Int) (o : Nat) : (polyS secret m seed o).length ≤ m := seedPoly_len _ hm _ _ _
theorem wl_build2 {P : Program} {w : World} {ops : Array Oper} {rest : List Oper} {o : Oper} {a : Act} {Q : Exit → Act → World → Prop} (hgd : o.guard = none) (t : TypeId) (i j : Nat) (x y : Operand) (ho : o.op = .build t #[(i, x), (j, y)])
    (u v : Value) (hx : a.eval x = u) (hy : a.eval y = v) (cs : List Value) (hb : P.built t [(i, u), (j, v)] = some cs.toArray) (h : wpList P ops Q rest (a.put o.dst (.agg cs.toArray)) w) : wpList P ops Q (o :: rest) a w :=
  wl_build hgd t _ ho cs (by simp [hx, hy]; exact hb) h
/-- a share of which the first values are laid -/
def shTo (h : List Int) (x : Int) (V : Nat → Int) (k : Nat) : Sh := ⟨h, x, st.fillTo V 32 k⟩
theorem shTo_ok {h : List Int} {x : Int} {V : Nat → Int} {k : Nat} (hl : h.length = 16) (hb : ∀ c ∈ h, 0 ≤ c ∧ c ≤ 255) (hx : -9223372036854775808 ≤ x ∧ x ≤ 9223372036854775807) (hV : ∀ o, 0 ≤ V o ∧ V o ≤ 65535) (hk : k ≤ 32) : (shTo h x V k).Ok := by
  refine ⟨hl, st.fillTo_length _ _ _ hk, hb, ?_, hx⟩
  intro c hc
  unfold shTo st.fillTo at hc
  simp only [List.mem_append, List.mem_map] at hc
  rcases hc with ⟨o, _, rfl⟩ | hc
  · exact hV o
  · rw [List.eq_of_mem_replicate hc]; omega
theorem shTo_set {h : List Int} (x : Int) (V : Nat → Int) {k : Nat} (hl : h.length = 16) (hk : k < 32) : (shTo h x V k).cs.set (17 + k) (.int .u16 (V k)) = (shTo h x V (k + 1)).cs := by
  unfold shTo Sh.cs
  simp only []
  rw [← st.fillTo_set _ _ _ hk, List.set_append_right _ _ (by simp [hl]; omega)]
  congr 1
  have e : 17 + k - (h.map (Value.int .u8)).length = k + 1 := by simp [hl]; omega
  rw [e, List.set_cons_succ, List.map_set]
theorem shTo_get {h : List Int} (x : Int) (V : Nat → Int) {k i : Nat} (hl : h.length = 16) (hk : k ≤ 32) (hi : i < 32) : (shTo h x V k).cs[17 + i]? = some (.int .u16 ((st.fillTo V 32 k).getD i 0)) := by
  unfold shTo Sh.cs
  simp only []
  rw [List.getElem?_append_right (by simp [hl]; omega)]
  have e : 17 + i - (h.map (Value.int .u8)).length = i + 1 := by simp [hl]; omega
  rw [e, List.getElem?_cons_succ, List.getElem?_map, List.getElem?_eq_getElem (by rw [st.fillTo_length _ _ _ hk]; exact hi), getD_lt' _ _ (by rw [st.fillTo_length _ _ _ hk]; exact hi)]
  rfl
theorem shTo_y (h : List Int) (x : Int) (V : Nat → Int) (i : Nat) (hi : i < 32) : (shTo h x V 32).y.getD i 0 = V i := by
  unfold shTo
  simp only []
  rw [st.fillTo_all]
  simp [List.getD_eq_getElem?_getD, hi]
theorem built_sh {h : List Int} (hl : h.length = 16) (x : Int) (V : Nat → Int) : Try.prog.built 41 [(0, .agg (h.map (Value.int .u8)).toArray), (1, .int .i64 x)] = some (shTo h x V 0).cs.toArray := by
  obtain ⟨a0, a1, a2, a3, a4, a5, a6, a7, a8, a9, a10, a11, a12, a13, a14, a15, rfl⟩ : ∃ a0 a1 a2 a3 a4 a5 a6 a7 a8 a9 a10 a11 a12 a13 a14 a15, h = [a0, a1, a2, a3, a4, a5, a6, a7, a8, a9, a10, a11, a12, a13, a14, a15] := by
    refine ⟨h[0], h[1], h[2], h[3], h[4], h[5], h[6], h[7], h[8], h[9], h[10], h[11], h[12], h[13], h[14], h[15], List.ext_getElem (by simp [hl]) fun i h1 h2 => ?_⟩
    have : i < 16 := by omega
    match i, this with
    | 0, _ => rfl
    | 1, _ => rfl
    | 2, _ => rfl
    | 3, _ => rfl
    | 4, _ => rfl
    | 5, _ => rfl
    | 6, _ => rfl
    | 7, _ => rfl
    | 8, _ => rfl
    | 9, _ => rfl
    | 10, _ => rfl
    | 11, _ => rfl
    | 12, _ => rfl
    | 13, _ => rfl
    | 14, _ => rfl
    | 15, _ => rfl
    | i + 16, h => exact absurd h (by omega)
  unfold shTo
  rw [st.fillTo_zero]
  kernel_rfl
/-- the share of a holder on given polynomials, and those of all holders -/
def onSh (f : Nat → List Int) (s : Sh) : Sh := shTo s.h s.x (fun o => ev (f o) s.x % 257) 32
def onAll (f : Nat → List Int) (l : List Sh) : List Sh := l.map (onSh f)
theorem onAll_length (f : Nat → List Int) (l : List Sh) : (onAll f l).length = l.length := by unfold onAll; rw [List.length_map]
theorem ev_bd (l : List Int) (x : Int) : 0 ≤ ev l x % 257 ∧ ev l x % 257 ≤ 256 := by omega
theorem onSh_ok (f : Nat → List Int) {s : Sh} (hs : s.Ok) : (onSh f s).Ok := shTo_ok hs.hl hs.hb hs.xb (fun o => by have := ev_bd (f o) s.x; omega) (by decide)
theorem RowS.of_blk {w : World} {g : Nat} {s : Sh} {t : TypeId} (h : BlkV t w g s.cs) : RowS w (some ⟨g, 0, none⟩) [s] := by
  refine Or.inr ⟨g, 0, rfl, h.lt, fun i hi => ?_⟩
  obtain rfl : i = 0 := by simpa using hi
  exact h.at0
end Go.Proofs.Ytbjmadcbhkeenaa.shr
