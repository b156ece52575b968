/-
  Contract of share.Fit. Conditions: shares of the type's form; a secret of octets.
-/
import Derived.Test.YtbljihhelladbaaFShO
import Derived.Test.YtbljihhelladbaaFShN
namespace Go.Proofs.Ytbljihhelladbaa.shr
set_option linter.unusedVariables false
open Go.RowKit Go.Proofs.Ytbljihhelladbaa.sh Go.Proofs.Ytbljihhelladbaa.Fld
set_option linter.unusedSimpArgs false
set_option pp.maxSteps 6000
set_option maxRecDepth 100000 in
theorem fit1 (ps : List Value) (l : List Sh) (s : Sh) (g : Nat) (w : World) (hG : BlkV 139 w g ps) (hP : PolysAt w l ps) (hg : Good l) (hn : l.length ≤ 64) (hs : s.Ok) (hx : 0 ≤ s.x ∧ s.x ≤ 256) :
    Calls Try.prog 104 #[.agg s.cs.toArray, .pointer (some ⟨g, 0, none⟩)] w fun e w' => e = .returned (.bool (!liesB l s)) ∧ Below w.heap.size w w' := by
  have hPL := hid hP.len
  have HSL : Hid (s.cs.length = 49) := hs.csl
  have hS0 : BlkV 61 (w.alloc (.cells s.cs.toArray 61)) w.heap.size s.cs := BlkV.new _ _ _ (by simp)
  have hb0 : Below w.heap.size w (w.alloc (.cells s.cs.toArray 61)) := (Below.refl _ _).alloc (Nat.le_refl _) _
  have hG0 := hG.alloc (.cells s.cs.toArray 61)
  have hP0 := hP.below hb0
  have HL := hid (lies_any ps l s _ hP0 hg hn hs hx)
  generalize s.cs = S at *
  go_enter Try.func104, Try.ntmps104
  go_wp2_with (first | (refine wl_loadG (by rfl) 139 _ rfl ⟨g, 0, none⟩ rfl 32 ps hPL.out aggP hG0.at0 ?_) | (refine wl_loadG (by rfl) 61 _ rfl ⟨w.heap.size, 0, none⟩ rfl 49 S HSL.out aggS hS0.at0 ?_) | (go_at_call 102; refine HL.out.mono ?_; rintro e w1 ⟨rfl, hb1⟩))
  go_ret
  exact ⟨rfl, hb0.trans (hb1.mono hb0.size)⟩
set_option maxRecDepth 100000 in
theorem idxFit (caps : Array Value) (p : Sh → Bool) (ao : Option Addr) (cap n : Nat) (l : List Sh) (w : World) (hl : n = l.length) (hr : RowS w ao l) (hn : l.length ≤ 4611686018427387904) (hok : ∀ s ∈ l, s.Ok)
    (hf : ∀ i, i < l.length → ∀ w', Below w.heap.size w w' → Calls Try.prog 104 (#[.agg (l.getD i nil).cs.toArray] ++ caps) w' fun e w'' => e = .returned (.bool (p (l.getD i nil))) ∧ Below w'.heap.size w' w'') :
    Calls Try.prog 119 #[.slice ao n cap, .func (.func 104) #[] caps] w fun e w' => e = .returned (.int .i64 (slInt.findI p l 0)) ∧ Below w.heap.size w w' := by
  subst hl
  have HOK := hid hok
  clear hok
  go_enter Try.func119, Try.ntmps119
  go_wp2
  go_loopw [5, 8] (fun _ i wr => ∃ k : Nat, k ≤ l.length ∧ i = .int .i64 k ∧ Hid (slInt.findI p (l.drop k) k = slInt.findI p l 0) ∧ Below w.heap.size w wr) (fun _ i _ => l.length - (intOf i).toNat)
  case atStart => exact ⟨0, Nat.zero_le _, rfl, rfl, Below.refl _ _⟩
  case round =>
    obtain ⟨k, hk, rfl, HA, hbl⟩ := hrel
    by_cases h0 : k < l.length
    · obtain ⟨b, off, s, rfl, hb, HS, hat0⟩ := hr.elem (i := k) h0
      have hs : s.Ok := by rw [HS.out, getD_lt' l nil h0]; exact HOK.out _ (List.getElem_mem h0)
      have hat := At.belowB hat0 hbl hb
      have HCL := hid hs.csl
      have HD := slInt.findI_drop p l nil k h0
      rw [← HS.out, HA.out] at HD
      replace HD := hid HD
      have HF := hf k h0 _ hbl
      rw [← HS.out] at HF
      replace HF := hid HF
      clear hf hat0
      cases hc : p s
      · have HN := hid hc
        rw [hc] at HF
        clear hc
        go_wp2_with (first | (refine wl_loadG (by rfl) 61 _ rfl ⟨b, off + k * 49, none⟩ rfl 49 s.cs HCL.out aggS hat ?_) | (go_at_call 104; refine HF.out.mono ?_; rintro e w1 ⟨rfl, hb1⟩))
        go_roundw
        case rel => exact ⟨k + 1, by omega, by go_num, by show _ = _; rw [HD.out, if_neg (by rw [HN.out]; simp)], hbl.trans (hb1.mono hbl.size)⟩
        case measure => simp [intOf] <;> omega
      · have HN := hid hc
        rw [hc] at HF
        clear hc
        go_wp2_with (first | (refine wl_loadG (by rfl) 61 _ rfl ⟨b, off + k * 49, none⟩ rfl 49 s.cs HCL.out aggS hat ?_) | (go_at_call 104; refine HF.out.mono ?_; rintro e w1 ⟨rfl, hb1⟩))
        go_ret
        exact ⟨rv (ri (by rw [HD.out, if_pos HN.out])), hbl.trans (hb1.mono hbl.size)⟩
    · go_wp2
      go_ret
      exact ⟨rv (ri (by rw [← HA.out, List.drop_eq_nil_of_le (by omega)]; rfl)), hbl⟩
set_option maxRecDepth 100000 in
theorem conFit (caps : Array Value) (p : Sh → Bool) (ao : Option Addr) (cap n : Nat) (l : List Sh) (w : World) (hl : n = l.length) (hr : RowS w ao l) (hn : l.length ≤ 4611686018427387904) (hok : ∀ s ∈ l, s.Ok)
    (hf : ∀ i, i < l.length → ∀ w', Below w.heap.size w w' → Calls Try.prog 104 (#[.agg (l.getD i nil).cs.toArray] ++ caps) w' fun e w'' => e = .returned (.bool (p (l.getD i nil))) ∧ Below w'.heap.size w' w'') :
    Calls Try.prog 58 #[.slice ao n cap, .func (.func 104) #[] caps] w fun e w' => e = .returned (.bool (l.any p)) ∧ Below w.heap.size w w' := by
  subst hl
  have HF := hid (slInt.findI_any p l 0)
  have HI := hid (idxFit caps p ao cap l.length l w rfl hr hn hok hf)
  clear hf hok
  go_enter Try.func58, Try.ntmps58
  go_wp2_with (go_at_call 119; refine HI.out.mono ?_; rintro e w1 ⟨rfl, hb1⟩)
  go_ret
  exact ⟨rv (rb HF.out), hb1⟩
theorem infoS : Info Try.prog 61 (.agg sh0.cs.toArray) 49 88 := by unfold Info; kernel_rfl
theorem builtS : (Try.prog.built 61 []) = some sh0.cs.toArray := by kernel_rfl
/-- the share of a secret, as far as it is written -/
def secTo (s : List Int) (k : Nat) : Sh := ⟨List.replicate 16 0, 0, st.fillTo (fun o => s.getD o 0) 32 k⟩
theorem secTo_zero (s : List Int) : secTo s 0 = sh0 := by unfold secTo sh0; rw [st.fillTo_zero]
theorem secTo_all (s : List Int) (h : s.length = 32) : secTo s 32 = sec s := by
  unfold secTo sec
  rw [st.fillTo_all]
  congr 1
  apply List.ext_getElem
  · simp [h]
  · intro i h1 h2
    simp [List.getD_eq_getElem?_getD, h2]
theorem secTo_ok (s : List Int) (hs : ∀ c ∈ s, 0 ≤ c ∧ c ≤ 255) (k : Nat) (hk : k ≤ 32) : (secTo s k).Ok := by
  refine ⟨by simp [secTo], by unfold secTo; exact st.fillTo_length _ _ _ hk, ?_, ?_, by simp [secTo]⟩
  · intro c hc
    rw [List.eq_of_mem_replicate hc]; omega
  · intro c hc
    unfold secTo st.fillTo at hc
    simp only [List.mem_append, List.mem_map] at hc
    rcases hc with ⟨o, _, rfl⟩ | hc
    · by_cases ho : o < s.length
      · rw [getD_lt' s 0 ho]
        have := hs _ (List.getElem_mem ho)
        omega
      · rw [List.getD_eq_getElem?_getD, List.getElem?_eq_none (by omega)]; decide
    · rw [List.eq_of_mem_replicate hc]; omega
theorem sec_ok (s : List Int) (hs : ∀ c ∈ s, 0 ≤ c ∧ c ≤ 255) (h : s.length = 32) : (sec s).Ok := by rw [← secTo_all s h]; exact secTo_ok s hs 32 (by omega)
theorem secTo_set (s : List Int) (k : Nat) (hk : k < 32) : (secTo s k).cs.set (17 + k) (.int .u16 (s.getD k 0)) = (secTo s (k + 1)).cs := by
  unfold secTo Sh.cs
  simp only []
  rw [← st.fillTo_set _ _ _ hk, List.set_append_right _ _ (by simp; omega)]
  congr 1
  have e : 17 + k - ((List.replicate 16 (0 : Int)).map (Value.int .u8)).length = k + 1 := by simp; omega
  rw [e, List.set_cons_succ, List.map_set]
/-- shares, cell by cell -/
def flatS (l : List Sh) : List Value := l.flatMap (·.cs)
theorem flatS_length (l : List Sh) (hl : ∀ s ∈ l, s.Ok) : (flatS l).length = l.length * 49 := by
  induction l with
  | nil => rfl
  | cons s l ih =>
    unfold flatS at *
    rw [List.flatMap_cons, List.length_append, ih (fun t ht => hl t (List.mem_cons_of_mem _ ht)), (hl s (List.mem_cons_self ..)).csl, List.length_cons]
    omega
theorem flatS_one (l : List Sh) : ∀ u ∈ flatS l, u.oneCell' = true := by
  intro u hu
  unfold flatS at hu
  obtain ⟨s, _, h⟩ := List.mem_flatMap.1 hu
  exact cs_one s u h
theorem flatS_get (l : List Sh) (hl : ∀ s ∈ l, s.Ok) (i j : Nat) (hi : i < l.length) (hj : j < 49) : (flatS l)[i * 49 + j]? = (l.getD i nil).cs[j]? := by
  induction l generalizing i with
  | nil => simp at hi
  | cons s l ih =>
    have hs := (hl s (List.mem_cons_self ..)).csl
    unfold flatS at *
    rw [List.flatMap_cons]
    cases i with
    | zero =>
      rw [List.getElem?_append_left (by rw [hs]; omega)]
      simp
    | succ i =>
      rw [List.getElem?_append_right (by rw [hs]; omega), hs, show (i + 1) * 49 + j - 49 = i * 49 + j by omega, ih (fun t ht => hl t (List.mem_cons_of_mem _ ht)) i (by simpa using hi)]
      simp
theorem RowS.flat {w : World} {ao : Option Addr} {l : List Sh} (h : RowS w ao l) (hl : ∀ s ∈ l, s.Ok) : RowV w ao (flatS l) := by
  rcases h with h | ⟨b, off, h1, h2, h3⟩
  · exact Or.inl (by rw [h]; rfl)
  · refine Or.inr ⟨b, off, h1, h2, fun j u hu => ?_⟩
    have hj := (List.getElem?_eq_some_iff.1 hu).1
    rw [flatS_length l hl] at hj
    have hi : j / 49 < l.length := by omega
    have e : j = j / 49 * 49 + j % 49 := by omega
    rw [e, flatS_get l hl _ _ hi (by omega)] at hu
    have := h3 (j / 49) hi (j % 49) u hu
    rw [Addr.add_mid] at this
    rw [e, ← Nat.add_assoc]
    exact this
theorem RowS.of_flat {w : World} {ao : Option Addr} {l : List Sh} (h : RowV w ao (flatS l)) (hl : ∀ s ∈ l, s.Ok) : RowS w ao l := by
  by_cases h0 : l = []
  · exact Or.inl h0
  · rcases h with h | ⟨b, off, h1, h2, h3⟩
    · have := flatS_length l hl
      rw [h] at this
      have : l.length = 0 := by simp at this; omega
      exact Or.inl (List.eq_nil_of_length_eq_zero this)
    · refine Or.inr ⟨b, off, h1, h2, fun i hi j u hu => ?_⟩
      have hok := hl _ (getD_mem l i hi)
      have hj : j < 49 := by rw [← hok.csl]; exact (List.getElem?_eq_some_iff.1 hu).1
      rw [Addr.add_mid, Nat.add_assoc]
      exact h3 (i * 49 + j) u (by rw [flatS_get l hl i j hi hj]; exact hu)
/-- what Fit answers -/
def fitR (need : Int) (l : List Sh) (s : List Int) : Bool := if sharesE true need l = 0 then agreeB (sec s :: l) need.toNat else false
theorem sharesT_ok {need : Int} {l : List Sh} (h : sharesE true need l = 0) : ∃ m : Nat, need = (m : Int) ∧ 1 ≤ m ∧ m ≤ 32 ∧ l.length ≤ 32 ∧ eachE l = 0 := by
  unfold sharesE at h
  split at h
  · cases h
  · rename_i h1
    split at h
    · cases h
    · split at h
      · cases h
      · rename_i h3
        simp only [inB, Bool.not_eq_false, Bool.and_eq_true, decide_eq_true_eq] at h1
        exact ⟨need.toNat, by omega, by omega, by omega, by omega, h⟩
theorem agree_few (l : List Sh) (n : Nat) (h : l.length ≤ n) : agreeB l n = true := by
  unfold agreeB
  rw [List.drop_eq_nil_of_le h]; rfl
/-- append of shares to an own row of shares -/
theorem wl_appendSh {w : World} {ops : Array Oper} {rest : List Oper} {o : Oper} {a : Act} {Q : Exit → Act → World → Prop} (hgd : o.guard = none) (x1 x2 : Operand)
    (ho : o.op = .call { callee := .builtin .append, args := #[x1, x2], argTypes := #[47, 47] }) (base : Nat) (v : Value) (k : Nat) (olds : List Sh) (hs : a.eval x1 = v) (hown : Mine w base 61 49 v k (flatS olds))
    (ao : Option Addr) (m c : Nat) (hx : a.eval x2 = .slice ao m c) (hno : ao = none → c = 0) (news : List Sh) (hm : m = news.length) (hrow : RowS w ao news) (hok : ∀ s ∈ news, s.Ok) (hoko : ∀ s ∈ olds, s.Ok)
    (b1 : k + m ≤ 1099511627776) (hbase : base ≤ w.heap.size) (N : Nat) (hN : N = k + m)
    (hK : ∀ ao' cap' w' row, N ≤ cap' → Mine w' base 61 49 (.slice ao' N cap') N (flatS (olds ++ news)) → RowS w' ao' (olds ++ news) → w.grownBy w' row → (∀ k, row = some k → base ≤ k ∧ v.ownBlock = some k) → wpList Try.prog ops Q rest (a.put o.dst (.slice ao' N cap')) w') : wpList Try.prog ops Q (o :: rest) a w := by
  have hfl : flatS (olds ++ news) = flatS olds ++ flatS news := by unfold flatS; rw [List.flatMap_append]
  refine wl_appendS hgd x1 x2 47 ho 61 (.agg sh0.cs.toArray) 49 88 Try.underlying47 infoS rfl (by decide) base v k (flatS olds) hs hown ao m c hx hno (flatS news) (by rw [flatS_length news hok, hm]) (hrow.flat hok) (flatS_one news) (by unfold maxLen; omega) (by omega) hbase N hN fun ao' cap' w' row h1 h2 h3 h4 h5 => ?_
  refine hK ao' cap' w' row h1 (by rw [hfl]; exact h2) (RowS.of_flat (by rw [hfl]; exact h3) fun s hs => ?_) h4 h5
  rcases List.mem_append.1 hs with h | h
  · exact hoko s h
  · exact hok s h
theorem size8 : (Try.prog.info? 5).map (·.size) = some 1 := by kernel_rfl
set_option maxRecDepth 100000 in
set_option maxHeartbeats 1000000 in
theorem Fit_any (need : Int) (ao : Option Addr) (cap : Nat) (l : List Sh) (s : List Int) (w : World) (hr : RowS w ao l) (hok : ∀ s ∈ l, s.Ok) (hn : l.length ≤ 9223372036854775807) (hcap : l.length ≤ cap) (hmax : cap ≤ maxLen) (hno : ao = none → cap = 0) (hsl : s.length = 32) (hso : ∀ c ∈ s, 0 ≤ c ∧ c ≤ 255) :
    Calls Try.prog 33 #[.int .i64 need, .slice ao l.length cap, .agg (s.map (Value.int .u8)).toArray] w fun e w' => e = .returned (.tuple #[.bool (fitR need l s), .int .i64 (sharesE true need l)]) ∧ Below w.heap.size w w' := by
  have hmf : ∀ (fn : Fn) (first cap : Array Value) (w : World), (Instr.makeFunc fn first cap).run Try.prog w = .ok (.func fn first cap) w := fun _ _ _ _ => rfl
  have HOK := hid hok
  clear hok
  obtain ⟨KV, HKV⟩ : ∃ K, Hid (K = s.map (Value.int .u8)) := ⟨_, rfl⟩
  have HKL : Hid (KV.length = 32) := by show _ = _; rw [HKV.out, List.length_map]; exact hsl
  rw [← HKV.out]
  have hb0 : Below w.heap.size w (w.alloc (.cells KV.toArray 23)) := (Below.refl _ _).alloc (Nat.le_refl _) _
  have hK0 : BlkV 23 (w.alloc (.cells KV.toArray 23)) w.heap.size KV := BlkV.new _ _ _ rfl
  have hr0 := hr.below hb0
  by_cases hin : inB need 1 32 = false
  · have h' : (!inB need 1 32) = true := by rw [hin]; rfl
    have HR : Hid (fitR need l s = false ∧ sharesE true need l = 4) := by
      have e : sharesE true need l = 4 := by unfold sharesE; rw [if_pos hin]
      exact ⟨by unfold fitR; rw [e]; rfl, e⟩
    clear hin
    go_enter Try.func33, Try.ntmps33
    go_wp2_with (first | (go_at_call 86; refine (outside_any _ _ _ _).mono ?_; rintro e w1 ⟨rfl, rfl⟩))
    go_ret2
    exact ⟨rv (rt2 (rb HR.out.1.symm) (ri HR.out.2.symm)), hb0⟩
  · have hin1 : inB need 1 32 = true := by simpa using hin
    have h' : (!inB need 1 32) = false := by rw [hin1]; rfl
    by_cases hlen : 32 < l.length
    · have HR : Hid (fitR need l s = false ∧ sharesE true need l = 5) := by
        have e : sharesE true need l = 5 := by unfold sharesE; rw [if_neg hin, if_neg (by simp), if_pos hlen]
        exact ⟨by unfold fitR; rw [e]; rfl, e⟩
      have hlI : (32 : Int) < (l.length : Int) := by omega
      clear hin hin1
      go_enter Try.func33, Try.ntmps33
      go_wp2_with (first | (go_at_call 86; refine (outside_any _ _ _ _).mono ?_; rintro e w1 ⟨rfl, rfl⟩))
      go_ret2
      exact ⟨rv (rt2 (rb HR.out.1.symm) (ri HR.out.2.symm)), hb0⟩
    · have hE0 : sharesE true need l = eachE l := by unfold sharesE; rw [if_neg hin, if_neg (by simp), if_neg hlen]
      obtain ⟨E, HE⟩ : ∃ E, Hid (E = eachE l) := ⟨_, rfl⟩
      have hlI : (l.length : Int) ≤ 32 := by omega
      have HC := hid (eachFault_any ao cap l _ hr0 HOK.out (by omega))
      rw [← HE.out] at HC
      by_cases h : E = 0
      · obtain ⟨m, rfl, hm1, hm32, _, hea⟩ := sharesT_ok (by rw [hE0, ← HE.out]; exact h)
        have HR : Hid (fitR m l s = agreeB (sec s :: l) m ∧ sharesE true m l = 0) := by
          have e : sharesE true m l = 0 := by rw [hE0, ← HE.out, h]
          exact ⟨by unfold fitR; rw [e, if_pos rfl, Int.toNat_natCast], e⟩
        have hEb : (E != 0) = false := by simp [h]
        have hg := good_sec s hso l HOK.out hea
        have HEA := hid hea
        clear h hea hin hin1 hE0
        obtain ⟨Z, HZ⟩ : ∃ Z, Hid (Z = noSlices) := ⟨_, rfl⟩
        have HZ0 := hid zeroP
        rw [← HZ.out] at HZ0
        have HZL : Hid (Z.length = 32) := by rw [HZ.out]; rfl
        obtain ⟨S0, HS0⟩ : ∃ S, Hid (S = sh0.cs) := ⟨_, rfl⟩
        have HBS : Hid ((Try.prog.built 61 []) = some S0.toArray) := by rw [HS0.out]; exact builtS
        have HSL : Hid (S0.length = 49) := by rw [HS0.out]; exact sh0_len
        go_enter Try.func33, Try.ntmps33
        go_wp2_with (first | (go_at_call 86; refine (outside_any _ _ _ _).mono ?_; rintro e w1 ⟨rfl, rfl⟩) | (go_at_call 103; refine HC.out.mono ?_; rintro e w1 ⟨rfl, hb1⟩) | (refine wl_build0 rfl 61 rfl S0 HBS.out ?_) | (refine wl_slice1 rfl 47 61 _ rfl Try.underlying47 49 sh0.cs (by kernel_rfl) sh0_len (by decide) (by decide) S0 rfl HSL.out w1.heap.size rfl ?_; intro wG hG hbG hsG; have hbw0 := hb0.trans ((hb1.trans (hbG.mono hb1.size)).mono hb0.size); have hKG := (hK0.below hb1 hK0.lt).below hbG (Nat.lt_of_lt_of_le hK0.lt hb1.size)) | (refine wl_loadG (by rfl) 23 _ rfl ⟨w.heap.size, 0, none⟩ rfl 32 KV HKL.out aggKey hKG.at0 ?_))
        rw [HS0.out] at hG
        obtain ⟨G, HG⟩ : ∃ G, Hid (w1.heap.size = G) := ⟨_, rfl⟩
        rw [HG.out] at hG hsG ⊢
        have hwG : w.heap.size < G := by have := hK0.lt; have := hb1.size; rw [← HG.out]; omega
        have hrG := hr.below hbw0
        go_loopw [26] (fun i wr => ∃ k : Nat, k ≤ 32 ∧ i = .int .i64 k ∧ BlkV 61 wr G (secTo s k).cs ∧ Below w.heap.size w wr) (fun i _ => 32 - (intOf i).toNat)
        case atStart => exact ⟨0, by omega, rfl, by rw [secTo_zero]; exact hG, hbw0⟩
        case round =>
          obtain ⟨k, hk, rfl, hC, hbl⟩ := hrel
          clear hG
          by_cases h0 : k < 32
          · obtain ⟨c, HCC⟩ : ∃ c, Hid (c = s.getD k 0) := ⟨_, rfl⟩
            have hKm : KV[k]? = some (.int .u8 c) := by rw [HKV.out, HCC.out, List.getElem?_map, List.getElem?_eq_getElem (by omega), getD_lt' s 0 (by omega)]; rfl
            have hIX := fun w => st.run_index1 (P := Try.prog) w 23 5 32 Try.underlying23 .u8 Try.underlying5 size8 KV k h0 _ hKm
            have hcb : 0 ≤ c ∧ c ≤ 255 := by rw [HCC.out, getD_lt' s 0 (by omega)]; exact hso _ (List.getElem_mem _)
            have hcw : IntKind.u16.wrap c = c := IntWalk.u16_in _ (by omega)
            have hkI : (k : Int) < 32 := by omega
            have hkI0 : (0 : Int) ≤ (k : Int) := by omega
            have hcell := hC.cell (17 + k)
            rw [cs_yi _ (secTo_ok s hso k hk) k h0] at hcell
            have hfz := hC.frozen (17 + k)
            clear hKm
            go_wp2
            go_roundw
            case rel => exact ⟨k + 1, by omega, by go_num, by rw [← secTo_set s k h0, ← HCC.out]; exact hC.set (17 + k) _, hbl.setCell (by simp; omega) _⟩
            case measure => simp [intOf] <;> omega
          · obtain rfl : k = 32 := by omega
            rw [secTo_all s hsl] at hC
            have hok1 := sec_ok s hso hsl
            have hrL := hr.below hbl
            have hown : wr.ownsRow G 61 49 (.slice (some ⟨G, 0, none⟩) 1 1) 1 (flatS [sec s]) := by rw [show flatS [sec s] = (sec s).cs by simp [flatS]]; exact ownsRow_blk hC (Nat.le_refl _) hok1.csl
            have hGlt := hC.lt
            have hlen32 : l.length ≤ 32 := by omega
            obtain ⟨L, HL⟩ : ∃ L, Hid (L = 1 + l.length) := ⟨_, rfl⟩
            have hLl := HL.out
            have hokA : ∀ t ∈ sec s :: l, t.Ok := fun t ht => by
              rcases List.mem_cons.1 ht with rfl | ht
              · exact hok1
              · exact HOK.out t ht
            have hxA : ∀ t ∈ sec s :: l, 0 ≤ t.x ∧ t.x ≤ 256 := fun t ht => by
              rcases List.mem_cons.1 ht with rfl | ht
              · exact ⟨by show (0 : Int) ≤ 0; decide, by show (0 : Int) ≤ 256; decide⟩
              · exact x_of_each HEA.out t ht
            have hAl : Hid ((sec s :: l).length = L) := by show _ = _; rw [List.length_cons, hLl]; omega
            have HLL := hid hLl
            clear hLl
            by_cases hLm : L ≤ m
            · have hLmI : (L : Int) ≤ (m : Int) := by omega
              have hag := hid (agree_few (sec s :: l) m (by rw [hAl.out]; exact hLm))
              go_wp2_with (at_builtin; refine wl_appendSh rfl _ _ rfl G (.slice (some ⟨G, 0, none⟩) 1 1) 1 [sec s] rfl (Or.inl hown) ao l.length cap rfl hno l rfl hrL HOK.out (fun t ht => by rw [List.mem_singleton.1 ht]; exact hok1) (by omega) (by omega) L HLL.out ?_; intro aoA capA wA rowA hcapA hMA hVA hgA hrowA; have hbA : Below w.heap.size w wA := hbl.grown hgA hbl.size (fun k hk => by have := (hrowA k hk).1; omega))
              go_ret2
              exact ⟨rv (rt2 (rb (by rw [HR.out.1, hag.out])) (ri HR.out.2.symm)), hbA⟩
            · have hLmI : ¬ (L : Int) ≤ (m : Int) := by omega
              have hgt := hg.take m
              have hmL : m < L := by omega
              have hmL2 : (m : Int) ≤ (L : Int) := by omega
              have hm0 : (0 : Int) ≤ (m : Int) := by omega
              clear hLm
              go_wp2_with (at_builtin; refine wl_appendSh rfl _ _ rfl G (.slice (some ⟨G, 0, none⟩) 1 1) 1 [sec s] rfl (Or.inl hown) ao l.length cap rfl hno l rfl hrL HOK.out (fun t ht => by rw [List.mem_singleton.1 ht]; exact hok1) (by omega) (by omega) L HLL.out ?_; intro aoA capA wA rowA hcapA hMA hVA hgA hrowA; have hbA : Below w.heap.size w wA := hbl.grown hgA hbl.size (fun k hk => by have := (hrowA k hk).1; omega))
              obtain ⟨b2, off2, rfl, _⟩ := hVA.at (i := 0) (by simp)
              refine (polynomials_any _ capA m ((sec s :: l).take m) wA (by rw [List.length_take, hAl.out]; omega) (hVA.take m) (fun t ht => hokA t (List.mem_of_mem_take ht)) hgt (by rw [List.length_take]; omega)).mono ?_
              rintro e w2 ⟨ps, rfl, hP, hb2⟩
              have hPL := hid hP.len
              have hp1 := hP.one
              obtain ⟨N, HN⟩ : ∃ N, Hid (w2.heap.size = N) := ⟨_, rfl⟩
              have hlm2 : ¬ capA = m := by omega
              go_wp2_with (first | (refine wl_allocV rfl 139 rfl Z HZ0.out N HN.out ?_; intro wB hB hbB hsB) | (refine wl_storeV rfl 139 _ _ rfl 139 N rfl ps rfl 32 aggP hPL.out Z hB HZL.out hp1 ?_; intro wS hS hbS hsS))
              have hbw2 : Below w2.heap.size w2 wS := by rw [HN.out]; exact hbB.trans hbS
              have hPS := hP.below hbw2
              have hbAS : Below wA.heap.size wA wS := hb2.trans (hbw2.mono hb2.size)
              have hVA' : RowS wA (some ⟨b2, off2, none⟩) (sec s :: l) := hVA
              have hVS := hVA'.below hbAS
              have hL33 : L ≤ 33 := by rw [HLL.out]; omega
              refine (conFit #[.pointer (some ⟨N, 0, none⟩)] (fun t => !liesB ((sec s :: l).take m) t) _ _ _ ((sec s :: l).drop m) wS (by rw [List.length_drop, hAl.out]) (hVS.drop m (by rw [hAl.out]; exact hmL)) (by rw [List.length_drop, hAl.out]; omega) (fun t ht => hokA t (List.mem_of_mem_drop ht)) (fun i hi w' hw' => fit1 ps ((sec s :: l).take m) _ N w' (hS.below hw' hS.lt) (hPS.below hw') hgt (by rw [List.length_take]; omega) (hokA _ (List.mem_of_mem_drop (getD_mem _ _ hi))) (hxA _ (List.mem_of_mem_drop (getD_mem _ _ hi))))).mono ?_
              rintro e w4 ⟨rfl, hb4⟩
              go_wp2
              go_ret2
              have hbw : Below w.heap.size w wS := hbA.trans (hbAS.mono hbA.size)
              exact ⟨rv (rt2 (rb (by rw [HR.out.1, any_not_all]; rfl)) (ri HR.out.2.symm)), hbw.trans (hb4.mono hbw.size)⟩
      · have HR : Hid (fitR need l s = false ∧ sharesE true need l = E) := by
          have e : sharesE true need l = E := by rw [hE0, HE.out]
          exact ⟨by unfold fitR; rw [e, if_neg h], e⟩
        have hEb : (E != 0) = true := by simp [h]
        clear h hin hin1 hE0
        go_enter Try.func33, Try.ntmps33
        go_wp2_with (first | (go_at_call 86; refine (outside_any _ _ _ _).mono ?_; rintro e w1 ⟨rfl, rfl⟩) | (go_at_call 103; refine HC.out.mono ?_; rintro e w1 ⟨rfl, hb1⟩))
        go_ret2
        exact ⟨rv (rt2 (rb HR.out.1.symm) (ri HR.out.2.symm)), hb0.trans (hb1.mono hb0.size)⟩
end Go.Proofs.Ytbljihhelladbaa.shr
