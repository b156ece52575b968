/-
  TopShares, plain: what Split, Renew and Add make lies on the secret's polynomials; what was bent is found. Conditions: told at each. TopShares, plain: numbers put in order by insertion; IDs in order. Conditions: told at each. The law FaultsAreFound: slices.Equal at IDs that are the same. Conditions: shares of the type's form.
-/
import Derived.Test.YtbjmadcbhkeenaaSGsK
import Derived.Test.YtbjmadcbhkeenaaSSpB
import Derived.Test.YtbjmadcbhkeenaaSZrn
import Derived.Test.YtbjmadcbhkeenaaSAdd
import Derived.Test.YtbjmadcbhkeenaaSEqA
import Derived.Test.YtbjmadcbhkeenaaSMkX
namespace Go.Proofs.Ytbjmadcbhkeenaa.gs
open Go.RowKit Go.Proofs.Ytbjmadcbhkeenaa.Fld Go.Proofs.Ytbjmadcbhkeenaa.sh Go.Proofs.Ytbjmadcbhkeenaa.shr Go.Proofs.Ytbjmadcbhkeenaa.cm
set_option linter.unusedSimpArgs false
set_option linter.unusedVariables false
/-- all shares lie on polynomials -/
def OnP (F : Nat → List Int) (b : List Sh) : Prop := ∀ s ∈ b, ∀ o, o < 32 → s.y.getD o 0 = ev (F o) s.x % 257
theorem each_pw (l : List Sh) (h1 : ∀ s ∈ l, inB s.x 1 256 = true ∧ badY s = false) (h2 : l.Pairwise fun a b => same b a = false) : eachE l = 0 := by
  refine each_of _ fun k hk => ?_
  have hm : l.getD k nil ∈ l := getD_mem l k hk
  have h3 : (l.take k).any (same (l.getD k nil)) = false := by
    rw [List.any_eq_false]
    intro t ht
    obtain ⟨j, hj, rfl⟩ := List.mem_take_iff_getElem.1 ht
    have := List.pairwise_iff_getElem.1 h2 j k (by omega) hk (by omega)
    rw [getD_lt l nil hk]
    simpa using this
  unfold faultIn
  rw [if_neg (by rw [(h1 _ hm).1]; decide), if_neg (by rw [h3]; decide), if_neg (by rw [(h1 _ hm).2]; decide)]
theorem ev_pad (p : List Int) (n : Nat) (x : Int) : ev (p ++ List.replicate n 0) x = ev p x := by rw [ev_append, ev_replicate]; simp
theorem on_val {F : Nat → List Int} {b : List Sh} {m : Nat} (hF : ∀ o, (F o).length ≤ m) (hb : b.length = m) (hg : shr.Good b) (h : OnP F b) (o : Nat) (ho : o < 32) (t : Int) : valAt b o t = ev (F o) t % 257 := by
  have hi : Interp (xsOf b) (ysOf b o) (F o ++ List.replicate (m - (F o).length) 0) := by
    refine ⟨by rw [xsOf_length, hb, List.length_append, List.length_replicate]; have := hF o; omega, fun i hi => ?_⟩
    rw [xsOf_length] at hi
    rw [xsOf_getD b i hi, ysOf_getD b o i hi, ev_pad, h _ (getD_mem b i hi) o ho]
    exact (Cg.mod _).symm
  unfold valAt
  rw [atR_interp hg.ap hi t, ev_pad]
/-- polynomials that say a secret at 0 -/
structure Says (F : Nat → List Int) (m : Nat) (s : List Int) : Prop where
  le : ∀ o, (F o).length ≤ m
  len : s.length = 32
  oct : st.Octs s
  at0 : ∀ o, o < 32 → ev (F o) 0 % 257 = s.getD o 0
theorem Says.bd {F : Nat → List Int} {m : Nat} {s : List Int} (h : Says F m s) (o : Nat) : 0 ≤ s.getD o 0 ∧ s.getD o 0 ≤ 255 := h.oct.getD o
theorem on_secret {F : Nat → List Int} {b : List Sh} {m : Nat} {s : List Int} (hF : Says F m s) (hb : b.length = m) (hg : shr.Good b) (h : OnP F b) : faultAt0 b = false ∧ secretOf b = s := by
  have hv : ∀ o, o < 32 → valAt b o 0 = s.getD o 0 := fun o ho => by rw [on_val hF.le hb hg h o ho 0, hF.at0 o ho]
  have hf : faultAt0 b = false := fault0_not _ fun o ho => by
    rw [hv o ho]
    have h := hF.bd o
    omega
  refine ⟨hf, ?_⟩
  unfold secretOf
  rw [if_neg (by rw [hf]; decide)]
  unfold secretTo
  apply List.ext_getElem
  · simp [hF.len]
  · intro i h1 h2
    simp only [List.length_map, List.length_range] at h1
    rw [List.getElem_map, List.getElem_range, hv i h1, getD_lt _ _ (by have := hF.len; omega)]
theorem on_sharesE {l : List Sh} {m : Nat} (hm : 1 ≤ m) (hml : m ≤ l.length) (h32 : l.length ≤ 32) (he : eachE l = 0) : sharesE false (m : Int) l = 0 := by
  unfold sharesE
  rw [if_neg (by simp [inB]; omega), if_neg (by simp; omega), if_neg (by omega), he]
theorem on_combine {F : Nat → List Int} {l : List Sh} {m : Nat} {s : List Int} (hF : Says F m s) (hm : 1 ≤ m) (hml : m ≤ l.length) (h32 : l.length ≤ 32) (hok : ∀ s ∈ l, s.Ok) (he : eachE l = 0) (h : OnP F l) : combineK (m : Int) l = s ∧ combineE (m : Int) l = 0 := by
  have hE := on_sharesE hm hml h32 he
  have hg := (good_of l hok he).take m
  obtain ⟨h1, h2⟩ := on_secret hF (by rw [List.length_take]; omega) hg (fun t ht => h t (List.mem_of_mem_take ht))
  refine ⟨?_, ?_⟩
  · unfold combineK; rw [if_pos hE, Int.toNat_natCast, h2]
  · unfold combineE; rw [if_pos hE, Int.toNat_natCast]; unfold secretE; rw [if_neg (by rw [h1]; decide)]
/-- the holders: their number, then nothing -/
def idN (i : Nat) : List Int := ((i : Int) + 1) :: List.replicate 15 0
theorem idN_length (i : Nat) : (idN i).length = 16 := by simp [idN]
theorem idN_inj {i j : Nat} (h : idN i = idN j) : i = j := by
  unfold idN at h
  have := (List.cons.inj h).1
  omega
theorem idN_octs {i : Nat} (h : i ≤ 254) : ∀ c ∈ idN i, 0 ≤ c ∧ c ≤ 255 := by
  intro c hc
  unfold idN at hc
  rcases List.mem_cons.1 hc with rfl | hc
  · omega
  · rw [List.eq_of_mem_replicate hc]; omega
def hsN (N : Nat) : List (List Int) := (List.range N).map idN
theorem hsN_length (N : Nat) : (hsN N).length = N := by simp [hsN]
theorem hsN_getD {N i : Nat} (h : i < N) : (hsN N).getD i [] = idN i := by simp [hsN, List.getD_eq_getElem?_getD, h]
theorem hsN_ok {N : Nat} (h : N ≤ 255) : ∀ s ∈ hsN N, IdOk s := by
  intro s hs
  obtain ⟨i, hi, rfl⟩ := List.mem_map.1 hs
  exact ⟨idN_length i, idN_octs (by have := List.mem_range.1 hi; omega)⟩
theorem hsN_ord : ∀ N : Fin 8, ordTo (hsN N.val) (hsN N.val).length = true := by decide +kernel
/-- shares of the holders, at their places -/
structure Lay (N : Nat) (b : List Sh) : Prop where
  len : b.length = N
  xs : ∀ i, i < N → (b.getD i nil).x = (i : Int) + 1
  hs : ∀ i, i < N → (b.getD i nil).h = idN i
  yl : ∀ i, i < N → (b.getD i nil).y.length = 32
  yb : ∀ i, i < N → ∀ o, o < 32 → 0 ≤ (b.getD i nil).y.getD o 0 ∧ (b.getD i nil).y.getD o 0 ≤ 256
section
variable {N : Nat} {b : List Sh}
theorem Lay.at (h : Lay N b) {s : Sh} (hs : s ∈ b) : ∃ i, i < N ∧ s = b.getD i nil := by
  obtain ⟨i, hi, rfl⟩ := List.getElem_of_mem hs
  exact ⟨i, by rw [← h.len]; exact hi, (getD_lt b nil hi).symm⟩
theorem Lay.ok (h : Lay N b) (hN : N ≤ 32) : ∀ s ∈ b, s.Ok := by
  intro s hs
  obtain ⟨i, hi, rfl⟩ := h.at hs
  refine ⟨by rw [h.hs i hi]; exact idN_length i, h.yl i hi, by rw [h.hs i hi]; exact idN_octs (by omega), ?_, by rw [h.xs i hi]; omega⟩
  intro c hc
  obtain ⟨o, ho, rfl⟩ := List.getElem_of_mem hc
  rw [h.yl i hi] at ho
  have := h.yb i hi o ho
  rw [getD_lt _ _ (by rw [h.yl i hi]; exact ho)] at this
  omega
theorem Lay.fine (h : Lay N b) (hN : N ≤ 32) : ∀ s ∈ b, inB s.x 1 256 = true ∧ badY s = false := by
  intro s hs
  obtain ⟨i, hi, rfl⟩ := h.at hs
  refine ⟨by rw [h.xs i hi]; simp [inB]; omega, ?_⟩
  unfold badY
  rw [List.any_eq_false]
  intro c hc
  obtain ⟨o, ho, rfl⟩ := List.getElem_of_mem hc
  rw [h.yl i hi] at ho
  have := h.yb i hi o ho
  rw [getD_lt _ _ (by rw [h.yl i hi]; exact ho)] at this
  rw [decide_eq_true_eq]
  omega
theorem Lay.pw (h : Lay N b) : b.Pairwise fun a b => same b a = false := by
  refine List.pairwise_iff_getElem.2 fun i j hi hj hij => ?_
  have hi' : i < N := by rw [← h.len]; exact hi
  have hj' : j < N := by rw [← h.len]; exact hj
  have x1 := h.xs i hi'
  have x2 := h.xs j hj'
  have y1 := h.hs i hi'
  have y2 := h.hs j hj'
  rw [getD_lt b nil hi] at x1 y1
  rw [getD_lt b nil hj] at x2 y2
  unfold same
  rw [x1, x2, y1, y2]
  have e1 : ((i : Int) + 1 == (j : Int) + 1) = false := by simp; omega
  have e2 : (idN i == idN j) = false := by
    rw [beq_eq_false_iff_ne]
    intro e
    have := idN_inj e
    omega
  rw [e1, e2]; rfl
theorem Lay.each (h : Lay N b) (hN : N ≤ 32) : eachE b = 0 := each_pw b (h.fine hN) h.pw
theorem Lay.each_sub (h : Lay N b) (hN : N ≤ 32) {a : List Sh} (hs : a.Sublist b) : eachE a = 0 := each_pw a (fun s hm => h.fine hN s (hs.subset hm)) (List.Pairwise.sublist hs h.pw)
end
/-- the shares of a secret -/
def shs (P : Nat → List Int) (N : Nat) : List Sh := onAll P (plcAll (hsN N))
theorem shs_length (P : Nat → List Int) (N : Nat) : (shs P N).length = N := by unfold shs; rw [onAll_length, plcAll_length, hsN_length]
theorem shs_get (P : Nat → List Int) {N i : Nat} (hi : i < N) : (shs P N).getD i nil = shI P (hsN N) i := by unfold shs; rw [shI_get P (hsN N) (by rw [hsN_length]; exact hi)]
theorem shs_lay (P : Nat → List Int) (N : Nat) : Lay N (shs P N) := by
  refine ⟨shs_length P N, fun i hi => ?_, fun i hi => ?_, fun i hi => ?_, fun i hi o ho => ?_⟩
  · rw [shs_get P hi, shI_x]
  · rw [shs_get P hi, shI_h, hsN_getD hi]
  · rw [shs_get P hi]; exact st.fillTo_length _ _ _ (by omega)
  · rw [shs_get P hi, shI_y P _ i o ho]; omega
theorem shs_on (P : Nat → List Int) (N : Nat) : OnP P (shs P N) := by
  intro s hs o ho
  obtain ⟨i, hi, rfl⟩ := (shs_lay P N).at hs
  rw [shs_get P hi, shI_y P _ i o ho, shI_x]
theorem says_S {secret : List Int} {m : Nat} (hm : 1 ≤ m) (hc : secret.length = 32) (hco : st.Octs secret) (seed : List Int) : Says (polyS secret m seed) m secret := by
  refine ⟨fun o => polyS_len secret hm seed o, hc, hco, fun o ho => ?_⟩
  show ev (secret.getD o 0 :: _) 0 % 257 = _
  rw [ev_at0]
  have h : 0 ≤ secret.getD o 0 ∧ secret.getD o 0 ≤ 255 := hco.getD o
  omega
/-- fewer shares fit every secret -/
theorem few_fit {N m : Nat} {b : List Sh} (h : Lay N b) (hN : N ≤ 32) (hm : 1 ≤ m) (hmN : m ≤ N) (s : List Int) : sharesE true (m : Int) (b.take (m - 1)) = 0 ∧ fitR (m : Int) (b.take (m - 1)) s = true := by
  have he := h.each_sub hN (List.take_sublist (m - 1) b)
  have hl : (b.take (m - 1)).length = m - 1 := by rw [List.length_take, h.len]; omega
  have hE : sharesE true (m : Int) (b.take (m - 1)) = 0 := by
    unfold sharesE
    rw [if_neg (by simp [inB]; omega), if_neg (by simp), if_neg (by omega), he]
  refine ⟨hE, ?_⟩
  unfold fitR
  rw [if_pos hE, Int.toNat_natCast]
  unfold agreeB
  rw [List.drop_of_length_le (by rw [List.length_cons, hl]; omega)]
  rfl
/-- renewed shares -/
theorem renAll_get (f : Nat → List Int) (l : List Sh) {i : Nat} (hi : i < l.length) : (renAll f l).getD i nil = renSh f (l.getD i nil) := by simp [renAll, List.getD_eq_getElem?_getD, hi]
theorem ren_lay {N : Nat} {b : List Sh} (h : Lay N b) (f : Nat → List Int) : Lay N (renAll f b) := by
  have hb := h.len
  refine ⟨by unfold renAll; rw [List.length_map]; exact hb, fun i hi => ?_, fun i hi => ?_, fun i hi => ?_, fun i hi o ho => ?_⟩
  · rw [renAll_get f b (by omega)]; exact h.xs i hi
  · rw [renAll_get f b (by omega)]; exact h.hs i hi
  · rw [renAll_get f b (by omega)]; exact st.fillTo_length _ _ _ (by omega)
  · rw [renAll_get f b (by omega)]
    have e : (renSh f (b.getD i nil)).y.getD o 0 = renV f (b.getD i nil) o := shTo_y _ _ _ o ho
    rw [e]; unfold renV; omega
theorem ren_on {P f : Nat → List Int} {b : List Sh} (h : OnP P b) : OnP (fun o => addZ (P o) (f o)) (renAll f b) := by
  intro s hs o ho
  obtain ⟨t, ht, rfl⟩ := List.mem_map.1 hs
  have e : (renSh f t).y.getD o 0 = renV f t o := shTo_y _ _ _ o ho
  have ex : (renSh f t).x = t.x := rfl
  rw [e, ex, ev_addZ]
  unfold renV vals
  rw [h t ht o ho]
  omega
theorem ren_says {P : Nat → List Int} {m : Nat} {s : List Int} (h : Says P m s) (hm : 1 ≤ m) (seed : List Int) : Says (fun o => addZ (P o) (polyZ m seed o)) m s := by
  refine ⟨fun o => ?_, h.len, h.oct, fun o ho => ?_⟩
  · rw [addZ_length]
    have := h.le o
    have := polyZ_len hm seed o
    omega
  · rw [ev_addZ]
    have e : ev (polyZ m seed o) 0 = 0 := ev_at0 _ _
    rw [e, Int.add_zero, h.at0 o ho]
/-- a share that is added -/
def id100 : List Int := 100 :: List.replicate 15 0
theorem id100_ne {i : Nat} (h : i ≤ 32) : idN i ≠ id100 := by
  unfold idN id100
  intro e
  have := (List.cons.inj e).1
  omega
theorem add_ok {N m : Nat} {b : List Sh} (h : Lay N b) (hN : N ≤ 32) (hm : 1 ≤ m) (hmN : m ≤ N) : addE (m : Int) b id100 200 = 0 := by
  unfold addE
  rw [if_neg (by rw [on_sharesE hm (by rw [h.len]; exact hmN) (by rw [h.len]; exact hN) (h.each hN)]; decide), if_neg (by decide), if_neg]
  rw [Bool.not_eq_true, List.any_eq_false]
  intro t ht
  obtain ⟨i, hi, rfl⟩ := h.at ht
  unfold shr.hit
  rw [h.xs i hi, h.hs i hi]
  have e1 : ((i : Int) + 1 == 200) = false := by simp; omega
  have e2 : (idN i == id100) = false := by rw [beq_eq_false_iff_ne]; exact id100_ne (by omega)
  rw [e1, e2]; decide
theorem add_on {N m : Nat} {b : List Sh} {P : Nat → List Int} {s : List Int} (hP : Says P m s) (h : Lay N b) (hN : N ≤ 32) (hm : 1 ≤ m) (hmN : m ≤ N) (hon : OnP P b) (o : Nat) (ho : o < 32) : (addS (m : Int) b id100 200).y.getD o 0 = ev (P o) 200 % 257 ∧ (addS (m : Int) b id100 200).x = 200 ∧ (addS (m : Int) b id100 200).h = id100 := by
  unfold addS
  rw [if_pos (add_ok h hN hm hmN), Int.toNat_natCast]
  refine ⟨?_, rfl, rfl⟩
  rw [shTo_y _ _ _ o ho, on_val hP.le (by rw [List.length_take, h.len]; omega) ((good_of b (h.ok hN) (h.each hN)).take m) (fun t ht => hon t (List.mem_of_mem_take ht)) o ho]
theorem add_okS {N m : Nat} {b : List Sh} {P : Nat → List Int} {s : List Int} (hP : Says P m s) (h : Lay N b) (hN : N ≤ 32) (hm : 1 ≤ m) (hmN : m ≤ N) : (addS (m : Int) b id100 200).Ok := by
  unfold addS
  rw [if_pos (add_ok h hN hm hmN), Int.toNat_natCast]
  exact shTo_ok (by simp [id100]) (by decide) (by decide) (fun o => by have := valAt_range (b.take m) o 200; omega) (by decide)
/-- behind the first, with the one that was added: the secret -/
theorem add_combine {N m : Nat} {b : List Sh} {P : Nat → List Int} {s : List Int} (hP : Says P m s) (h : Lay N b) (hN : N ≤ 32) (hm : 1 ≤ m) (hmN : m ≤ N) (hon : OnP P b) : combineK (m : Int) (b.drop 1 ++ [addS (m : Int) b id100 200]) = s ∧ combineE (m : Int) (b.drop 1 ++ [addS (m : Int) b id100 200]) = 0 := by
  obtain ⟨a, ha⟩ : ∃ a, a = addS (m : Int) b id100 200 := ⟨_, rfl⟩
  have h1 := fun o ho => add_on hP h hN hm hmN hon o ho
  have hok := add_okS hP h hN hm hmN
  rw [← ha] at h1 hok ⊢
  have hx : a.x = 200 := (h1 0 (by decide)).2.1
  have hh : a.h = id100 := (h1 0 (by decide)).2.2
  have hl : (b.drop 1 ++ [a]).length = N := by rw [List.length_append, List.length_drop, h.len]; simp; omega
  refine on_combine hP hm (by omega) (by omega) ?_ (each_pw _ ?_ ?_) ?_
  · intro t ht
    rcases List.mem_append.1 ht with ht | ht
    · exact h.ok hN t (List.mem_of_mem_drop ht)
    · rw [List.mem_singleton.1 ht]; exact hok
  · intro t ht
    rcases List.mem_append.1 ht with ht | ht
    · exact h.fine hN t (List.mem_of_mem_drop ht)
    · rw [List.mem_singleton.1 ht, hx]
      refine ⟨by decide, ?_⟩
      unfold badY
      rw [List.any_eq_false]
      intro c hc
      obtain ⟨o, ho, rfl⟩ := List.getElem_of_mem hc
      rw [hok.yl] at ho
      have := (h1 o ho).1
      rw [getD_lt _ _ (by rw [hok.yl]; exact ho)] at this
      rw [this]
      simp
      omega
  · refine List.pairwise_append.2 ⟨List.Pairwise.sublist (List.drop_sublist 1 b) h.pw, List.pairwise_singleton _ _, ?_⟩
    intro t ht u hu
    rw [List.mem_singleton.1 hu]
    obtain ⟨i, hi, rfl⟩ := h.at (List.mem_of_mem_drop ht)
    unfold same
    rw [h.xs i hi, h.hs i hi, hx, hh]
    have e1 : ((i : Int) + 1 == 200) = false := by simp; omega
    have e2 : (idN i == id100) = false := by rw [beq_eq_false_iff_ne]; exact id100_ne (by omega)
    rw [e1, e2]; rfl
  · intro t ht o ho
    rcases List.mem_append.1 ht with ht | ht
    · exact hon t (List.mem_of_mem_drop ht) o ho
    · rw [List.mem_singleton.1 ht, hx]; exact (h1 o ho).1
theorem filter_le : ∀ (A ks : List Nat), A.Nodup → (∀ x ∈ A, x ∈ ks) → A.length ≤ ks.length
  | [], ks, _, _ => Nat.zero_le _
  | a :: A, ks, hn, hs => by
    have ha : a ∈ ks := hs a (List.mem_cons_self ..)
    obtain ⟨h1, h2⟩ := List.nodup_cons.1 hn
    have := filter_le A (ks.erase a) h2 (fun x hx => (List.mem_erase_of_ne (fun e => h1 (by rw [← e]; exact hx))).2 (hs x (List.mem_cons_of_mem _ hx)))
    rw [List.length_erase_of_mem ha] at this
    have h0 := List.length_pos_of_mem ha
    rw [List.length_cons]
    omega
/-- shares of which some were bent -/
structure Bent (N : Nat) (P : Nat → List Int) (ks : List Nat) (b : List Sh) : Prop where
  lay : Lay N b
  lt : ∀ k ∈ ks, k < N
  good : ∀ i, i < N → i ∉ ks → ∀ o, o < 32 → (b.getD i nil).y.getD o 0 = ev (P o) ((i : Int) + 1) % 257
  bad : ∀ i, i ∈ ks → ∃ o, o < 32 ∧ (b.getD i nil).y.getD o 0 ≠ ev (P o) ((i : Int) + 1) % 257
theorem bent_mend {N m : Nat} {P : Nat → List Int} {ks : List Nat} {b : List Sh} {s : List Int} (hP : Says P m s) (hm : 1 ≤ m) (hmN : m ≤ N) (hN : N ≤ 32) (h : Bent N P ks b) (hks : ks.length ≤ (N - m) / 2) : mendE (m : Int) b = 0 ∧ mendK (m : Int) b = s ∧ mendB (m : Int) b = ((List.range N).filter fun i => ks.contains i).map fun i => b.getD i nil := by
  have hlen := h.lay.len
  have hok := h.lay.ok hN
  have hE : sharesE false (m : Int) b = 0 := on_sharesE hm (by omega) (by omega) (h.lay.each hN)
  have hg := good_of b hok (h.lay.each hN)
  have hp : ∀ o, o < 32 → ∃ p, polyM m b o = some p ∧ ∀ t, ev p t % 257 = ev (P o) t % 257 := by
    intro o ho
    have hbad : (badN (P o ++ List.replicate (m - (P o).length) 0) (xsOf b) (ysOf b o)).length ≤ (N - m) / 2 := by
      refine Nat.le_trans (filter_le _ ks ?_ ?_) hks
      · unfold badN; exact List.Pairwise.filter _ List.nodup_range
      · intro i hi
        unfold badN at hi
        rw [List.mem_filter, List.mem_range, xsOf_length, hlen] at hi
        obtain ⟨hi1, hi2⟩ := hi
        refine Classical.byContradiction fun hc => ?_
        have hgd := h.good i hi1 hc o ho
        rw [xsOf_getD b i (by omega), ysOf_getD b o i (by omega), ev_pad, h.lay.xs i hi1, hgd] at hi2
        simp at hi2
    obtain ⟨p, h1, h2⟩ := mend_ok (need := m) (wr := (N - m) / 2) hm (by rw [List.length_append, List.length_replicate]; have := hP.le o; omega) hg.ap (by rw [xsOf_length]; omega) hbad
    refine ⟨p, by unfold polyM; rw [hlen]; exact h1, fun t => ?_⟩
    have := ev_cgL _ _ t h2
    rw [ev_pad] at this
    exact this
  have hF : ∀ o, o < 32 → ∀ t, vF (mendF m b) o t = ev (P o) t % 257 := by
    intro o ho t
    obtain ⟨p, h1, h2⟩ := hp o ho
    unfold vF mendF
    rw [h1]
    exact h2 t
  have hall : allM m b 32 = true := by
    unfold allM
    rw [List.all_eq_true]
    intro o ho
    obtain ⟨p, h1, _⟩ := hp o (by simpa using ho)
    rw [h1]; rfl
  have hlies : ∀ i, i < N → liesF (mendF m b) (b.getD i nil) = !ks.contains i := by
    intro i hi
    by_cases hk : i ∈ ks
    · obtain ⟨o, ho, hne⟩ := h.bad i hk
      rw [liesF_false _ _ o ho (by rw [hF o ho, h.lay.xs i hi]; exact fun e => hne e.symm)]
      simp [hk]
    · have : liesF (mendF m b) (b.getD i nil) = true := by
        unfold liesF liesFTo
        rw [List.all_eq_true]
        intro o ho
        have ho' : o < 32 := by simpa using ho
        rw [hF o ho', h.lay.xs i hi, h.good i hi hk o ho']
        simp
      rw [this]
      simp [hk]
  have hflt : fltF (mendF m b) = false := flt_not _ fun o ho => by
    rw [hF o ho, hP.at0 o ho]
    have := hP.bd o
    omega
  have hli : liarsF (mendF m b) b = ((List.range N).filter fun i => ks.contains i).map fun i => b.getD i nil := by
    have e : b = (List.range N).map (fun i => b.getD i nil) := by rw [← hlen, range_map_getD]
    unfold liarsF
    rw [show b.filter (fun s => !liesF (mendF m b) s) = ((List.range N).map (fun i => b.getD i nil)).filter (fun s => !liesF (mendF m b) s) by rw [← e], List.filter_map]
    congr 1
    refine List.filter_congr fun i hi => ?_
    show (!liesF (mendF m b) (b.getD i nil)) = ks.contains i
    rw [hlies i (List.mem_range.1 hi), Bool.not_not]
  have hlil : (liarsF (mendF m b) b).length ≤ (N - m) / 2 := by
    rw [hli, List.length_map]
    refine Nat.le_trans (filter_le _ ks (List.Pairwise.filter _ List.nodup_range) ?_) hks
    intro x hx
    simpa using (List.mem_filter.1 hx).2
  have hme : mendE (m : Int) b = 0 := by
    unfold mendE keyE
    rw [hE, if_neg (fun h => h rfl), Int.toNat_natCast, hall, if_neg (by decide), hlen, if_neg (by omega), hflt, if_neg (by decide)]
  refine ⟨hme, ?_, ?_⟩
  · unfold mendK keyF
    rw [if_pos hme, Int.toNat_natCast, hflt, if_neg (by decide)]
    apply List.ext_getElem
    · simp [hP.len]
    · intro i h1 h2
      simp only [List.length_map, List.length_range] at h1
      rw [List.getElem_map, List.getElem_range, hF i h1, hP.at0 i h1, getD_lt _ _ (by have := hP.len; omega)]
  · unfold mendB
    rw [if_pos hme, Int.toNat_natCast, hli]
theorem picked_sorted (N : Nat) (ks : List Nat) : ((List.range N).filter fun i => ks.contains i).Pairwise (· < ·) := List.Pairwise.filter _ List.pairwise_lt_range
end Go.Proofs.Ytbjmadcbhkeenaa.gs
namespace Go.Proofs.Ytbjmadcbhkeenaa.gs
open Go.RowKit Go.Proofs.Ytbjmadcbhkeenaa.Fld Go.Proofs.Ytbjmadcbhkeenaa.sh Go.Proofs.Ytbjmadcbhkeenaa.shr Go.Proofs.Ytbjmadcbhkeenaa.cm
set_option linter.unusedSimpArgs false
set_option linter.unusedVariables false
theorem cmp_idN (a b : Nat) : cmpL (idN a) (idN b) = if a < b then -1 else if b < a then 1 else 0 := by
  unfold idN
  rw [cmpL]
  by_cases h1 : a < b
  · rw [if_pos (by omega), if_pos h1]
  · rw [if_neg (by omega), if_neg h1]
    by_cases h2 : b < a
    · rw [if_pos (by omega), if_pos h2]
    · rw [if_neg (by omega), if_neg h2]; exact cmpL_refl _
/-- the cells of IDs -/
def flatN (L : List Nat) : List Value := L.flatMap fun k => (idN k).map (Value.int .u8)
theorem flatN_length (L : List Nat) : (flatN L).length = L.length * 16 := by
  unfold flatN
  induction L with
  | nil => rfl
  | cons a L ih => rw [List.flatMap_cons, List.length_append, ih, List.length_map, idN_length, List.length_cons]; omega
theorem flatN_get : ∀ (L : List Nat) (k j : Nat), k < L.length → j < 16 → (flatN L)[k * 16 + j]? = ((idN (L.getD k 0)).map (Value.int .u8))[j]?
  | [], k, j, hk, hj => by cases hk
  | a :: L, 0, j, hk, hj => by
    show ((idN a).map (Value.int .u8) ++ flatN L)[0 * 16 + j]? = _
    rw [List.getElem?_append_left (by rw [List.length_map, idN_length]; omega), show 0 * 16 + j = j by omega]
    rfl
  | a :: L, k + 1, j, hk, hj => by
    show ((idN a).map (Value.int .u8) ++ flatN L)[(k + 1) * 16 + j]? = _
    rw [List.getElem?_append_right (by rw [List.length_map, idN_length]; omega), List.length_map, idN_length, show (k + 1) * 16 + j - 16 = k * 16 + j by omega]
    exact flatN_get L k j (by simpa using hk) hj
theorem flatN_snoc (L : List Nat) (k : Nat) : flatN (L ++ [k]) = flatN L ++ (idN k).map (Value.int .u8) := by unfold flatN; rw [List.flatMap_append]; simp
theorem flatN_ids {N : Nat} {b : List Sh} (h : Lay N b) (L : List Nat) (hL : ∀ k ∈ L, k < N) : flatID (L.map fun i => b.getD i nil) = flatN L := by
  unfold flatID flatN
  rw [List.flatMap_map]
  induction L with
  | nil => rfl
  | cons a L ih =>
    rw [List.flatMap_cons, List.flatMap_cons, ih (fun k hk => hL k (List.mem_cons_of_mem _ hk)), h.hs a (hL a (List.mem_cons_self ..))]
/-- one more share is bent -/
def bendY (s : Sh) (o : Nat) (v : Int) : Sh := ⟨s.h, s.x, s.y.set o v⟩
theorem getD_setS (l : List Sh) (i : Nat) (v : Sh) (m : Nat) (hm : m < l.length) : (l.set i v).getD m nil = if m = i then v else l.getD m nil := by
  simp only [List.getD_eq_getElem?_getD, List.getElem?_set]
  by_cases h : i = m
  · subst h
    simp [hm]
  · rw [if_neg h, if_neg (fun g => h g.symm)]
theorem bendY_y (s : Sh) (o : Nat) (v : Int) (q : Nat) (ho : o < s.y.length) : (bendY s o v).y.getD q 0 = if q = o then v else s.y.getD q 0 := by
  show (s.y.set o v).getD q 0 = _
  simp only [List.getD_eq_getElem?_getD, List.getElem?_set]
  by_cases h : o = q
  · subst h; simp [ho]
  · rw [if_neg h, if_neg (fun g => h g.symm)]
theorem bent_start (P : Nat → List Int) (N : Nat) : Bent N P [] (shs P N) := by
  refine ⟨shs_lay P N, fun k hk => (by cases hk), fun i hi _ o ho => ?_, fun i hi => (by cases hi)⟩
  have h := shs_on P N ((shs P N).getD i nil) (getD_mem _ i (by rw [shs_length]; exact hi)) o ho
  rw [h, (shs_lay P N).xs i hi]
theorem bent_step {N : Nat} {P : Nat → List Int} {ks : List Nat} {b : List Sh} {k o : Nat} {v : Int} (h : Bent N P ks b) (hk : k < N) (hnk : k ∉ ks) (ho : o < 32) (hv : 0 ≤ v ∧ v ≤ 256) (hne : v ≠ (b.getD k nil).y.getD o 0) : Bent N P (ks ++ [k]) (b.set k (bendY (b.getD k nil) o v)) := by
  have hl := h.lay.len
  have hy := h.lay.yl k hk
  have hg : ∀ m, m < N → (b.set k (bendY (b.getD k nil) o v)).getD m nil = if m = k then bendY (b.getD k nil) o v else b.getD m nil := fun m hm => getD_setS b k _ m (by omega)
  refine ⟨⟨by rw [List.length_set]; exact hl, fun i hi => ?_, fun i hi => ?_, fun i hi => ?_, fun i hi q hq => ?_⟩, fun i hi => ?_, fun i hi hni q hq => ?_, fun i hi => ?_⟩
  · rw [hg i hi]
    split
    · rename_i e; rw [e]; exact h.lay.xs k hk
    · exact h.lay.xs i hi
  · rw [hg i hi]
    split
    · rename_i e; rw [e]; exact h.lay.hs k hk
    · exact h.lay.hs i hi
  · rw [hg i hi]
    split
    · show ((b.getD k nil).y.set o v).length = 32
      rw [List.length_set]; exact hy
    · exact h.lay.yl i hi
  · rw [hg i hi]
    split
    · rw [bendY_y _ o v q (by omega)]
      split
      · exact hv
      · exact h.lay.yb k hk q hq
    · exact h.lay.yb i hi q hq
  · rcases List.mem_append.1 hi with hi | hi
    · exact h.lt i hi
    · rw [List.mem_singleton.1 hi]; exact hk
  · rw [List.mem_append, List.mem_singleton] at hni
    rw [hg i hi, if_neg (fun e => hni (Or.inr e))]
    exact h.good i hi (fun e => hni (Or.inl e)) q hq
  · rcases List.mem_append.1 hi with hi | hi
    · have hik : i ≠ k := fun e => hnk (e ▸ hi)
      rw [hg i (h.lt i hi), if_neg hik]
      exact h.bad i hi
    · have e := List.mem_singleton.1 hi
      subst e
      rw [hg i hk, if_pos rfl]
      refine ⟨o, ho, ?_⟩
      rw [bendY_y _ o v o (by omega), if_pos rfl, ← h.good i hk hnk o ho]
      exact hne
theorem bend_ne {y d : Int} (hy : 0 ≤ y ∧ y ≤ 256) (hd : 0 ≤ d ∧ d ≤ 255) : (0 ≤ (y + 1 + d) % 257 ∧ (y + 1 + d) % 257 ≤ 256) ∧ (y + 1 + d) % 257 ≠ y := by omega
/-- the cells of a bent share -/
theorem bend_flat {N : Nat} {b : List Sh} (h : Lay N b) (hN : N ≤ 32) {k o : Nat} (hk : k < N) (ho : o < 32) (v : Int) : (flatS b).set (k * 49 + (17 + o)) (.int .u16 v) = flatS (b.set k (bendY (b.getD k nil) o v)) := by
  refine flatS_set b (h.ok hN) k (17 + o) (by rw [h.len]; exact hk) (by omega) _ _ ?_
  have hh : (b.getD k nil).h.length = 16 := by rw [h.hs k hk]; exact idN_length k
  unfold Sh.cs bendY
  rw [List.set_append_right _ _ (by rw [List.length_map, hh]; omega), List.length_map, hh, show 17 + o - 16 = o + 1 by omega, List.set_cons_succ, ← List.map_set]
theorem bend_at {N : Nat} {b : List Sh} (h : Lay N b) (hN : N ≤ 32) {k o : Nat} (hk : k < N) (ho : o < 32) : (flatS b)[k * 49 + (17 + o)]? = some (.int .u16 ((b.getD k nil).y.getD o 0)) := by
  rw [flatS_get b (h.ok hN) k (17 + o) (by rw [h.len]; exact hk) (by omega)]
  have hh : (b.getD k nil).h.length = 16 := by rw [h.hs k hk]; exact idN_length k
  have hy := h.yl k hk
  unfold Sh.cs
  rw [List.getElem?_append_right (by rw [List.length_map, hh]; omega), List.length_map, hh, show 17 + o - 16 = o + 1 by omega, List.getElem?_cons_succ, List.getElem?_map, List.getElem?_eq_getElem (by omega), getD_lt' (b.getD k nil).y 0 (by omega)]
  rfl
end Go.Proofs.Ytbjmadcbhkeenaa.gs
namespace Go.Proofs.Ytbjmadcbhkeenaa.gs
open Go.RowKit Go.Proofs.Ytbjmadcbhkeenaa.Fld Go.Proofs.Ytbjmadcbhkeenaa.sh Go.Proofs.Ytbjmadcbhkeenaa.shr
set_option linter.unusedSimpArgs false
set_option linter.unusedVariables false
set_option pp.maxSteps 6000
theorem flatID_get : ∀ (bs : List Sh) (hl : ∀ s ∈ bs, s.h.length = 16) (k j : Nat) (u : Value), k < bs.length → ((bs.getD k nil).h.map (Value.int .u8))[j]? = some u → (flatID bs)[k * 16 + j]? = some u
  | [], hl, k, j, u, hk, h => by simp at hk
  | s :: bs, hl, 0, j, u, hk, h => by
    have hj : j < (s.h.map (Value.int .u8)).length := (List.getElem?_eq_some_iff.1 h).1
    show (s.h.map (Value.int .u8) ++ flatID bs)[0 * 16 + j]? = some u
    rw [show 0 * 16 + j = j by omega, List.getElem?_append_left hj]
    exact h
  | s :: bs, hl, k + 1, j, u, hk, h => by
    have hs : (s.h.map (Value.int .u8)).length = 16 := by rw [List.length_map]; exact hl s List.mem_cons_self
    show (s.h.map (Value.int .u8) ++ flatID bs)[(k + 1) * 16 + j]? = some u
    rw [List.getElem?_append_right (by omega), show (k + 1) * 16 + j - (s.h.map (Value.int .u8)).length = k * 16 + j by omega]
    exact flatID_get bs (fun t ht => hl t (List.mem_cons_of_mem _ ht)) k j u (by simpa using hk) h
theorem rowID_at {w : World} {ao : Option Addr} {bs : List Sh} (h : RowV w ao (flatID bs)) (hl : ∀ s ∈ bs, s.h.length = 16) {k : Nat} (hk : k < bs.length) : ∃ b off, ao = some ⟨b, off, none⟩ ∧ b < w.heap.size ∧ At w ⟨b, off + k * 16, none⟩ ((bs.getD k nil).h.map (Value.int .u8)) := by
  rcases h with h | ⟨g, o, h1, h2, h3⟩
  · have h16 := hl (bs.getD k nil) (getD_mem bs k hk)
    have := flatID_get bs hl k 0 _ hk (List.getElem?_eq_getElem (by rw [List.length_map, h16]; decide))
    rw [h] at this; simp at this
  · refine ⟨g, o, h1, h2, fun j u hu => ?_⟩
    have := h3 (k * 16 + j) u (flatID_get bs hl k j u hk hu)
    rw [addr_add, Nat.add_assoc]; exact this
set_option maxRecDepth 100000 in
theorem equal_ids (ao bo : Option Addr) (c1 c2 n : Nat) (bs : List Sh) (w : World) (hn' : n = bs.length) (h1 : RowV w ao (flatID bs)) (h2 : RowV w bo (flatID bs)) (hl : ∀ s ∈ bs, s.h.length = 16) (hn : n ≤ 1000000) :
    Calls Try.prog 16 #[.slice ao n c1, .slice bo n c2] w fun e w' => e = .returned (.bool true) ∧ Below w.heap.size w w' := by
  have HN := hid hn'
  have HLL := hid hl
  clear hn' hl
  go_enter Try.func16, Try.ntmps16
  go_wp2
  go_loopw [13] (fun i wr => ∃ k : Nat, k ≤ n ∧ i = .int .i64 k ∧ Below w.heap.size w wr) (fun i _ => n - (intOf i).toNat)
  case atStart => exact ⟨0, Nat.zero_le _, rfl, Below.refl _ _⟩
  case round =>
    obtain ⟨k, hk, rfl, hbl⟩ := hrel
    by_cases h0 : k < n
    · obtain ⟨b, off, rfl, hb, hat⟩ := rowID_at (h1.below hbl) HLL.out (k := k) (by rw [← HN.out]; exact h0)
      obtain ⟨b2, off2, rfl, hb2, hat2⟩ := rowID_at (h2.below hbl) HLL.out (k := k) (by rw [← HN.out]; exact h0)
      obtain ⟨I, HI⟩ : ∃ V, Hid (V = (bs.getD k nil).h.map (Value.int .u8)) := ⟨_, rfl⟩
      have h16 := HLL.out _ (getD_mem bs k (by rw [← HN.out]; exact h0))
      have HCL : Hid (I.length = 16) := hid (by rw [HI.out, List.length_map]; exact h16)
      have heq : Hid (∀ w, (Op.equalIn 10000 28 (.agg I.toArray) (.agg I.toArray)).run Try.prog w = .ok true w) := hid (fun w => by
        have := run_equalIn_ints (P := Try.prog) w 9998 28 5 16 .u8 Try.underlying28 Try.underlying5 (fun w => by kernel_rfl) (bs.getD k nil).h (bs.getD k nil).h h16 h16
        rw [← HI.out, beq_self_eq_true] at this
        exact this)
      rw [← HI.out] at hat hat2
      have hkI : (k : Int) < (n : Int) := by omega
      have hkI0 : (0 : Int) ≤ (k : Int) := by omega
      have a1 : At wr.drew ⟨b, off + k * 16, none⟩ I := hat
      have a2 : At wr.drew ⟨b2, off2 + k * 16, none⟩ I := hat2
      clear hat hat2
      go_wp2_with fail
      refine wp_region_still_tail 8 (by kernel_rfl) (by kernel_rfl) ?_
      simp only [List.take_succ_cons, List.take_zero, List.drop_succ_cons, List.drop_zero]
      change wpStill _ _ wr.drew (fun a' => wpList _ _ _ _ a' wr.drew) _ _
      iterate 3 still_step
      refine still_load (by kernel_rfl) 28 _ rfl ⟨b, off + k * 16, none⟩ rfl 16 I HCL.out aggI a1 ?_
      iterate 3 still_step
      refine still_load (by kernel_rfl) 28 _ rfl ⟨b2, off2 + k * 16, none⟩ rfl 16 I HCL.out aggI a2 ?_
      refine wpStill_nil ?_
      go_wp2_with (refine wl_neqD 24 rfl (by kernel_rfl) 28 _ _ _ rfl I.toArray I.toArray rfl rfl true (heq.out _) (by kernel_rfl) false rfl ?_)
      go_roundw
      case rel => exact ⟨k + 1, by omega, by go_num, hbl.drew⟩
      case measure => simp [intOf] <;> omega
    · go_wp2
      go_ret
      exact ⟨rfl, hbl⟩
end Go.Proofs.Ytbjmadcbhkeenaa.gs
