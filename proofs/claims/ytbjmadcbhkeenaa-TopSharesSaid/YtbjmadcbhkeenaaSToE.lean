/-
  TopShares: the callees, as the law needs them. Conditions: shares of the holders 1 to N, N at most 7. slices.SortFunc at IDs: what comes out is in order, of the same IDs. Conditions: IDs of 16 octets, a row of one's own, a function that compares as bytes.Compare does. TopShares: slices.SortFunc at its IDs: the library's contract laid, the function that compares. Conditions: as the contract says.
-/
import Derived.Test.YtbjmadcbhkeenaaSToC
import Derived.Test.YtbjmadcbhkeenaaSSpB
import Derived.Test.YtbjmadcbhkeenaaSGsK
import Derived.Shelf.SlSortCmp.NoneTotal
namespace Go.Proofs.Ytbjmadcbhkeenaa.gs
open Go.RowKit Go.Proofs.Ytbjmadcbhkeenaa.Fld Go.Proofs.Ytbjmadcbhkeenaa.sh Go.Proofs.Ytbjmadcbhkeenaa.shr Go.Proofs.Ytbjmadcbhkeenaa.cm
set_option linter.unusedSimpArgs false
set_option linter.unusedVariables false
set_option pp.maxSteps 6000
section
variable {m N : Nat} (hm : 1 ≤ m) (hmN : m ≤ N) (hN : N ≤ 7)
include hm hmN hN
theorem Split_N (secret seed : List Int) (ao : Option Addr) (cap : Nat) (w : World) (hr : RowV w ao (flatN (List.range N))) (hc : secret.length = 32) (hco : st.Octs secret) (hs : seed.length = 32) (hso : st.Octs seed) :
    Calls Try.prog 5 #[.agg (secret.map (Value.int .u8)).toArray, .int .i64 m, .slice ao N cap, .agg (seed.map (Value.int .u8)).toArray] w fun e w' => ∃ g c, e = .returned (.tuple #[.slice (some ⟨g, 0, none⟩) N c, .int .i64 0]) ∧ w.heap.size ≤ g ∧ N ≤ c ∧ RowB 41 w' g (flatS (shs (polyS secret m seed) N)) ∧ Below w.heap.size w w' := by
  have h := Split_tail secret seed m ao cap (hsN N) w (rowN_H hr) (hsN_ok (by omega)) hc hco hs hso hm (by rw [hsN_length]; exact hmN) (by rw [hsN_length]; omega)
  rw [hsN_length] at h
  refine h.mono fun e w' h => ?_
  have ho := hsN_ord ⟨N, by omega⟩
  simp only [hsN_length] at ho
  obtain ⟨g, c, h1, h2, h3, h4, h5⟩ := h.1 ho
  rw [hsN_length] at h1 h3
  exact ⟨g, c, h1, h2, h3, h4, h5⟩
theorem Fit_N (g c : Nat) (L : List Sh) (HL : Lay N L) (other : List Int) (w : World) (hr : RowV w (some ⟨g, 0, none⟩) (flatS L)) (hc : N ≤ c) (hol : other.length = 32) (hoo : st.Octs other) (k : Nat) (hk : k = m - 1) :
    Calls Try.prog 6 #[.int .i64 m, .slice (some ⟨g, 0, none⟩) k c, .agg (other.map (Value.int .u8)).toArray] w fun e w' => e = .returned (.tuple #[.bool true, .int .i64 0]) ∧ Below w.heap.size w w' := by
  have hok := HL.ok (by omega)
  have hl := HL.len
  have h := Fit_x m (some ⟨g, 0, none⟩) c (L.take (m - 1)) other w ((RowS.of_flat hr hok).take _) (fun s hs => hok s (List.mem_of_mem_take hs)) (by rw [List.length_take]; omega) (by rw [List.length_take]; omega) (fun e => by cases e) hol hoo
  obtain ⟨h1, h2⟩ := few_fit HL (by omega) hm hmN other
  rw [h1, h2, List.length_take, show min (m - 1) L.length = k by omega] at h
  exact h
theorem Renew_N (g c : Nat) (L : List Sh) (HL : Lay N L) (again : List Int) (w : World) (hr : RowV w (some ⟨g, 0, none⟩) (flatS L)) (hol : again.length = 32) (hoo : st.Octs again) :
    Calls Try.prog 7 #[.int .i64 m, .slice (some ⟨g, 0, none⟩) N c, .agg (again.map (Value.int .u8)).toArray] w fun e w' => ∃ g' c', e = .returned (.tuple #[.slice (some ⟨g', 0, none⟩) N c', .int .i64 0]) ∧ w.heap.size ≤ g' ∧ N ≤ c' ∧ RowB 41 w' g' (flatS (renAll (polyZ m again) L)) ∧ Below w.heap.size w w' := by
  have hok := HL.ok (by omega)
  have hl := HL.len
  have h := Renew_ok m (some ⟨g, 0, none⟩) c L again w (RowS.of_flat hr hok) hok hol hoo (on_sharesE hm (by omega) (by omega) (HL.each (by omega)))
  rw [hl] at h
  refine h.mono fun e w' ⟨g', c', h1, h2, h3, h4, h5⟩ => ?_
  rw [hl] at h1 h3
  exact ⟨g', c', h1, h2, h3, h4, h5⟩
theorem Ren_N (g c : Nat) (L : List Sh) (P : Nat → List Int) (secret : List Int) (HP : Says P m secret) (HL : Lay N L) (HO : OnP P L) (again : List Int) (w : World) (hr : RowV w (some ⟨g, 0, none⟩) (flatS (renAll (polyZ m again) L))) (hc : N ≤ c) :
    Calls Try.prog 8 #[.int .i64 m, .slice (some ⟨g, 0, none⟩) N c] w fun e w' => e = .returned (.tuple #[.agg (secret.map (Value.int .u8)).toArray, .int .i64 0]) ∧ Below w.heap.size w w' := by
  have hL := ren_lay HL (polyZ m again)
  have hok := hL.ok (by omega)
  have hl := hL.len
  have h := Combine_x m (some ⟨g, 0, none⟩) c (renAll (polyZ m again) L) w (RowS.of_flat hr hok) hok (by omega) (by omega)
  obtain ⟨h1, h2⟩ := on_combine (ren_says HP hm again) hm (by omega) (by omega) hok (hL.each (by omega)) (ren_on HO)
  rw [h1, h2, hl] at h
  exact h
theorem Add_N (g c : Nat) (L : List Sh) (HL : Lay N L) (w : World) (hr : RowV w (some ⟨g, 0, none⟩) (flatS L)) (hc : N ≤ c) :
    Calls Try.prog 9 #[.int .i64 m, .slice (some ⟨g, 0, none⟩) N c, .agg (id100.map (Value.int .u8)).toArray, .int .i64 200] w fun e w' => e = .returned (.tuple #[.agg (addS m L id100 200).cs.toArray, .int .i64 0]) ∧ Below w.heap.size w w' := by
  have hok := HL.ok (by omega)
  have hl := HL.len
  have h := Add_x m (some ⟨g, 0, none⟩) c L id100 200 w (RowS.of_flat hr hok) hok (by omega) (by omega) (by decide) (by decide) (by omega)
  rw [add_ok HL (by omega) hm hmN, hl] at h
  exact h
theorem Com_N (ao : Option Addr) (c : Nat) (L : List Sh) (P : Nat → List Int) (secret : List Int) (HP : Says P m secret) (HL : Lay N L) (HO : OnP P L) (w : World) (hr : RowV w ao (flatS (L.drop 1 ++ [addS m L id100 200]))) (hc : N ≤ c) :
    Calls Try.prog 8 #[.int .i64 m, .slice ao N c] w fun e w' => e = .returned (.tuple #[.agg (secret.map (Value.int .u8)).toArray, .int .i64 0]) ∧ Below w.heap.size w w' := by
  have hl := HL.len
  have hok : ∀ s ∈ L.drop 1 ++ [addS m L id100 200], s.Ok := by
    intro s hs
    rcases List.mem_append.1 hs with hs | hs
    · exact HL.ok (by omega) s (List.mem_of_mem_drop hs)
    · rw [List.mem_singleton.1 hs]; exact add_okS HP HL (by omega) hm hmN
  have hlen : (L.drop 1 ++ [addS m L id100 200]).length = N := by rw [List.length_append, List.length_drop]; simp; omega
  have h := Combine_x m ao c (L.drop 1 ++ [addS m L id100 200]) w (RowS.of_flat hr hok) hok (by omega) (by omega)
  obtain ⟨h1, h2⟩ := add_combine HP HL (by omega) hm hmN HO
  rw [h1, h2, hlen] at h
  exact h
theorem CloneS_drop (g off c n : Nat) (L : List Sh) (HL : Lay N L) (w : World) (hr : RowV w (some ⟨g, 0, none⟩) (flatS L)) (hn : n = N - 1) (hoff : (off = 49 ∧ 1 < N) ∨ n = 0) :
    Calls Try.prog 10 #[.slice (some ⟨g, off, none⟩) n c] w fun e w' => ∃ v, e = .returned v ∧ Mine w' w.heap.size 41 49 v n (flatS (L.drop 1)) ∧ Below w.heap.size w w' := by
  have hok := HL.ok (by omega)
  have hl := HL.len
  have hrS : RowS w (some ⟨g, off, none⟩) (L.drop 1) := by
    rcases hoff with ⟨rfl, h1⟩ | h0
    · have := RowS.drop (RowS.of_flat hr hok) 1 (by omega)
      simpa using this
    · exact Or.inl (List.eq_nil_of_length_eq_zero (by rw [List.length_drop]; omega))
  exact CloneS_any (some ⟨g, off, none⟩) n c (L.drop 1) w (by rw [List.length_drop]; omega) hrS (fun s hs => hok s (List.mem_of_mem_drop hs)) (fun e => by cases e) (by omega)
theorem CloneS_N (g c : Nat) (L : List Sh) (HL : Lay N L) (w : World) (hr : RowV w (some ⟨g, 0, none⟩) (flatS L)) :
    Calls Try.prog 10 #[.slice (some ⟨g, 0, none⟩) N c] w fun e w' => ∃ g' c', e = .returned (.slice (some ⟨g', 0, none⟩) N c') ∧ w.heap.size ≤ g' ∧ N ≤ c' ∧ RowB 41 w' g' (flatS L) ∧ Below w.heap.size w w' := by
  have hok := HL.ok (by omega)
  have hl := HL.len
  refine (CloneS_any (some ⟨g, 0, none⟩) N c L w hl.symm (RowS.of_flat hr hok) hok (fun e => by cases e) (by omega)).mono fun e w' ⟨v, h1, h2, h3⟩ => ?_
  obtain ⟨ao, c', rfl, h4, _⟩ := h2.row
  obtain ⟨g', rfl, h5, h6, h7⟩ := rowOf h2 (by omega)
  exact ⟨g', c', h1, h5, h6, h7, h3⟩
theorem Mend_N (g c : Nat) (b : List Sh) (ks : List Nat) (P : Nat → List Int) (secret : List Int) (HP : Says P m secret) (HB : Bent N P ks b) (hks : ks.length ≤ (N - m) / 2) (w : World) (hr : RowV w (some ⟨g, 0, none⟩) (flatS b)) :
    Calls Try.prog 12 #[.int .i64 m, .slice (some ⟨g, 0, none⟩) N c] w fun e w' => ∃ ao c', e = .returned (.tuple #[.agg (secret.map (Value.int .u8)).toArray, .slice ao ((List.range N).filter fun i => ks.contains i).length c', .int .i64 0]) ∧ Mine w' w.heap.size 28 16 (.slice ao ((List.range N).filter fun i => ks.contains i).length c') ((List.range N).filter fun i => ks.contains i).length (flatID (((List.range N).filter fun i => ks.contains i).map fun i => b.getD i nil)) ∧ Below w.heap.size w w' := by
  have hok := HB.lay.ok (by omega)
  have hl := HB.lay.len
  refine (Mend_any m (some ⟨g, 0, none⟩) c N b w hl.symm (RowS.of_flat hr hok) hok (by omega)).mono fun e w' ⟨h1, v, h2, h3⟩ => ?_
  obtain ⟨a1, a2, a3⟩ := bent_mend HP hm hmN (by omega) HB hks
  rw [a1, a2] at h2
  rw [a3, List.length_map] at h3
  obtain ⟨ao, c', rfl, _, _⟩ := h3.row
  exact ⟨ao, c', h2, h3, h1⟩
end
theorem perm_ord {α : Type} (R : α → α → Prop) (hR : ∀ a b, R a b → R b a → a = b) : ∀ a b : List α, a.Perm b → a.Pairwise R → b.Pairwise R → a = b
  | [], b, h, _, _ => (List.nil_perm.1 h).symm
  | x :: a, [], h, _, _ => by have := h.length_eq; simp at this
  | x :: a, y :: b, h, ha, hb => by
    obtain ⟨h1, h2⟩ := List.pairwise_cons.1 ha
    obtain ⟨h3, h4⟩ := List.pairwise_cons.1 hb
    have hxy : x = y := by
      have hx := h.mem_iff.1 (List.mem_cons_self (a := x) (l := a))
      have hy := h.mem_iff.2 (List.mem_cons_self (a := y) (l := b))
      rcases List.mem_cons.1 hx with e | hx
      · exact e
      · rcases List.mem_cons.1 hy with e | hy
        · exact e.symm
        · exact hR _ _ (h1 _ hy) (h3 _ hx)
    subst hxy
    rw [perm_ord R hR a b h.cons_inv h2 h4]
theorem picked_perm {N : Nat} {ks : List Nat} (hn : ks.Nodup) (hl : ∀ k ∈ ks, k < N) : ((List.range N).filter fun i => ks.contains i).Perm ks := by
  refine (List.perm_ext_iff_of_nodup (List.Pairwise.filter _ List.nodup_range) hn).2 fun x => ?_
  rw [List.mem_filter, List.mem_range]
  constructor
  · intro h; simpa using h.2
  · intro h; exact ⟨hl x h, by simpa using h⟩
end Go.Proofs.Ytbjmadcbhkeenaa.gs
namespace Go.Proofs.Ytbjmadcbhkeenaa.srt
open Go.Shelf Go.RowKit Go.Lib Go.Sort Go.Proofs.Ytbjmadcbhkeenaa.cm Go.Proofs.Ytbjmadcbhkeenaa.shr Go.Proofs.Ytbjmadcbhkeenaa.sh
set_option linter.unusedSimpArgs false
set_option linter.unusedVariables false
set_option pp.maxSteps 6000
abbrev IDT := {h : List Int // IdOk h}
instance : Inhabited IDT := ⟨⟨List.replicate 16 0, by simp, fun c hc => by rw [List.eq_of_mem_replicate hc]; decide⟩⟩
def encI (x : IDT) : List Value := x.1.map (Value.int .u8)
theorem encI_len (x : IDT) : (encI x).length = 16 := by unfold encI; rw [List.length_map]; exact x.2.1
theorem encI_one (x : IDT) : ∀ v ∈ encI x, v.oneCell' = true := by
  intro v hv
  obtain ⟨c, _, rfl⟩ := List.mem_map.1 hv
  rfl
def cfI (x y : IDT) : Int := cm.cmpL x.1 y.1
theorem cmpL_zero : ∀ a b : List Int, cm.cmpL a b = 0 → a = b
  | [], [], _ => rfl
  | [], z :: c, h => by rw [cmpL_nc] at h; cases h
  | z :: c, [], h => by rw [cmpL_cn] at h; cases h
  | x :: a, y :: b, h => by
    rw [cm.cmpL] at h
    split at h
    · cases h
    · split at h
      · cases h
      · rw [cmpL_zero a b h, show x = y by omega]
theorem swoI : SWO (ltOf cfI) where
  irrefl x := by unfold ltOf cfI; rw [cmpL_refl]; rfl
  trans x y z h1 h2 := by
    unfold ltOf cfI at *
    rw [decide_eq_true_eq] at *
    exact cmpL_trans _ _ _ h1 h2
  ntrans x y z h1 h2 := by
    unfold ltOf cfI at *
    rw [decide_eq_false_iff_not] at *
    intro h3
    have a1 := cmpL_anti x.1 y.1
    have a2 := cmpL_anti y.1 z.1
    by_cases h0 : cm.cmpL x.1 y.1 = 0
    · rw [cmpL_zero _ _ h0] at h3; exact h2 h3
    · have := cmpL_trans y.1 x.1 z.1 (by omega) h3
      exact h2 this
/-- the cells of IDs -/
def flatL (l : List (List Int)) : List Value := l.flatMap fun h => h.map (Value.int .u8)
theorem flatL_cons (h : List Int) (l : List (List Int)) : flatL (h :: l) = h.map (Value.int .u8) ++ flatL l := rfl
theorem flatL_length : ∀ (l : List (List Int)), (∀ s ∈ l, IdOk s) → (flatL l).length = l.length * 16
  | [], _ => rfl
  | h :: l, hl => by
    rw [flatL_cons, List.length_append, flatL_length l (fun s hs => hl s (List.mem_cons_of_mem _ hs)), List.length_map, (hl h (List.mem_cons_self ..)).1, List.length_cons]
    omega
theorem flatL_get : ∀ (l : List (List Int)), (∀ s ∈ l, IdOk s) → ∀ (k j : Nat), k < l.length → j < 16 → (flatL l)[k * 16 + j]? = ((l.getD k []).map (Value.int .u8))[j]?
  | [], _, k, j, hk, hj => by cases hk
  | h :: l, hl, 0, j, hk, hj => by
    have h16 : (h.map (Value.int .u8)).length = 16 := by rw [List.length_map]; exact (hl h (List.mem_cons_self ..)).1
    rw [flatL_cons, List.getElem?_append_left (by omega), show 0 * 16 + j = j by omega]
    rfl
  | h :: l, hl, k + 1, j, hk, hj => by
    have h16 : (h.map (Value.int .u8)).length = 16 := by rw [List.length_map]; exact (hl h (List.mem_cons_self ..)).1
    rw [flatL_cons, List.getElem?_append_right (by omega), h16, show (k + 1) * 16 + j - 16 = k * 16 + j by omega]
    exact flatL_get l (fun s hs => hl s (List.mem_cons_of_mem _ hs)) k j (by simpa using hk) hj
/-- a list of IDs, each with its form -/
def toD (l : List (List Int)) (hok : ∀ s ∈ l, IdOk s) : Array IDT := (l.attachWith IdOk hok).toArray
theorem toD_size (l : List (List Int)) (hok) : (toD l hok).size = l.length := by simp [toD]
def ofD (d : Array IDT) : List (List Int) := d.toList.map Subtype.val
theorem ofD_toD (l : List (List Int)) (hok) : ofD (toD l hok) = l := by simp [ofD, toD, List.attachWith_map_subtype_val]
theorem ofD_ok (d : Array IDT) : ∀ s ∈ ofD d, IdOk s := by
  intro s hs
  obtain ⟨x, _, rfl⟩ := List.mem_map.1 hs
  exact x.2
theorem ofD_length (d : Array IDT) : (ofD d).length = d.size := by simp [ofD]
theorem ofD_get (d : Array IDT) (k : Nat) (hk : k < d.size) : (ofD d).getD k [] = d[k]!.1 := by
  rw [getElem!_pos d k hk]
  simp [ofD, List.getD_eq_getElem?_getD, hk]
theorem flat_cell (d : Array IDT) (t : Nat) (ht : t < d.size * 16) : (flatL (ofD d))[t]? = some (flatK encI 16 d)[t]! := by
  have hq : t / 16 < d.size := by omega
  have e : t = t / 16 * 16 + t % 16 := by omega
  rw [get_flatK _ _ _ _ ht]
  conv => lhs; rw [e]
  rw [flatL_get _ (ofD_ok d) (t / 16) (t % 16) (by rw [ofD_length]; exact hq) (by omega), ofD_get d _ hq]
  have hl := encI_len d[t / 16]!
  rw [getElem!_pos (encI d[t / 16]!) (t % 16) (by omega)]
  show (encI d[t / 16]!)[t % 16]? = _
  rw [List.getElem?_eq_getElem (by omega)]
theorem grown_sort (w : World) (g off n : Nat) (d : Array IDT) (os : Array Obj) : w.grownBy (sortWorldK encI 16 w g off n d os) (some g) := by
  refine ⟨rfl, rfl, rfl, size_sortWorldK_c encI 16 w g off n d os, fun i hi hne => ?_⟩
  unfold sortWorldK grow putRowK putRow mapBlock
  have h1 : (((Sort.ahead w n).heap.modify g (onCells (putCells id off (flatK encI 16 d)))) ++ os)[i]? = ((Sort.ahead w n).heap.modify g (onCells (putCells id off (flatK encI 16 d))))[i]? := by
    rw [Array.getElem?_append_left (by simpa using hi)]
  show (((Sort.ahead w n).heap.modify g (onCells (putCells id off (flatK encI 16 d)))) ++ os)[i]? = _
  rw [h1, Array.getElem?_modify, if_neg (fun e => hne (by rw [e]))]
  rfl
theorem perm_of (d d' : Array IDT) (h : PermIn 0 d.size d d') : (ofD d').Perm (ofD d) := by
  have h3 := h.2.2
  have e1 : d'.extract 0 d.size = d' := by rw [← h.1]; simp
  have e2 : d.extract 0 d.size = d := by simp
  rw [e1, e2] at h3
  exact h3.map _
theorem sorted_of (d : Array IDT) (m : Nat) (hm : m = d.size) (h : SortedIn (ltOf cfI) 0 m d) : (ofD d).Pairwise fun a b => cm.cmpL a b ≤ 0 := by
  subst hm
  refine List.pairwise_iff_getElem.2 fun i j hi hj hij => ?_
  rw [ofD_length] at hi hj
  have h1 := h i j (Nat.zero_le _) hij hj
  unfold ltOf cfI at h1
  rw [decide_eq_false_iff_not, ← ofD_get d i hi, ← ofD_get d j hj] at h1
  have a1 := cmpL_anti ((ofD d).getD i []) ((ofD d).getD j [])
  rw [getD_lt' (i := i) (ofD d) [] (by rw [ofD_length]; exact hi), getD_lt' (i := j) (ofD d) [] (by rw [ofD_length]; exact hj)] at a1 h1
  omega
theorem SortFunc_ids {P : Program} {ρ : Ren} (L : SlLaysF0.n6 P ρ) (aE : ∀ w, (isAgg (ρ.t 24)).run P w = .ok true w) (zE : ∀ w, (Go.sizeOf (ρ.t 24)).run P w = .ok 16 w) (G : Nat) (eg : ∀ args w, (callFunc G args).run P w = .ok (.enter G args) w)
    (hG : ∀ (x y : IDT) (W : World), Calls P G #[.agg (encI x).toArray, .agg (encI y).toArray] W fun e w' => e = .returned (.int .i64 (cfI x y)) ∧ ∃ q os', w' = grow (W.drewN q) os')
    (t : TypeId) (ao : Option Addr) (n cap : Nat) (l : List (List Int)) (hok : ∀ s ∈ l, IdOk s) (w : World) (base : Nat) (h : w.ownsRow base t 16 (.slice ao n cap) n (flatL l)) (hn : n = l.length) (hlt : n < 4611686018427387904) :
    Calls P (ρ.f 6) #[.slice ao n cap, .func (.func G) #[] #[]] w fun e w' => e = .returned (.tuple #[]) ∧ ∃ l', l'.Perm l ∧ (l'.Pairwise fun a b => cm.cmpL a b ≤ 0) ∧ RowV w' ao (flatL l') ∧ w.grownBy w' (Value.slice ao n cap).ownBlock := by
  by_cases h0 : n = 0
  · subst h0
    have hl : l = [] := List.eq_nil_of_length_eq_zero hn.symm
    subst hl
    refine (AnyF.slices_SortFunc_none L ao cap _ w).mono fun e w' ⟨he, hw⟩ => ?_
    subst hw
    exact ⟨he, [], List.Perm.refl _, List.Pairwise.nil, Or.inl rfl, grown_refl _ _⟩
  · obtain ⟨hlen, h | ⟨g, cap', cur, hv, hg, hh, h1, h2, h3, h4⟩⟩ := h
    · exact absurd h.2 h0
    · cases hv
      have hgl : g < w.heap.size := lt_of_block hh
      have hH : HoldsK encI 16 w g 0 (toD l hok) := by
        intro j hj
        rw [size_flatK, toD_size] at hj
        refine ⟨?_, frozen_of_row w g _ cur t hh⟩
        have e := flat_cell (toD l hok) j (by rw [toD_size]; exact hj)
        rw [ofD_toD] at e
        rw [cell_of_row w g _ cur t (0, 0) hh, Nat.zero_add]
        show cur[j]? = some (flatK encI 16 (toD l hok))[j]!
        rw [← e, ← h4, List.getElem?_take, if_pos (by rw [hn]; exact hj)]
        simp
      have hs := toD_size l hok
      have hc := AnyQ.slices_SortFunc L 16 aE zE encI encI_len encI_one cfI swoI G #[] g 0 cap (toD l hok) w eg (fun _ _ _ _ x y => hG x y _) hH hgl (by omega)
      rw [hs, ← hn] at hc
      refine hc.mono fun e w' ⟨he, d', m, os, hp, hq, hw⟩ => ⟨he, ofD d', ?_, ?_, ?_, ?_⟩
      · have := perm_of _ _ (by rw [hs, ← hn]; exact hp)
        rwa [ofD_toD] at this
      · refine sorted_of d' n ?_ hq
        have := hp.1
        omega
      · refine Or.inr ⟨g, 0, rfl, ?_, fun j u hu => ?_⟩
        · rw [hw]; exact Nat.lt_of_lt_of_le hgl (size_sortWorldK_c encI 16 w g 0 m d' os)
        · have hd : d'.size = (toD l hok).size := hp.1
          have hj : j < d'.size * 16 := by
            have := (List.getElem?_eq_some_iff.1 hu).1
            rwa [flatL_length _ (ofD_ok d'), ofD_length] at this
          have hH2 := holdsK_sortWorldK_c encI 16 w g 0 (toD l hok) d' m os hH hgl hd
          have := (hH2 j (by rw [size_flatK]; exact hj)).1
          rw [flat_cell d' j hj] at hu
          rw [hw, this]
          exact hu
      · rw [hw]; exact grown_sort w g 0 m d' os
end Go.Proofs.Ytbjmadcbhkeenaa.srt
namespace Go.Proofs.Ytbjmadcbhkeenaa.gs
open Go.Shelf
def sortIds_ren : Go.Shelf.Ren := ⟨fun | 6 => 13 | 15 => 33 | 14 => 32 | 28 => 50 | 29 => 51 | 20 => 42 | 21 => 43 | 22 => 44 | 23 => 45 | 24 => 46 | 25 => 47 | 26 => 48 | 27 => 49 | 46 => 59 | 47 => 60 | 48 => 61 | 49 => 62 | 50 => 63 | 57 => 67 | n => n, fun | 22 => 26 | 24 => 28 | 25 => 52 | 3 => 3 | 39 => 45 | 0 => 0 | 53 => 93 | 55 => 95 | 4 => 4 | 46 => 86 | 45 => 85 | 50 => 90 | 5 => 5 | 9 => 9 | 66 => 105 | 70 => 109 | 76 => 115 | 77 => 116 | n => n, fun | n => n⟩
theorem sortIds : Go.Proofs.SlLaysF0.n6 Try.prog sortIds_ren := {
  mixed := by kernel_rfl
  f6 := ⟨Try.f13.name, by decide, Try.func13.trans (congrArg some (by kernel_rfl))⟩
  f14 := ⟨Try.f32.name, by decide, Try.func32.trans (congrArg some (by kernel_rfl))⟩
  f15 := Try.func33.trans (congrArg some (by kernel_rfl))
  f20 := ⟨Try.f42.name, by decide, Try.func42.trans (congrArg some (by kernel_rfl))⟩
  f21 := ⟨Try.f43.name, by decide, Try.func43.trans (congrArg some (by kernel_rfl))⟩
  f22 := ⟨Try.f44.name, by decide, Try.func44.trans (congrArg some (by kernel_rfl))⟩
  f23 := ⟨Try.f45.name, by decide, Try.func45.trans (congrArg some (by kernel_rfl))⟩
  f24 := ⟨Try.f46.name, by decide, Try.func46.trans (congrArg some (by kernel_rfl))⟩
  f25 := ⟨Try.f47.name, by decide, Try.func47.trans (congrArg some (by kernel_rfl))⟩
  f26 := ⟨Try.f48.name, by decide, Try.func48.trans (congrArg some (by kernel_rfl))⟩
  f27 := ⟨Try.f49.name, by decide, Try.func49.trans (congrArg some (by kernel_rfl))⟩
  f28 := Try.func50.trans (congrArg some (by kernel_rfl))
  f29 := Try.func51.trans (congrArg some (by kernel_rfl))
  f46 := ⟨Try.f59.name, by decide, Try.func59.trans (congrArg some (by kernel_rfl))⟩
  f47 := Try.func60.trans (congrArg some (by kernel_rfl))
  f48 := Try.func61.trans (congrArg some (by kernel_rfl))
  f49 := ⟨Try.f62.name, by decide, Try.func62.trans (congrArg some (by kernel_rfl))⟩
  f50 := ⟨Try.f63.name, by decide, Try.func63.trans (congrArg some (by kernel_rfl))⟩
  f57 := ⟨Try.f67.name, by decide, Try.func67.trans (congrArg some (by kernel_rfl))⟩
  t0 := Try.underlying0
  a0 := Try.isAgg0
  z0 := Try.sizeOf0
  v0 := Try.zeroValue0
  t3 := Try.underlying3
  a3 := Try.isAgg3
  z3 := Try.sizeOf3
  v3 := Try.zeroValue3
  t4 := Try.underlying4
  a4 := Try.isAgg4
  z4 := Try.sizeOf4
  v4 := Try.zeroValue4
  t5 := Try.underlying5
  a5 := Try.isAgg5
  z5 := Try.sizeOf5
  v5 := Try.zeroValue5
  t9 := Try.underlying9
  a9 := Try.isAgg9
  z9 := Try.sizeOf9
  v9 := Try.zeroValue9
  t22 := Try.underlying26
  a22 := Try.isAgg26
  z22 := Try.sizeOf26
  v22 := Try.zeroValue26
  t25 := Try.underlying52
  a25 := Try.isAgg52
  z25 := Try.sizeOf52
  v25 := Try.zeroValue52
  t39 := Try.underlying45
  a39 := Try.isAgg45
  z39 := Try.sizeOf45
  v39 := Try.zeroValue45
  t45 := Try.underlying85
  a45 := Try.isAgg85
  z45 := Try.sizeOf85
  v45 := Try.zeroValue85
  t46 := Try.underlying86
  a46 := Try.isAgg86
  z46 := Try.sizeOf86
  v46 := Try.zeroValue86
  t50 := Try.underlying90
  a50 := Try.isAgg90
  z50 := Try.sizeOf90
  v50 := Try.zeroValue90
  t53 := Try.underlying93
  a53 := Try.isAgg93
  z53 := Try.sizeOf93
  v53 := Try.zeroValue93
  t55 := Try.underlying95
  a55 := Try.isAgg95
  z55 := Try.sizeOf95
  v55 := Try.zeroValue95
  t66 := Try.underlying105
  a66 := Try.isAgg105
  z66 := Try.sizeOf105
  v66 := Try.zeroValue105
  t70 := Try.underlying109
  a70 := Try.isAgg109
  z70 := Try.sizeOf109
  v70 := Try.zeroValue109
  t76 := Try.underlying115
  a76 := Try.isAgg115
  z76 := Try.sizeOf115
  v76 := Try.zeroValue115
  t77 := Try.underlying116
  a77 := Try.isAgg116
  z77 := Try.sizeOf116
  v77 := Try.zeroValue116 }
end Go.Proofs.Ytbjmadcbhkeenaa.gs
namespace Go.Proofs.Ytbjmadcbhkeenaa.gs
open Go.RowKit Go.Proofs.Ytbjmadcbhkeenaa.sh Go.Proofs.Ytbjmadcbhkeenaa.shr Go.Proofs.Ytbjmadcbhkeenaa.cm Go.Proofs.Ytbjmadcbhkeenaa.srt
set_option linter.unusedSimpArgs false
set_option linter.unusedVariables false
set_option maxRecDepth 100000 in
theorem cmp_closure (x y : IDT) (W : World) : Calls Try.prog 14 #[.agg (srt.encI x).toArray, .agg (srt.encI y).toArray] W fun e w' => e = .returned (.int .i64 (cfI x y)) ∧ ∃ q os', w' = Go.Sort.grow (W.drewN q) os' := by
  obtain ⟨X, HX⟩ : ∃ X, Hid (X = srt.encI x) := ⟨_, rfl⟩
  obtain ⟨Y, HY⟩ : ∃ Y, Hid (Y = srt.encI y) := ⟨_, rfl⟩
  obtain ⟨V, HV⟩ : ∃ V, Hid (V = cfI x y) := ⟨_, rfl⟩
  have hXl : X.length = 16 := by rw [HX.out]; exact srt.encI_len x
  have hYl : Y.length = 16 := by rw [HY.out]; exact srt.encI_len y
  rw [← HX.out, ← HY.out, ← HV.out]
  obtain ⟨W2, HW2⟩ : ∃ W2, Hid (W2 = (W.alloc (.cells X.toArray 28)).alloc (.cells Y.toArray 28)) := ⟨_, rfl⟩
  have hX : BlkV 28 W2 W.heap.size X := by rw [HW2.out]; exact (BlkV.new _ _ _ rfl).alloc _
  have hY : BlkV 28 W2 (W.heap.size + 1) Y := by rw [HW2.out]; exact BlkV.new _ _ _ (by simp)
  have hC : ∀ q, Hid (Calls Try.prog 15 #[.slice (some ⟨W.heap.size, 0, none⟩) 16 16, .slice (some ⟨W.heap.size + 1, 0, none⟩) 16 16] (W2.drewN q) fun e w' => e = .returned (.int .i64 V) ∧ w' = W2.drewN q) := fun q =>
    bytesCompare ⟨W.heap.size, 0, none⟩ ⟨W.heap.size + 1, 0, none⟩ 16 16 16 16 x.1 y.1 (W2.drewN q) x.2.1 y.2.1 (by have := hX.at0; rw [HX.out] at this; exact this) (by have := hY.at0; rw [HY.out] at this; exact this) x.2.2 y.2.2 V (by rw [HV.out]; rfl)
  have hal : Try.prog.arrayLen 28 = 16 := by kernel_rfl
  clear hX hY
  have e2 := HW2.out
  subst e2
  clear HW2
  go_enter Try.func14, Try.ntmps14
  go_wp2_with fail
  go_region_with (go_at_call 15; refine (hC _).out.mono ?_; rintro e w' ⟨rfl, rfl⟩)
  go_wp2
  go_ret
  exact ⟨rfl, 1, #[.cells X.toArray 28, .cells Y.toArray 28], by rw [Go.Sort.alloc_eq_grow, Go.Sort.alloc_eq_grow, Go.Sort.grow_grow]; rfl⟩
theorem SortTop (ao : Option Addr) (n cap : Nat) (l : List (List Int)) (hok : ∀ s ∈ l, IdOk s) (w : World) (base : Nat) (h : w.ownsRow base 28 16 (.slice ao n cap) n (flatL l)) (hn : n = l.length) (hlt : n < 4611686018427387904) :
    Calls Try.prog 13 #[.slice ao n cap, .func (.func 14) #[] #[]] w fun e w' => e = .returned (.tuple #[]) ∧ ∃ l', l'.Perm l ∧ (l'.Pairwise fun a b => cmpL a b ≤ 0) ∧ RowV w' ao (flatL l') ∧ w.grownBy w' (Value.slice ao n cap).ownBlock :=
  SortFunc_ids sortIds Try.isAgg28 Try.sizeOf28 14 (enters_of Try.func14 (by kernel_rfl) rfl) cmp_closure 28 ao n cap l hok w base h hn hlt
theorem flatL_idN (L : List Nat) : flatL (L.map idN) = flatN L := by
  unfold flatL flatN
  rw [List.flatMap_map]
/-- sorted IDs of numbers: the numbers in order -/
theorem sorted_ids {N : Nat} {ks : List Nat} {l' : List (List Int)} (hn : ks.Nodup) (hl : ∀ k ∈ ks, k < N) (hp : l'.Perm (ks.map idN)) (hs : l'.Pairwise fun a b => cmpL a b ≤ 0) : l' = ((List.range N).filter fun i => ks.contains i).map idN := by
  refine perm_ord (fun a b => cmpL a b ≤ 0) (fun a b h1 h2 => ?_) _ _ (hp.trans (((picked_perm hn hl).symm).map _)) hs ?_
  · have := cmpL_anti a b
    exact cmpL_zero _ _ (by omega)
  · rw [List.pairwise_map]
    refine (picked_sorted N ks).imp fun {a b} h => ?_
    rw [cmp_idN, if_pos h]
    decide
theorem named_kept {w w' : World} {base n c size : Nat} {e : TypeId} {ao : Option Addr} {xs : List Value} {row : Option Nat} (h : Mine w base e size (.slice ao n c) n xs) (hg : w.grownBy w' row) (hr : ∀ g, row = some g → g < base) : RowV w' ao xs := by
  rcases h with h | ⟨_, h, _⟩
  · have h2 : Mine w' base e size (.slice ao n c) n xs := Mine.kept (Or.inl h) hg (by
      by_cases e0 : (Value.slice ao n c).ownBlock = none
      · exact Or.inl e0
      · right
        intro e2
        obtain ⟨g, hg2⟩ := Option.ne_none_iff_exists'.1 e0
        have h3 := (h.lt g hg2).1
        have h4 := hr g (by rw [← e2]; exact hg2)
        omega)
    obtain ⟨ao', c', hv, _, hV⟩ := h2.row
    cases hv
    exact hV
  · exact Or.inl h
end Go.Proofs.Ytbjmadcbhkeenaa.gs
