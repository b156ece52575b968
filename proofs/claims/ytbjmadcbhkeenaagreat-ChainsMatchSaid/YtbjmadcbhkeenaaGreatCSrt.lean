/-
  slices.SortFunc at IDs: what comes out is in order, of the same IDs. Conditions: IDs of 16 octets, a row of one's own, a function that compares as bytes.Compare does. ChainsMatch, plain: what is reached: the least set that holds the roots and is shut under links; a pass over the links, as often as there are links; lists in order. No condition. ChainsMatch: slices.SortFunc at its IDs: the library's contract laid, the functions that compare. Conditions: as the contract says.
-/
import Derived.Test.YtbjmadcbhkeenaaGreatCSpA
import Derived.Test.YtbjmadcbhkeenaaGreatCMem
import Derived.Shelf.SlSortCmp.NoneTotal
set_option maxRecDepth 100000
set_option linter.unusedSimpArgs false
set_option linter.unusedVariables false
namespace Go.Proofs.YtbjmadcbhkeenaaGreat.srt
open Go.Shelf Go.RowKit Go.Lib Go.Sort cm shr sh
abbrev IDT := {h : List Int // IdOk h}
instance : Inhabited IDT := ⟨⟨List.replicate 16 0, by simp, fun c hc => by rw [List.eq_of_mem_replicate hc]; decide⟩⟩
def encI (x : IDT) : List Value := x.1.map (Value.int .u8)
theorem encI_len (x : IDT) : (encI x).length = 16 := by unfold encI; rw [List.length_map]; exact x.2.1
theorem encI_one (x : IDT) : ∀ v ∈ encI x, v.oneCell' = true := by
 intro v hv
 obtain ⟨c, _, rfl⟩ := List.mem_map.1 hv
 rfl
def cfI (x y : IDT) : Int := cm.cmpL x.1 y.1
theorem cmpL_zero : ∀ a b : List Int, cm.cmpL a b = 0 → a = b
 | [], [], _ => rfl
 | [], z :: c, h => by rw [cmpL_nc] at h; cases h
 | z :: c, [], h => by rw [cmpL_cn] at h; cases h
 | x :: a, y :: b, h => by
  rw [cm.cmpL] at h
  split at h
  ·cases h
  ·split at h
   ·cases h
   ·rw [cmpL_zero a b h, show x = y by omega]
theorem swoI : SWO (ltOf cfI) where
 irrefl x := by unfold ltOf cfI; rw [cmpL_refl]; rfl
 trans x y z h1 h2 := by
  unfold ltOf cfI at *
  rw [decide_eq_true_eq] at *
  exact cmpL_trans _ _ _ h1 h2
 ntrans x y z h1 h2 := by
  unfold ltOf cfI at *
  rw [decide_eq_false_iff_not] at *
  intro h3
  have a1 := cmpL_anti x.1 y.1
  have a2 := cmpL_anti y.1 z.1
  by_cases h0 : cm.cmpL x.1 y.1 = 0
  ·rw [cmpL_zero _ _ h0] at h3; exact h2 h3
  ·have := cmpL_trans y.1 x.1 z.1 (by omega) h3
   exact h2 this
def flatL (l : List (List Int)) : List Value := l.flatMap fun h => h.map (Value.int .u8)
theorem flatL_cons (h : List Int) (l : List (List Int)) : flatL (h :: l) = h.map (Value.int .u8) ++ flatL l := rfl
theorem flatL_length : ∀ (l : List (List Int)), (∀ s ∈ l, IdOk s) → (flatL l).length = l.length * 16
 | [], _ => rfl
 | h :: l, hl => by
  rw [flatL_cons, List.length_append, flatL_length l (fun s hs => hl s (List.mem_cons_of_mem _ hs)), List.length_map, (hl h (List.mem_cons_self ..)).1, List.length_cons]
  omega
theorem flatL_get : ∀ (l : List (List Int)), (∀ s ∈ l, IdOk s) → ∀ (k j : Nat), k < l.length → j < 16 → (flatL l)[k * 16 + j]? = ((l.getD k []).map (Value.int .u8))[j]?
 | [], _, k, j, hk, hj => by cases hk
 | h :: l, hl, 0, j, hk, hj => by
  have h16 : (h.map (Value.int .u8)).length = 16 := by rw [List.length_map]; exact (hl h (List.mem_cons_self ..)).1
  rw [flatL_cons, List.getElem?_append_left (by omega), show 0 * 16 + j = j by omega]
  rfl
 | h :: l, hl, k + 1, j, hk, hj => by
  have h16 : (h.map (Value.int .u8)).length = 16 := by rw [List.length_map]; exact (hl h (List.mem_cons_self ..)).1
  rw [flatL_cons, List.getElem?_append_right (by omega), h16, show (k + 1) * 16 + j - 16 = k * 16 + j by omega]
  exact flatL_get l (fun s hs => hl s (List.mem_cons_of_mem _ hs)) k j (by simpa using hk) hj
def toD (l : List (List Int)) (hok : ∀ s ∈ l, IdOk s) : Array IDT := (l.attachWith IdOk hok).toArray
theorem toD_size (l : List (List Int)) (hok) : (toD l hok).size = l.length := by simp [toD]
def ofD (d : Array IDT) : List (List Int) := d.toList.map Subtype.val
theorem ofD_toD (l : List (List Int)) (hok) : ofD (toD l hok) = l := by simp [ofD, toD, List.attachWith_map_subtype_val]
theorem ofD_ok (d : Array IDT) : ∀ s ∈ ofD d, IdOk s := by
 intro s hs
 obtain ⟨x, _, rfl⟩ := List.mem_map.1 hs
 exact x.2
theorem ofD_length (d : Array IDT) : (ofD d).length = d.size := by simp [ofD]
theorem ofD_get (d : Array IDT) (k : Nat) (hk : k < d.size) : (ofD d).getD k [] = d[k]!.1 := by
 rw [getElem!_pos d k hk]
 simp [ofD, List.getD_eq_getElem?_getD, hk]
theorem flat_cell (d : Array IDT) (t : Nat) (ht : t < d.size * 16) : (flatL (ofD d))[t]? = some (flatK encI 16 d)[t]! := by
 have hq : t / 16 < d.size := by omega
 have e : t = t / 16 * 16 + t % 16 := by omega
 rw [get_flatK _ _ _ _ ht]
 conv => lhs; rw [e]
 rw [flatL_get _ (ofD_ok d) (t / 16) (t % 16) (by rw [ofD_length]; exact hq) (by omega), ofD_get d _ hq]
 have hl := encI_len d[t / 16]!
 rw [getElem!_pos (encI d[t / 16]!) (t % 16) (by omega)]
 show (encI d[t / 16]!)[t % 16]? = _
 rw [List.getElem?_eq_getElem (by omega)]
theorem grown_sort (w : World) (g off n : Nat) (d : Array IDT) (os : Array Obj) : w.grownBy (sortWorldK encI 16 w g off n d os) (some g) := by
 refine ⟨rfl, rfl, rfl, size_sortWorldK_c encI 16 w g off n d os, fun i hi hne => ?_⟩
 unfold sortWorldK grow putRowK putRow mapBlock
 have h1 : (((Sort.ahead w n).heap.modify g (onCells (putCells id off (flatK encI 16 d)))) ++ os)[i]? = ((Sort.ahead w n).heap.modify g (onCells (putCells id off (flatK encI 16 d))))[i]? := by
  rw [Array.getElem?_append_left (by simpa using hi)]
 show (((Sort.ahead w n).heap.modify g (onCells (putCells id off (flatK encI 16 d)))) ++ os)[i]? = _
 rw [h1, Array.getElem?_modify, if_neg (fun e => hne (by rw [e]))]
 rfl
theorem perm_of (d d' : Array IDT) (h : PermIn 0 d.size d d') : (ofD d').Perm (ofD d) := by
 have h3 := h.2.2
 have e1 : d'.extract 0 d.size = d' := by rw [← h.1]; simp
 have e2 : d.extract 0 d.size = d := by simp
 rw [e1, e2] at h3
 exact h3.map _
theorem sorted_of (d : Array IDT) (m : Nat) (hm : m = d.size) (h : SortedIn (ltOf cfI) 0 m d) : (ofD d).Pairwise fun a b => cm.cmpL a b ≤ 0 := by
 subst hm
 refine List.pairwise_iff_getElem.2 fun i j hi hj hij => ?_
 rw [ofD_length] at hi hj
 have h1 := h i j (Nat.zero_le _) hij hj
 unfold ltOf cfI at h1
 rw [decide_eq_false_iff_not, ← ofD_get d i hi, ← ofD_get d j hj] at h1
 have a1 := cmpL_anti ((ofD d).getD i []) ((ofD d).getD j [])
 rw [getD_lt' (i := i) (ofD d) [] (by rw [ofD_length]; exact hi), getD_lt' (i := j) (ofD d) [] (by rw [ofD_length]; exact hj)] at a1 h1
 omega
theorem SortFunc_ids {P : Program} {ρ : Ren} (L : SlLaysF0.n6 P ρ) (aE : ∀ w, (isAgg (ρ.t 24)).run P w = .ok true w) (zE : ∀ w, (Go.sizeOf (ρ.t 24)).run P w = .ok 16 w) (G : Nat) (eg : ∀ args w, (callFunc G args).run P w = .ok (.enter G args) w)
  (hG : ∀ (x y : IDT) (W : World), Calls P G #[.agg (encI x).toArray, .agg (encI y).toArray] W fun e w' => e = .returned (.int .i64 (cfI x y)) ∧ ∃ q os', w' = grow (W.drewN q) os')
  (t : TypeId) (ao : Option Addr) (n cap : Nat) (l : List (List Int)) (hok : ∀ s ∈ l, IdOk s) (w : World) (base : Nat) (h : w.ownsRow base t 16 (.slice ao n cap) n (flatL l)) (hn : n = l.length) (hlt : n < 4611686018427387904) :
  Calls P (ρ.f 6) #[.slice ao n cap, .func (.func G) #[] #[]] w fun e w' => e = .returned (.tuple #[]) ∧ ∃ l', l'.Perm l ∧ (l'.Pairwise fun a b => cm.cmpL a b ≤ 0) ∧ RowV w' ao (flatL l') ∧ w.grownBy w' (Value.slice ao n cap).ownBlock := by
 by_cases h0 : n = 0
 ·subst h0
  have hl : l = [] := List.eq_nil_of_length_eq_zero hn.symm
  subst hl
  refine (AnyF.slices_SortFunc_none L ao cap _ w).mono fun e w' ⟨he, hw⟩ => ?_
  subst hw
  exact ⟨he, [], List.Perm.refl _, List.Pairwise.nil, Or.inl rfl, grown_refl _ _⟩
 ·obtain ⟨hlen, h | ⟨g, cap', cur, hv, hg, hh, h1, h2, h3, h4⟩⟩ := h
  ·exact absurd h.2 h0
  ·cases hv
   have hgl : g < w.heap.size := lt_of_block hh
   have hH : HoldsK encI 16 w g 0 (toD l hok) := by
    intro j hj
    rw [size_flatK, toD_size] at hj
    refine ⟨?_, frozen_of_row w g _ cur t hh⟩
    have e := flat_cell (toD l hok) j (by rw [toD_size]; exact hj)
    rw [ofD_toD] at e
    rw [cell_of_row w g _ cur t (0, 0) hh, Nat.zero_add]
    show cur[j]? = some (flatK encI 16 (toD l hok))[j]!
    rw [← e, ← h4, List.getElem?_take, if_pos (by rw [hn]; exact hj)]
    simp
   have hs := toD_size l hok
   have hc := AnyQ.slices_SortFunc L 16 aE zE encI encI_len encI_one cfI swoI G #[] g 0 cap (toD l hok) w eg (fun _ _ _ _ x y => hG x y _) hH hgl (by omega)
   rw [hs, ← hn] at hc
   refine hc.mono fun e w' ⟨he, d', m, os, hp, hq, hw⟩ => ⟨he, ofD d', ?_, ?_, ?_, ?_⟩
   ·have := perm_of _ _ (by rw [hs, ← hn]; exact hp)
    rwa [ofD_toD] at this
   ·refine sorted_of d' n ?_ hq
    have := hp.1
    omega
   ·refine Or.inr ⟨g, 0, rfl, ?_, fun j u hu => ?_⟩
    ·rw [hw]; exact Nat.lt_of_lt_of_le hgl (size_sortWorldK_c encI 16 w g 0 m d' os)
    ·have hd : d'.size = (toD l hok).size := hp.1
     have hj : j < d'.size * 16 := by
      have := (List.getElem?_eq_some_iff.1 hu).1
      rwa [flatL_length _ (ofD_ok d'), ofD_length] at this
     have hH2 := holdsK_sortWorldK_c encI 16 w g 0 (toD l hok) d' m os hH hgl hd
     have := (hH2 j (by rw [size_flatK]; exact hj)).1
     rw [flat_cell d' j hj] at hu
     rw [hw, this]
     exact hu
   ·rw [hw]; exact grown_sort w g 0 m d' os
end Go.Proofs.YtbjmadcbhkeenaaGreat.srt
namespace Go.Proofs.YtbjmadcbhkeenaaGreat.lk
def Shut1 (E : List Link) (W : List Id) (T : Id → Prop) : Prop := ∀ x ∈ E, T x.1 → x.2 ∉ W → T x.2
structure Grow (R W : List Id) (E : List Link) (S : Id → Prop) : Prop where
 root : ∀ r ∈ R, r ∉ W → S r
 least : ∀ T : Id → Prop, (∀ r ∈ R, r ∉ W → T r) → Shut1 E W T → ∀ k, S k → T k
theorem Grow.add {R W : List Id} {E : List Link} {S : Id → Prop} (h : Grow R W E S) {x : Link} (hx : x ∈ E) (h1 : S x.1) (h2 : x.2 ∉ W) : Grow R W E (fun k => k = x.2 ∨ S k) :=
 ⟨fun r hr hw => Or.inr (h.root r hr hw), fun T hT hS k hk => by
  rcases hk with rfl | hk
  ·exact hS x hx (h.least T hT hS _ h1) h2
  ·exact h.least T hT hS k hk⟩
theorem Grow.same {R W : List Id} {E : List Link} {S S' : Id → Prop} (h : Grow R W E S) (k : Grow R W E S') (hs : Shut1 E W S) (ks : Shut1 E W S') (j : Id) : S j ↔ S' j :=
 ⟨h.least S' k.root ks j, k.least S h.root hs j⟩
theorem Grow.iff {R W : List Id} {E : List Link} {S S' : Id → Prop} (h : Grow R W E S) (hs : ∀ k, S k ↔ S' k) : Grow R W E S' := by
 have : S = S' := funext fun k => propext (hs k)
 rw [← this]; exact h
theorem Shut1.iff {W : List Id} {E : List Link} {S S' : Id → Prop} (h : Shut1 E W S) (hs : ∀ k, S k ↔ S' k) : Shut1 E W S' := by
 have : S = S' := funext fun k => propext (hs k)
 rw [← this]; exact h
def ends (E : List Link) (S : Id → Bool) : Nat := E.countP fun x => S x.2
theorem ends_le (E : List Link) (S : Id → Bool) : ends E S ≤ E.length := List.countP_le_length
theorem ends_mono {E : List Link} {S S' : Id → Bool} (h : ∀ k, S k = true → S' k = true) : ends E S ≤ ends E S' := List.countP_mono_left fun x _ hx => h _ hx
theorem ends_lt : ∀ {E : List Link} {S S' : Id → Bool} {x : Link}, (∀ k, S k = true → S' k = true) → x ∈ E → S x.2 = false → S' x.2 = true → ends E S < ends E S'
 | [], _, _, _, _, hx, _, _ => by cases hx
 | y :: E, S, S', x, h, hx, h1, h2 => by
  unfold ends
  rw [List.countP_cons, List.countP_cons]
  have hm : E.countP (fun x => S x.2) ≤ E.countP (fun x => S' x.2) := ends_mono (E := E) h
  rcases List.mem_cons.1 hx with rfl | hx
  ·simp only [h1, h2]
   simp; omega
  ·have := ends_lt h hx h1 h2
   unfold ends at this
   by_cases hy : S y.2 = true
   ·rw [if_pos hy, if_pos (h _ hy)]; omega
   ·rw [if_neg hy]; omega
theorem ends_full : ∀ {E : List Link} {S : Id → Bool}, E.length ≤ ends E S → ∀ x ∈ E, S x.2 = true
 | [], _, _, x, hx => by cases hx
 | y :: E, S, h, x, hx => by
  unfold ends at h
  rw [List.countP_cons, List.length_cons] at h
  have hl : E.countP (fun x => S x.2) ≤ E.length := List.countP_le_length
  by_cases hy : S y.2 = true
  ·rw [if_pos hy] at h
   rcases List.mem_cons.1 hx with rfl | hx
   ·exact hy
   ·exact ends_full (E := E) (by unfold ends; omega) x hx
  ·rw [if_neg hy] at h; omega
def Passed (E : List Link) (W : List Id) (n : Nat) (S : Id → Bool) : Prop := Shut1 E W (fun k => S k = true) ∨ n ≤ ends E S
theorem Passed.end {E : List Link} {W : List Id} {S : Id → Bool} (h : Passed E W E.length S) : Shut1 E W (fun k => S k = true) := by
 rcases h with h | h
 ·exact h
 ·exact fun x hx _ _ => ends_full h x hx
structure InPass (E : List Link) (W : List Id) (n i : Nat) (S0 S : Id → Bool) : Prop where
 sub : ∀ k, S0 k = true → S k = true
 all : ∀ j x, j < i → E[j]? = some x → S0 x.1 = true → x.2 ∉ W → S x.2 = true
 new : (∀ k, S k = S0 k) ∨ n < ends E S
theorem InPass.start (E : List Link) (W : List Id) (n : Nat) (S : Id → Bool) : InPass E W n 0 S S := ⟨fun _ h => h, fun j _ h => by omega, Or.inl fun _ => rfl⟩
theorem InPass.finish {E : List Link} {W : List Id} {n : Nat} {S0 S : Id → Bool} (h : InPass E W n E.length S0 S) (hp : Passed E W n S0) : Passed E W (n + 1) S := by
 rcases h.new with hn | hn
 ·left
  intro x hx h1 h2
  obtain ⟨j, hj⟩ := List.getElem?_of_mem hx
  exact h.all j x (List.getElem?_eq_some_iff.1 hj).1 hj (by rw [← hn]; exact h1) h2
 ·exact Or.inr hn
theorem InPass.skip {E : List Link} {W : List Id} {n i : Nat} {S0 S : Id → Bool} (h : InPass E W n i S0 S) {x : Link} (hx : E[i]? = some x) (hc : S x.1 = false ∨ x.2 ∈ W ∨ S x.2 = true) : InPass E W n (i + 1) S0 S := by
 refine ⟨h.sub, fun j y hj hy h1 h2 => ?_, h.new⟩
 by_cases hji : j = i
 ·subst hji
  rw [hx] at hy
  cases hy
  rcases hc with hc | hc | hc
  ·rw [h.sub _ h1] at hc; cases hc
  ·exact absurd hc h2
  ·exact hc
 ·exact h.all j y (by omega) hy h1 h2
theorem InPass.add {E : List Link} {W : List Id} {n i : Nat} {S0 S S' : Id → Bool} (h : InPass E W n i S0 S) (hp : Passed E W n S0) {x : Link} (hx : E[i]? = some x) (h1 : S x.1 = true) (h2 : x.2 ∉ W) (hS : ∀ k, S' k = true ↔ k = x.2 ∨ S k = true) : InPass E W n (i + 1) S0 S' := by
 have hsub : ∀ k, S k = true → S' k = true := fun k hk => (hS k).2 (Or.inr hk)
 refine ⟨fun k hk => hsub k (h.sub k hk), fun j y hj hy g1 g2 => ?_, ?_⟩
 ·by_cases hji : j = i
  ·subst hji
   rw [hx] at hy
   cases hy
   exact (hS _).2 (Or.inl rfl)
  ·exact hsub _ (h.all j y (by omega) hy g1 g2)
 ·rcases h.new with hn | hn
  ·by_cases h3 : S x.2 = true
   ·left
    intro k
    rw [← hn k]
    by_cases hk : S k = true
    ·rw [hk, hsub k hk]
    ·cases hk' : S' k with
     | false => simpa using hk
     | true =>
      rcases (hS k).1 hk' with e | e
      ·rw [e] at hk; exact absurd h3 hk
      ·exact absurd e hk
   ·right
    have hlt : ends E S < ends E S' := ends_lt hsub (List.mem_of_getElem? hx) (by simpa using h3) ((hS _).2 (Or.inl rfl))
    rcases hp with hp | hp
    ·have h0 : S0 x.2 = true := hp x (List.mem_of_getElem? hx) (by show S0 x.1 = true; rw [← hn]; exact h1) h2
     rw [← hn] at h0
     exact absurd h0 h3
    ·have e : ends E S = ends E S0 := by unfold ends; congr 1; funext y; rw [hn]
     omega
  ·exact Or.inr (Nat.lt_of_lt_of_le hn (ends_mono hsub))
abbrev Ord (l : List Id) : Prop := l.Pairwise fun a b => cm.cmpL a b ≤ 0
theorem ord_eq : ∀ {l m : List Id}, l.Nodup → m.Nodup → Ord l → Ord m → (∀ k, k ∈ l ↔ k ∈ m) → l = m
 | [], [], _, _, _, _, _ => rfl
 | [], b :: m, _, _, _, _, h => absurd ((h b).2 (List.mem_cons_self ..)) (by simp)
 | a :: l, [], _, _, _, _, h => absurd ((h a).1 (List.mem_cons_self ..)) (by simp)
 | a :: l, b :: m, hl, hm, ol, om, h => by
  obtain ⟨l1, l2⟩ := List.nodup_cons.1 hl
  obtain ⟨m1, m2⟩ := List.nodup_cons.1 hm
  obtain ⟨o1, o2⟩ := List.pairwise_cons.1 ol
  obtain ⟨p1, p2⟩ := List.pairwise_cons.1 om
  have hab : a = b := by
   rcases List.mem_cons.1 ((h a).1 (List.mem_cons_self ..)) with e | e
   ·exact e
   ·rcases List.mem_cons.1 ((h b).2 (List.mem_cons_self ..)) with f | f
    ·exact f.symm
    ·have h1 := p1 a e
     have h2 := o1 b f
     rw [cm.cmpL_anti] at h2
     exact (srt.cmpL_zero _ _ (by omega)).symm
  subst hab
  rw [ord_eq l2 m2 o2 p2 fun k => ?_]
  constructor
  ·intro hk
   rcases List.mem_cons.1 ((h k).1 (List.mem_cons_of_mem _ hk)) with e | e
   ·subst e; exact absurd hk l1
   ·exact e
  ·intro hk
   rcases List.mem_cons.1 ((h k).2 (List.mem_cons_of_mem _ hk)) with e | e
   ·subst e; exact absurd hk m1
   ·exact e
end Go.Proofs.YtbjmadcbhkeenaaGreat.lk
namespace Go.Proofs.YtbjmadcbhkeenaaGreat.lk
open Go.Shelf
def sortIds_ren : Go.Shelf.Ren := ⟨fun | 6 => 35 | 15 => 62 | 14 => 61 | 28 => 90 | 29 => 91 | 20 => 82 | 21 => 83 | 22 => 84 | 23 => 85 | 24 => 86 | 25 => 87 | 26 => 88 | 27 => 89 | 46 => 107 | 47 => 108 | 48 => 109 | 49 => 110 | 50 => 111 | 57 => 121 | n => n, fun | 22 => 28 | 24 => 27 | 25 => 78 | 3 => 3 | 39 => 108 | 0 => 0 | 53 => 109 | 55 => 138 | 4 => 4 | 46 => 131 | 45 => 130 | 50 => 82 | 5 => 5 | 9 => 9 | 66 => 158 | 70 => 162 | 76 => 171 | 77 => 172 | n => n, fun | n => n⟩
theorem sortIds : Go.Proofs.SlLaysF0.n6 Tryz.prog sortIds_ren := {
 mixed := by kernel_rfl
 f6 := ⟨Tryz.f35.name, by decide, Tryz.func35.trans (congrArg some (by kernel_rfl))⟩
 f14 := ⟨Tryz.f61.name, by decide, Tryz.func61.trans (congrArg some (by kernel_rfl))⟩
 f15 := Tryz.func62.trans (congrArg some (by kernel_rfl))
 f20 := ⟨Tryz.f82.name, by decide, Tryz.func82.trans (congrArg some (by kernel_rfl))⟩
 f21 := ⟨Tryz.f83.name, by decide, Tryz.func83.trans (congrArg some (by kernel_rfl))⟩
 f22 := ⟨Tryz.f84.name, by decide, Tryz.func84.trans (congrArg some (by kernel_rfl))⟩
 f23 := ⟨Tryz.f85.name, by decide, Tryz.func85.trans (congrArg some (by kernel_rfl))⟩
 f24 := ⟨Tryz.f86.name, by decide, Tryz.func86.trans (congrArg some (by kernel_rfl))⟩
 f25 := ⟨Tryz.f87.name, by decide, Tryz.func87.trans (congrArg some (by kernel_rfl))⟩
 f26 := ⟨Tryz.f88.name, by decide, Tryz.func88.trans (congrArg some (by kernel_rfl))⟩
 f27 := ⟨Tryz.f89.name, by decide, Tryz.func89.trans (congrArg some (by kernel_rfl))⟩
 f28 := Tryz.func90.trans (congrArg some (by kernel_rfl))
 f29 := Tryz.func91.trans (congrArg some (by kernel_rfl))
 f46 := ⟨Tryz.f107.name, by decide, Tryz.func107.trans (congrArg some (by kernel_rfl))⟩
 f47 := Tryz.func108.trans (congrArg some (by kernel_rfl))
 f48 := Tryz.func109.trans (congrArg some (by kernel_rfl))
 f49 := ⟨Tryz.f110.name, by decide, Tryz.func110.trans (congrArg some (by kernel_rfl))⟩
 f50 := ⟨Tryz.f111.name, by decide, Tryz.func111.trans (congrArg some (by kernel_rfl))⟩
 f57 := ⟨Tryz.f121.name, by decide, Tryz.func121.trans (congrArg some (by kernel_rfl))⟩
 t0 := Tryz.underlying0
 a0 := Tryz.isAgg0
 z0 := Tryz.sizeOf0
 v0 := Tryz.zeroValue0
 t3 := Tryz.underlying3
 a3 := Tryz.isAgg3
 z3 := Tryz.sizeOf3
 v3 := Tryz.zeroValue3
 t4 := Tryz.underlying4
 a4 := Tryz.isAgg4
 z4 := Tryz.sizeOf4
 v4 := Tryz.zeroValue4
 t5 := Tryz.underlying5
 a5 := Tryz.isAgg5
 z5 := Tryz.sizeOf5
 v5 := Tryz.zeroValue5
 t9 := Tryz.underlying9
 a9 := Tryz.isAgg9
 z9 := Tryz.sizeOf9
 v9 := Tryz.zeroValue9
 t22 := Tryz.underlying28
 a22 := Tryz.isAgg28
 z22 := Tryz.sizeOf28
 v22 := Tryz.zeroValue28
 t25 := Tryz.underlying78
 a25 := Tryz.isAgg78
 z25 := Tryz.sizeOf78
 v25 := Tryz.zeroValue78
 t39 := Tryz.underlying108
 a39 := Tryz.isAgg108
 z39 := Tryz.sizeOf108
 v39 := Tryz.zeroValue108
 t45 := Tryz.underlying130
 a45 := Tryz.isAgg130
 z45 := Tryz.sizeOf130
 v45 := Tryz.zeroValue130
 t46 := Tryz.underlying131
 a46 := Tryz.isAgg131
 z46 := Tryz.sizeOf131
 v46 := Tryz.zeroValue131
 t50 := Tryz.underlying82
 a50 := Tryz.isAgg82
 z50 := Tryz.sizeOf82
 v50 := Tryz.zeroValue82
 t53 := Tryz.underlying109
 a53 := Tryz.isAgg109
 z53 := Tryz.sizeOf109
 v53 := Tryz.zeroValue109
 t55 := Tryz.underlying138
 a55 := Tryz.isAgg138
 z55 := Tryz.sizeOf138
 v55 := Tryz.zeroValue138
 t66 := Tryz.underlying158
 a66 := Tryz.isAgg158
 z66 := Tryz.sizeOf158
 v66 := Tryz.zeroValue158
 t70 := Tryz.underlying162
 a70 := Tryz.isAgg162
 z70 := Tryz.sizeOf162
 v70 := Tryz.zeroValue162
 t76 := Tryz.underlying171
 a76 := Tryz.isAgg171
 z76 := Tryz.sizeOf171
 v76 := Tryz.zeroValue171
 t77 := Tryz.underlying172
 a77 := Tryz.isAgg172
 z77 := Tryz.sizeOf172
 v77 := Tryz.zeroValue172 }
end Go.Proofs.YtbjmadcbhkeenaaGreat.lk
namespace Go.Proofs.YtbjmadcbhkeenaaGreat.lk
open Go.RowKit sh shr cm srt
theorem cmp_reachOf (x y : IDT) (W : World) : Calls Tryz.prog 36 #[.agg (srt.encI x).toArray, .agg (srt.encI y).toArray] W fun e w' => e = .returned (.int .i64 (cfI x y)) ∧ ∃ q os', w' = Go.Sort.grow (W.drewN q) os' := by
 obtain ⟨X, HX⟩ : ∃ X, Hid (X = srt.encI x) := ⟨_, rfl⟩
 obtain ⟨Y, HY⟩ : ∃ Y, Hid (Y = srt.encI y) := ⟨_, rfl⟩
 obtain ⟨V, HV⟩ : ∃ V, Hid (V = cfI x y) := ⟨_, rfl⟩
 have hXl : X.length = 16 := by rw [HX.out]; exact srt.encI_len x
 have hYl : Y.length = 16 := by rw [HY.out]; exact srt.encI_len y
 rw [← HX.out, ← HY.out, ← HV.out]
 obtain ⟨W2, HW2⟩ : ∃ W2, Hid (W2 = (W.alloc (.cells X.toArray 27)).alloc (.cells Y.toArray 27)) := ⟨_, rfl⟩
 have hX : BlkV 27 W2 W.heap.size X := by rw [HW2.out]; exact (BlkV.new _ _ _ rfl).alloc _
 have hY : BlkV 27 W2 (W.heap.size + 1) Y := by rw [HW2.out]; exact BlkV.new _ _ _ (by simp)
 have hC : ∀ q, Hid (Calls Tryz.prog 37 #[.slice (some ⟨W.heap.size, 0, none⟩) 16 16, .slice (some ⟨W.heap.size + 1, 0, none⟩) 16 16] (W2.drewN q) fun e w' => e = .returned (.int .i64 V) ∧ w' = W2.drewN q) := fun q =>
  bytesCompare ⟨W.heap.size, 0, none⟩ ⟨W.heap.size + 1, 0, none⟩ 16 16 16 16 x.1 y.1 (W2.drewN q) x.2.1 y.2.1 (by have := hX.at0; rw [HX.out] at this; exact this) (by have := hY.at0; rw [HY.out] at this; exact this) x.2.2 y.2.2 V (by rw [HV.out]; rfl)
 have hal : Tryz.prog.arrayLen 27 = 16 := by kernel_rfl
 clear hX hY
 have e2 := HW2.out
 subst e2
 clear HW2
 go_enter Tryz.func36, Tryz.ntmps36
 go_wp2_with fail
 go_region_with (go_at_call 37; refine (hC _).out.mono ?_; rintro e w' ⟨rfl, rfl⟩)
 go_wp2
 go_ret
 exact ⟨rfl, 1, #[.cells X.toArray 27, .cells Y.toArray 27], by rw [Go.Sort.alloc_eq_grow, Go.Sort.alloc_eq_grow, Go.Sort.grow_grow]; rfl⟩
theorem SortReach (ao : Option Addr) (n cap : Nat) (l : List (List Int)) (hok : ∀ s ∈ l, IdOk s) (w : World) (base : Nat) (h : w.ownsRow base 27 16 (.slice ao n cap) n (flatL l)) (hn : n = l.length) (hlt : n < 4611686018427387904) :
  Calls Tryz.prog 35 #[.slice ao n cap, .func (.func 36) #[] #[]] w fun e w' => e = .returned (.tuple #[]) ∧ ∃ l', l'.Perm l ∧ (l'.Pairwise fun a b => cmpL a b ≤ 0) ∧ RowV w' ao (flatL l') ∧ w.grownBy w' (Value.slice ao n cap).ownBlock :=
 SortFunc_ids sortIds Tryz.isAgg27 Tryz.sizeOf27 36 (enters_of Tryz.func36 (by kernel_rfl) rfl) cmp_reachOf 27 ao n cap l hok w base h hn hlt
theorem cmp_ordered (x y : IDT) (W : World) : Calls Tryz.prog 48 #[.agg (srt.encI x).toArray, .agg (srt.encI y).toArray] W fun e w' => e = .returned (.int .i64 (cfI x y)) ∧ ∃ q os', w' = Go.Sort.grow (W.drewN q) os' := by
 obtain ⟨X, HX⟩ : ∃ X, Hid (X = srt.encI x) := ⟨_, rfl⟩
 obtain ⟨Y, HY⟩ : ∃ Y, Hid (Y = srt.encI y) := ⟨_, rfl⟩
 obtain ⟨V, HV⟩ : ∃ V, Hid (V = cfI x y) := ⟨_, rfl⟩
 have hXl : X.length = 16 := by rw [HX.out]; exact srt.encI_len x
 have hYl : Y.length = 16 := by rw [HY.out]; exact srt.encI_len y
 rw [← HX.out, ← HY.out, ← HV.out]
 obtain ⟨W2, HW2⟩ : ∃ W2, Hid (W2 = (W.alloc (.cells X.toArray 27)).alloc (.cells Y.toArray 27)) := ⟨_, rfl⟩
 have hX : BlkV 27 W2 W.heap.size X := by rw [HW2.out]; exact (BlkV.new _ _ _ rfl).alloc _
 have hY : BlkV 27 W2 (W.heap.size + 1) Y := by rw [HW2.out]; exact BlkV.new _ _ _ (by simp)
 have hC : ∀ q, Hid (Calls Tryz.prog 37 #[.slice (some ⟨W.heap.size, 0, none⟩) 16 16, .slice (some ⟨W.heap.size + 1, 0, none⟩) 16 16] (W2.drewN q) fun e w' => e = .returned (.int .i64 V) ∧ w' = W2.drewN q) := fun q =>
  bytesCompare ⟨W.heap.size, 0, none⟩ ⟨W.heap.size + 1, 0, none⟩ 16 16 16 16 x.1 y.1 (W2.drewN q) x.2.1 y.2.1 (by have := hX.at0; rw [HX.out] at this; exact this) (by have := hY.at0; rw [HY.out] at this; exact this) x.2.2 y.2.2 V (by rw [HV.out]; rfl)
 have hal : Tryz.prog.arrayLen 27 = 16 := by kernel_rfl
 clear hX hY
 have e2 := HW2.out
 subst e2
 clear HW2
 go_enter Tryz.func48, Tryz.ntmps48
 go_wp2_with fail
 go_region_with (go_at_call 37; refine (hC _).out.mono ?_; rintro e w' ⟨rfl, rfl⟩)
 go_wp2
 go_ret
 exact ⟨rfl, 1, #[.cells X.toArray 27, .cells Y.toArray 27], by rw [Go.Sort.alloc_eq_grow, Go.Sort.alloc_eq_grow, Go.Sort.grow_grow]; rfl⟩
theorem SortOrd (ao : Option Addr) (n cap : Nat) (l : List (List Int)) (hok : ∀ s ∈ l, IdOk s) (w : World) (base : Nat) (h : w.ownsRow base 27 16 (.slice ao n cap) n (flatL l)) (hn : n = l.length) (hlt : n < 4611686018427387904) :
  Calls Tryz.prog 35 #[.slice ao n cap, .func (.func 48) #[] #[]] w fun e w' => e = .returned (.tuple #[]) ∧ ∃ l', l'.Perm l ∧ (l'.Pairwise fun a b => cmpL a b ≤ 0) ∧ RowV w' ao (flatL l') ∧ w.grownBy w' (Value.slice ao n cap).ownBlock :=
 SortFunc_ids sortIds Tryz.isAgg27 Tryz.sizeOf27 48 (enters_of Tryz.func48 (by kernel_rfl) rfl) cmp_ordered 27 ao n cap l hok w base h hn hlt
end Go.Proofs.YtbjmadcbhkeenaaGreat.lk
