/- A drawn region whose yields are told outright, in a world that changes in a way that the caller names. A slot that is written reads as it did for every operation that its writer waits for. -/
import Derived.Test.YtjpapjijlbfemaaGrow
namespace Go.Proofs.Ytjpapjijlbfemaa
open Go.RowKit

section
variable {P : Program} {ops : Array Oper} {md : Region.Mode}

/-- The frame is a's, but for the places that the listed operations write. -/
structure AgreeL (ops : Array Oper) (listed : Array Bool) (a a' : Act) : Prop where
  size : a'.tmps.size = a.tmps.size
  defers : a'.defers = a.defers
  same : ∀ t, (∀ (j : Nat) (o : Oper), ops[j]? = some o → listed.getD j false = true → o.dst ≠ some t) → a'.tmps[t]? = a.tmps[t]?

theorem AgreeL.put {listed : Array Bool} {a a' : Act} (h : AgreeL ops listed a a') {i : Nat} {o : Oper} (hi : ops[i]? = some o) (hl : i < listed.size) (v : Value) : AgreeL ops (listed.setIfInBounds i true) a (a'.put o.dst v) := by
  have hold : ∀ t, (∀ (j : Nat) (o : Oper), ops[j]? = some o → (listed.setIfInBounds i true).getD j false = true → o.dst ≠ some t) → a'.tmps[t]? = a.tmps[t]? := by
    intro t ht
    refine h.same t fun j oj hj hlj => ht j oj hj ?_
    by_cases hij : i = j
    · subst hij; simp [hl]
    · rw [getD_set_ne false hij]; exact hlj
  cases hd : o.dst with
  | none => exact ⟨h.size, h.defers, hold⟩
  | some d =>
    refine ⟨by simp [Act.put, h.size], h.defers, fun t ht => ?_⟩
    have hne : d ≠ t := fun e => ht i o hi (by simp [hl]) (by rw [hd, e])
    simp only [Act.put]
    rw [Array.getElem?_setIfInBounds_ne hne]
    exact hold t ht

/-- Where nothing is ready all is listed: each waits for earlier ones alone. -/
theorem all_listedB {listed : Array Bool} (hlen : listed.size = ops.size) (hearly : ∀ (i : Nat) (o : Oper), ops[i]? = some o → ∀ e ∈ o.after, Region.binds md e = true → e.on < i) (h : Region.ready md ops listed = []) : ∀ i, i < ops.size → listed.getD i false = true := by
  intro i
  induction i using Nat.strongRecOn with
  | _ i ih =>
    intro hi
    have ho : ops[i]? = some ops[i] := Array.getElem?_eq_getElem hi
    cases hl : listed.getD i true with
    | true =>
      have : i < listed.size := by omega
      simp [this] at hl ⊢
      exact hl
    | false =>
      exfalso
      have hm : i ∈ Region.ready md ops listed := mem_ready.2 ⟨hl, ops[i], ho, fun e he hb => ih e.on (hearly i _ ho e he hb) (Nat.lt_trans (hearly i _ ho e he hb) hi)⟩
      rw [h] at hm
      cases hm

def regionFitB (ops : Array Oper) (n : Nat) : Bool :=
  ((List.range ops.size).all fun i => match ops.toList[i]? with | none => true | some o => o.after.toList.all fun e => !Region.binds .any e || decide (e.on < i))
  && (ops.toList.filterMap (·.dst)).Nodup && ops.toList.all (fun o => o.dst.isSome && decide (o.dst.getD 0 < n))

/-- What waits for what is listed with it. -/
def Closed (md : Region.Mode) (ops : Array Oper) (listed : Array Bool) : Prop :=
  ∀ (j : Nat) (o : Oper), ops[j]? = some o → listed.getD j false = true → ∀ e ∈ o.after, Region.binds md e = true → listed.getD e.on false = true

theorem wpAny_of_told {G : World → World → Prop} {xs : Nat → Value} {a : Act} {w : World} {Q : Exit → Act → World → Prop}
    (htrans : ∀ {A B C}, G A B → G B C → G A C)
    (hearly : ∀ (i : Nat) (o : Oper), ops[i]? = some o → ∀ e ∈ o.after, Region.binds md e = true → e.on < i)
    (hdst : ∀ (i j : Nat) (o o' : Oper) (d : Nat), ops[i]? = some o → ops[j]? = some o' → o.dst = some d → o'.dst = some d → i = j)
    (hin : ∀ (i : Nat) (o : Oper) (d : Nat), ops[i]? = some o → o.dst = some d → d < a.tmps.size)
    (hstep : ∀ (i : Nat) (o : Oper), ops[i]? = some o → ∀ (a' : Act) (W : World),
      (∀ t, (∀ (j : Nat) (oj : Oper), ops[j]? = some oj → oj.dst = some t → ∃ e ∈ oj.after, Region.binds md e = true ∧ e.on = i) → a'.tmps[t]? = a.tmps[t]?) → G w W →
      (∀ (j d : Nat) (oj : Oper), ops[j]? = some oj → oj.dst = some d → (∃ e ∈ o.after, Region.binds md e = true ∧ e.on = j) → a'.tmps[d]? = some (xs j)) → growOp P ops G (fun v _ => v = xs i) o a' W)
    (hfin : ∀ (a' : Act) (W : World), a'.tmps.size = a.tmps.size → a'.defers = a.defers → (∀ t, (∀ (j : Nat) (oj : Oper), ops[j]? = some oj → oj.dst ≠ some t) → a'.tmps[t]? = a.tmps[t]?) → G w W →
      (∀ (j d : Nat) (oj : Oper), ops[j]? = some oj → oj.dst = some d → a'.tmps[d]? = some (xs j)) → Q .normal a' W) :
    ∀ (fuel : Nat) (listed : Array Bool) (a' : Act) (W : World), listed.size = ops.size → unlisted ops.size listed ≤ fuel → Closed md ops listed → AgreeL ops listed a a' → G w W →
      (∀ (j d : Nat) (oj : Oper), ops[j]? = some oj → oj.dst = some d → listed.getD j false = true → a'.tmps[d]? = some (xs j)) →
      wpAny P md ops Q fuel listed a' W := by
  have hend : ∀ (listed : Array Bool) (a' : Act) (W : World), listed.size = ops.size → AgreeL ops listed a a' → G w W → (∀ (j d : Nat) (oj : Oper), ops[j]? = some oj → oj.dst = some d → listed.getD j false = true → a'.tmps[d]? = some (xs j)) → Region.ready md ops listed = [] → Q .normal a' W := by
    intro listed a' W hlen hag hG hdn h0
    refine hfin a' W hag.size hag.defers (fun t ht => hag.same t fun j o hj _ => ht j o hj) hG fun j d o hj hd => hdn j d o hj hd ?_
    exact all_listedB hlen hearly h0 j (Array.getElem?_eq_some_iff.1 hj).1
  intro fuel
  induction fuel with
  | zero =>
    intro listed a' W hlen hun hcl hag hG hdn
    have h0 : Region.ready md ops listed = [] := by
      cases hr : Region.ready md ops listed with
      | nil => rfl
      | cons i l =>
        exfalso
        have hm : i ∈ Region.ready md ops listed := by rw [hr]; exact List.mem_cons_self
        obtain ⟨hl, o, ho, _⟩ := mem_ready.1 hm
        have := unlisted_set (Array.getElem?_eq_some_iff.1 ho).1 hl
        omega
    exact ⟨h0, hend listed a' W hlen hag hG hdn h0⟩
  | succ fuel ih =>
    intro listed a' W hlen hun hcl hag hG hdn
    refine ⟨hend listed a' W hlen hag hG hdn, fun i hi => ?_⟩
    obtain ⟨hl, o, ho, hall⟩ := mem_ready.1 hi
    have hlt : i < ops.size := (Array.getElem?_eq_some_iff.1 ho).1
    have hls : i < listed.size := by omega
    have hlf : listed.getD i false = false := by
      simp [hls] at hl ⊢
      exact hl
    have hg := hstep i o ho a' W (fun t ht => hag.same t fun j oj hj hlj hd => by
        obtain ⟨e, he, hb, hei⟩ := ht j oj hj hd
        have := hcl j oj hj hlj e he hb
        rw [hei, hlf] at this
        cases this) hG (fun j d oj hj hd ⟨e, he, hb, hej⟩ => hdn j d oj hj hd (by have := hall e he hb; rw [hej] at this; exact this))
    have hun' := unlisted_set hlt hl
    have hcl' : Closed md ops (listed.setIfInBounds i true) := by
      intro j oj hj hlj e he hb
      have hup : ∀ x, listed.getD x false = true → (listed.setIfInBounds i true).getD x false = true := by
        intro x hx
        by_cases hix : i = x
        · subst hix; simp [hls]
        · rw [getD_set_ne false hix]; exact hx
      by_cases hij : i = j
      · subst hij
        rw [ho] at hj
        cases hj
        exact hup _ (hall e he hb)
      · rw [getD_set_ne false hij] at hlj
        exact hup _ (hcl j oj hj hlj e he hb)
    have next : ∀ v W', v = xs i → G W W' → wpAny P md ops Q fuel (listed.setIfInBounds i true) (a'.put o.dst v) W' := by
      intro v W' hv hGW
      refine ih _ _ _ (by simpa using hlen) (by omega) hcl' (hag.put ho hls v) (htrans hG hGW) ?_
      intro j d oj hj hd hlj
      by_cases hij : i = j
      · subst hij
        rw [ho] at hj
        cases hj
        have hsz : d < a'.tmps.size := by rw [hag.size]; exact hin i o d ho hd
        rw [hd, hv]
        simp [Act.put, hsz]
      · rw [getD_set_ne false hij] at hlj
        have hu := hdn j d oj hj hd hlj
        cases hod : o.dst with
        | none => exact hu
        | some d' =>
          have hne : d' ≠ d := fun e => hij (hdst i j o oj d ho hj (by rw [hod, e]) hd)
          simp only [Act.put]
          rw [Array.getElem?_setIfInBounds_ne hne]
          exact hu
    unfold wpOp
    simp only [ho]
    unfold growOp at hg
    split
    · rename_i hw
      simp only [hw, if_true] at hg
      exact .inl (Oper.wp_of_growUpon hg next)
    · rename_i hw
      simp only [hw] at hg
      exact next undef W hg.1 hg.2

/-- Whoever writes slot t waits for operation i. -/
def outerAt (ops : Array Oper) (i t : Nat) : Bool := ops.toList.all fun o => match o.dst with | none => true | some d => !Nat.beq d t || o.after.toList.any (fun e => Region.binds .any e && Nat.beq e.on i)

def toldAt (xs : List Value) (i : Nat) : Value := xs.getD i undef

/-- The guard of operation i asks for 'true' of an operation whose yield is that. -/
def willTold (ops : Array Oper) (xs : List Value) (i : Nat) : Bool :=
  match ops.toList[i]? with
  | none => false
  | some o => match o.guard with
    | none => true
    | some (j, b) => b && (depAt ops i j).isSome && (match toldAt xs j with | .bool true => true | _ => false)

/-- The frame's slots behind the region. -/
def endTmps : List Oper → List Value → Array Value → Array Value
  | o :: os, x :: xs, t => endTmps os xs (match o.dst with | some d => t.setIfInBounds d x | none => t)
  | _, _, t => t

theorem endTmps_size : ∀ (os : List Oper) (xs : List Value) (t : Array Value), (endTmps os xs t).size = t.size
  | [], _, _ => rfl
  | _ :: _, [], _ => rfl
  | o :: os, x :: xs, t => by
    unfold endTmps
    rw [endTmps_size os xs]
    split <;> simp

theorem endTmps_other : ∀ (os : List Oper) (xs : List Value) (t : Array Value) (d : Nat), (∀ o ∈ os, o.dst ≠ some d) → (endTmps os xs t)[d]? = t[d]?
  | [], _, _, _, _ => rfl
  | _ :: _, [], _, _, _ => rfl
  | o :: os, x :: xs, t, d, h => by
    unfold endTmps
    rw [endTmps_other os xs _ d fun o' ho' => h o' (List.mem_cons_of_mem _ ho')]
    have h0 := h o List.mem_cons_self
    split
    · rename_i d' hd'
      rw [hd'] at h0
      rw [Array.getElem?_setIfInBounds_ne (fun e => h0 (by rw [e]))]
    · rfl

theorem endTmps_at : ∀ (os : List Oper) (xs : List Value) (t : Array Value) (j d : Nat) (o : Oper), xs.length = os.length → (os.filterMap (·.dst)).Nodup → os[j]? = some o → o.dst = some d → d < t.size → (endTmps os xs t)[d]? = some (xs.getD j undef)
  | [], _, _, _, _, _, _, _, h, _, _ => by simp at h
  | _ :: _, [], _, _, _, _, h, _, _, _, _ => by simp at h
  | o :: os, x :: xs, t, j, d, o', hl, hn, hj, hd, hs => by
    unfold endTmps
    cases j with
    | zero =>
      simp at hj
      subst hj
      rw [List.filterMap_cons, hd] at hn
      simp only [List.nodup_cons] at hn
      rw [endTmps_other os xs _ d fun o' ho' e => hn.1 (List.mem_filterMap.2 ⟨o', ho', e⟩)]
      simp [hd, hs]
    | succ j =>
      have hn' : (os.filterMap (·.dst)).Nodup := by
        rw [List.filterMap_cons] at hn
        cases ho : o.dst with
        | none => rw [ho] at hn; exact hn
        | some d' => rw [ho] at hn; exact (List.nodup_cons.1 hn).2
      have := endTmps_at os xs (match o.dst with | some d => t.setIfInBounds d x | none => t) j d o' (by simpa using hl) hn' (by simpa using hj) hd (by split <;> simpa using hs)
      simpa using this

theorem wp_region_told {id n : Nat} (G : World → World → Prop) (hrefl : ∀ A, G A A) (htrans : ∀ {A B C}, G A B → G B C → G A C) {xs : List Value} {a : Act} {w : World} {Q : Exit → Act → World → Prop} (hm : P.follows .mixedOrders = true)
    (hfit : regionFitB ops n = true) (hsz : a.tmps.size = n) (hwill : (List.range ops.size).all (willTold ops xs) = true)
    (hstep : AllFrom (fun i o => ∀ (a' : Act) (W : World), (∀ t, outerAt ops i t = true → a'.tmps[t]? = a.tmps[t]?) → G w.drew W →
      (∀ j d, depAt ops i j = some d → a'.tmps[d]? = some (toldAt xs j)) → growUpon P G (fun v _ => v = toldAt xs i) W ((execOp a'.eval o).run P W)) 0 ops.toList)
    (hxs : xs.length = ops.size)
    (hfin : ∀ (W : World), G w.drew W → Q .normal { a with tmps := endTmps ops.toList xs a.tmps } W) :
    (Code.region id ops true).wp P Q a w := by
  unfold regionFitB at hfit
  simp only [Bool.and_eq_true, decide_eq_true_eq] at hfit
  obtain ⟨⟨he, hn⟩, hd⟩ := hfit
  rw [List.all_eq_true] at he
  have hd' : ∀ o ∈ ops, (o.dst.isSome && decide (o.dst.getD 0 < n)) = true := fun o ho => List.all_eq_true.1 hd o (by simpa using ho)
  have dep : ∀ i o, ops[i]? = some o → ∀ j d, depAt ops i j = some d → (∃ e ∈ o.after, Region.binds .any e = true ∧ e.on = j) ∧ ∃ oj, ops[j]? = some oj ∧ oj.dst = some d := by
    intro i o hi j d h
    unfold depAt at h
    rw [Array.getElem?_toList, Array.getElem?_toList, hi] at h
    simp only at h
    split at h
    · rename_i hc
      refine ⟨?_, Option.bind_eq_some_iff.1 h⟩
      obtain ⟨e, h1, h2⟩ := List.any_eq_true.1 hc
      simp only [Bool.and_eq_true, Nat.beq_eq] at h2
      exact ⟨e, by simpa using h1, h2⟩
    · cases h
  refine wp_region_any hm ?_
  have hu : unlisted ops.size (Array.replicate ops.size false) ≤ ops.size := by
    unfold unlisted
    exact Nat.le_trans (List.length_filter_le _ _) (by simp)
  refine wpAny_of_told (md := .any) (G := G) (xs := toldAt xs) (a := a) (w := w.drew) htrans ?_ ?_ ?_ ?_ ?_ ops.size _ a w.drew (by simp) hu ?_ ⟨rfl, rfl, fun _ _ => rfl⟩ (hrefl _) ?_
  · intro i o hi e hme hb
    have := he i (List.mem_range.2 (Array.getElem?_eq_some_iff.1 hi).1)
    rw [Array.getElem?_toList, hi] at this
    have := List.all_eq_true.1 this e (by simpa using hme)
    rw [hb] at this
    simpa using this
  · intro i j o o' d hi hj h1 h2
    refine nodup_dst ops.toList (fun o ho => ?_) hn i j o o' d (by simpa using hi) (by simpa using hj) h1 h2
    have := hd' o (by simpa using ho)
    simp only [Bool.and_eq_true] at this
    exact this.1
  · intro i o d hi ho
    have := hd' o (Array.mem_of_getElem? hi)
    rw [hsz]
    simpa [ho] using this
  · intro i o hi a' W hag hG hdn
    have hw := List.all_eq_true.1 hwill i (List.mem_range.2 (Array.getElem?_eq_some_iff.1 hi).1)
    have hwant : Region.wanted o (yielded ops a'.tmps) = true := by
      unfold willTold at hw
      rw [Array.getElem?_toList, hi] at hw
      simp only at hw
      unfold Region.wanted
      split
      · rfl
      · rename_i j b hg
        rw [hg] at hw
        simp only [Bool.and_eq_true] at hw
        obtain ⟨⟨hb, hdp⟩, hk⟩ := hw
        subst hb
        obtain ⟨d, hdd⟩ := Option.isSome_iff_exists.1 hdp
        obtain ⟨h0, oj, hoj, hdj⟩ := dep i o hi j d hdd
        have hk' : toldAt xs j = .bool true := by
          revert hk
          cases toldAt xs j with
          | bool b => cases b <;> simp
          | _ => simp
        have hv := hdn j d oj hoj hdj h0
        rw [hk'] at hv
        unfold yielded
        rw [hoj]
        simp [hdj, hv]
    unfold growOp
    rw [if_pos hwant]
    have hst := AllFrom.get ops.toList 0 i o hstep (by simpa using hi)
    rw [Nat.zero_add] at hst
    refine hst a' W (fun t ht => hag t ?_) hG ?_
    · intro j oj hj hdj
      have := List.all_eq_true.1 ht oj (by simpa using Array.mem_of_getElem? hj)
      simp only [hdj] at this
      rw [Bool.or_eq_true] at this
      rcases this with h | h
      · simp at h
      · obtain ⟨e, h1, h2⟩ := List.any_eq_true.1 h
        simp only [Bool.and_eq_true, Nat.beq_eq] at h2
        exact ⟨e, by simpa using h1, h2⟩
    · intro j d hjd
      obtain ⟨h0, oj, hoj, hdj⟩ := dep i o hi j d hjd
      exact hdn j d oj hoj hdj h0
  · intro a' W h1 h2 h3 hG hdn
    have hnd : (ops.toList.filterMap (·.dst)).Nodup := hn
    have ht : a'.tmps = endTmps ops.toList xs a.tmps := by
      apply Array.ext_getElem?
      intro d
      by_cases hw : ∃ (j : Nat) (o : Oper), ops[j]? = some o ∧ o.dst = some d
      · obtain ⟨j, o, hj, ho⟩ := hw
        rw [hdn j d o hj ho, endTmps_at ops.toList xs a.tmps j d o (by simpa using hxs) hnd (by simpa using hj) ho ?_]
        · rfl
        · have := hd' o (Array.mem_of_getElem? hj)
          rw [hsz]
          simpa [ho] using this
      · rw [endTmps_other ops.toList xs a.tmps d ?_]
        · exact h3 d fun j o hj ho => hw ⟨j, o, hj, ho⟩
        · intro o ho he
          obtain ⟨j, hj⟩ := List.getElem?_of_mem ho
          exact hw ⟨j, o, by simpa using hj, he⟩
    have ha : a' = { a with tmps := endTmps ops.toList xs a.tmps } := by
      cases a'
      cases a
      simp only at ht h2
      rw [ht, h2]
    rw [ha]
    exact hfin W hG
  · intro j o hj hl
    exfalso
    have : j < ops.size := (Array.getElem?_eq_some_iff.1 hj).1
    simp [this] at hl
  · intro j d oj hj hd hl
    exfalso
    have : j < ops.size := (Array.getElem?_eq_some_iff.1 hj).1
    simp [this] at hl

theorem told_value {G : World → World → Prop} (hrefl : ∀ A, G A A) {W : World} {v : Value} {r : Result Next} {x : Value} (h : r = .ok (.value v) W) (hv : v = x) : growUpon P G (fun v _ => v = x) W r := by
  subst h
  exact ⟨hv, hrefl _⟩
theorem told_call {G : World → World → Prop} {W : World} {f : FuncId} {args : Array Value} {r : Result Next} {x : Value} (h : r = .ok (.enter f args) W)
    (hc : Calls P f args W fun e w' => e = .returned x ∧ G W w') : growUpon P G (fun v _ => v = x) W r := by
  subst h
  refine hc.mono ?_
  rintro e W' ⟨rfl, hb⟩
  exact ⟨x, rfl, rfl, hb⟩

end
end Go.Proofs.Ytjpapjijlbfemaa
