/- A drawn region whose yields are told, but for byte slices just built; the whole frame behind it. -/
import Derived.Test.YtghobgpogifjfaaTold
namespace Go.Proofs.Ytghobgpogifjfaa
open Go.RowKit

section
variable {P : Program} {ops : Array Oper} {md : Region.Mode}

theorem wpAny_of_mixed {G : World → World → Prop} {ks : Nat → Kind} {a : Act} {w : World} {Q : Exit → Act → World → Prop}
    (htrans : ∀ {A B C}, G A B → G B C → G A C)
    (hst : ∀ k v A B, Kind.holds k v A → G A B → Kind.holds k v B)
    (hearly : ∀ (i : Nat) (o : Oper), ops[i]? = some o → ∀ e ∈ o.after, Region.binds md e = true → e.on < i)
    (hdst : ∀ (i j : Nat) (o o' : Oper) (d : Nat), ops[i]? = some o → ops[j]? = some o' → o.dst = some d → o'.dst = some d → i = j)
    (hin : ∀ (i : Nat) (o : Oper) (d : Nat), ops[i]? = some o → o.dst = some d → d < a.tmps.size)
    (hstep : ∀ (i : Nat) (o : Oper), ops[i]? = some o → ∀ (a' : Act) (W : World),
      (∀ t, (∀ (j : Nat) (oj : Oper), ops[j]? = some oj → oj.dst = some t → ∃ e ∈ oj.after, Region.binds md e = true ∧ e.on = i) → a'.tmps[t]? = a.tmps[t]?) → G w W →
      (∀ (j d : Nat) (oj : Oper), ops[j]? = some oj → oj.dst = some d → (∃ e ∈ o.after, Region.binds md e = true ∧ e.on = j) → ∃ v, a'.tmps[d]? = some v ∧ (ks j).holds v W) → growOp P ops G (ks i).holds o a' W)
    (hfin : ∀ (a' : Act) (W : World), a'.tmps.size = a.tmps.size → a'.defers = a.defers → (∀ t, (∀ (j : Nat) (oj : Oper), ops[j]? = some oj → oj.dst ≠ some t) → a'.tmps[t]? = a.tmps[t]?) → G w W →
      (∀ (j d : Nat) (oj : Oper), ops[j]? = some oj → oj.dst = some d → ∃ v, a'.tmps[d]? = some v ∧ (ks j).holds v W) → Q .normal a' W) :
    ∀ (fuel : Nat) (listed : Array Bool) (a' : Act) (W : World), listed.size = ops.size → unlisted ops.size listed ≤ fuel → Closed md ops listed → AgreeL ops listed a a' → G w W →
      (∀ (j d : Nat) (oj : Oper), ops[j]? = some oj → oj.dst = some d → listed.getD j false = true → ∃ v, a'.tmps[d]? = some v ∧ (ks j).holds v W) →
      wpAny P md ops Q fuel listed a' W := by
  have hend : ∀ (listed : Array Bool) (a' : Act) (W : World), listed.size = ops.size → AgreeL ops listed a a' → G w W → (∀ (j d : Nat) (oj : Oper), ops[j]? = some oj → oj.dst = some d → listed.getD j false = true → ∃ v, a'.tmps[d]? = some v ∧ (ks j).holds v W) → Region.ready md ops listed = [] → Q .normal a' W := by
    intro listed a' W hlen hag hG hdn h0
    refine hfin a' W hag.size hag.defers (fun t ht => hag.same t fun j o hj _ => ht j o hj) hG fun j d o hj hd => hdn j d o hj hd ?_
    exact all_listedB hlen hearly h0 j (Array.getElem?_eq_some_iff.1 hj).1
  intro fuel
  induction fuel with
  | zero =>
    intro listed a' W hlen hun hcl hag hG hdn
    have h0 : Region.ready md ops listed = [] := by
      cases hr : Region.ready md ops listed with
      | nil => rfl
      | cons i l =>
        exfalso
        have hm : i ∈ Region.ready md ops listed := by rw [hr]; exact List.mem_cons_self
        obtain ⟨hl, o, ho, _⟩ := mem_ready.1 hm
        have := unlisted_set (Array.getElem?_eq_some_iff.1 ho).1 hl
        omega
    exact ⟨h0, hend listed a' W hlen hag hG hdn h0⟩
  | succ fuel ih =>
    intro listed a' W hlen hun hcl hag hG hdn
    refine ⟨hend listed a' W hlen hag hG hdn, fun i hi => ?_⟩
    obtain ⟨hl, o, ho, hall⟩ := mem_ready.1 hi
    have hlt : i < ops.size := (Array.getElem?_eq_some_iff.1 ho).1
    have hls : i < listed.size := by omega
    have hlf : listed.getD i false = false := by
      simp [hls] at hl ⊢
      exact hl
    have hg := hstep i o ho a' W (fun t ht => hag.same t fun j oj hj hlj hd => by
        obtain ⟨e, he, hb, hei⟩ := ht j oj hj hd
        have := hcl j oj hj hlj e he hb
        rw [hei, hlf] at this
        cases this) hG (fun j d oj hj hd ⟨e, he, hb, hej⟩ => hdn j d oj hj hd (by have := hall e he hb; rw [hej] at this; exact this))
    have hun' := unlisted_set hlt hl
    have hcl' : Closed md ops (listed.setIfInBounds i true) := by
      intro j oj hj hlj e he hb
      have hup : ∀ x, listed.getD x false = true → (listed.setIfInBounds i true).getD x false = true := by
        intro x hx
        by_cases hix : i = x
        · subst hix; simp [hls]
        · rw [getD_set_ne false hix]; exact hx
      by_cases hij : i = j
      · subst hij
        rw [ho] at hj
        cases hj
        exact hup _ (hall e he hb)
      · rw [getD_set_ne false hij] at hlj
        exact hup _ (hcl j oj hj hlj e he hb)
    have next : ∀ v W', (ks i).holds v W' → G W W' → wpAny P md ops Q fuel (listed.setIfInBounds i true) (a'.put o.dst v) W' := by
      intro v W' hv hGW
      refine ih _ _ _ (by simpa using hlen) (by omega) hcl' (hag.put ho hls v) (htrans hG hGW) ?_
      intro j d oj hj hd hlj
      by_cases hij : i = j
      · subst hij
        rw [ho] at hj
        cases hj
        have hsz : d < a'.tmps.size := by rw [hag.size]; exact hin i o d ho hd
        refine ⟨v, ?_, hv⟩
        rw [hd]
        simp [Act.put, hsz]
      · rw [getD_set_ne false hij] at hlj
        obtain ⟨u, hu, hku⟩ := hdn j d oj hj hd hlj
        refine ⟨u, ?_, hst _ _ _ _ hku hGW⟩
        cases hod : o.dst with
        | none => exact hu
        | some d' =>
          have hne : d' ≠ d := fun e => hij (hdst i j o oj d ho hj (by rw [hod, e]) hd)
          simp only [Act.put]
          rw [Array.getElem?_setIfInBounds_ne hne]
          exact hu
    unfold wpOp
    simp only [ho]
    unfold growOp at hg
    split
    · rename_i hw
      simp only [hw, if_true] at hg
      exact .inl (Oper.wp_of_growUpon hg next)
    · rename_i hw
      simp only [hw] at hg
      exact next undef W hg.1 hg.2

/-- A list of yields that is as the kinds say. -/
def asKinds : List Kind → List Value → Prop
  | [], [] => True
  | .is x :: ks, v :: vs => v = x ∧ asKinds ks vs
  | .sl _ :: ks, _ :: vs => asKinds ks vs
  | _, _ => False

theorem asKinds_of : ∀ (ks : List Kind) (vs : List Value) (W : World), ks.length = vs.length → (∀ i, i < ks.length → (kindAt ks i).holds (vs.getD i undef) W) → asKinds ks vs
  | [], [], _, _, _ => trivial
  | [], _ :: _, _, h, _ => by simp at h
  | _ :: _, [], _, h, _ => by simp at h
  | .is x :: ks, v :: vs, W, hl, h => ⟨h 0 (by simp), asKinds_of ks vs W (by simpa using hl) fun i hi => by have := h (i + 1) (by simpa using hi); exact this⟩
  | .sl l :: ks, v :: vs, W, hl, h => asKinds_of ks vs W (by simpa using hl) fun i hi => by have := h (i + 1) (by simpa using hi); exact this

theorem wp_region_mixed {id n : Nat} {ks : List Kind} {a : Act} {w : World} {Q : Exit → Act → World → Prop} (hm : P.follows .mixedOrders = true)
    (hfit : regionFitB ops n = true) (hsz : a.tmps.size = n) (hwill : (List.range ops.size).all (willDo ops ks) = true) (hks : ks.length = ops.size)
    (hstep : AllFrom (fun i o => ∀ (a' : Act) (W : World), (∀ t, outerAt ops i t = true → a'.tmps[t]? = a.tmps[t]?) → Ups w.drew W →
      (∀ j d x, depAt ops i j = some d → kindAt ks j = .is x → a'.tmps[d]? = some x) → (∀ j d l, depAt ops i j = some d → kindAt ks j = .sl l → ∃ v, a'.tmps[d]? = some v ∧ (Kind.sl l).holds v W) →
      growUpon P Ups (kindAt ks i).holds W ((execOp a'.eval o).run P W)) 0 ops.toList)
    (hfin : ∀ (W : World) (xs : List Value), Ups w.drew W → asKinds ks xs → Q .normal { a with tmps := endTmps ops.toList xs a.tmps } W) :
    (Code.region id ops true).wp P Q a w := by
  unfold regionFitB at hfit
  simp only [Bool.and_eq_true, decide_eq_true_eq] at hfit
  obtain ⟨⟨he, hn⟩, hd⟩ := hfit
  rw [List.all_eq_true] at he
  have hd' : ∀ o ∈ ops, (o.dst.isSome && decide (o.dst.getD 0 < n)) = true := fun o ho => List.all_eq_true.1 hd o (by simpa using ho)
  have dep : ∀ i o, ops[i]? = some o → ∀ j d, depAt ops i j = some d → (∃ e ∈ o.after, Region.binds .any e = true ∧ e.on = j) ∧ ∃ oj, ops[j]? = some oj ∧ oj.dst = some d := by
    intro i o hi j d h
    unfold depAt at h
    rw [Array.getElem?_toList, Array.getElem?_toList, hi] at h
    simp only at h
    split at h
    · rename_i hc
      refine ⟨?_, Option.bind_eq_some_iff.1 h⟩
      obtain ⟨e, h1, h2⟩ := List.any_eq_true.1 hc
      simp only [Bool.and_eq_true, Nat.beq_eq] at h2
      exact ⟨e, by simpa using h1, h2⟩
    · cases h
  have hu : unlisted ops.size (Array.replicate ops.size false) ≤ ops.size := by
    unfold unlisted
    exact Nat.le_trans (List.length_filter_le _ _) (by simp)
  refine wp_region_any hm ?_
  refine wpAny_of_mixed (md := .any) (G := Ups) (ks := kindAt ks) (a := a) (w := w.drew) Ups.trans (fun k v A B => Kind.holds_grows) ?_ ?_ ?_ ?_ ?_ ops.size _ a w.drew (by simp) hu ?_ ⟨rfl, rfl, fun _ _ => rfl⟩ (Ups.refl _) ?_
  · intro i o hi e hme hb
    have := he i (List.mem_range.2 (Array.getElem?_eq_some_iff.1 hi).1)
    rw [Array.getElem?_toList, hi] at this
    have := List.all_eq_true.1 this e (by simpa using hme)
    rw [hb] at this
    simpa using this
  · intro i j o o' d hi hj h1 h2
    refine nodup_dst ops.toList (fun o ho => ?_) hn i j o o' d (by simpa using hi) (by simpa using hj) h1 h2
    have := hd' o (by simpa using ho)
    simp only [Bool.and_eq_true] at this
    exact this.1
  · intro i o d hi ho
    have := hd' o (Array.mem_of_getElem? hi)
    rw [hsz]
    simpa [ho] using this
  · intro i o hi a' W hag hG hdn
    have hw := List.all_eq_true.1 hwill i (List.mem_range.2 (Array.getElem?_eq_some_iff.1 hi).1)
    have hwant : Region.wanted o (yielded ops a'.tmps) = true := by
      unfold willDo at hw
      rw [hi] at hw
      simp only at hw
      unfold Region.wanted
      split
      · rfl
      · rename_i j b hg
        rw [hg] at hw
        simp only [Bool.and_eq_true] at hw
        obtain ⟨⟨hb, hdp⟩, hk⟩ := hw
        subst hb
        obtain ⟨d, hdd⟩ := Option.isSome_iff_exists.1 hdp
        obtain ⟨h0, oj, hoj, hdj⟩ := dep i o hi j d hdd
        have hk' : kindAt ks j = .is (.bool true) := by
          revert hk
          cases kindAt ks j with
          | sl l => simp
          | is v =>
            cases v with
            | bool b => cases b <;> simp
            | _ => simp
        obtain ⟨v, hv, hkv⟩ := hdn j d oj hoj hdj h0
        rw [hk'] at hkv
        simp only [Kind.holds] at hkv
        subst hkv
        unfold yielded
        rw [hoj]
        simp [hdj, hv]
    unfold growOp
    rw [if_pos hwant]
    have hst := AllFrom.get ops.toList 0 i o hstep (by simpa using hi)
    rw [Nat.zero_add] at hst
    refine hst a' W (fun t ht => hag t ?_) hG ?_ ?_
    · intro j oj hj hdj
      have := List.all_eq_true.1 ht oj (by simpa using Array.mem_of_getElem? hj)
      simp only [hdj] at this
      rw [Bool.or_eq_true] at this
      rcases this with h | h
      · simp at h
      · obtain ⟨e, h1, h2⟩ := List.any_eq_true.1 h
        simp only [Bool.and_eq_true, Nat.beq_eq] at h2
        exact ⟨e, by simpa using h1, h2⟩
    · intro j d x hjd hk
      obtain ⟨h0, oj, hoj, hdj⟩ := dep i o hi j d hjd
      obtain ⟨v, hv, hkv⟩ := hdn j d oj hoj hdj h0
      rw [hk] at hkv
      simp only [Kind.holds] at hkv
      rw [hv, hkv]
    · intro j d l hjd hk
      obtain ⟨h0, oj, hoj, hdj⟩ := dep i o hi j d hjd
      obtain ⟨v, hv, hkv⟩ := hdn j d oj hoj hdj h0
      rw [hk] at hkv
      exact ⟨v, hv, hkv⟩
  · intro a' W h1 h2 h3 hG hdn
    have hnd : (ops.toList.filterMap (·.dst)).Nodup := hn
    have hxl : (ops.toList.map fun o => a'.tmps.getD (o.dst.getD 0) undef).length = ops.size := by simp
    have hxat : ∀ (j d : Nat) (o : Oper), ops[j]? = some o → o.dst = some d → (ops.toList.map fun o => a'.tmps.getD (o.dst.getD 0) undef).getD j undef = a'.tmps.getD d undef := by
      intro j d o hj hdo
      rw [List.getD_eq_getElem?_getD, List.getElem?_map, Array.getElem?_toList, hj]
      simp [hdo]
    generalize hxs : (ops.toList.map fun o => a'.tmps.getD (o.dst.getD 0) undef) = xs at *
    have ht : a'.tmps = endTmps ops.toList xs a.tmps := by
      apply Array.ext_getElem?
      intro d
      by_cases hw : ∃ (j : Nat) (o : Oper), ops[j]? = some o ∧ o.dst = some d
      · obtain ⟨j, o, hj, ho⟩ := hw
        obtain ⟨v, hv, _⟩ := hdn j d o hj ho
        rw [endTmps_at ops.toList xs a.tmps j d o (by simpa using hxl) hnd (by simpa using hj) ho ?_]
        · rw [hxat j d o hj ho, hv]
          simp [hv]
        · have := hd' o (Array.mem_of_getElem? hj)
          rw [hsz]
          simpa [ho] using this
      · rw [endTmps_other ops.toList xs a.tmps d ?_]
        · exact h3 d fun j o hj ho => hw ⟨j, o, hj, ho⟩
        · intro o ho he
          obtain ⟨j, hj⟩ := List.getElem?_of_mem ho
          exact hw ⟨j, o, by simpa using hj, he⟩
    have ha : a' = { a with tmps := endTmps ops.toList xs a.tmps } := by
      cases a'
      cases a
      simp only at ht h2
      rw [ht, h2]
    have hkk : asKinds ks xs := by
      refine asKinds_of ks xs W (by rw [hks, hxl]) fun i hi => ?_
      have hlt : i < ops.size := by omega
      have ho : ops[i]? = some ops[i] := Array.getElem?_eq_getElem hlt
      have := hd' ops[i] (Array.getElem_mem hlt)
      simp only [Bool.and_eq_true] at this
      obtain ⟨d, hdo⟩ := Option.isSome_iff_exists.1 this.1
      obtain ⟨v, hv, hkv⟩ := hdn i d _ ho hdo
      rw [hxat i d _ ho hdo]
      simpa [hv] using hkv
    rw [ha]
    exact hfin W xs hG hkk
  · intro j o hj hl
    exfalso
    have : j < ops.size := (Array.getElem?_eq_some_iff.1 hj).1
    simp [this] at hl
  · intro j d oj hj hd hl
    exfalso
    have : j < ops.size := (Array.getElem?_eq_some_iff.1 hj).1
    simp [this] at hl

end
end Go.Proofs.Ytghobgpogifjfaa
