/- Texts of this proof, one behind the other: Grow, Told. -/
import Derived.Orders
import Derived.Below
import Derived.WalkKit

/- A region that draws its order and whose operations make memory: each operation is told by what it yields, and what it yields stays true however the world grows: then the order makes no difference. -/
namespace Go.Proofs.YtmabpnkdagipfaaGreat
open Go.RowKit

section
variable {P : Program} {ops : Array Oper} {md : Region.Mode}

/-- What an operation, carried out in world W, comes to: a value that is as told, in a world that has grown out of W. -/
def growUpon (P : Program) (G : World → World → Prop) (V : Value → World → Prop) (W : World) : Result Next → Prop
  | .ok (.value v) W' => V v W' ∧ G W W'
  | .ok .skip W' => V undef W' ∧ G W W'
  | .ok (.enter f args) W' => Calls P f args W' fun e W'' => ∃ v, e = .returned v ∧ V v W'' ∧ G W W''
  | _ => False

/-- Operation o in frame a and world W. -/
def growOp (P : Program) (ops : Array Oper) (G : World → World → Prop) (V : Value → World → Prop) (o : Oper) (a : Act) (W : World) : Prop :=
  if Region.wanted o (yielded ops a.tmps) then growUpon P G V W ((execOp a.eval o).run P W) else V undef W ∧ G W W

/-- The frame is a's, but for the places that the region's operations write. -/
structure Agree (ops : Array Oper) (a a' : Act) : Prop where
  size : a'.tmps.size = a.tmps.size
  defers : a'.defers = a.defers
  same : ∀ t, (∀ (j : Nat) (o : Oper), ops[j]? = some o → o.dst ≠ some t) → a'.tmps[t]? = a.tmps[t]?

theorem Agree.refl (ops : Array Oper) (a : Act) : Agree ops a a := ⟨rfl, rfl, fun _ _ => rfl⟩
theorem Agree.put {a a' : Act} (h : Agree ops a a') {i : Nat} {o : Oper} (hi : ops[i]? = some o) (v : Value) : Agree ops a (a'.put o.dst v) := by
  cases hd : o.dst with
  | none => exact h
  | some d =>
    refine ⟨by simp [Act.put, h.size], h.defers, fun t ht => ?_⟩
    have hne : d ≠ t := fun e => ht i o hi (by rw [hd, e])
    simp only [Act.put]
    rw [Array.getElem?_setIfInBounds_ne hne]
    exact h.same t ht

/-- What is known of what has been done. -/
def Done (ops : Array Oper) (Vs : Nat → Value → World → Prop) (is : Nat → Prop) (a : Act) (W : World) : Prop :=
  ∀ (j : Nat) (o : Oper) (d : Nat), ops[j]? = some o → o.dst = some d → is j → ∃ v, a.tmps[d]? = some v ∧ Vs j v W

theorem Oper.wp_of_growUpon {G : World → World → Prop} {V : Value → World → Prop} {o : Oper} {a : Act} {W : World} {K : Act → World → Prop} {Q : Exit → Act → World → Prop}
    (h : growUpon P G V W ((execOp a.eval o).run P W)) (hK : ∀ v W', V v W' → G W W' → K (a.put o.dst v) W') : o.wp P a W K Q := by
  unfold Oper.wp
  generalize (execOp a.eval o).run P W = r at *
  cases r with
  | ok n W' =>
    cases n <;> simp only [growUpon] at h <;> simp only [Oper.upon]
    case value v => exact hK _ _ h.1 h.2
    case skip => exact hK _ _ h.1 h.2
    case enter f args =>
      refine h.mono ?_
      rintro e W'' ⟨v, rfl, h1, h2⟩
      exact hK _ _ h1 h2
  | halt x W' => simp only [growUpon] at h

/-- How many are not listed yet. -/
def unlisted (n : Nat) (listed : Array Bool) : Nat := ((List.range n).filter fun i => !listed.getD i true).length

theorem unlisted_set {n i : Nat} {listed : Array Bool} (hi : i < n) (hl : listed.getD i true = false) : unlisted n (listed.setIfInBounds i true) < unlisted n listed := by
  have hsz : i < listed.size := by
    rcases Nat.lt_or_ge i listed.size with h | h
    · exact h
    · simp [Array.getElem?_eq_none h] at hl
  unfold unlisted
  have hsub : ∀ j, (!(listed.setIfInBounds i true).getD j true) = true → (!listed.getD j true) = true := by
    intro j hj
    by_cases hij : i = j
    · subst hij; simp [hsz] at hj
    · rw [getD_set_ne true hij] at hj; exact hj
  rw [← List.countP_eq_length_filter, ← List.countP_eq_length_filter]
  have hmem : i ∈ List.range n := List.mem_range.2 hi
  revert hmem
  generalize List.range n = l
  intro hmem
  induction l with
  | nil => cases hmem
  | cons x l ih =>
    rw [List.countP_cons, List.countP_cons]
    rcases List.mem_cons.1 hmem with rfl | hm
    · have h1 : (!(listed.setIfInBounds i true).getD i true) = false := by simp [hsz]
      have h2 : (!listed.getD i true) = true := by rw [hl]; rfl
      rw [h1, h2]
      have := List.countP_mono_left (l := l) (p := fun j => !(listed.setIfInBounds i true).getD j true) (q := fun j => !listed.getD j true) (fun j _ hj => hsub j hj)
      simp only [Bool.false_eq_true, if_false, if_true]; omega
    · have := ih hm
      have h3 : (if (!(listed.setIfInBounds i true).getD x true) = true then 1 else 0) ≤ (if (!listed.getD x true) = true then 1 else 0) := by
        by_cases hx : (!(listed.setIfInBounds i true).getD x true) = true
        · rw [if_pos hx, if_pos (hsub x hx)]; exact Nat.le_refl _
        · rw [if_neg hx]; exact Nat.zero_le _
      omega

/-- Where nothing is ready all is listed: each waits for earlier ones alone. -/
theorem all_listed {listed : Array Bool} (hlen : listed.size = ops.size) (hearly : ∀ (i : Nat) (o : Oper), ops[i]? = some o → ∀ e ∈ o.after, e.on < i) (h : Region.ready md ops listed = []) : ∀ i, i < ops.size → listed.getD i false = true := by
  intro i
  induction i using Nat.strongRecOn with
  | _ i ih =>
    intro hi
    have ho : ops[i]? = some ops[i] := Array.getElem?_eq_getElem hi
    cases hl : listed.getD i true with
    | true =>
      have : i < listed.size := by omega
      simp [this] at hl ⊢
      exact hl
    | false =>
      exfalso
      have hm : i ∈ Region.ready md ops listed := mem_ready.2 ⟨hl, ops[i], ho, fun e he _ => ih e.on (hearly i _ ho e he) (Nat.lt_trans (hearly i _ ho e he) hi)⟩
      rw [h] at hm
      cases hm

theorem wpAny_of_grow {G : World → World → Prop} {Vs : Nat → Value → World → Prop} {a : Act} {w : World} {Q : Exit → Act → World → Prop}
    (htrans : ∀ {A B C}, G A B → G B C → G A C)
    (hst : ∀ i v W W', Vs i v W → G W W' → Vs i v W')
    (hearly : ∀ (i : Nat) (o : Oper), ops[i]? = some o → ∀ e ∈ o.after, e.on < i)
    (hdst : ∀ (i j : Nat) (o o' : Oper) (d : Nat), ops[i]? = some o → ops[j]? = some o' → o.dst = some d → o'.dst = some d → i = j)
    (hin : ∀ (i : Nat) (o : Oper) (d : Nat), ops[i]? = some o → o.dst = some d → d < a.tmps.size)
    (hstep : ∀ (i : Nat) (o : Oper), ops[i]? = some o → ∀ a' W, Agree ops a a' → G w W → Done ops Vs (fun j => ∃ e ∈ o.after, Region.binds md e = true ∧ e.on = j) a' W → growOp P ops G (Vs i) o a' W)
    (hfin : ∀ a' W, Agree ops a a' → G w W → Done ops Vs (fun _ => True) a' W → Q .normal a' W) :
    ∀ (fuel : Nat) (listed : Array Bool) (a' : Act) (W : World), listed.size = ops.size → unlisted ops.size listed ≤ fuel → Agree ops a a' → G w W → Done ops Vs (fun j => listed.getD j false = true) a' W →
      wpAny P md ops Q fuel listed a' W := by
  have hend : ∀ (listed : Array Bool) (a' : Act) (W : World), listed.size = ops.size → Agree ops a a' → G w W → Done ops Vs (fun j => listed.getD j false = true) a' W → Region.ready md ops listed = [] → Q .normal a' W := by
    intro listed a' W hlen hag hG hdn h0
    refine hfin a' W hag hG fun j o d hj hd _ => hdn j o d hj hd ?_
    exact all_listed hlen hearly h0 j (Array.getElem?_eq_some_iff.1 hj).1
  intro fuel
  induction fuel with
  | zero =>
    intro listed a' W hlen hun hag hG hdn
    have h0 : Region.ready md ops listed = [] := by
      cases hr : Region.ready md ops listed with
      | nil => rfl
      | cons i l =>
        exfalso
        have hm : i ∈ Region.ready md ops listed := by rw [hr]; exact List.mem_cons_self
        obtain ⟨hl, o, ho, _⟩ := mem_ready.1 hm
        have := unlisted_set (Array.getElem?_eq_some_iff.1 ho).1 hl
        omega
    exact ⟨h0, hend listed a' W hlen hag hG hdn h0⟩
  | succ fuel ih =>
    intro listed a' W hlen hun hag hG hdn
    refine ⟨hend listed a' W hlen hag hG hdn, fun i hi => ?_⟩
    obtain ⟨hl, o, ho, hall⟩ := mem_ready.1 hi
    have hlt : i < ops.size := (Array.getElem?_eq_some_iff.1 ho).1
    have hg := hstep i o ho a' W hag hG (fun j oj d hj hd ⟨e, he, hb, hej⟩ => hdn j oj d hj hd (by have := hall e he hb; rw [hej] at this; exact this))
    have hun' := unlisted_set hlt hl
    have next : ∀ v W', Vs i v W' → G W W' → wpAny P md ops Q fuel (listed.setIfInBounds i true) (a'.put o.dst v) W' := by
      intro v W' hv hGW
      refine ih _ _ _ (by simpa using hlen) (by omega) (hag.put ho v) (htrans hG hGW) ?_
      intro j oj d hj hd hlj
      by_cases hij : i = j
      · subst hij
        rw [ho] at hj
        cases hj
        have hsz : d < a'.tmps.size := by rw [hag.size]; exact hin i o d ho hd
        refine ⟨v, ?_, hv⟩
        rw [hd]
        simp [Act.put, hsz]
      · rw [getD_set_ne false hij] at hlj
        obtain ⟨u, hu, hVu⟩ := hdn j oj d hj hd hlj
        refine ⟨u, ?_, hst j u W W' hVu hGW⟩
        cases hod : o.dst with
        | none => exact hu
        | some d' =>
          have hne : d' ≠ d := fun e => hij (hdst i j o oj d ho hj (by rw [hod, e]) hd)
          simp only [Act.put]
          rw [Array.getElem?_setIfInBounds_ne hne]
          exact hu
    unfold wpOp
    simp only [ho]
    unfold growOp at hg
    split
    · rename_i hw
      simp only [hw, if_true] at hg
      exact .inl (Oper.wp_of_growUpon hg next)
    · rename_i hw
      simp only [hw] at hg
      exact next undef W hg.1 hg.2

/-- **A REGION THAT DRAWS ITS ORDER, EACH OPERATION TOLD BY WHAT IT YIELDS.** -/
theorem wp_region_grow {id : Nat} {G : World → World → Prop} {Vs : Nat → Value → World → Prop} {a : Act} {w : World} {Q : Exit → Act → World → Prop} (hm : P.follows .mixedOrders = true)
    (hrefl : ∀ A, G A A) (htrans : ∀ {A B C}, G A B → G B C → G A C)
    (hst : ∀ i v W W', Vs i v W → G W W' → Vs i v W')
    (hearly : ∀ (i : Nat) (o : Oper), ops[i]? = some o → ∀ e ∈ o.after, e.on < i)
    (hdst : ∀ (i j : Nat) (o o' : Oper) (d : Nat), ops[i]? = some o → ops[j]? = some o' → o.dst = some d → o'.dst = some d → i = j)
    (hin : ∀ (i : Nat) (o : Oper) (d : Nat), ops[i]? = some o → o.dst = some d → d < a.tmps.size)
    (hstep : ∀ (i : Nat) (o : Oper), ops[i]? = some o → ∀ a' W, Agree ops a a' → G w.drew W → Done ops Vs (fun j => ∃ e ∈ o.after, Region.binds .any e = true ∧ e.on = j) a' W → growOp P ops G (Vs i) o a' W)
    (hfin : ∀ a' W, Agree ops a a' → G w.drew W → Done ops Vs (fun _ => True) a' W → Q .normal a' W) : (Code.region id ops true).wp P Q a w := by
  refine wp_region_any hm ?_
  have hu : unlisted ops.size (Array.replicate ops.size false) ≤ ops.size := by
    unfold unlisted
    exact Nat.le_trans (List.length_filter_le _ _) (by simp)
  refine wpAny_of_grow (md := .any) (G := G) (Vs := Vs) (a := a) (w := w.drew) htrans hst hearly hdst hin hstep hfin ops.size _ a w.drew (by simp) hu (Agree.refl _ _) (hrefl _) ?_
  intro j o d hj hd hl
  exfalso
  have : j < ops.size := (Array.getElem?_eq_some_iff.1 hj).1
  simp [this] at hl


/-! ### Yields of two kinds: a value told outright, and a byte slice just built -/
inductive Kind where
  | is (v : Value)
  | sl (l : List UInt8)

def Kind.holds : Kind → Value → World → Prop
  | .is x, v, _ => v = x
  | .sl l, v, W => ∃ b, v = .slice (some ⟨b, 0, none⟩) l.length l.length ∧ b < W.heap.size ∧ ∀ j (h : j < l.length), W.cell? ⟨b, j, none⟩ = some (.int .u8 ((l[j]).toNat : Int))

def kindAt (ks : List Kind) (i : Nat) : Kind := ks.getD i (.is undef)

/-- The worlds' growth. -/
def Ups (A B : World) : Prop := Below A.heap.size A B
theorem Ups.refl (A : World) : Ups A A := Below.refl _ _
theorem Ups.trans {A B C : World} (h : Ups A B) (k : Ups B C) : Ups A C := Below.trans h (Below.mono k h.size)

theorem Kind.holds_grows {k : Kind} {v : Value} {A B : World} (h : k.holds v A) (hg : Ups A B) : k.holds v B := by
  cases k with
  | is x => exact h
  | sl l =>
    obtain ⟨b, h1, h2, h3⟩ := h
    refine ⟨b, h1, Nat.lt_of_lt_of_le h2 hg.size, fun j hj => ?_⟩
    rw [Below.cell hg (p := ⟨b, j, none⟩) h2]
    exact h3 j hj

/-- Where operation j's yield lies, where operation i waits for it. -/
def depAt (ops : Array Oper) (i j : Nat) : Option Nat :=
  match ops.toList[i]? with
  | none => none
  | some o => if o.after.toList.any (fun e => Region.binds .any e && Nat.beq e.on j) then (ops.toList[j]?).bind (·.dst) else none

/-- The guard of operation i asks for 'true' of an operation whose kind is that. -/
def willDo (ops : Array Oper) (ks : List Kind) (i : Nat) : Bool :=
  match ops[i]? with
  | none => false
  | some o => match o.guard with
    | none => true
    | some (j, b) => b && (depAt ops i j).isSome && (match kindAt ks j with | .is (.bool true) => true | _ => false)

def regionFit (ops : Array Oper) (n : Nat) : Bool :=
  ((List.range ops.size).all fun i => match ops[i]? with | none => true | some o => o.after.all fun e => decide (e.on < i))
  && (ops.toList.filterMap (·.dst)).Nodup && ops.all (fun o => o.dst.isSome && decide (o.dst.getD 0 < n))

/-- No operation writes slot t. -/
def outer (ops : Array Oper) (t : Nat) : Bool := ops.toList.all fun o => match o.dst with | none => true | some d => !Nat.beq d t

theorem Agree.outer {a a' : Act} (h : Agree ops a a') {t : Nat} (ht : outer ops t = true) : a'.tmps[t]? = a.tmps[t]? := by
  refine h.same t fun j o hj he => ?_
  have := List.all_eq_true.1 ht o (by simpa using Array.mem_of_getElem? hj)
  simp [he] at this

theorem nodup_dst : ∀ (l : List Oper), (∀ o ∈ l, o.dst.isSome = true) → (l.filterMap (·.dst)).Nodup → ∀ (i j : Nat) (o o' : Oper) (d : Nat), l[i]? = some o → l[j]? = some o' → o.dst = some d → o'.dst = some d → i = j := by
  intro l
  induction l with
  | nil => intro _ _ i j o o' d h; simp at h
  | cons x l ih =>
    intro hs hn i j o o' d hi hj hd hd'
    have hx := hs x List.mem_cons_self
    obtain ⟨dx, hdx⟩ := Option.isSome_iff_exists.1 hx
    rw [List.filterMap_cons, hdx] at hn
    simp only [List.nodup_cons] at hn
    cases i with
    | zero =>
      cases j with
      | zero => rfl
      | succ j =>
        exfalso
        simp at hi hj
        subst hi
        refine hn.1 (List.mem_filterMap.2 ⟨o', List.mem_of_getElem? hj, ?_⟩)
        rw [hd', ← hdx, hd]
    | succ i =>
      cases j with
      | zero =>
        exfalso
        simp at hi hj
        subst hj
        refine hn.1 (List.mem_filterMap.2 ⟨o, List.mem_of_getElem? hi, ?_⟩)
        rw [hd, ← hdx, hd']
      | succ j =>
        simp at hi hj
        exact congrArg _ (ih (fun y hy => hs y (List.mem_cons_of_mem _ hy)) hn.2 i j o o' d hi hj hd hd')

/-- Of each of a list's elements, with its place. -/
def AllFrom {α : Type} (Q : Nat → α → Prop) : Nat → List α → Prop
  | _, [] => True
  | k, o :: l => Q k o ∧ AllFrom Q (k + 1) l
theorem AllFrom.get {α : Type} {Q : Nat → α → Prop} : ∀ (l : List α) (k i : Nat) (o : α), AllFrom Q k l → l[i]? = some o → Q (k + i) o := by
  intro l
  induction l with
  | nil => intro k i o _ h; simp at h
  | cons x l ih =>
    intro k i o h hi
    cases i with
    | zero => simp at hi; subst hi; exact h.1
    | succ i =>
      have := ih (k + 1) i o h.2 (by simpa using hi)
      rwa [Nat.add_right_comm, Nat.add_assoc] at this

/-- **THE SAME, BY KINDS.** An operation's value may lean on what the yields that it waits for are. -/
theorem wp_region_kinds {id n : Nat} {ks : List Kind} {a : Act} {w : World} {Q : Exit → Act → World → Prop} (hm : P.follows .mixedOrders = true)
    (hfit : regionFit ops n = true) (hsz : a.tmps.size = n) (hwill : (List.range ops.size).all (willDo ops ks) = true)
    (hstep : AllFrom (fun i o => ∀ (a' : Act) (W : World), (∀ t, outer ops t = true → a'.tmps[t]? = a.tmps[t]?) → Ups w.drew W →
      (∀ j d x, depAt ops i j = some d → kindAt ks j = .is x → a'.tmps[d]? = some x) → (∀ j d l, depAt ops i j = some d → kindAt ks j = .sl l → ∃ v, a'.tmps[d]? = some v ∧ (Kind.sl l).holds v W) →
      growUpon P Ups (kindAt ks i).holds W ((execOp a'.eval o).run P W)) 0 ops.toList)
    (hfin : ∀ (a' : Act) (W : World), (∀ t, outer ops t = true → a'.tmps[t]? = a.tmps[t]?) → a'.tmps.size = a.tmps.size → a'.defers = a.defers → Ups w.drew W → (∀ j d x, (ops[j]?).bind (·.dst) = some d → kindAt ks j = .is x → a'.tmps[d]? = some x) → Q .normal a' W) :
    (Code.region id ops true).wp P Q a w := by
  unfold regionFit at hfit
  simp only [Bool.and_eq_true, decide_eq_true_eq] at hfit
  obtain ⟨⟨he, hn⟩, hd⟩ := hfit
  rw [List.all_eq_true] at he
  have hd' := Array.all_eq_true'.1 hd
  have key : ∀ (is : Nat → Prop) a' W, Done ops (fun i => (kindAt ks i).holds) is a' W → ∀ j d k, is j → (ops[j]?).bind (·.dst) = some d → kindAt ks j = k → ∃ v, a'.tmps[d]? = some v ∧ k.holds v W := by
    intro is a' W hdn j d k hj hd hk
    obtain ⟨o, ho, hdo⟩ := Option.bind_eq_some_iff.1 hd
    subst hk
    exact hdn j o d ho hdo hj
  have dep : ∀ i o, ops[i]? = some o → ∀ j d, depAt ops i j = some d → (∃ e ∈ o.after, Region.binds .any e = true ∧ e.on = j) ∧ (ops[j]?).bind (·.dst) = some d := by
    intro i o hi j d h
    unfold depAt at h
    rw [Array.getElem?_toList, Array.getElem?_toList, hi] at h
    simp only at h
    split at h
    · rename_i hc
      refine ⟨?_, h⟩
      obtain ⟨e, h1, h2⟩ := List.any_eq_true.1 hc
      simp only [Bool.and_eq_true, Nat.beq_eq] at h2
      exact ⟨e, by simpa using h1, h2⟩
    · cases h
  refine wp_region_grow (G := Ups) (Vs := fun i => (kindAt ks i).holds) hm Ups.refl Ups.trans (fun i v W W' => Kind.holds_grows) ?_ ?_ ?_ ?_ ?_
  · intro i o hi e hme
    have := he i (List.mem_range.2 (Array.getElem?_eq_some_iff.1 hi).1)
    rw [hi] at this
    simpa using Array.all_eq_true'.1 this e hme
  · intro i j o o' d hi hj h1 h2
    refine nodup_dst ops.toList (fun o ho => ?_) hn i j o o' d (by simpa using hi) (by simpa using hj) h1 h2
    have := hd' o (by simpa using ho)
    simp only [Bool.and_eq_true] at this
    exact this.1
  · intro i o d hi ho
    have := hd' o (Array.mem_of_getElem? hi)
    rw [hsz]
    simpa [ho] using this
  · intro i o hi a' W hag hG hdn
    have hw := List.all_eq_true.1 hwill i (List.mem_range.2 (Array.getElem?_eq_some_iff.1 hi).1)
    have hwant : Region.wanted o (yielded ops a'.tmps) = true := by
      unfold willDo at hw
      rw [hi] at hw
      simp only at hw
      unfold Region.wanted
      split
      · rfl
      · rename_i j b hg
        rw [hg] at hw
        simp only [Bool.and_eq_true] at hw
        obtain ⟨⟨hb, hdp⟩, hk⟩ := hw
        subst hb
        obtain ⟨d, hdd⟩ := Option.isSome_iff_exists.1 hdp
        have h0 := dep i o hi j d hdd
        have hk' : kindAt ks j = .is (.bool true) := by
          revert hk
          cases kindAt ks j with
          | sl l => simp
          | is v =>
            cases v with
            | bool b => cases b <;> simp
            | _ => simp
        obtain ⟨v, hv, hkv⟩ := key _ _ _ hdn j d _ h0.1 h0.2 hk'
        simp only [Kind.holds] at hkv
        subst hkv
        unfold yielded
        rw [h0.2]
        simp [hv]
    unfold growOp
    rw [if_pos hwant]
    have hst := AllFrom.get ops.toList 0 i o hstep (by simpa using hi)
    rw [Nat.zero_add] at hst
    refine hst a' W (fun t ht => hag.outer ht) hG ?_ ?_
    · intro j d x hjd hk
      have h0 := dep i o hi j d hjd
      obtain ⟨v, hv, hkv⟩ := key _ _ _ hdn j d _ h0.1 h0.2 hk
      simp only [Kind.holds] at hkv
      rw [hv, hkv]
    · intro j d l hjd hk
      have h0 := dep i o hi j d hjd
      exact key _ _ _ hdn j d _ h0.1 h0.2 hk
  · intro a' W hag hG hdn
    refine hfin a' W (fun t ht => hag.outer ht) hag.size hag.defers hG ?_
    intro j d x hjd hk
    obtain ⟨v, hv, hkv⟩ := key _ _ _ hdn j d _ trivial hjd hk
    simp only [Kind.holds] at hkv
    rw [hv, hkv]


theorem growUpon_value {V : Value → World → Prop} {W : World} {v : Value} {r : Result Next} (h : r = .ok (.value v) W) (hv : V v W) : growUpon P Ups V W r := by
  subst h
  exact ⟨hv, Ups.refl _⟩
theorem growUpon_call {V : Value → World → Prop} {W : World} {f : FuncId} {args : Array Value} {r : Result Next} {x : Value} (h : r = .ok (.enter f args) W)
    (hc : Calls P f args W fun e w' => e = .returned x ∧ Below W.heap.size W w') (hv : ∀ W', V x W') : growUpon P Ups V W r := by
  subst h
  refine hc.mono ?_
  rintro e W' ⟨rfl, hb⟩
  exact ⟨x, rfl, hv W', hb⟩
theorem eval_tmp {a : Act} {d : Nat} {x : Value} (h : a.tmps[d]? = some x) : a.eval (.tmp d) = x := by
  simp [Act.eval, h]


theorem results_one {fn : Func} {tmps : Array Value} {t : Nat} {v : Value} {W : World} (hr : fn.results = #[.tmp t]) (h : tmps[t]? = some v) : (results fn tmps).run P W = .ok v W := by
  unfold results
  rw [hr]
  simp [h]

end
end Go.Proofs.YtmabpnkdagipfaaGreat

/- A drawn region whose yields are told outright, in a world that changes in a way that the caller names. A slot that is written reads as it did for every operation that its writer waits for. -/
namespace Go.Proofs.YtmabpnkdagipfaaGreat
open Go.RowKit

section
variable {P : Program} {ops : Array Oper} {md : Region.Mode}

/-- The frame is a's, but for the places that the listed operations write. -/
structure AgreeL (ops : Array Oper) (listed : Array Bool) (a a' : Act) : Prop where
  size : a'.tmps.size = a.tmps.size
  defers : a'.defers = a.defers
  same : ∀ t, (∀ (j : Nat) (o : Oper), ops[j]? = some o → listed.getD j false = true → o.dst ≠ some t) → a'.tmps[t]? = a.tmps[t]?

theorem AgreeL.put {listed : Array Bool} {a a' : Act} (h : AgreeL ops listed a a') {i : Nat} {o : Oper} (hi : ops[i]? = some o) (hl : i < listed.size) (v : Value) : AgreeL ops (listed.setIfInBounds i true) a (a'.put o.dst v) := by
  have hold : ∀ t, (∀ (j : Nat) (o : Oper), ops[j]? = some o → (listed.setIfInBounds i true).getD j false = true → o.dst ≠ some t) → a'.tmps[t]? = a.tmps[t]? := by
    intro t ht
    refine h.same t fun j oj hj hlj => ht j oj hj ?_
    by_cases hij : i = j
    · subst hij; simp [hl]
    · rw [getD_set_ne false hij]; exact hlj
  cases hd : o.dst with
  | none => exact ⟨h.size, h.defers, hold⟩
  | some d =>
    refine ⟨by simp [Act.put, h.size], h.defers, fun t ht => ?_⟩
    have hne : d ≠ t := fun e => ht i o hi (by simp [hl]) (by rw [hd, e])
    simp only [Act.put]
    rw [Array.getElem?_setIfInBounds_ne hne]
    exact hold t ht

/-- Where nothing is ready all is listed: each waits for earlier ones alone. -/
theorem all_listedB {listed : Array Bool} (hlen : listed.size = ops.size) (hearly : ∀ (i : Nat) (o : Oper), ops[i]? = some o → ∀ e ∈ o.after, Region.binds md e = true → e.on < i) (h : Region.ready md ops listed = []) : ∀ i, i < ops.size → listed.getD i false = true := by
  intro i
  induction i using Nat.strongRecOn with
  | _ i ih =>
    intro hi
    have ho : ops[i]? = some ops[i] := Array.getElem?_eq_getElem hi
    cases hl : listed.getD i true with
    | true =>
      have : i < listed.size := by omega
      simp [this] at hl ⊢
      exact hl
    | false =>
      exfalso
      have hm : i ∈ Region.ready md ops listed := mem_ready.2 ⟨hl, ops[i], ho, fun e he hb => ih e.on (hearly i _ ho e he hb) (Nat.lt_trans (hearly i _ ho e he hb) hi)⟩
      rw [h] at hm
      cases hm

def regionFitB (ops : Array Oper) (n : Nat) : Bool :=
  ((List.range ops.size).all fun i => match ops.toList[i]? with | none => true | some o => o.after.toList.all fun e => !Region.binds .any e || decide (e.on < i))
  && (ops.toList.filterMap (·.dst)).Nodup && ops.toList.all (fun o => o.dst.isSome && decide (o.dst.getD 0 < n))

/-- What waits for what is listed with it. -/
def Closed (md : Region.Mode) (ops : Array Oper) (listed : Array Bool) : Prop :=
  ∀ (j : Nat) (o : Oper), ops[j]? = some o → listed.getD j false = true → ∀ e ∈ o.after, Region.binds md e = true → listed.getD e.on false = true

theorem wpAny_of_told {G : World → World → Prop} {xs : Nat → Value} {a : Act} {w : World} {Q : Exit → Act → World → Prop}
    (htrans : ∀ {A B C}, G A B → G B C → G A C)
    (hearly : ∀ (i : Nat) (o : Oper), ops[i]? = some o → ∀ e ∈ o.after, Region.binds md e = true → e.on < i)
    (hdst : ∀ (i j : Nat) (o o' : Oper) (d : Nat), ops[i]? = some o → ops[j]? = some o' → o.dst = some d → o'.dst = some d → i = j)
    (hin : ∀ (i : Nat) (o : Oper) (d : Nat), ops[i]? = some o → o.dst = some d → d < a.tmps.size)
    (hstep : ∀ (i : Nat) (o : Oper), ops[i]? = some o → ∀ (a' : Act) (W : World),
      (∀ t, (∀ (j : Nat) (oj : Oper), ops[j]? = some oj → oj.dst = some t → ∃ e ∈ oj.after, Region.binds md e = true ∧ e.on = i) → a'.tmps[t]? = a.tmps[t]?) → G w W →
      (∀ (j d : Nat) (oj : Oper), ops[j]? = some oj → oj.dst = some d → (∃ e ∈ o.after, Region.binds md e = true ∧ e.on = j) → a'.tmps[d]? = some (xs j)) → growOp P ops G (fun v _ => v = xs i) o a' W)
    (hfin : ∀ (a' : Act) (W : World), a'.tmps.size = a.tmps.size → a'.defers = a.defers → (∀ t, (∀ (j : Nat) (oj : Oper), ops[j]? = some oj → oj.dst ≠ some t) → a'.tmps[t]? = a.tmps[t]?) → G w W →
      (∀ (j d : Nat) (oj : Oper), ops[j]? = some oj → oj.dst = some d → a'.tmps[d]? = some (xs j)) → Q .normal a' W) :
    ∀ (fuel : Nat) (listed : Array Bool) (a' : Act) (W : World), listed.size = ops.size → unlisted ops.size listed ≤ fuel → Closed md ops listed → AgreeL ops listed a a' → G w W →
      (∀ (j d : Nat) (oj : Oper), ops[j]? = some oj → oj.dst = some d → listed.getD j false = true → a'.tmps[d]? = some (xs j)) →
      wpAny P md ops Q fuel listed a' W := by
  have hend : ∀ (listed : Array Bool) (a' : Act) (W : World), listed.size = ops.size → AgreeL ops listed a a' → G w W → (∀ (j d : Nat) (oj : Oper), ops[j]? = some oj → oj.dst = some d → listed.getD j false = true → a'.tmps[d]? = some (xs j)) → Region.ready md ops listed = [] → Q .normal a' W := by
    intro listed a' W hlen hag hG hdn h0
    refine hfin a' W hag.size hag.defers (fun t ht => hag.same t fun j o hj _ => ht j o hj) hG fun j d o hj hd => hdn j d o hj hd ?_
    exact all_listedB hlen hearly h0 j (Array.getElem?_eq_some_iff.1 hj).1
  intro fuel
  induction fuel with
  | zero =>
    intro listed a' W hlen hun hcl hag hG hdn
    have h0 : Region.ready md ops listed = [] := by
      cases hr : Region.ready md ops listed with
      | nil => rfl
      | cons i l =>
        exfalso
        have hm : i ∈ Region.ready md ops listed := by rw [hr]; exact List.mem_cons_self
        obtain ⟨hl, o, ho, _⟩ := mem_ready.1 hm
        have := unlisted_set (Array.getElem?_eq_some_iff.1 ho).1 hl
        omega
    exact ⟨h0, hend listed a' W hlen hag hG hdn h0⟩
  | succ fuel ih =>
    intro listed a' W hlen hun hcl hag hG hdn
    refine ⟨hend listed a' W hlen hag hG hdn, fun i hi => ?_⟩
    obtain ⟨hl, o, ho, hall⟩ := mem_ready.1 hi
    have hlt : i < ops.size := (Array.getElem?_eq_some_iff.1 ho).1
    have hls : i < listed.size := by omega
    have hlf : listed.getD i false = false := by
      simp [hls] at hl ⊢
      exact hl
    have hg := hstep i o ho a' W (fun t ht => hag.same t fun j oj hj hlj hd => by
        obtain ⟨e, he, hb, hei⟩ := ht j oj hj hd
        have := hcl j oj hj hlj e he hb
        rw [hei, hlf] at this
        cases this) hG (fun j d oj hj hd ⟨e, he, hb, hej⟩ => hdn j d oj hj hd (by have := hall e he hb; rw [hej] at this; exact this))
    have hun' := unlisted_set hlt hl
    have hcl' : Closed md ops (listed.setIfInBounds i true) := by
      intro j oj hj hlj e he hb
      have hup : ∀ x, listed.getD x false = true → (listed.setIfInBounds i true).getD x false = true := by
        intro x hx
        by_cases hix : i = x
        · subst hix; simp [hls]
        · rw [getD_set_ne false hix]; exact hx
      by_cases hij : i = j
      · subst hij
        rw [ho] at hj
        cases hj
        exact hup _ (hall e he hb)
      · rw [getD_set_ne false hij] at hlj
        exact hup _ (hcl j oj hj hlj e he hb)
    have next : ∀ v W', v = xs i → G W W' → wpAny P md ops Q fuel (listed.setIfInBounds i true) (a'.put o.dst v) W' := by
      intro v W' hv hGW
      refine ih _ _ _ (by simpa using hlen) (by omega) hcl' (hag.put ho hls v) (htrans hG hGW) ?_
      intro j d oj hj hd hlj
      by_cases hij : i = j
      · subst hij
        rw [ho] at hj
        cases hj
        have hsz : d < a'.tmps.size := by rw [hag.size]; exact hin i o d ho hd
        rw [hd, hv]
        simp [Act.put, hsz]
      · rw [getD_set_ne false hij] at hlj
        have hu := hdn j d oj hj hd hlj
        cases hod : o.dst with
        | none => exact hu
        | some d' =>
          have hne : d' ≠ d := fun e => hij (hdst i j o oj d ho hj (by rw [hod, e]) hd)
          simp only [Act.put]
          rw [Array.getElem?_setIfInBounds_ne hne]
          exact hu
    unfold wpOp
    simp only [ho]
    unfold growOp at hg
    split
    · rename_i hw
      simp only [hw, if_true] at hg
      exact .inl (Oper.wp_of_growUpon hg next)
    · rename_i hw
      simp only [hw] at hg
      exact next undef W hg.1 hg.2

/-- Whoever writes slot t waits for operation i. -/
def outerAt (ops : Array Oper) (i t : Nat) : Bool := ops.toList.all fun o => match o.dst with | none => true | some d => !Nat.beq d t || o.after.toList.any (fun e => Region.binds .any e && Nat.beq e.on i)

def toldAt (xs : List Value) (i : Nat) : Value := xs.getD i undef

/-- The guard of operation i asks for 'true' of an operation whose yield is that. -/
def willTold (ops : Array Oper) (xs : List Value) (i : Nat) : Bool :=
  match ops.toList[i]? with
  | none => false
  | some o => match o.guard with
    | none => true
    | some (j, b) => b && (depAt ops i j).isSome && (match toldAt xs j with | .bool true => true | _ => false)

/-- The frame's slots behind the region. -/
def endTmps : List Oper → List Value → Array Value → Array Value
  | o :: os, x :: xs, t => endTmps os xs (match o.dst with | some d => t.setIfInBounds d x | none => t)
  | _, _, t => t

theorem endTmps_size : ∀ (os : List Oper) (xs : List Value) (t : Array Value), (endTmps os xs t).size = t.size
  | [], _, _ => rfl
  | _ :: _, [], _ => rfl
  | o :: os, x :: xs, t => by
    unfold endTmps
    rw [endTmps_size os xs]
    split <;> simp

theorem endTmps_other : ∀ (os : List Oper) (xs : List Value) (t : Array Value) (d : Nat), (∀ o ∈ os, o.dst ≠ some d) → (endTmps os xs t)[d]? = t[d]?
  | [], _, _, _, _ => rfl
  | _ :: _, [], _, _, _ => rfl
  | o :: os, x :: xs, t, d, h => by
    unfold endTmps
    rw [endTmps_other os xs _ d fun o' ho' => h o' (List.mem_cons_of_mem _ ho')]
    have h0 := h o List.mem_cons_self
    split
    · rename_i d' hd'
      rw [hd'] at h0
      rw [Array.getElem?_setIfInBounds_ne (fun e => h0 (by rw [e]))]
    · rfl

theorem endTmps_at : ∀ (os : List Oper) (xs : List Value) (t : Array Value) (j d : Nat) (o : Oper), xs.length = os.length → (os.filterMap (·.dst)).Nodup → os[j]? = some o → o.dst = some d → d < t.size → (endTmps os xs t)[d]? = some (xs.getD j undef)
  | [], _, _, _, _, _, _, _, h, _, _ => by simp at h
  | _ :: _, [], _, _, _, _, h, _, _, _, _ => by simp at h
  | o :: os, x :: xs, t, j, d, o', hl, hn, hj, hd, hs => by
    unfold endTmps
    cases j with
    | zero =>
      simp at hj
      subst hj
      rw [List.filterMap_cons, hd] at hn
      simp only [List.nodup_cons] at hn
      rw [endTmps_other os xs _ d fun o' ho' e => hn.1 (List.mem_filterMap.2 ⟨o', ho', e⟩)]
      simp [hd, hs]
    | succ j =>
      have hn' : (os.filterMap (·.dst)).Nodup := by
        rw [List.filterMap_cons] at hn
        cases ho : o.dst with
        | none => rw [ho] at hn; exact hn
        | some d' => rw [ho] at hn; exact (List.nodup_cons.1 hn).2
      have := endTmps_at os xs (match o.dst with | some d => t.setIfInBounds d x | none => t) j d o' (by simpa using hl) hn' (by simpa using hj) hd (by split <;> simpa using hs)
      simpa using this

theorem wp_region_told {id n : Nat} (G : World → World → Prop) (hrefl : ∀ A, G A A) (htrans : ∀ {A B C}, G A B → G B C → G A C) {xs : List Value} {a : Act} {w : World} {Q : Exit → Act → World → Prop} (hm : P.follows .mixedOrders = true)
    (hfit : regionFitB ops n = true) (hsz : a.tmps.size = n) (hwill : (List.range ops.size).all (willTold ops xs) = true)
    (hstep : AllFrom (fun i o => ∀ (a' : Act) (W : World), (∀ t, outerAt ops i t = true → a'.tmps[t]? = a.tmps[t]?) → G w.drew W →
      (∀ j d, depAt ops i j = some d → a'.tmps[d]? = some (toldAt xs j)) → growUpon P G (fun v _ => v = toldAt xs i) W ((execOp a'.eval o).run P W)) 0 ops.toList)
    (hxs : xs.length = ops.size)
    (hfin : ∀ (W : World), G w.drew W → Q .normal { a with tmps := endTmps ops.toList xs a.tmps } W) :
    (Code.region id ops true).wp P Q a w := by
  unfold regionFitB at hfit
  simp only [Bool.and_eq_true, decide_eq_true_eq] at hfit
  obtain ⟨⟨he, hn⟩, hd⟩ := hfit
  rw [List.all_eq_true] at he
  have hd' : ∀ o ∈ ops, (o.dst.isSome && decide (o.dst.getD 0 < n)) = true := fun o ho => List.all_eq_true.1 hd o (by simpa using ho)
  have dep : ∀ i o, ops[i]? = some o → ∀ j d, depAt ops i j = some d → (∃ e ∈ o.after, Region.binds .any e = true ∧ e.on = j) ∧ ∃ oj, ops[j]? = some oj ∧ oj.dst = some d := by
    intro i o hi j d h
    unfold depAt at h
    rw [Array.getElem?_toList, Array.getElem?_toList, hi] at h
    simp only at h
    split at h
    · rename_i hc
      refine ⟨?_, Option.bind_eq_some_iff.1 h⟩
      obtain ⟨e, h1, h2⟩ := List.any_eq_true.1 hc
      simp only [Bool.and_eq_true, Nat.beq_eq] at h2
      exact ⟨e, by simpa using h1, h2⟩
    · cases h
  refine wp_region_any hm ?_
  have hu : unlisted ops.size (Array.replicate ops.size false) ≤ ops.size := by
    unfold unlisted
    exact Nat.le_trans (List.length_filter_le _ _) (by simp)
  refine wpAny_of_told (md := .any) (G := G) (xs := toldAt xs) (a := a) (w := w.drew) htrans ?_ ?_ ?_ ?_ ?_ ops.size _ a w.drew (by simp) hu ?_ ⟨rfl, rfl, fun _ _ => rfl⟩ (hrefl _) ?_
  · intro i o hi e hme hb
    have := he i (List.mem_range.2 (Array.getElem?_eq_some_iff.1 hi).1)
    rw [Array.getElem?_toList, hi] at this
    have := List.all_eq_true.1 this e (by simpa using hme)
    rw [hb] at this
    simpa using this
  · intro i j o o' d hi hj h1 h2
    refine nodup_dst ops.toList (fun o ho => ?_) hn i j o o' d (by simpa using hi) (by simpa using hj) h1 h2
    have := hd' o (by simpa using ho)
    simp only [Bool.and_eq_true] at this
    exact this.1
  · intro i o d hi ho
    have := hd' o (Array.mem_of_getElem? hi)
    rw [hsz]
    simpa [ho] using this
  · intro i o hi a' W hag hG hdn
    have hw := List.all_eq_true.1 hwill i (List.mem_range.2 (Array.getElem?_eq_some_iff.1 hi).1)
    have hwant : Region.wanted o (yielded ops a'.tmps) = true := by
      unfold willTold at hw
      rw [Array.getElem?_toList, hi] at hw
      simp only at hw
      unfold Region.wanted
      split
      · rfl
      · rename_i j b hg
        rw [hg] at hw
        simp only [Bool.and_eq_true] at hw
        obtain ⟨⟨hb, hdp⟩, hk⟩ := hw
        subst hb
        obtain ⟨d, hdd⟩ := Option.isSome_iff_exists.1 hdp
        obtain ⟨h0, oj, hoj, hdj⟩ := dep i o hi j d hdd
        have hk' : toldAt xs j = .bool true := by
          revert hk
          cases toldAt xs j with
          | bool b => cases b <;> simp
          | _ => simp
        have hv := hdn j d oj hoj hdj h0
        rw [hk'] at hv
        unfold yielded
        rw [hoj]
        simp [hdj, hv]
    unfold growOp
    rw [if_pos hwant]
    have hst := AllFrom.get ops.toList 0 i o hstep (by simpa using hi)
    rw [Nat.zero_add] at hst
    refine hst a' W (fun t ht => hag t ?_) hG ?_
    · intro j oj hj hdj
      have := List.all_eq_true.1 ht oj (by simpa using Array.mem_of_getElem? hj)
      simp only [hdj] at this
      rw [Bool.or_eq_true] at this
      rcases this with h | h
      · simp at h
      · obtain ⟨e, h1, h2⟩ := List.any_eq_true.1 h
        simp only [Bool.and_eq_true, Nat.beq_eq] at h2
        exact ⟨e, by simpa using h1, h2⟩
    · intro j d hjd
      obtain ⟨h0, oj, hoj, hdj⟩ := dep i o hi j d hjd
      exact hdn j d oj hoj hdj h0
  · intro a' W h1 h2 h3 hG hdn
    have hnd : (ops.toList.filterMap (·.dst)).Nodup := hn
    have ht : a'.tmps = endTmps ops.toList xs a.tmps := by
      apply Array.ext_getElem?
      intro d
      by_cases hw : ∃ (j : Nat) (o : Oper), ops[j]? = some o ∧ o.dst = some d
      · obtain ⟨j, o, hj, ho⟩ := hw
        rw [hdn j d o hj ho, endTmps_at ops.toList xs a.tmps j d o (by simpa using hxs) hnd (by simpa using hj) ho ?_]
        · rfl
        · have := hd' o (Array.mem_of_getElem? hj)
          rw [hsz]
          simpa [ho] using this
      · rw [endTmps_other ops.toList xs a.tmps d ?_]
        · exact h3 d fun j o hj ho => hw ⟨j, o, hj, ho⟩
        · intro o ho he
          obtain ⟨j, hj⟩ := List.getElem?_of_mem ho
          exact hw ⟨j, o, by simpa using hj, he⟩
    have ha : a' = { a with tmps := endTmps ops.toList xs a.tmps } := by
      cases a'
      cases a
      simp only at ht h2
      rw [ht, h2]
    rw [ha]
    exact hfin W hG
  · intro j o hj hl
    exfalso
    have : j < ops.size := (Array.getElem?_eq_some_iff.1 hj).1
    simp [this] at hl
  · intro j d oj hj hd hl
    exfalso
    have : j < ops.size := (Array.getElem?_eq_some_iff.1 hj).1
    simp [this] at hl

theorem told_value {G : World → World → Prop} (hrefl : ∀ A, G A A) {W : World} {v : Value} {r : Result Next} {x : Value} (h : r = .ok (.value v) W) (hv : v = x) : growUpon P G (fun v _ => v = x) W r := by
  subst h
  exact ⟨hv, hrefl _⟩
theorem told_call {G : World → World → Prop} {W : World} {f : FuncId} {args : Array Value} {r : Result Next} {x : Value} (h : r = .ok (.enter f args) W)
    (hc : Calls P f args W fun e w' => e = .returned x ∧ G W w') : growUpon P G (fun v _ => v = x) W r := by
  subst h
  refine hc.mono ?_
  rintro e W' ⟨rfl, hb⟩
  exact ⟨x, rfl, rfl, hb⟩

end
end Go.Proofs.YtmabpnkdagipfaaGreat
