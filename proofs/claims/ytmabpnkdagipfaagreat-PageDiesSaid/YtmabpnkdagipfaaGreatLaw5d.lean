/- PageKeeps and PageDies, plain; a law for append. -/
import Derived.Test.YtmabpnkdagipfaaGreatBase5
import Derived.Laws.AppendOwnNone
namespace Go.Proofs.YtmabpnkdagipfaaGreat
open Go.RowKit

/-- 'append' onto a row of the call's own, of what another such row holds (or none). -/
theorem wpList_append_any {P : Program} {w : World} {ops : Array Oper} {rest : List Oper} {o : Oper} {a : Act} {Q : Exit → Act → World → Prop} (hw : Region.wanted o (yielded ops a.tmps) = true) (s x : Operand) (t : TypeId)
    (ho : o.op = .call { callee := .builtin .append, args := #[s, x], argTypes := #[t, t] })
    (base base' : Nat) (e : TypeId) (i : TypeInfo) (z : Value) (bytes : Nat) (ht : P.underlying t = some (.slice e)) (hi : P.info? e = some i) (hz : i.zero = some z)
    (hsize : i.size = 1) (hby : i.bytes = bytes) (hzs : z.cells.size = 1)
    (v : Value) (n : Nat) (xs : List Value) (hs : a.eval s = v) (hown : w.ownsRow base e 1 v n xs)
    (vx : Value) (l : List Value) (hx : a.eval x = vx) (hxo : w.ownsRow base' e 1 vx l.length l) (h1 : ∀ u ∈ l, u.oneCell' = true)
    (h63 : n + l.length ≤ maxLen) (hbytes : (n + l.length) * bytes ≤ 140737488355328) (hbase : base ≤ w.heap.size)
    (h : ∀ v' w', w'.ownsRow base e 1 v' (n + l.length) (xs ++ l) → w.grownBy w' v.ownBlock → wpList P ops Q rest (a.put o.dst v') w') : wpList P ops Q (o :: rest) a w := by
  unfold wpList
  rw [if_pos hw]
  left
  have hxo0 := hxo
  obtain ⟨_, ⟨rfl, hl0⟩ | ⟨g, cap, cur, rfl, hb, hh, hn, hm, hc, hcells⟩⟩ := hxo
  · have hl : l = [] := List.eq_nil_of_length_eq_zero hl0
    subst hl
    have hrun := run_append_owned_none (P := P) (w := w) base t o.type e i 1 ht hi v n xs hown
    unfold Oper.wp
    simp [execOp, ho, resolve, invoke, builtin, hs, hx, hrun, Result.andThen]
    exact h v w (by simpa using hown) ⟨rfl, rfl, rfl, Nat.le_refl _, fun _ _ _ => rfl⟩
  · exact wp_append_own w s x t ho base e i z 1 bytes ht hi hz hsize hby hzs (by decide) v n xs hs hown ⟨g, 0, none⟩ l.length cap l hx (by simp) (hxo0.cells rfl) h1 h63 hbytes hbase fun v' w' h2 h3 _ => h v' w' h2 h3
theorem made_empty (W : World) : (W.alloc (.cells #[] 9)).ownsRow W.heap.size 9 1 (.slice (some ⟨W.heap.size, 0, none⟩) 0 0) 0 [] := World.ownsRow_made W #[] 0 (Nat.le_refl _) (by decide) rfl
theorem made_one (W : World) (s : ByteArray) : (W.alloc (.cells #[.string s] 9)).ownsRow W.heap.size 9 1 (.slice (some ⟨W.heap.size, 0, none⟩) [Value.string s].length 1) [Value.string s].length [Value.string s] :=
  ⟨rfl, .inr ⟨W.heap.size, 1, #[.string s], rfl, Nat.le_refl _, World.alloc_heap_new _ _, Nat.le_refl _, by unfold maxLen; omega, rfl, rfl⟩⟩
theorem owns_map {W : World} {base e : Nat} {v : Value} {l : List ByteArray} (h : W.ownsRow base e 1 v l.length (l.map Value.string)) : W.ownsRow base e 1 v (l.map Value.string).length (l.map Value.string) := by
  rw [List.length_map]
  exact h
theorem strings_cells (l : List ByteArray) : ∀ u ∈ l.map Value.string, u.oneCell' = true := by
  intro u hu
  obtain ⟨x, _, rfl⟩ := List.mem_map.1 hu
  rfl
theorem grown_ups {w W W' : World} {v : Value} {e base n : Nat} {xs : List Value} (hu : Ups w W) (ho : W.ownsRow base e 1 v n xs) (hb : w.heap.size ≤ base) (hg : W.grownBy W' v.ownBlock) : Ups w W' :=
  hu.grown hg hu.size fun _ e => Nat.le_trans hb (owns_other ho e).1
theorem owns_kept {w W W' : World} {v v' : Value} {e base n : Nat} {xs : List Value} {b' n' : Nat} {ys : List Value} (h : w.ownsRow b' e 1 v' n' ys) (hu : Ups w W) (ho : W.ownsRow base e 1 v n xs) (hb : w.heap.size ≤ base) (hg : W.grownBy W' v.ownBlock) : W'.ownsRow b' e 1 v' n' ys :=
  owns_ups h (grown_ups hu ho hb hg)

theorem size_of {s : ByteArray} (h : s.size ≤ 100) : (makeT s).size = sizeN (s.size : Int) := by
  rw [makeT_size]
  unfold sizeN sizeF
  rw [if_neg (by omega)]
  omega

structure Kept (f G : Fl) (n : Nat) (s : ByteArray) : Prop where
  len : G.pages.length = f.pages.length
  size : (oldT G n).size = (oldT f n).size
  small : (oldT f n).size ≤ 8192
  recs : recsN (oldT G n) (sizeN (s.size : Int)) = recsN (oldT f n) (sizeN (s.size : Int)) ++ [s]
  next : nextN (oldT G n) (sizeN (s.size : Int)) = nextN (oldT f n) (sizeN (s.size : Int)) + 1
  bad : badN (oldT G n) (sizeN (s.size : Int)) = badN (oldT f n) (sizeN (s.size : Int))

theorem append_no {f : Fl} {page : Int} {s : ByteArray} (h : hasB f page = false) : appendF f page s = (f, 1) := by simp [appendF, h]
theorem append_yes {f : Fl} {n : Nat} {s : ByteArray} (h : hasB f n = true) (hs : s.size ≤ 100) : appendF f n s =
    if nextN (oldT f n) (sizeN (s.size : Int)) = (oldT f n).size / sizeN (s.size : Int) then (f, 4)
    else programF f n (nextN (oldT f n) (sizeN (s.size : Int)) * sizeN (s.size : Int) : Nat) (makeT s) := by
  have hz : sizeN (s.size : Int) ≠ 0 := by
    have h1 := size_of hs
    have h2 := makeT_size s
    omega
  simp [appendF, h, hz]

theorem keeps_plain {f W G : Fl} {page e a : Int} {s : ByteArray} (hW : wakeF f (-1) ⟨#[]⟩ = (W, e)) (hG : appendF W page s = (G, a)) (hs : s.size ≤ 100) :
    (G = W ∧ ((e = 1 ∧ a = 1) ∨ (e = 0 ∧ a = 1) ∨ (e = 0 ∧ a = 4))) ∨ (e = 0 ∧ a = 0 ∧ ∃ n : Nat, page = n ∧ n < f.pages.length ∧ Kept f G n s) := by
  rcases wake_facts hW with ⟨rfl, rfl⟩ | ⟨rfl, hc, ht, rfl, hcW⟩
  · left
    have hnc : hasB W page = false := by
      have hck : checkB W = false := by
        cases h : checkB W with
        | false => rfl
        | true =>
          simp [wakeF, h] at hW
          exact absurd hW (by decide)
      simp [hasB, hck]
    rw [append_no hnc] at hG
    simp only [Prod.mk.injEq] at hG
    exact ⟨hG.1.symm, .inl ⟨rfl, hG.2.symm⟩⟩
  · cases hb : hasB { f with dead := false, fuse := -1, torn := ⟨#[]⟩ } page with
    | false =>
      rw [append_no hb] at hG
      simp only [Prod.mk.injEq] at hG
      exact .inl ⟨hG.1.symm, .inr (.inl ⟨rfl, hG.2.symm⟩)⟩
    | true =>
      obtain ⟨hck, n, rfl, hn⟩ := has_facts hb
      have ho := old_size hc (n := n) hn
      rw [append_yes hb hs] at hG
      have hot : oldT { f with dead := false, fuse := -1, torn := ⟨#[]⟩ } n = oldT f n := rfl
      rw [hot] at hG
      have hle := nextN_le (oldT f n) (sizeN (s.size : Int))
      by_cases hfull : nextN (oldT f n) (sizeN (s.size : Int)) = (oldT f n).size / sizeN (s.size : Int)
      · rw [if_pos hfull] at hG
        simp only [Prod.mk.injEq] at hG
        exact .inl ⟨hG.1.symm, .inr (.inr ⟨rfl, hG.2.symm⟩)⟩
      · rw [if_neg hfull, program_on (f := { f with dead := false, fuse := -1, torn := ⟨#[]⟩ }) rfl rfl] at hG
        split at hG
        · simp only [Prod.mk.injEq, Int.toNat_natCast, hot] at hG
          obtain ⟨hG, rfl⟩ := hG
          have hp : G.pages = f.pages.set n (andT (oldT f n) (onesT (nextN (oldT f n) (sizeN (s.size : Int)) * sizeN (s.size : Int)) ++ makeT s)) := by rw [← hG]
          have hoG := oldT_put hp hn n
          rw [if_pos rfl] at hoG
          have happ := appended (oldT f n) (makeT s) (sizeN (s.size : Int)) (size_of hs) (by omega)
          rw [← hoG] at happ
          obtain ⟨h1, h2, h3⟩ := appended_whole happ
          exact .inr ⟨rfl, rfl, n, rfl, hn, ⟨by rw [hp]; simp, happ.size, by omega, h1, h2, h3⟩⟩
        · simp only [Prod.mk.injEq] at hG
          exact .inl ⟨hG.1.symm, .inr (.inl ⟨rfl, hG.2.symm⟩)⟩

structure Died (f G : Fl) (n : Nat) (s : ByteArray) : Prop where
  len : G.pages.length = f.pages.length
  size : (oldT G n).size = (oldT f n).size
  small : (oldT f n).size ≤ 8192
  dead : G.dead = true
  recs : recsN (oldT G n) (sizeN (s.size : Int)) = recsN (oldT f n) (sizeN (s.size : Int)) ∨ recsN (oldT G n) (sizeN (s.size : Int)) = recsN (oldT f n) (sizeN (s.size : Int)) ++ [s]
  next : nextN (oldT G n) (sizeN (s.size : Int)) = nextN (oldT f n) (sizeN (s.size : Int)) ∨ nextN (oldT G n) (sizeN (s.size : Int)) = nextN (oldT f n) (sizeN (s.size : Int)) + 1
  bad : badN (oldT G n) (sizeN (s.size : Int)) ≤ badN (oldT f n) (sizeN (s.size : Int)) + 1

theorem dies_plain {f W G : Fl} {page e a : Int} {s torn : ByteArray} (hW : wakeF f 0 torn = (W, e)) (hG : appendF W page s = (G, a)) (hs : s.size ≤ 100) :
    e = 1 ∨ (e = 0 ∧ G = W ∧ (a = 1 ∨ a = 4)) ∨ (e = 0 ∧ a = 8 ∧ ∃ n : Nat, page = n ∧ n < f.pages.length ∧ Died f G n s) := by
  rcases wake_facts hW with ⟨rfl, rfl⟩ | ⟨rfl, hc, ht, rfl, hcW⟩
  · exact .inl rfl
  right
  cases hb : hasB { f with dead := false, fuse := 0, torn := torn } page with
  | false =>
    rw [append_no hb] at hG
    simp only [Prod.mk.injEq] at hG
    exact .inl ⟨rfl, hG.1.symm, .inl hG.2.symm⟩
  | true =>
    obtain ⟨hck, n, rfl, hn⟩ := has_facts hb
    have ho := old_size hc (n := n) hn
    rw [append_yes hb hs] at hG
    have hot : oldT { f with dead := false, fuse := 0, torn := torn } n = oldT f n := rfl
    rw [hot] at hG
    have hle := nextN_le (oldT f n) (sizeN (s.size : Int))
    by_cases hfull : nextN (oldT f n) (sizeN (s.size : Int)) = (oldT f n).size / sizeN (s.size : Int)
    · rw [if_pos hfull] at hG
      simp only [Prod.mk.injEq] at hG
      exact .inl ⟨rfl, hG.1.symm, .inr hG.2.symm⟩
    · rw [if_neg hfull] at hG
      unfold programF at hG
      split at hG
      · simp only [stepF, Int.toNat_natCast, hot, Bool.false_eq_true, if_false, if_true, Prod.mk.injEq] at hG
        obtain ⟨hG, rfl⟩ := hG
        obtain ⟨y, hy⟩ := torn_program (oldT f n) (makeT s) (notT (maskOf { f with dead := false, fuse := 0, torn := torn })) (nextN (oldT f n) (sizeN (s.size : Int)) * sizeN (s.size : Int))
        rw [hy] at hG
        have hp : G.pages = f.pages.set n (andT (oldT f n) (onesT (nextN (oldT f n) (sizeN (s.size : Int)) * sizeN (s.size : Int)) ++ orT (makeT s) y)) := by rw [← hG]
        have hd : G.dead = true := by rw [← hG]
        have hoG := oldT_put hp hn n
        rw [if_pos rfl] at hoG
        have happ := appended (oldT f n) (orT (makeT s) y) (sizeN (s.size : Int)) (by rw [orT_size]; exact size_of hs) (by omega)
        rw [← hoG] at happ
        obtain ⟨h1, h2, h3⟩ := appended_part happ
        exact .inr ⟨rfl, rfl, n, rfl, hn, ⟨by rw [hp]; simp, happ.size, by omega, hd, h1, h2, h3⟩⟩
      · simp only [Prod.mk.injEq] at hG
        exact .inl ⟨rfl, hG.1.symm, .inl hG.2.symm⟩

end Go.Proofs.YtmabpnkdagipfaaGreat
