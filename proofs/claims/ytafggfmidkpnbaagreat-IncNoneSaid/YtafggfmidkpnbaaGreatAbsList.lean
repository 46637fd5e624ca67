/- The lists' words in the library's terms. -/
import Derived.Test.YtafggfmidkpnbaaGreatAbsDef
namespace Go.Gm

theorem nth_eq {α : Type} : ∀ (l : List α) (i : Nat), nth l i = l[i]?
  | [], _ => rfl
  | _ :: _, 0 => rfl
  | _ :: l, i + 1 => by
    have := nth_eq l i
    simp only [List.getElem?_cons_succ]; exact this
theorem setN_eq {α : Type} (x : α) : ∀ (l : List α) (i : Nat), setN l i x = l.set i x
  | [], _ => rfl
  | _ :: _, 0 => rfl
  | a :: l, i + 1 => by
    have := setN_eq x l i
    simp only [List.set_cons_succ, ← this]; rfl
theorem lenN_eq {α : Type} : ∀ (l : List α), lenN l = l.length
  | [] => rfl
  | _ :: l => by simp only [List.length_cons, ← lenN_eq l]; rfl
theorem appN_eq {α : Type} (m : List α) : ∀ (l : List α), appN l m = l ++ m
  | [] => rfl
  | a :: l => by simp only [List.cons_append, ← appN_eq m l]; rfl
theorem dropN_eq {α : Type} : ∀ (l : List α) (i : Nat), dropN l i = l.drop i
  | [], _ => by simp; rfl
  | _ :: _, 0 => rfl
  | _ :: l, i + 1 => by simp only [List.drop_succ_cons, ← dropN_eq l i]; rfl
theorem takeN_eq {α : Type} : ∀ (l : List α) (i : Nat), takeN l i = l.take i
  | [], _ => by simp; rfl
  | _ :: _, 0 => rfl
  | _ :: l, i + 1 => by simp only [List.take_succ_cons, ← takeN_eq l i]; rfl
theorem mapN_eq {α β : Type} (f : α → β) : ∀ (l : List α), mapN f l = l.map f
  | [] => rfl
  | a :: l => by simp only [List.map_cons, ← mapN_eq f l]; rfl
theorem allN_eq {α : Type} (f : α → Bool) : ∀ (l : List α), allN f l = l.all f
  | [] => rfl
  | a :: l => by simp only [List.all_cons, ← allN_eq f l]; rfl
theorem rep_eq {α : Type} (x : α) : ∀ (n : Nat), rep x n = List.replicate n x
  | 0 => rfl
  | n + 1 => by simp only [List.replicate_succ, ← rep_eq x n]; rfl
theorem mapO_cons {α β : Type} (f : α → Option β) (a : α) (l : List α) :
    mapO f (a :: l) = match f a with | some x => (match mapO f l with | some xs => some (x :: xs) | none => none) | none => none := rfl
theorem mapO_nil {α β : Type} (f : α → Option β) : mapO f [] = some [] := rfl
theorem mapO_some {α β : Type} {f : α → Option β} : ∀ {l : List α} {m : List β}, mapO f l = some m → l.length = m.length ∧ ∀ (i : Nat) (x : α), l[i]? = some x → ∃ y, m[i]? = some y ∧ f x = some y
  | [], m, h => by rw [mapO_nil] at h; cases h; exact ⟨rfl, fun i x h => by simp at h⟩
  | a :: l, m, h => by
    rw [mapO_cons] at h
    split at h
    · rename_i x hx
      split at h
      · rename_i xs hxs
        cases h
        obtain ⟨h1, h2⟩ := mapO_some hxs
        refine ⟨by simp [h1], fun i y hy => ?_⟩
        cases i with
        | zero => simp at hy; subst hy; exact ⟨x, by simp, hx⟩
        | succ i => simp at hy; obtain ⟨z, hz, hf⟩ := h2 i y hy; exact ⟨z, by simpa using hz, hf⟩
      · cases h
    · cases h
theorem cut_some {α : Type} {l c : List α} {j size : Nat} (h : cut l j size = some c) : c.length = size ∧ ∀ (i : Nat), i < size → c[i]? = l[j + i]? := by
  unfold cut at h
  simp only [Bool.cond_eq_ite] at h
  split at h
  · rename_i hb
    cases h
    have hs : (takeN (dropN l j) size).length = size := by rw [← lenN_eq]; exact Nat.eq_of_beq_eq_true hb
    refine ⟨hs, fun i hi => ?_⟩
    rw [takeN_eq, dropN_eq, List.getElem?_take_of_lt hi, List.getElem?_drop]
  · cases h
theorem splice_nil {α : Type} : ∀ (l : List α) (j : Nat), splice l j [] = l
  | [], _ => rfl
  | _ :: _, _ => rfl
theorem splice_zero {α : Type} (a : α) (l : List α) (x : α) (xs : List α) : splice (a :: l) 0 (x :: xs) = x :: splice l 0 xs := rfl
theorem splice_succ {α : Type} (a : α) (l : List α) (j : Nat) (x : α) (xs : List α) : splice (a :: l) (j + 1) (x :: xs) = a :: splice l j (x :: xs) := rfl
theorem splice_length {α : Type} : ∀ (l : List α) (j : Nat) (xs : List α), (splice l j xs).length = l.length
  | [], _, _ => rfl
  | _ :: _, _, [] => rfl
  | _ :: l, 0, x :: xs => by rw [splice_zero]; simp [splice_length l 0 xs]
  | _ :: l, j + 1, x :: xs => by rw [splice_succ]; simp [splice_length l j (x :: xs)]
theorem splice_get {α : Type} : ∀ (l : List α) (j : Nat) (xs : List α) (i : Nat), i < l.length →
    (splice l j xs)[i]? = if j ≤ i ∧ i < j + xs.length then xs[i - j]? else l[i]?
  | [], _, _, i, h => by simp at h
  | a :: l, j, [], i, h => by
    rw [splice_nil, if_neg (by simp only [List.length_nil]; omega)]
  | a :: l, 0, x :: xs, 0, h => by rw [splice_zero]; simp
  | a :: l, 0, x :: xs, i + 1, h => by
    rw [splice_zero]
    simp only [List.getElem?_cons_succ]
    rw [splice_get l 0 xs i (by simpa using h)]
    by_cases hi : i < xs.length
    · simp [hi]
    · simp [hi]
  | a :: l, j + 1, x :: xs, 0, h => by rw [splice_succ]; simp
  | a :: l, j + 1, x :: xs, i + 1, h => by
    rw [splice_succ]
    simp only [List.getElem?_cons_succ]
    rw [splice_get l j (x :: xs) i (by simpa using h)]
    by_cases hi : j ≤ i ∧ i < j + (x :: xs).length
    · rw [if_pos hi, if_pos (by omega)]
      rw [show i + 1 - (j + 1) = i - j from by omega]
    · rw [if_neg hi, if_neg (by omega)]
theorem frameOf_eq : ∀ (l : List AV) (i : Nat), frameOf l i = (l[i]?).getD (.fv .undef)
  | [], _ => by simp; rfl
  | _ :: _, 0 => rfl
  | _ :: l, i + 1 => by
    have := frameOf_eq l i
    simp only [List.getElem?_cons_succ]; exact this
theorem eraseN_eq {α : Type} : ∀ (l : List α) (i : Nat), eraseN l i = l.eraseIdx i
  | [], _ => rfl
  | _ :: _, 0 => rfl
  | a :: l, i + 1 => by simp only [List.eraseIdx_cons_succ, ← eraseN_eq l i]; rfl
theorem natRec_zero {α : Type} (z : α) (f : α → α) : natRec z f 0 = z := rfl
theorem natRec_succ {α : Type} (z : α) (f : α → α) (n : Nat) : natRec z f (n + 1) = f (natRec z f n) := rfl

theorem allFV_some {cs : List AV} {xs : List FV} (h : allFV cs = some xs) : cs = xs.map AV.fv := by
  induction cs generalizing xs with
  | nil => unfold allFV at h; rw [mapO_nil] at h; cases h; rfl
  | cons a l ih =>
    unfold allFV at h ih
    rw [mapO_cons] at h
    split at h
    · rename_i x hx
      split at h
      · rename_i ys hys
        cases h
        rw [ih hys]
        cases a <;> simp [AV.fv?] at hx
        subst hx; rfl
      · cases h
    · cases h

/-! ### trees -/
theorem Tr.put_zero (t : Tr) (i : Nat) (x : AObj) : Tr.put 0 t i x = t := rfl
theorem Tr.get_lf (i : Nat) : Tr.get .lf i = .dead := rfl
theorem Tr.get_nd (l r : Tr) (v : AObj) (i : Nat) : Tr.get (.nd l v r) i = bif Nat.beq i 0 then v else bif Nat.beq (i % 2) 1 then l.get (i / 2) else r.get (i / 2 - 1) := rfl
theorem Tr.put_lf (n i : Nat) (x : AObj) : Tr.put (n + 1) .lf i x = bif Nat.beq i 0 then .nd .lf x .lf else bif Nat.beq (i % 2) 1 then .nd (Tr.put n .lf (i / 2) x) .dead .lf else .nd .lf .dead (Tr.put n .lf (i / 2 - 1) x) := rfl
theorem Tr.put_nd (n i : Nat) (l r : Tr) (v x : AObj) : Tr.put (n + 1) (.nd l v r) i x = bif Nat.beq i 0 then .nd l x r else bif Nat.beq (i % 2) 1 then .nd (Tr.put n l (i / 2) x) v r else .nd l v (Tr.put n r (i / 2 - 1) x) := rfl
theorem bif_beq {α : Type} (a b : Nat) (x y : α) : (bif Nat.beq a b then x else y) = if a = b then x else y := by
  cases h : Nat.beq a b with
  | true => rw [if_pos (Nat.eq_of_beq_eq_true h)]; rfl
  | false => rw [if_neg (fun e => by subst e; rw [Nat.beq_refl] at h; cases h)]; rfl
theorem beq_iff (a b : Nat) : Nat.beq a b = true ↔ a = b := ⟨Nat.eq_of_beq_eq_true, fun h => by subst h; exact Nat.beq_refl a⟩

theorem Tr.get_put : ∀ (n : Nat) (t : Tr) (i j : Nat) (x : AObj), i < 2 ^ n → (Tr.put (n + 1) t i x).get j = if i = j then x else t.get j := by
  intro n t i j x hi
  have hput : ∀ (m : Nat) (l r : Tr) (v : AObj), (t = .nd l v r ∨ (t = .lf ∧ l = .lf ∧ v = .dead ∧ r = .lf)) → Tr.put (m + 1) t i x = if i = 0 then .nd l x r else if i % 2 = 1 then .nd (Tr.put m l (i / 2) x) v r else .nd l v (Tr.put m r (i / 2 - 1) x) := by
    rintro m l r v (rfl | ⟨rfl, rfl, rfl, rfl⟩)
    · rw [Tr.put_nd, bif_beq, bif_beq]
    · rw [Tr.put_lf, bif_beq, bif_beq]
  have hget : ∀ (l r : Tr) (v : AObj), (t = .nd l v r ∨ (t = .lf ∧ l = .lf ∧ v = .dead ∧ r = .lf)) → t.get j = if j = 0 then v else if j % 2 = 1 then l.get (j / 2) else r.get (j / 2 - 1) := by
    rintro l r v (rfl | ⟨rfl, rfl, rfl, rfl⟩)
    · rw [Tr.get_nd, bif_beq, bif_beq]
    · simp [Tr.get_lf]
  obtain ⟨l, r, v, hc⟩ : ∃ (l r : Tr) (v : AObj), (t = .nd l v r ∨ (t = .lf ∧ l = .lf ∧ v = .dead ∧ r = .lf)) := by
    cases t with
    | lf => exact ⟨.lf, .lf, .dead, .inr ⟨rfl, rfl, rfl, rfl⟩⟩
    | nd l v r => exact ⟨l, r, v, .inl rfl⟩
  rw [hput n l r v hc, hget l r v hc]
  by_cases h0 : i = 0
  · subst h0
    rw [if_pos rfl, Tr.get_nd, bif_beq, bif_beq]
    by_cases hj : j = 0
    · subst hj; simp
    · have hj' : ¬ 0 = j := fun e => hj e.symm
      rw [if_neg hj, if_neg hj, if_neg hj']
  · cases n with
    | zero => simp at hi; omega
    | succ n =>
      have h2 : i / 2 < 2 ^ n := by rw [Nat.pow_succ] at hi; omega
      have h3 : i / 2 - 1 < 2 ^ n := by omega
      rw [if_neg h0]
      by_cases h1 : i % 2 = 1
      · rw [if_pos h1, Tr.get_nd, bif_beq, bif_beq]
        by_cases hj : j = 0
        · rw [if_pos hj, if_pos hj, if_neg (by omega)]
        · rw [if_neg hj, if_neg hj]
          by_cases hj1 : j % 2 = 1
          · rw [if_pos hj1, if_pos hj1, Tr.get_put n l _ _ x h2]
            by_cases e : i = j
            · rw [if_pos e, if_pos (by omega)]
            · rw [if_neg e, if_neg (by omega)]
          · rw [if_neg hj1, if_neg hj1, if_neg (by omega)]
      · rw [if_neg h1, Tr.get_nd, bif_beq, bif_beq]
        by_cases hj : j = 0
        · rw [if_pos hj, if_pos hj, if_neg (by omega)]
        · rw [if_neg hj, if_neg hj]
          by_cases hj1 : j % 2 = 1
          · rw [if_pos hj1, if_pos hj1, if_neg (by omega)]
          · rw [if_neg hj1, if_neg hj1, Tr.get_put n r _ _ x h3]
            by_cases e : i = j
            · rw [if_pos e, if_pos (by omega)]
            · rw [if_neg e, if_neg (by omega)]

/-! ### heaps -/
theorem Heap.get_set {H : Heap} {o : Nat} (h : o < 2 ^ 63) (x : AObj) (p : Nat) : (H.set o x).get p = if o = p then x else H.get p := by
  unfold Heap.get Heap.set
  exact Tr.get_put 63 H.t o p x h
theorem Heap.set_n (H : Heap) (o : Nat) (x : AObj) : (H.set o x).n = H.n := rfl
theorem instN_n : ∀ (objs : List AObj) (H : Heap) (b : Nat), (instN objs H b).n = H.n
  | [], _, _ => rfl
  | _ :: l, H, b => by unfold instN; rw [instN_n l]; rfl
theorem instN_get : ∀ (objs : List AObj) (H : Heap) (b p : Nat), b + objs.length ≤ 2 ^ 63 →
    (instN objs H b).get p = if b ≤ p ∧ p < b + objs.length then (objs[p - b]?).getD .dead else H.get p
  | [], H, b, p, _ => by unfold instN; rw [if_neg (by simp only [List.length_nil]; omega)]
  | x :: l, H, b, p, h => by
    unfold instN
    rw [instN_get l _ _ _ (by simp at h; omega), Heap.get_set (by simp at h; omega)]
    by_cases h1 : b = p
    · subst h1
      rw [if_neg (by omega), if_pos rfl, if_pos (by simp)]; simp
    · rw [if_neg h1]
      by_cases h2 : b + 1 ≤ p ∧ p < b + 1 + l.length
      · rw [if_pos h2, if_pos (by simp; omega)]
        rw [show p - b = (p - (b + 1)) + 1 from by omega]; simp
      · rw [if_neg h2, if_neg (by simp; omega)]
theorem Heap.push_some {H H' : Heap} {objs : List AObj} (h : H.push objs = some H') :
    H'.n = H.n + objs.length ∧ ∀ p, H'.get p = if H.n ≤ p ∧ p < H.n + objs.length then (objs[p - H.n]?).getD .dead else H.get p := by
  unfold Heap.push at h
  cases objs with
  | nil => simp only [Option.some.injEq] at h; subst h; exact ⟨rfl, fun p => by rw [if_neg (by simp only [List.length_nil]; omega)]⟩
  | cons x l =>
    simp only [Bool.cond_eq_ite] at h
    split at h
    · rename_i hb
      have hb := Nat.le_of_ble_eq_true hb
      rw [lenN_eq] at hb
      cases h
      refine ⟨by simp only [lenN_eq], fun p => ?_⟩
      have := instN_get (x :: l) H H.n p (by omega)
      exact this
    · cases h
theorem noHeap_get (p : Nat) : noHeap.get p = .dead := rfl
end Go.Gm
