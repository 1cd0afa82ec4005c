/-
  Plain facts on ordered tables (no program in it): the tree of the program, the rows in a list of the reference.
-/
import GoSem.Op.String
namespace Go.Proofs.Ytiffjjophmgdlaa.Tb
open Go.Op (bytesLess)

theorem less_irrefl : ∀ x : List UInt8, bytesLess x x = false
  | [] => rfl
  | a :: x => by simp [bytesLess, less_irrefl x, UInt8.lt_irrefl]
theorem less_total : ∀ x y : List UInt8, bytesLess x y = false → bytesLess y x = false → x = y
  | [], [], _, _ => rfl
  | [], _ :: _, h, _ => by simp [bytesLess] at h
  | _ :: _, [], _, h => by simp [bytesLess] at h
  | a :: x, b :: y, h, h' => by
    simp only [bytesLess, Bool.or_eq_false_iff, decide_eq_false_iff_not, Bool.and_eq_false_iff, beq_eq_false_iff_ne] at h h'
    have e : a = b := by
      have h1 := UInt8.not_lt.1 h.1
      have h2 := UInt8.not_lt.1 h'.1
      exact UInt8.le_antisymm h2 h1
    subst e
    rw [less_total x y (by simpa using h.2) (by simpa using h'.2)]
theorem less_trans : ∀ x y z : List UInt8, bytesLess x y = true → bytesLess y z = true → bytesLess x z = true
  | _, [], _, h, _ => by simp [bytesLess] at h
  | _, _ :: _, [], _, h => by simp [bytesLess] at h
  | [], _ :: _, _ :: _, _, _ => rfl
  | a :: x, b :: y, c :: z, h, h' => by
    simp only [bytesLess, Bool.or_eq_true, decide_eq_true_eq, Bool.and_eq_true, beq_iff_eq] at h h' ⊢
    rcases h with h | ⟨rfl, h⟩
    · rcases h' with h' | ⟨rfl, h'⟩
      · exact .inl (UInt8.lt_trans h h')
      · exact .inl h
    · rcases h' with h' | ⟨rfl, h'⟩
      · exact .inl h'
      · exact .inr ⟨rfl, less_trans x y z h h'⟩
/-- The order of texts. -/
def lt (a b : ByteArray) : Bool := bytesLess a.data.toList b.data.toList
theorem bytes_eq {a b : ByteArray} (h : a.data.toList = b.data.toList) : a = b := by
  obtain ⟨⟨x⟩⟩ := a
  obtain ⟨⟨y⟩⟩ := b
  simpa using h
theorem lt_irrefl (a : ByteArray) : lt a a = false := less_irrefl _
theorem lt_total {a b : ByteArray} (h : lt a b = false) (h' : lt b a = false) : a = b := bytes_eq (less_total _ _ h h')
theorem lt_trans {a b c : ByteArray} (h : lt a b = true) (h' : lt b c = true) : lt a c = true := less_trans _ _ _ h h'
theorem lt_asymm {a b : ByteArray} (h : lt a b = true) : lt b a = false := by
  cases h' : lt b a
  · rfl
  · have := lt_trans h h'
    rw [lt_irrefl] at this
    cases this
theorem lt_ne {a b : ByteArray} (h : lt a b = true) : a ≠ b := fun e => by
  subst e
  rw [lt_irrefl] at h
  cases h
theorem not_lt_nil (a : ByteArray) : lt a ⟨#[]⟩ = false := by
  unfold lt
  cases a.data.toList <;> rfl

abbrev Rw := ByteArray × ByteArray
inductive Tr where
  | nil
  | node (k v : ByteArray) (l r : Tr)
def Tr.tall : Tr → Nat
  | .nil => 0
  | .node _ _ l r => max l.tall r.tall + 1
def Tr.cnt : Tr → Nat
  | .nil => 0
  | .node _ _ l r => l.cnt + r.cnt + 1
def Tr.ino : Tr → List Rw
  | .nil => []
  | .node k v l r => l.ino ++ (k, v) :: r.ino
theorem cnt_eq : ∀ t : Tr, t.cnt = t.ino.length
  | .nil => rfl
  | .node _ _ l r => by
    simp only [Tr.cnt, Tr.ino, List.length_append, List.length_cons, cnt_eq l, cnt_eq r]
    omega
theorem tall_le : ∀ t : Tr, t.tall ≤ t.cnt
  | .nil => Nat.le_refl _
  | .node _ _ l r => by
    have h1 := tall_le l
    have h2 := tall_le r
    simp only [Tr.tall, Tr.cnt]
    omega
/-- The program's level. -/
def lev (l : Tr) (k v : ByteArray) (r : Tr) : Tr :=
  if r.tall + 1 < l.tall then
    match l with
    | .nil => .nil
    | .node lk lv ll lr =>
      if lr.tall ≤ ll.tall then .node lk lv ll (.node k v lr r)
      else match lr with
        | .nil => .nil
        | .node mk mv ml mr => .node mk mv (.node lk lv ll ml) (.node k v mr r)
  else if l.tall + 1 < r.tall then
    match r with
    | .nil => .nil
    | .node rk rv rl rr =>
      if rl.tall ≤ rr.tall then .node rk rv (.node k v l rl) rr
      else match rl with
        | .nil => .nil
        | .node mk mv ml mr => .node mk mv (.node k v l ml) (.node rk rv mr rr)
  else .node k v l r
theorem ino_lev (l : Tr) (k v : ByteArray) (r : Tr) : (lev l k v r).ino = l.ino ++ (k, v) :: r.ino := by
  unfold lev
  split
  · rename_i h
    cases l with
    | nil => simp [Tr.tall] at h
    | node lk lv ll lr =>
      dsimp only
      split
      · simp [Tr.ino]
      · rename_i h2
        cases lr with
        | nil => simp [Tr.tall] at h2
        | node mk mv ml mr => simp [Tr.ino]
  · split
    · rename_i h
      cases r with
      | nil => simp [Tr.tall] at h
      | node rk rv rl rr =>
        dsimp only
        split
        · simp [Tr.ino]
        · rename_i h2
          cases rl with
          | nil => simp [Tr.tall] at h2
          | node mk mv ml mr => simp [Tr.ino]
    · rfl
theorem cnt_lev (l : Tr) (k v : ByteArray) (r : Tr) : (lev l k v r).cnt = l.cnt + r.cnt + 1 := by
  rw [cnt_eq, ino_lev, cnt_eq l, cnt_eq r, List.length_append, List.length_cons]
  omega
def Tr.put (k v : ByteArray) : Tr → Tr
  | .nil => .node k v .nil .nil
  | .node nk nv l r => if lt k nk = true then lev (l.put k v) nk nv r else if lt nk k = true then lev l nk nv (r.put k v) else .node k v l r
def Tr.find (k : ByteArray) : Tr → Option ByteArray
  | .nil => none
  | .node nk nv l r => if lt k nk = true then l.find k else if lt nk k = true then r.find k else some nv
theorem cnt_put (k v : ByteArray) : ∀ t : Tr, (t.put k v).cnt ≤ t.cnt + 1
  | .nil => Nat.le_refl _
  | .node nk nv l r => by
    have h1 := cnt_put k v l
    have h2 := cnt_put k v r
    unfold Tr.put
    split
    · rw [cnt_lev]; simp only [Tr.cnt]; omega
    · split
      · rw [cnt_lev]; simp only [Tr.cnt]; omega
      · simp only [Tr.cnt]; omega
/-- The reference's list without a key's row; the place of a key; the list with a key's row. -/
def del (l : List Rw) (k : ByteArray) : List Rw := l.filter fun r => decide (r.1 ≠ k)
def has (l : List Rw) (k : ByteArray) : Bool := l.any fun r => decide (r.1 = k)
def place (l : List Rw) (k : ByteArray) : Nat := (l.takeWhile fun r => lt r.1 k).length
def ins (l : List Rw) (k v : ByteArray) : List Rw := (l.takeWhile fun r => lt r.1 k) ++ (k, v) :: (l.dropWhile fun r => lt r.1 k)
def rput (l : List Rw) (k v : ByteArray) : List Rw := ins (del l k) k v
theorem take_place (l : List Rw) (k : ByteArray) : l.take (place l k) = l.takeWhile fun r => lt r.1 k := by
  unfold place
  induction l with
  | nil => rfl
  | cons a l ih =>
    rw [List.takeWhile_cons]
    split
    · simp [ih]
    · rfl
theorem drop_place (l : List Rw) (k : ByteArray) : l.drop (place l k) = l.dropWhile fun r => lt r.1 k := by
  unfold place
  induction l with
  | nil => rfl
  | cons a l ih =>
    rw [List.takeWhile_cons, List.dropWhile_cons]
    split
    · simpa using ih
    · rfl
theorem rput_eq (l : List Rw) (k v : ByteArray) : rput l k v = (del l k).take (place (del l k) k) ++ (k, v) :: (del l k).drop (place (del l k) k) := by
  rw [take_place, drop_place]
  rfl
theorem place_le (l : List Rw) (k : ByteArray) : place l k ≤ l.length := (List.takeWhile_sublist _).length_le
def Sorted (l : List Rw) : Prop := l.Pairwise fun a b => lt a.1 b.1 = true
theorem del_gt (l : List Rw) (k : ByteArray) (h : ∀ r ∈ l, lt k r.1 = true) : del l k = l := by
  unfold del
  rw [List.filter_eq_self]
  exact fun r hr => decide_eq_true (lt_ne (h r hr)).symm
theorem del_lt (l : List Rw) (k : ByteArray) (h : ∀ r ∈ l, lt r.1 k = true) : del l k = l := by
  unfold del
  rw [List.filter_eq_self]
  exact fun r hr => decide_eq_true (lt_ne (h r hr))
theorem del_append (l m : List Rw) (k : ByteArray) : del (l ++ m) k = del l k ++ del m k := List.filter_append ..
theorem ins_gt (l m : List Rw) (k v : ByteArray) (h : ∀ r ∈ m, lt k r.1 = true) : ins (l ++ m) k v = ins l k v ++ m := by
  unfold ins
  induction l with
  | nil =>
    cases m with
    | nil => rfl
    | cons r m =>
      have : lt r.1 k = false := lt_asymm (h r (by simp))
      simp [this]
  | cons a l ih =>
    rw [List.cons_append, List.takeWhile_cons, List.dropWhile_cons, List.takeWhile_cons, List.dropWhile_cons]
    split
    · rw [List.cons_append, List.cons_append, List.cons_append, ih]
    · simp
theorem ins_lt (l m : List Rw) (k v : ByteArray) (h : ∀ r ∈ l, lt r.1 k = true) : ins (l ++ m) k v = l ++ ins m k v := by
  induction l with
  | nil => rfl
  | cons a l ih =>
    have h1 : lt a.1 k = true := h a (by simp)
    have h2 := ih fun r hr => h r (by simp [hr])
    unfold ins at h2 ⊢
    rw [List.cons_append, List.takeWhile_cons, List.dropWhile_cons, if_pos h1, if_pos h1, List.cons_append, h2, List.cons_append]
theorem rput_gt (l m : List Rw) (k v : ByteArray) (h : ∀ r ∈ m, lt k r.1 = true) : rput (l ++ m) k v = rput l k v ++ m := by
  unfold rput
  rw [del_append, del_gt m k h, ins_gt _ _ _ _ h]
theorem rput_lt (l m : List Rw) (k v : ByteArray) (h : ∀ r ∈ l, lt r.1 k = true) : rput (l ++ m) k v = l ++ rput m k v := by
  unfold rput
  rw [del_append, del_lt l k h, ins_lt _ _ _ _ h]
theorem rput_eq_head (m : List Rw) (k v v' : ByteArray) (h : ∀ r ∈ m, lt k r.1 = true) : rput ((k, v') :: m) k v = (k, v) :: m := by
  have h1 := rput_gt [(k, v')] m k v h
  rw [List.singleton_append] at h1
  rw [h1]
  simp [rput, del, ins]
theorem sorted_node {k v : ByteArray} {l r : Tr} (h : Sorted (Tr.node k v l r).ino) : Sorted l.ino ∧ Sorted r.ino ∧ (∀ x ∈ l.ino, lt x.1 k = true) ∧ (∀ x ∈ r.ino, lt k x.1 = true) := by
  unfold Sorted at *
  simp only [Tr.ino, List.pairwise_append, List.pairwise_cons, List.mem_cons] at h
  obtain ⟨h1, ⟨h2, h3⟩, h4⟩ := h
  exact ⟨h1, h3, fun x hx => h4 x hx _ (.inl rfl), fun x hx => h2 x hx⟩
theorem put_ino (k v : ByteArray) : ∀ t : Tr, Sorted t.ino → (t.put k v).ino = rput t.ino k v
  | .nil, _ => rfl
  | .node nk nv l r, h => by
    obtain ⟨hl, hr, hlk, hrk⟩ := sorted_node h
    unfold Tr.put
    split
    · rename_i h1
      rw [ino_lev, put_ino k v l hl]
      have : ∀ x ∈ (nk, nv) :: r.ino, lt k x.1 = true := fun x hx => by
        rcases List.mem_cons.1 hx with rfl | hx
        · exact h1
        · exact lt_trans h1 (hrk x hx)
      rw [Tr.ino, rput_gt _ _ _ _ this]
    · rename_i h1
      split
      · rename_i h2
        rw [ino_lev, put_ino k v r hr, Tr.ino]
        have e : l.ino ++ (nk, nv) :: r.ino = (l.ino ++ [(nk, nv)]) ++ r.ino := by simp
        rw [e, rput_lt (l.ino ++ [(nk, nv)]) r.ino k v ?_]
        · simp
        · intro x hx
          rcases List.mem_append.1 hx with hx | hx
          · exact lt_trans (hlk x hx) h2
          · obtain rfl := List.mem_singleton.1 hx
            exact h2
      · rename_i h2
        obtain rfl : k = nk := lt_total (by simpa using h1) (by simpa using h2)
        rw [Tr.ino, Tr.ino, rput_lt l.ino _ k v hlk, rput_eq_head r.ino k v nv hrk]
theorem ins_mem {l : List Rw} {k v : ByteArray} {x : Rw} (h : x ∈ ins l k v) : x = (k, v) ∨ x ∈ l := by
  unfold ins at h
  rcases List.mem_append.1 h with h | h
  · exact .inr ((List.takeWhile_sublist _).subset h)
  · rcases List.mem_cons.1 h with h | h
    · exact .inl h
    · exact .inr ((List.dropWhile_sublist _).subset h)
theorem del_mem {l : List Rw} {k : ByteArray} {x : Rw} (h : x ∈ del l k) : x ∈ l ∧ x.1 ≠ k := by
  unfold del at h
  rw [List.mem_filter] at h
  exact ⟨h.1, of_decide_eq_true h.2⟩
theorem rput_mem {l : List Rw} {k v : ByteArray} {x : Rw} (h : x ∈ rput l k v) : x = (k, v) ∨ x ∈ l := (ins_mem h).imp id fun h => (del_mem h).1
theorem sorted_del {l : List Rw} (h : Sorted l) (k : ByteArray) : Sorted (del l k) := List.Pairwise.filter _ h
theorem sorted_ins : ∀ {l : List Rw}, Sorted l → ∀ (k v : ByteArray), (∀ x ∈ l, x.1 ≠ k) → Sorted (ins l k v)
  | [], _, k, v, _ => by simp [ins, Sorted]
  | a :: l, h, k, v, hk => by
    unfold Sorted at h
    rw [List.pairwise_cons] at h
    have ih := sorted_ins h.2 k v fun x hx => hk x (by simp [hx])
    unfold ins at ih ⊢
    rw [List.takeWhile_cons, List.dropWhile_cons]
    split
    · rename_i h1
      unfold Sorted
      rw [List.cons_append, List.pairwise_cons]
      refine ⟨fun x hx => ?_, ih⟩
      rcases ins_mem (l := l) (k := k) (v := v) hx with rfl | hx
      · exact h1
      · exact h.1 x hx
    · rename_i h1
      have h2 : lt k a.1 = true := by
        cases h3 : lt k a.1
        · exact absurd (lt_total (by simpa using h1) h3) (hk a (by simp))
        · rfl
      unfold Sorted
      rw [List.nil_append, List.pairwise_cons, List.pairwise_cons]
      refine ⟨fun x hx => ?_, h⟩
      rcases List.mem_cons.1 hx with rfl | hx
      · exact h2
      · exact lt_trans h2 (h.1 x hx)
theorem sorted_rput {l : List Rw} (h : Sorted l) (k v : ByteArray) : Sorted (rput l k v) := sorted_ins (sorted_del h k) k v fun _ hx => (del_mem hx).2
/-- The tree, and the reference's list, of rows. -/
def trOf (rows : List Rw) : Tr := rows.foldl (fun t r => t.put r.1 r.2) .nil
def refOf (rows : List Rw) : List Rw := rows.foldl (fun l r => rput l r.1 r.2) []
theorem trOf_snoc (rows : List Rw) (k v : ByteArray) : trOf (rows ++ [(k, v)]) = (trOf rows).put k v := by simp [trOf]
theorem refOf_snoc (rows : List Rw) (k v : ByteArray) : refOf (rows ++ [(k, v)]) = rput (refOf rows) k v := by simp [refOf]
theorem snoc_ind {α : Type} {p : List α → Prop} (h0 : p []) (h1 : ∀ l a, p l → p (l ++ [a])) (l : List α) : p l := by
  have : ∀ m : List α, p m.reverse := fun m => by
    induction m with
    | nil => exact h0
    | cons a m ih => rw [List.reverse_cons]; exact h1 _ _ ih
  have h := this l.reverse
  rwa [List.reverse_reverse] at h
theorem of_ino (rows : List Rw) : (trOf rows).ino = refOf rows ∧ Sorted (refOf rows) := by
  refine snoc_ind (p := fun rows => (trOf rows).ino = refOf rows ∧ Sorted (refOf rows)) ⟨rfl, List.Pairwise.nil⟩ (fun l a ih => ?_) rows
  obtain ⟨k, v⟩ := a
  rw [trOf_snoc, refOf_snoc, put_ino k v _ (by rw [ih.1]; exact ih.2), ih.1]
  exact ⟨rfl, sorted_rput ih.2 k v⟩
theorem of_cnt (rows : List Rw) : (trOf rows).cnt ≤ rows.length := by
  refine snoc_ind (p := fun rows => (trOf rows).cnt ≤ rows.length) (Nat.le_refl _) (fun l a ih => ?_) rows
  rw [trOf_snoc, List.length_append, List.length_singleton]
  exact Nat.le_trans (cnt_put _ _ _) (by omega)
theorem of_mem (rows : List Rw) : ∀ x ∈ refOf rows, x ∈ rows := by
  refine snoc_ind (p := fun rows => ∀ x ∈ refOf rows, x ∈ rows) (fun x hx => by cases hx) (fun l a ih => ?_) rows
  intro x hx
  rw [refOf_snoc] at hx
  rcases rput_mem hx with rfl | hx
  · simp
  · exact List.mem_append_left _ (ih x hx)
/-- One row, many times. -/
theorem of_same (k v : ByteArray) : ∀ n, refOf (List.replicate (n + 1) (k, v)) = [(k, v)]
  | 0 => by simp [refOf, rput, del, ins]
  | n + 1 => by
    rw [List.replicate_succ', refOf_snoc, of_same k v n]
    simp [rput, del, ins]
/-- What rising tells. -/
def Tr.ris (lo : ByteArray) : Tr → List Rw
  | .nil => []
  | .node k v l r => if lt k lo = true then r.ris lo else l.ris lo ++ (k, v) :: r.ris lo
theorem ris_nil : ∀ t : Tr, t.ris ⟨#[]⟩ = t.ino
  | .nil => rfl
  | .node k v l r => by
    unfold Tr.ris
    rw [not_lt_nil, if_neg (by simp), ris_nil l, ris_nil r]
    rfl
/-- How many bytes rows have. -/
def bts (l : List Rw) : Nat := (l.map fun r => r.1.size + r.2.size).sum
theorem bts_append (l m : List Rw) : bts (l ++ m) = bts l + bts m := by simp [bts]
theorem bts_cons (r : Rw) (l : List Rw) : bts (r :: l) = r.1.size + r.2.size + bts l := by simp [bts]
def oldB (k : ByteArray) : Option ByteArray → Nat
  | some o => k.size + o.size
  | none => 0
theorem bts_put (k v : ByteArray) : ∀ t : Tr, Sorted t.ino → bts (t.put k v).ino + oldB k (t.find k) = bts t.ino + k.size + v.size
  | .nil, _ => by simp [Tr.put, Tr.find, Tr.ino, bts, oldB]
  | .node nk nv l r, h => by
    obtain ⟨hl, hr, _, _⟩ := sorted_node h
    have h1 := bts_put k v l hl
    have h2 := bts_put k v r hr
    unfold Tr.put Tr.find
    split
    · rw [ino_lev, Tr.ino, bts_append, bts_append, bts_cons]
      omega
    · split
      · rw [ino_lev, Tr.ino, bts_append, bts_append, bts_cons, bts_cons]
        omega
      · rename_i h3 h4
        obtain rfl : k = nk := lt_total (by simpa using h3) (by simpa using h4)
        rw [Tr.ino, Tr.ino, bts_append, bts_append, bts_cons, bts_cons]
        simp only [oldB]
        omega
theorem bts_le (l : List Rw) (Z : Nat) (h : ∀ r ∈ l, r.1.size ≤ Z ∧ r.2.size ≤ Z) : bts l ≤ l.length * (2 * Z) := by
  induction l with
  | nil => simp [bts]
  | cons r l ih =>
    have h1 := h r (by simp)
    have h2 := ih fun x hx => h x (by simp [hx])
    rw [bts_cons, List.length_cons, Nat.add_mul]
    omega
end Go.Proofs.Ytiffjjophmgdlaa.Tb
