/-
  The table of contents as plain data: parents, numbers, free anchors. No conditions but those typed.
-/
import Derived.Test.YtibmemaciahofaaDoorDoc
import Derived.Test.YtibmemaciahofaaDoorAnc
import Derived.Test.YtibmemaciahofaaDoorItoa
namespace Go.Proofs.YtibmemaciahofaaDoor.Cont
open Doc

/-! ### numerals -/
theorem dec_val (n : Nat) : (Lib.decDigits n).foldl (fun v (c : UInt8) => v * 10 + (c.toNat - 48)) 0 = n := by
  induction n using Nat.strongRecOn with
  | _ n ih =>
    rw [decDigits_step]
    have hb : ∀ d, d < 10 → (UInt8.ofNat (48 + d)).toNat - 48 = d := fun d hd => by
      rw [UInt8.toNat_ofNat']
      omega
    split
    · rename_i h
      simp only [List.foldl_cons, List.foldl_nil, hb n h]
      omega
    · rename_i h
      rw [List.foldl_append, ih (n / 10) (by omega)]
      simp only [List.foldl_cons, List.foldl_nil, hb (n % 10) (by omega)]
      omega
theorem dec_inj {m n : Nat} (h : Lib.decDigits m = Lib.decDigits n) : m = n := by rw [← dec_val m, ← dec_val n, h]
theorem dec_pos (n : Nat) : 1 ≤ (Lib.decDigits n).length := by
  rw [decDigits_step]
  split <;> simp
theorem dec_len (k : Nat) : ∀ n, n < 10 ^ (k + 1) → (Lib.decDigits n).length ≤ k + 1 := by
  induction k with
  | zero => intro n hn; rw [decDigits_step, if_pos (by simpa using hn)]; simp
  | succ k ih =>
    intro n hn
    rw [decDigits_step]
    split
    · simp
    · rw [List.length_append]
      have := ih (n / 10) (by rw [Nat.pow_succ] at hn; omega)
      simp only [List.length_cons, List.length_nil]
      omega

/-! ### entries -/
structure Ent where
  lv : Int
  num : ByteArray
  txt : ByteArray
  anc : ByteArray
instance : Inhabited Ent := ⟨⟨0, ⟨#[]⟩, ⟨#[]⟩, ⟨#[]⟩⟩⟩

/-- the last of the first k entries with a smaller level -/
def par (L : List Ent) (lv : Int) : Nat → Int
  | 0 => -1
  | k + 1 => if (L.getD k default).lv < lv then k else par L lv k
theorem par_app (L M : List Ent) (lv : Int) : ∀ k, k ≤ L.length → par (L ++ M) lv k = par L lv k
  | 0, _ => rfl
  | k + 1, h => by
    have e : (L ++ M).getD k default = L.getD k default := by simp [List.getD, List.getElem?_append_left (show k < L.length by omega)]
    rw [par, par, e, par_app L M lv k (by omega)]
theorem par_bd (L : List Ent) (lv : Int) : ∀ k, -1 ≤ par L lv k ∧ par L lv k < k
  | 0 => by simp [par]
  | k + 1 => by
    have := par_bd L lv k
    unfold par
    split <;> omega
/-- how many of the first k entries have the parent p -/
def cnt (L : List Ent) (p : Int) : Nat → Nat
  | 0 => 0
  | k + 1 => cnt L p k + if par L (L.getD k default).lv k = p then 1 else 0
theorem cnt_app (L M : List Ent) (p : Int) : ∀ k, k ≤ L.length → cnt (L ++ M) p k = cnt L p k
  | 0, _ => rfl
  | k + 1, h => by
    have e : (L ++ M).getD k default = L.getD k default := by simp [List.getD, List.getElem?_append_left (show k < L.length by omega)]
    rw [cnt, cnt, e, cnt_app L M p k (by omega), par_app L M _ k (by omega)]
theorem cnt_le (L : List Ent) (p : Int) : ∀ k, cnt L p k ≤ k
  | 0 => Nat.le_refl _
  | k + 1 => by
    have := cnt_le L p k
    unfold cnt
    split <;> omega
theorem getD_snoc (L : List Ent) (x : Ent) : (L ++ [x]).getD L.length default = x := by simp [List.getD]
theorem cnt_snoc (L : List Ent) (x : Ent) (p : Int) : cnt (L ++ [x]) p (L ++ [x]).length = cnt L p L.length + if par L x.lv L.length = p then 1 else 0 := by
  rw [show (L ++ [x]).length = L.length + 1 by simp, cnt, getD_snoc, cnt_app L [x] p _ (Nat.le_refl _), par_app L [x] _ _ (Nat.le_refl _)]
/-- the number of an entry behind L -/
def numB (L : List Ent) (lv : Int) : List UInt8 :=
  (if par L lv L.length < 0 then [] else (L.getD (par L lv L.length).toNat default).num.data.toList ++ [46]) ++ Lib.decDigits (cnt L (par L lv L.length) L.length + 1)

/-! ### free anchors -/
/-- the n-th anchor that is tried -/
def cand (a : List UInt8) (n : Nat) : List UInt8 := if n ≤ 1 then a else a ++ [95] ++ Lib.decDigits n
def taken (L : List Ent) (x : List UInt8) : Bool := L.any fun e => e.anc.data.toList == x
def free (L : List Ent) (a : List UInt8) : Nat → Nat → List UInt8
  | 0, n => cand a n
  | f + 1, n => if taken L (cand a n) then free L a f (n + 1) else cand a n
theorem free_eq (L : List Ent) (a : List UInt8) : ∀ (f n m : Nat), n ≤ m → m ≤ n + f → (∀ j, n ≤ j → j < m → taken L (cand a j) = true) → taken L (cand a m) = false → free L a f n = cand a m
  | 0, n, m, h1, h2, _, _ => by rw [show m = n by omega]; rfl
  | f + 1, n, m, h1, h2, h3, h4 => by
    unfold free
    by_cases e : n = m
    · subst e; rw [h4]; rfl
    · rw [h3 n (Nat.le_refl _) (by omega), if_pos rfl]
      exact free_eq L a f (n + 1) m (by omega) (by omega) (fun j hj => h3 j (by omega)) h4
theorem cand_inj (a : List UInt8) {m n : Nat} (hm : 1 ≤ m) (hn : 1 ≤ n) (h : cand a m = cand a n) : m = n := by
  unfold cand at h
  split at h <;> split at h
  · omega
  · exfalso
    have := congrArg List.length h
    simp only [List.length_append, List.length_cons, List.length_nil] at this
    omega
  · exfalso
    have := congrArg List.length h
    simp only [List.length_append, List.length_cons, List.length_nil] at this
    omega
  · exact dec_inj (List.append_cancel_left h)
theorem sub_len {α : Type} [DecidableEq α] : ∀ (c l : List α), c.Nodup → (∀ x ∈ c, x ∈ l) → c.length ≤ l.length
  | [], l, _, _ => Nat.zero_le _
  | x :: c, l, hd, hs => by
    obtain ⟨h1, h2⟩ := List.nodup_cons.1 hd
    have hx := hs x (by simp)
    have := sub_len c (l.erase x) h2 (fun y hy => by
      have hy' := hs y (by simp [hy])
      exact (List.mem_erase_of_ne (fun e => h1 (by rw [← e]; exact hy))).2 hy')
    have hl := List.length_erase_of_mem hx
    have hp := List.length_pos_of_mem hx
    simp only [List.length_cons]
    omega
theorem taken_le (L : List Ent) (a : List UInt8) (m : Nat) (h : ∀ j, 1 ≤ j → j ≤ m → taken L (cand a j) = true) : m ≤ L.length := by
  have := sub_len ((List.range m).map fun j => cand a (j + 1)) (L.map fun e => e.anc.data.toList) (by
    refine List.nodup_iff_pairwise_ne.2 (List.pairwise_map.2 (List.nodup_range.imp fun {i j} hne he => hne ?_))
    have := cand_inj a (by omega) (by omega) he
    omega) (fun x hx => by
    obtain ⟨j, hj, rfl⟩ := List.mem_map.1 hx
    have hj' : j < m := by simpa using hj
    have ht := h (j + 1) (by omega) (by omega)
    unfold taken at ht
    obtain ⟨e, he, hq⟩ := List.any_eq_true.1 ht
    exact List.mem_map.2 ⟨e, he, by simpa using hq⟩)
  simpa using this
/-- the anchor of an entry behind L whose text has the anchor a -/
def ancB (L : List Ent) (a : List UInt8) : List UInt8 := free L a L.length 1
theorem anc_of (L : List Ent) (a : List UInt8) (m : Nat) (hm : 1 ≤ m) (h1 : ∀ j, 1 ≤ j → j < m → taken L (cand a j) = true) (h2 : taken L (cand a m) = false) : ancB L a = cand a m := by
  have := taken_le L a (m - 1) (fun j hj hl => h1 j hj (by omega))
  exact free_eq L a L.length 1 m hm (by omega) h1 h2
/-- .. is free, and one of the candidates -/
theorem anc_some (L : List Ent) (a : List UInt8) : ∃ m, 1 ≤ m ∧ m ≤ L.length + 1 ∧ ancB L a = cand a m ∧ taken L (cand a m) = false := by
  by_cases h : ∃ m, 1 ≤ m ∧ m ≤ L.length + 1 ∧ taken L (cand a m) = false ∧ ∀ j, 1 ≤ j → j < m → taken L (cand a j) = true
  · obtain ⟨m, h1, h2, h3, h4⟩ := h
    exact ⟨m, h1, h2, anc_of L a m h1 h4 h3, h3⟩
  · exfalso
    have key : ∀ m, m ≤ L.length + 1 → ∀ j, 1 ≤ j → j ≤ m → taken L (cand a j) = true := by
      intro m
      induction m with
      | zero => intro _ j h1 h2; omega
      | succ m ih =>
        intro hm j h1 h2
        by_cases e : j = m + 1
        · subst e
          cases ht : taken L (cand a (m + 1))
          · exact absurd ⟨m + 1, by omega, hm, ht, fun i hi hl => ih (by omega) i hi (by omega)⟩ h
          · rfl
        · exact ih (by omega) j h1 (by omega)
    have := taken_le L a (L.length + 1) (key _ (Nat.le_refl _))
    omega
theorem taken_snoc (L : List Ent) (e : Ent) (x : List UInt8) : taken (L ++ [e]) x = (taken L x || (e.anc.data.toList == x)) := by
  unfold taken; simp

/-- the entry of a heading behind L -/
def ent (L : List Ent) (lv : Int) (t : List UInt8) : Ent := ⟨lv, ⟨(numB L lv).toArray⟩, ⟨t.toArray⟩, ⟨(ancB L (Anc.anchor t)).toArray⟩⟩
/-- the table of contents of blocks behind L -/
def contF : List Ent → Bls → List Ent
  | L, .nil => L
  | L, .cons a l _ i _ r => contF (if a = 1 then L ++ [ent L l i.plain] else L) r
def cont (b : Bls) : List Ent := contF [] b
theorem contF_app (a b : Bls) : ∀ L, contF L (a.app b) = contF (contF L a) b := by
  induction a with
  | nil => intro L; rfl
  | cons k l t i q r _ ihr => intro L; simp only [Bls.app, contF]; exact ihr _
theorem contF_len (b : Bls) : ∀ L, (contF L b).length ≤ L.length + b.len := by
  induction b with
  | nil => intro L; exact Nat.le_refl _
  | cons k l t i q r _ ihr =>
    intro L
    simp only [contF, Bls.len]
    refine Nat.le_trans (ihr _) ?_
    split
    · simp; omega
    · omega
end Go.Proofs.YtibmemaciahofaaDoor.Cont
