/-
  The parser's next token: peek and take. Conditions: those typed in each theorem.
-/
import Derived.Test.YtlkfnpmcihfjmaaDoorFormMem
namespace Go.Proofs.YtlkfnpmcihfjmaaDoor
open Go.RowKit
set_option linter.unusedVariables false

theorem str_ne {a b : ByteArray} (h : ¬ a = b) : (a.toList == b.toList) = false := by
  rw [beq_eq_false_iff_ne, ByteArray.toList_eq, ByteArray.toList_eq]
  intro e
  exact h (ByteArray.ext (Array.toList_inj.1 e))
theorem str_self (a : ByteArray) : (a.toList == a.toList) = true := by simp
theorem str_emp {a : ByteArray} (h : ¬ a = ⟨#[]⟩) : a.toList.isEmpty = false := by
  rw [ByteArray.toList_eq]
  cases hl : a.data.toList with
  | nil => exact absurd (ByteArray.ext (Array.toList_inj.1 hl)) h
  | cons _ _ => rfl
theorem peek_nil (g : Nat) (b : Bool) (w : World) (h : PS g w [] b) :
    Calls Tryd.prog 76 #[.pointer (some ⟨g, 0, none⟩)] w fun e w' => e = .returned (.string ⟨#[]⟩) ∧ w = w' := by
  obtain ⟨p, c, c0, c1, f0, f1⟩ := h.nil
  go_enter Tryd.func76, Tryd.ntmps76
  go_wp2_with fail
  go_ret
  exact ⟨rfl, rfl⟩
theorem peek_cons (g : Nat) (t : ByteArray) (r : List ByteArray) (b : Bool) (w : World) (h : PS g w (t :: r) b) :
    Calls Tryd.prog 76 #[.pointer (some ⟨g, 0, none⟩)] w fun e w' => e = .returned (.string t) ∧ w = w' := by
  obtain ⟨q, o, c, c0, hc, c1, f0, f1, ct, hp, hq⟩ := h.cons
  clear hp hq
  go_enter Tryd.func76, Tryd.ntmps76
  go_wp2_with fail
  go_ret
  exact ⟨rfl, rfl⟩
/-- the token that stands next, or nothing -/
def hd (ts : List ByteArray) : ByteArray := ts.headD ⟨#[]⟩
theorem peek_any (g : Nat) (ts : List ByteArray) (b : Bool) (w : World) (h : PS g w ts b) :
    Calls Tryd.prog 76 #[.pointer (some ⟨g, 0, none⟩)] w fun e w' => e = .returned (.string (hd ts)) ∧ w = w' := by
  cases ts with
  | nil => exact peek_nil g b w h
  | cons t r => exact peek_cons g t r b w h

set_option maxHeartbeats 1000000 in
theorem take_no (g x : Nat) (l : List ByteArray) (S : ByteArray) (w : World) (hl : l.length ≤ 10) (hL : Strs w x l) (hS : S ∉ l)
    (hP : ∀ w0, w0 = w → Calls Tryd.prog 76 #[.pointer (some ⟨g, 0, none⟩)] w0 fun e w' => e = .returned (.string S) ∧ w0 = w') :
    Calls Tryd.prog 54 #[.pointer (some ⟨g, 0, none⟩), .slice (some ⟨x, 0, none⟩) l.length l.length] w fun e w' => e = .returned (.string ⟨#[]⟩) ∧ w = w' := by
  obtain ⟨n, hn⟩ : ∃ n, n = l.length := ⟨_, rfl⟩
  rw [← hn]
  rw [← hn] at hl
  have Hn := Lib.hid hn
  clear hn
  go_enter Tryd.func54, Tryd.ntmps54
  go_wp2_with fail
  go_loopg [6, 9] (n + 1) (fun k s6 s9 wr => ∃ i : Nat, i ≤ n ∧ n - i < k ∧ s9 = .int .i64 i ∧ w = wr)
  case atStart => exact ⟨0, by omega, by omega, rfl, rfl⟩
  case round =>
    obtain ⟨i, hi, hg, rfl, rfl⟩ := hrel
    by_cases hlt : i < n
    · obtain ⟨o, ho⟩ : ∃ o, o = l[i]'(by have := Hn.out; omega) := ⟨_, rfl⟩
      have c0 : w.cell? ⟨x, i, none⟩ = some (.string o) := by rw [ho]; exact hL i (by have := Hn.out; omega)
      have ne := str_ne (a := S) (b := o) (by intro e; apply hS; rw [e, ho]; exact List.getElem_mem _)
      clear ho hL hS Hn
      go_wp2_with fail
      refine (hP _ rfl).mono ?_
      rintro e w1 ⟨rfl, rfl⟩
      go_wp2_with fail
      go_roundg (n - (i + 1) + 1)
      case measure => omega
      case rel => exact ⟨i + 1, by omega, by omega, rfl, rfl⟩
    · clear hL hS Hn
      go_wp2_with fail
      go_ret
      exact ⟨rfl, rfl⟩
set_option maxHeartbeats 1000000 in
theorem take_yes (g x : Nat) (l : List ByteArray) (t : ByteArray) (r : List ByteArray) (b : Bool) (w : World) (hl : l.length ≤ 10) (hL : Strs w x l) (ht : t ∈ l) (hs : PS g w (t :: r) b) (hr : r.length ≤ 1000000) :
    Calls Tryd.prog 54 #[.pointer (some ⟨g, 0, none⟩), .slice (some ⟨x, 0, none⟩) l.length l.length] w fun e w' => e = .returned (.string t) ∧ Step g w w' ∧ PS g w' r b := by
  have hP := fun (w0 : World) (e : w0 = w) => peek_cons g t r b w0 (e ▸ hs)
  obtain ⟨q, u, c, c0, hc, c1, f0, f1, ct, hp, hq⟩ := hs.cons
  clear hs
  obtain ⟨j, hje⟩ : ∃ j, ∃ h : j < l.length, l[j] = t := by obtain ⟨j, hj, e⟩ := List.mem_iff_getElem.1 ht; exact ⟨j, hj, e⟩
  have hj : j < l.length := hje.1
  have hje' : l[j]? = some t := by obtain ⟨h, e⟩ := hje; rw [List.getElem?_eq_getElem h, e]
  clear hje
  have HP := Lib.hid hp
  have HQ := Lib.hid hq
  clear hp hq
  obtain ⟨n, hn⟩ : ∃ n, n = l.length := ⟨_, rfl⟩
  rw [← hn]
  rw [← hn] at hl hj
  have Hn := Lib.hid hn
  clear hn
  go_enter Tryd.func54, Tryd.ntmps54
  go_wp2_with fail
  go_loopg [6, 9] (n + 1) (fun k s6 s9 wr => ∃ i : Nat, i ≤ j ∧ n - i < k ∧ s9 = .int .i64 i ∧ w = wr)
  case atStart => exact ⟨0, by omega, by omega, rfl, rfl⟩
  case round =>
    obtain ⟨i, hi, hg, rfl, rfl⟩ := hrel
    have hlt : i < n := by omega
    obtain ⟨o, ho⟩ : ∃ o, o = l[i]'(by have := Hn.out; omega) := ⟨_, rfl⟩
    have d0 : w.cell? ⟨x, i, none⟩ = some (.string o) := by rw [ho]; exact hL i (by have := Hn.out; omega)
    by_cases e : t = o
    · subst e
      have ne := str_self t
      clear ho hL Hn hje' ht hj
      rcases Nat.eq_zero_or_pos c with hc0 | hc0
      · subst hc0
        obtain rfl : r = [] := List.eq_nil_of_length_eq_zero (by omega)
        replace HQ := Lib.hid (HQ.out rfl)
        go_wp2_with fail
        refine (hP _ rfl).mono ?_
        rintro e w1 ⟨rfl, rfl⟩
        go_wp2_with fail
        go_ret
        exact ⟨rfl, (Step.refl _ _).put 0 _, HQ.out⟩
      · go_wp2_with fail
        refine (hP _ rfl).mono ?_
        rintro e w1 ⟨rfl, rfl⟩
        go_wp2_with fail
        go_ret
        exact ⟨rfl, (Step.refl _ _).put 0 _, HP.out⟩
    · have hij : i < j := by
        by_cases h : i = j
        · subst h; rw [List.getElem?_eq_getElem (by have := Hn.out; omega), ← ho] at hje'; exact absurd (Option.some.inj hje').symm e
        · omega
      have ne := str_ne e
      clear ho hL Hn hje' ht e hj
      go_wp2_with fail
      refine (hP _ rfl).mono ?_
      rintro e w1 ⟨rfl, rfl⟩
      go_wp2_with fail
      go_roundg (n - (i + 1) + 1)
      case measure => omega
      case rel => exact ⟨i + 1, by omega, by omega, rfl, rfl⟩
/-- take, for a token that is on the list, and for any other -/
theorem take_none_any (g x : Nat) (l ts : List ByteArray) (b : Bool) (w : World) (hl : l.length ≤ 10) (hL : Strs w x l) (hne : ⟨#[]⟩ ∉ l) (h : Form.take l ts = none) (hs : PS g w ts b) :
    Calls Tryd.prog 54 #[.pointer (some ⟨g, 0, none⟩), .slice (some ⟨x, 0, none⟩) l.length l.length] w fun e w' => e = .returned (.string ⟨#[]⟩) ∧ w = w' := by
  refine take_no g x l (hd ts) w hl hL ?_ (fun w0 e => peek_any g ts b w0 (e ▸ hs))
  cases ts with
  | nil => exact hne
  | cons t r =>
    intro hm; replace hm : t ∈ l := hm
    rw [Form.take, if_pos (Form.mem_iff.2 hm)] at h
    cases h
theorem take_some_any (g x : Nat) (l ts : List ByteArray) (b : Bool) (op : ByteArray) (r : List ByteArray) (w : World) (hl : l.length ≤ 10) (hL : Strs w x l) (h : Form.take l ts = some (op, r)) (hs : PS g w ts b) (hr : ts.length ≤ 1000000) :
    Calls Tryd.prog 54 #[.pointer (some ⟨g, 0, none⟩), .slice (some ⟨x, 0, none⟩) l.length l.length] w fun e w' => e = .returned (.string op) ∧ Step g w w' ∧ PS g w' r b := by
  obtain ⟨h1, h2, rfl⟩ := Form.take_len h
  exact take_yes g x l op r b w hl hL h2 hs (by omega)
end Go.Proofs.YtlkfnpmcihfjmaaDoor
