/-
  The parser's chains of operands. Conditions: those typed in each theorem.
-/
import Derived.Test.YtlkfnpmcihfjmaaDoorFormTake
namespace Go.Proofs.YtlkfnpmcihfjmaaDoor
open Go.RowKit
set_option linter.unusedVariables false

/-- what a function of the parser does at a level: it reads as the plain reading does -/
def Opd (F f n : Nat) : Prop := ∀ (g : Nat) (ts : List ByteArray) (b : Bool) (r : Form.Res) (w : World), Form.P f (.lv n) ts b = some r → ts.length ≤ 1000 → PS g w ts b →
  Calls Tryd.prog F #[.pointer (some ⟨g, 0, none⟩)] w fun e w' => ∃ h, e = .returned (.pointer (some ⟨h, 0, none⟩)) ∧ Step g w w' ∧ Lay g w' r.T h ∧ PS g w' r.rest r.bad
theorem mem_no {t : ByteArray} {l : List ByteArray} (h : Form.mem t l = false) : t ∉ l := fun hm => by rw [Form.mem_iff.2 hm] at h; cases h
theorem ops_ne (n : Nat) : ⟨#[]⟩ ∉ Form.ops n := by
  refine mem_no ?_
  unfold Form.ops
  split <;> decide
theorem ops_len (n : Nat) : (Form.ops n).length ≤ 10 := by
  unfold Form.ops
  split <;> decide
theorem op_ne {n : Nat} {op : ByteArray} (h : op ∈ Form.ops n) : op.toList.isEmpty = false := str_emp (fun e => ops_ne n (e ▸ h))

set_option maxHeartbeats 4000000 in
theorem chain_any (g F n f k x : Nat) (ts : List ByteArray) (b : Bool) (x1 r : Form.Res) (w : World) (hF : ∀ args w, (callFunc F args).run Tryd.prog w = .ok (.enter F args) w) (hO : Opd F f (n + 1))
    (h1 : Form.P f (.lv (n + 1)) ts b = some x1) (hk : k ≤ f) (h2 : Form.P k (.loop n x1.T) x1.rest x1.bad = some r) (hlen : ts.length ≤ 1000) (hs : PS g w ts b) (hx : Strs w x (Form.ops n)) (hxg : g < x) (hxl : x < w.heap.size) :
    Calls Tryd.prog 39 #[.pointer (some ⟨g, 0, none⟩), .func (.func F) #[.pointer (some ⟨g, 0, none⟩)] #[], .slice (some ⟨x, 0, none⟩) (Form.ops n).length (Form.ops n).length] w fun e w' =>
      ∃ h, e = .returned (.pointer (some ⟨h, 0, none⟩)) ∧ Step g w w' ∧ Lay g w' r.T h ∧ PS g w' r.rest r.bad := by
  have hlen1 := Form.P_len _ _ _ _ _ h1
  have hol := ops_len n
  have hone := ops_ne n
  have hopne := fun op (h : op ∈ Form.ops n) => op_ne h
  generalize hops : Form.ops n = l at *
  obtain ⟨m, hm⟩ : ∃ m, m = l.length := ⟨_, rfl⟩
  rw [← hm]
  have Hm := Lib.hid hm
  have Hops := Lib.hid hops
  clear hm hops
  go_enter Tryd.func39, Tryd.ntmps39
  go_wp2_with fail
  refine (hO g ts b x1 w h1 hlen hs).mono ?_
  rintro e w1 ⟨h, rfl, st1, ly1, ps1⟩
  go_wp2_with fail
  go_loopg [7, 8] (k + 1) (fun q s7 s8 wr => ∃ (a : Form.Tree) (h : Nat) (ts : List ByteArray) (b : Bool) (k : Nat), k < q ∧ k ≤ f ∧ Form.P k (.loop n a) ts b = some r ∧ ts.length ≤ 1000 ∧ s7 = .pointer (some ⟨h, 0, none⟩) ∧ Step g w wr ∧ Lay g wr a h ∧ PS g wr ts b)
  case atStart => exact ⟨x1.T, h, x1.rest, x1.bad, k, by omega, hk, h2, by omega, rfl, st1, ly1, ps1⟩
  case round =>
    obtain ⟨a, h, ts, b, k, hkq, hkf, hP, htl, rfl, st, ly, ps⟩ := hrel
    clear h1 h2 hs st1 ly1 ps1 hlen hlen1 hk
    have hX := hx.step st (by omega) hxl
    cases k with
    | zero => simp [Form.P] at hP
    | succ k =>
      rw [Form.P, Hops.out] at hP
      cases htk : Form.take l ts with
      | none =>
        rw [htk] at hP
        simp only [Option.some.injEq] at hP
        have hT := fun (w0 : World) (e : w0 = wr) => take_none_any g x l ts b w0 hol (e ▸ hX) hone htk (e ▸ ps)
        rw [← Hm.out] at hT
        subst hP
        clear hX hx hO htk hone hopne
        go_wp2_with fail
        refine (hT _ rfl).mono ?_
        rintro e w2 ⟨rfl, rfl⟩
        go_wp2_with fail
        go_ret
        exact ⟨h, rfl, st, ly, ps⟩
      | some y =>
        obtain ⟨op, r2⟩ := y
        rw [htk] at hP
        have hop := hopne op (Form.take_len htk).2.1
        have hrl := (Form.take_len htk).1
        have hT := fun (w0 : World) (e : w0 = wr) => take_some_any g x l ts b op r2 w0 hol (e ▸ hX) htk (e ▸ ps) (by omega)
        rw [← Hm.out] at hT
        clear htk hone hopne
        cases b with
        | true =>
          simp only [if_true, Option.some.injEq] at hP
          subst hP
          clear hX hx hO
          go_wp2_with fail
          refine (hT _ rfl).mono ?_
          rintro e w2 ⟨rfl, st2, ps2⟩
          obtain ⟨c1, f1, -⟩ := ps2.bad
          go_wp2_with fail
          go_ret
          exact ⟨h, rfl, st.trans st2, ly.step st2, ps2⟩
        | false =>
          simp only [Bool.false_eq_true, if_false] at hP
          cases hsub : Form.P k (.lv (n + 1)) r2 false with
          | none => rw [hsub] at hP; cases hP
          | some s =>
            rw [hsub] at hP
            simp only at hP
            have hO2 := fun w0 => hO g r2 false s w0 (Form.P_le (by omega) hsub) (by omega)
            have hle := Form.P_len _ _ _ _ _ hsub
            clear hX hO hsub
            go_wp2_with fail
            refine (hT _ rfl).mono ?_
            rintro e w2 ⟨rfl, st2, ps2⟩
            obtain ⟨c1, f1, -⟩ := ps2.bad
            go_wp2_with fail
            refine (hO2 _ ps2).mono ?_
            rintro e w3 ⟨h', rfl, st3, ly3, ps3⟩
            have hl3 := ps3.lt
            clear c1 f1 ps2 ps hT hO2 hx
            go_wp2_with fail
            go_roundg (k + 1)
            case measure => omega
            case rel =>
              refine ⟨.bin op a s.T, w3.heap.size, s.rest, s.bad, k, by omega, by omega, hP, ?_, rfl, ((st.trans st2).trans st3).alloc (Nat.le_of_lt hl3) _, ?_, ps3.alloc _⟩
              · omega
              · refine ⟨hl3, h, h', Known.made w3 _ _, ?_, ?_⟩
                · exact ((ly.step st2).step st3).step (Step.of_below (below_new0 w3 _) (Nat.le_of_lt hl3))
                · exact ly3.step (Step.of_below (below_new0 w3 _) (Nat.le_of_lt hl3))
end Go.Proofs.YtlkfnpmcihfjmaaDoor
