/- Stacks of pointers to boxes; the program's Count. -/
import Derived.Test.YtlgnghehgcoccaaBoxPlain
import Derived.Test.YtlgnghehgcoccaaAppEl
import Derived.Test.YtlgnghehgcoccaaChecked
import Derived.Laws.MakeOwn
namespace Go.Proofs.Ytlgnghehgcoccaa
open Go.RowKit
theorem info_parts {P : Program} {t : TypeId} {z : Value} {s b : Nat} (h : (P.info? t).map (fun i => (i.zero, i.size, i.bytes)) = some (some z, s, b)) : ∃ i, P.info? t = some i ∧ i.zero = some z ∧ i.size = s ∧ i.bytes = b := by
  cases hi : P.info? t with
  | none => rw [hi] at h; cases h
  | some i =>
    rw [hi] at h
    simp only [Option.map_some, Option.some.injEq, Prod.mk.injEq] at h
    exact ⟨i, rfl, h.1, h.2.1, h.2.2⟩
theorem infoPtr : (Try.prog.info? 48).map (fun i => (i.zero, i.size, i.bytes)) = some (some (.pointer none), 1, 8) := by kernel_rfl
/-- A pointer to a box, whose memory lies below block hi. -/
def Ent (W : World) (hi : Nat) (v : Value) (t : Bx) : Prop := ∃ b o A c A' c', v = .pointer (some ⟨b, o, none⟩) ∧ b < hi ∧ BoxAt W b o t A c A' c' ∧ Kids W 0 hi A t.kids ∧ Ints W 0 hi A' t.src ∧ lens t
/-- A stack of such pointers. -/
def Stk (W : World) (hi : Nat) : List Value → List Bx → Prop
  | [], [] => True
  | v :: vs, t :: ts => Ent W hi v t ∧ Stk W hi vs ts
  | _, _ => False
theorem Stk.len {W : World} {hi : Nat} : ∀ {vs : List Value} {ts : List Bx}, Stk W hi vs ts → vs.length = ts.length
  | [], [], _ => rfl
  | v :: vs, t :: ts, h => by simp [Stk.len h.2]
  | [], _ :: _, h => h.elim
  | _ :: _, [], h => h.elim
theorem Stk.append {W : World} {hi : Nat} : ∀ {vs : List Value} {ts : List Bx} {vs' : List Value} {ts' : List Bx}, Stk W hi vs ts → Stk W hi vs' ts' → Stk W hi (vs ++ vs') (ts ++ ts')
  | [], [], _, _, _, h => h
  | _v :: _vs, _t :: _ts, _, _, h, h' => ⟨h.1, Stk.append h.2 h'⟩
  | [], _ :: _, _, _, h, _ => h.elim
  | _ :: _, [], _, _, h, _ => h.elim
theorem Stk.one {W : World} {hi : Nat} {v : Value} {t : Bx} (h : Ent W hi v t) : Stk W hi [v] [t] := ⟨h, trivial⟩
theorem Stk.last {W : World} {hi : Nat} : ∀ {vs : List Value} {ts : List Bx}, Stk W hi vs ts → 0 < vs.length → ∃ vs' v ts' t, vs = vs' ++ [v] ∧ ts = ts' ++ [t] ∧ Stk W hi vs' ts' ∧ Ent W hi v t
  | [], _, _, h0 => absurd h0 (by simp)
  | [v], t :: ts, h, _ => by
    have : ts = [] := by
      cases ts with
      | nil => rfl
      | cons a b => exact h.2.elim
    subst this
    exact ⟨[], v, [], t, rfl, rfl, trivial, h.1⟩
  | v :: v2 :: vs, t :: ts, h, _ => by
    obtain ⟨vs', x, ts', y, e1, e2, h1, h2⟩ := Stk.last h.2 (by simp)
    exact ⟨v :: vs', x, t :: ts', y, by rw [e1]; rfl, by rw [e2]; rfl, ⟨h.1, h1⟩, h2⟩
  | _ :: _, [], h, _ => h.elim
/-- The pointers to the first n kids. -/
def kptr (b off : Nat) (n : Nat) : List Value := (List.range n).map fun j => .pointer (some ⟨b, off + j * 11, none⟩)
theorem kptr_succ (b off n : Nat) : kptr b off (n + 1) = kptr b off n ++ [.pointer (some ⟨b, off + n * 11, none⟩)] := by unfold kptr; rw [List.range_succ, List.map_append]; rfl
theorem kptr_len (b off n : Nat) : (kptr b off n).length = n := by simp [kptr]
theorem kptr_stk {W : World} {hi : Nat} {b off : Nat} {l : List Bx} (h : Kids W 0 hi (some ⟨b, off, none⟩) l) : ∀ n, n ≤ l.length → Stk W hi (kptr b off n) (l.take n)
  | 0, _ => by simp [kptr, Stk]
  | n + 1, hn => by
    rw [kptr_succ, take_kid l (by omega)]
    refine (kptr_stk h n (by omega)).append (Stk.one ?_)
    obtain ⟨b', off', A1, c1, A2, c2, e, _, hb, hat, hk, hi', hl⟩ := h.at (show n < l.length by omega)
    injection e with e1
    injection e1 with e2 e3
    subst e2 e3
    exact ⟨_, _, A1, c1, A2, c2, rfl, hb, hat, hk, hi', hl⟩
/-- The pointers to the first n kids from A on. -/
def kptrA : Option Addr → Nat → List Value
  | some a, n => kptr a.block a.off n
  | none, _ => []
theorem kptrA_zero (A : Option Addr) : kptrA A 0 = [] := by cases A <;> rfl
theorem kptrA_len {W : World} {hi : Nat} {A : Option Addr} {l : List Bx} (h : Kids W 0 hi A l) : (kptrA A l.length).length = l.length := by
  by_cases h0 : 0 < l.length
  · obtain ⟨b, off, _, _, _, _, rfl, _⟩ := h.at h0
    exact kptr_len _ _ _
  · have : l.length = 0 := by omega
    rw [this, kptrA_zero]; rfl
theorem kptrA_stk {W : World} {hi : Nat} {A : Option Addr} {l : List Bx} (h : Kids W 0 hi A l) : Stk W hi (kptrA A l.length) l := by
  by_cases h0 : 0 < l.length
  · obtain ⟨b, off, _, _, _, _, rfl, _⟩ := h.at h0
    have := kptr_stk h l.length (Nat.le_refl _)
    rw [List.take_length] at this
    exact this
  · have h1 : l = [] := List.eq_nil_of_length_eq_zero (by omega)
    subst h1
    rw [show (([] : List Bx).length) = 0 from rfl, kptrA_zero]
    exact trivial
theorem pop_take (vs' : List Value) (v : Value) : (vs' ++ [v]).take ((vs' ++ [v]).length - 1) = vs' := by simp
theorem cntL_one (t : Bx) : cntL [t] = cntB t := by rw [cntL_cons, cntL_nil]; rfl
end Go.Proofs.Ytlgnghehgcoccaa
