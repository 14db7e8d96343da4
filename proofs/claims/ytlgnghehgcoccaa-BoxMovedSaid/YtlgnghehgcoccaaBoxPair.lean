/- Stacks of pairs of pointers to boxes. -/
import Derived.Test.YtlgnghehgcoccaaBoxStack
import Derived.Test.YtlgnghehgcoccaaBoxMake
import Derived.Test.YtlgnghehgcoccaaLeast
namespace Go.Proofs.Ytlgnghehgcoccaa
open Go.RowKit
def PStk (W : World) (hi : Nat) : List Value → List (Bx × Bx) → Prop
  | [], [] => True
  | p :: q :: vs, t :: ts => Ent W hi p t.1 ∧ Ent W hi q t.2 ∧ PStk W hi vs ts
  | _, _ => False
theorem PStk.len {W : World} {hi : Nat} : ∀ {vs : List Value} {ts : List (Bx × Bx)}, PStk W hi vs ts → vs.length = ts.length * 2
  | [], [], _ => rfl
  | p :: q :: vs, t :: ts, h => by have := PStk.len h.2.2; simp [this]; omega
  | [], _ :: _, h => h.elim
  | [_], _ :: _, h => h.elim
  | [_], [], h => h.elim
  | _ :: _ :: _, [], h => h.elim
theorem PStk.append {W : World} {hi : Nat} : ∀ {vs : List Value} {ts : List (Bx × Bx)} {vs' : List Value} {ts' : List (Bx × Bx)}, PStk W hi vs ts → PStk W hi vs' ts' → PStk W hi (vs ++ vs') (ts ++ ts')
  | [], [], _, _, _, h => h
  | _p :: _q :: _vs, _t :: _ts, _, _, h, h' => ⟨h.1, h.2.1, PStk.append h.2.2 h'⟩
  | [], _ :: _, _, _, h, _ => h.elim
  | [_], _ :: _, _, _, h, _ => h.elim
  | [_], [], _, _, h, _ => h.elim
  | _ :: _ :: _, [], _, _, h, _ => h.elim
theorem PStk.one {W : World} {hi : Nat} {p q : Value} {t u : Bx} (h : Ent W hi p t) (h' : Ent W hi q u) : PStk W hi [p, q] [(t, u)] := ⟨h, h', trivial⟩
theorem PStk.last {W : World} {hi : Nat} : ∀ {vs : List Value} {ts : List (Bx × Bx)}, PStk W hi vs ts → 0 < ts.length → ∃ vs' p q ts' t u, vs = vs' ++ [p, q] ∧ ts = ts' ++ [(t, u)] ∧ PStk W hi vs' ts' ∧ Ent W hi p t ∧ Ent W hi q u
  | [], [], _, h0 => absurd h0 (by simp)
  | [p, q], [t], h, _ => ⟨[], p, q, [], t.1, t.2, rfl, rfl, trivial, h.1, h.2.1⟩
  | p :: q :: p2 :: q2 :: vs, t :: t2 :: ts, h, _ => by
    obtain ⟨vs', x, y, ts', a, b, e1, e2, h1, h2, h3⟩ := PStk.last h.2.2 (by simp)
    exact ⟨p :: q :: vs', x, y, t :: ts', a, b, by rw [e1]; rfl, by rw [e2]; rfl, ⟨h.1, h.2.1, h1⟩, h2, h3⟩
  | [], _ :: _, h, _ => h.elim
  | [_], _ :: _, h, _ => h.elim
  | [_], [], h, _ => h.elim
  | _ :: _ :: _, [], h, _ => h.elim
  | [_, _], _ :: _ :: _, h, _ => h.2.2.elim
  | [_, _, _], [_], h, _ => h.2.2.elim
  | [_, _, _], _ :: _ :: _, h, _ => h.2.2.elim
  | _ :: _ :: _ :: _ :: _, [_], h, _ => h.2.2.elim
/-- The pairs of the first n kids. -/
def PZ (l1 l2 : List Bx) : Nat → List (Bx × Bx)
  | 0 => []
  | n + 1 => PZ l1 l2 n ++ [(kidAt l1 n, kidAt l2 n)]
theorem PZ_len (l1 l2 : List Bx) : ∀ n, (PZ l1 l2 n).length = n
  | 0 => rfl
  | n + 1 => by simp [PZ, PZ_len l1 l2 n]
def cntP : List (Bx × Bx) → Nat
  | [] => 0
  | t :: ts => cntB t.1 + cntP ts
theorem cntP_append : ∀ a b : List (Bx × Bx), cntP (a ++ b) = cntP a + cntP b
  | [], b => by simp [cntP]
  | t :: ts, b => by simp [cntP, cntP_append ts b]; omega
theorem cntP_len : ∀ a : List (Bx × Bx), a.length ≤ cntP a
  | [] => by simp [cntP]
  | t :: ts => by have := cntP_len ts; have := cntB_pos t.1; simp [cntP]; omega
theorem cntP_one (t u : Bx) : cntP [(t, u)] = cntB t := by simp [cntP]
theorem cntP_PZ (l1 l2 : List Bx) : ∀ n, n ≤ l1.length → cntP (PZ l1 l2 n) = cntL (l1.take n)
  | 0, _ => by simp [PZ, cntP, cntL_nil]
  | n + 1, h => by rw [PZ, cntP_append, cntP_PZ l1 l2 n (by omega), cnt_take l1 (by omega), cntP_one]
theorem PZ_all (l1 l2 : List Bx) : ∀ n, (∀ p ∈ PZ l1 l2 n, p.1 = p.2) ↔ ∀ k, k < n → kidAt l1 k = kidAt l2 k
  | 0 => by simp [PZ]
  | n + 1 => by
    constructor
    · intro h k hk
      rcases Nat.lt_succ_iff_lt_or_eq.1 hk with h1 | rfl
      · exact (PZ_all l1 l2 n).1 (fun p hp => h p (List.mem_append_left _ hp)) k h1
      · exact h (kidAt l1 k, kidAt l2 k) (List.mem_append_right _ (by simp))
    · intro h p hp
      rcases List.mem_append.1 hp with h1 | h1
      · exact (PZ_all l1 l2 n).2 (fun k hk => h k (by omega)) p h1
      · simp at h1
        subst h1
        exact h n (by omega)
/-- The pointers to the first n kids of both. -/
def pp (b1 o1 b2 o2 : Nat) : Nat → List Value
  | 0 => []
  | n + 1 => pp b1 o1 b2 o2 n ++ [.pointer (some ⟨b1, o1 + n * 11, none⟩), .pointer (some ⟨b2, o2 + n * 11, none⟩)]
theorem pp_stk {W : World} {hi : Nat} {b1 o1 b2 o2 : Nat} {l1 l2 : List Bx} (h1 : Kids W 0 hi (some ⟨b1, o1, none⟩) l1) (h2 : Kids W 0 hi (some ⟨b2, o2, none⟩) l2) : ∀ n, n ≤ l1.length → n ≤ l2.length → PStk W hi (pp b1 o1 b2 o2 n) (PZ l1 l2 n)
  | 0, _, _ => trivial
  | n + 1, hn, hm => by
    refine (pp_stk h1 h2 n (by omega) (by omega)).append (PStk.one ?_ ?_)
    · obtain ⟨b', off', A1, c1, A2, c2, e, _, hb, hat, hk, hi', hl⟩ := h1.at (show n < l1.length by omega)
      injection e with e1
      injection e1 with e2 e3
      subst e2 e3
      exact ⟨_, _, A1, c1, A2, c2, rfl, hb, hat, hk, hi', hl⟩
    · obtain ⟨b', off', A1, c1, A2, c2, e, _, hb, hat, hk, hi', hl⟩ := h2.at (show n < l2.length by omega)
      injection e with e1
      injection e1 with e2 e3
      subst e2 e3
      exact ⟨_, _, A1, c1, A2, c2, rfl, hb, hat, hk, hi', hl⟩
def ppA : Option Addr → Option Addr → Nat → List Value
  | some a, some b, n => pp a.block a.off b.block b.off n
  | _, _, _ => []
theorem ppA_zero (A B : Option Addr) : ppA A B 0 = [] := by cases A <;> cases B <;> rfl
theorem ppA_stk {W : World} {hi : Nat} {A B : Option Addr} {l1 l2 : List Bx} (h1 : Kids W 0 hi A l1) (h2 : Kids W 0 hi B l2) (hl : l1.length = l2.length) : PStk W hi (ppA A B l1.length) (PZ l1 l2 l1.length) := by
  by_cases h0 : 0 < l1.length
  · obtain ⟨b1, o1, _, _, _, _, rfl, _⟩ := h1.at h0
    obtain ⟨b2, o2, _, _, _, _, rfl, _⟩ := h2.at (i := 0) (by omega)
    exact pp_stk h1 h2 l1.length (Nat.le_refl _) (by omega)
  · have : l1.length = 0 := by omega
    rw [this, ppA_zero]
    exact trivial
theorem three_blocks (w : World) (cs ds es : Array Value) (t u v : TypeId) : (((w.alloc (.cells cs t)).alloc (.cells ds u)).alloc (.cells es v)).heap[w.heap.size]? = some (.cells cs t (0, 0)) ∧ (((w.alloc (.cells cs t)).alloc (.cells ds u)).alloc (.cells es v)).heap[w.heap.size + 1]? = some (.cells ds u (0, 0)) ∧
    (((w.alloc (.cells cs t)).alloc (.cells ds u)).alloc (.cells es v)).heap[w.heap.size + 2]? = some (.cells es v (0, 0)) ∧ (((w.alloc (.cells cs t)).alloc (.cells ds u)).alloc (.cells es v)).heap.size = w.heap.size + 3 ∧ Below w.heap.size w (((w.alloc (.cells cs t)).alloc (.cells ds u)).alloc (.cells es v)) := by
  obtain ⟨h1, h2, h3, h4⟩ := two_boxes w cs ds t u
  have := blk_new ((w.alloc (.cells cs t)).alloc (.cells ds u)) (.cells es v)
  rw [h3] at this
  exact ⟨blk_more h1 _, blk_more h2 _, this, by simp, h4.alloc (by omega) _⟩
/-- The append of one element, as one operation. -/
theorem oper_append_el {P : Program} {w : World} {o : Oper} {a : Act} {K : Act → World → Prop} {Q : Exit → Act → World → Prop} (s x : Operand) (t e : TypeId)
    (ho : o.op = .call { callee := .builtin .append, args := #[s, x], argTypes := #[t, t] }) (i : TypeInfo) (z : Value) (size bytes : Nat) (ht : P.underlying t = some (.slice e)) (hi : P.info? e = some i) (hz : i.zero = some z) (hsize : i.size = size) (hby : i.bytes = bytes) (hzs : z.cells.size = size) (hsz : 0 < size)
    {base c n : Nat} {A : Option Addr} {xs : List Value} (hs : a.eval s = .slice A n c) (hown : w.ownsRow base e size (.slice A n c) n xs) {g c1 : Nat} {news : Array Value} (hx : a.eval x = .slice (some ⟨g, 0, none⟩) 1 c1) (hg : w.heap[g]? = some (.cells news e (0, 0))) (hl : news.size = size) (h1 : ∀ u ∈ news.toList, u.oneCell' = true) (hn : n + 1 ≤ maxLen) (hb : (n + 1) * bytes ≤ 140737488355328) (hbase : base ≤ w.heap.size)
    (h : ∀ A' c' w', w'.ownsRow base e size (.slice A' (n + 1) c') (n + 1) (xs ++ news.toList) → Below base w w' → K (a.put o.dst (.slice A' (n + 1) c')) w') : o.wp P a w K Q := by
  obtain ⟨A', c', w', hrun, h2, h3⟩ := run_append_el (P := P) t o.type e i z size bytes ht hi hz hsize hby hzs hsz hown hg hl h1 hn hb hbase (c1 := c1)
  unfold Oper.wp execOp
  simp only [ho, resolve, invoke, builtin, Sem.run_bind, Sem.run_pure, Result.andThen_ok, List.map_toArray, List.map_cons, List.map_nil, hs, hx, hrun]
  exact h A' c' w' h2 h3
/-- The append of one element, as one step of a region that draws its order. -/
theorem step_append_el {P : Program} {ops : Array Oper} {w : World} {o : Oper} {a : Act} {K : Act → World → Prop} {Q : Exit → Act → World → Prop} {E : Prop} (hg : o.guard = none) (s x : Operand) (t e : TypeId)
    (ho : o.op = .call { callee := .builtin .append, args := #[s, x], argTypes := #[t, t] }) (i : TypeInfo) (z : Value) (size bytes : Nat) (ht : P.underlying t = some (.slice e)) (hi : P.info? e = some i) (hz : i.zero = some z) (hsize : i.size = size) (hby : i.bytes = bytes) (hzs : z.cells.size = size) (hsz : 0 < size)
    {base c n : Nat} {A : Option Addr} {xs : List Value} (hs : a.eval s = .slice A n c) (hown : w.ownsRow base e size (.slice A n c) n xs) {g c1 : Nat} {news : Array Value} (hx : a.eval x = .slice (some ⟨g, 0, none⟩) 1 c1) (hh : w.heap[g]? = some (.cells news e (0, 0))) (hl : news.size = size) (h1 : ∀ u ∈ news.toList, u.oneCell' = true) (hn : n + 1 ≤ maxLen) (hb : (n + 1) * bytes ≤ 140737488355328) (hbase : base ≤ w.heap.size)
    (h : ∀ A' c' w', w'.ownsRow base e size (.slice A' (n + 1) c') (n + 1) (xs ++ news.toList) → Below base w w' → K (a.put o.dst (.slice A' (n + 1) c')) w') :
    if Region.wanted o (yielded ops a.tmps) = true then Oper.wp P o a w K Q else E := by
  have hw : Region.wanted o (yielded ops a.tmps) = true := by simp [Region.wanted, hg]
  rw [if_pos hw]
  exact oper_append_el s x t e ho i z size bytes ht hi hz hsize hby hzs hsz hs hown hx hh hl h1 hn hb hbase h
end Go.Proofs.Ytlgnghehgcoccaa
