/-
  The reference's table: parts of a row, appended to (the laws of Delete's and Sorted's rows).
-/
import Derived.Test.YtefjcjmdmnfbhaaRtG
namespace Go.Proofs.Ytefjcjmdmnfbhaa
open Go.RowKit

/-- append of whatever, nothing too, onto a row of the call's own, as one step of a region that draws its order. -/
theorem step_appG {P : Program} {ops : Array Oper} {o : Oper} {a : Act} {w : World} {K : Act → World → Prop} {Q : Exit → Act → World → Prop} {E : Prop} (hgd : o.guard = none) (s x : Operand) (t : TypeId)
    (ho : o.op = .call { callee := .builtin .append, args := #[s, x], argTypes := #[t, t] })
    (e : TypeId) (z : Array Value) (size bytes : Nat) (ht : P.underlying t = some (.slice e))
    (hz : (P.info? e).map (fun i => (i.zero.map Value.cells, i.size, i.bytes)) = some (some z, size, bytes)) (hzs : z.size = size) (hsz : 0 < size)
    (base : Nat) (b : Option Addr) (n cap : Nat) (xs : List Value) (hs : a.eval s = .slice b n cap) (hown : w.ownsRow base e size (.slice b n cap) n xs)
    (A : Option Addr) (m c : Nat) (news : List Value) (hx : a.eval x = .slice A m c) (hl : news.length = m * size)
    (hA : 0 < m → ∃ ad, A = some ad ∧ ∀ j u, news[j]? = some u → w.cell? (ad.add j) = some u) (h1 : ∀ u ∈ news, u.oneCell' = true)
    (h63 : n + m ≤ 9223372036854775807) (hbytes : (n + m) * bytes ≤ 140737488355328) (hbase : base ≤ w.heap.size)
    (h : ∀ v' w', Hid (w'.ownsRow base e size v' (n + m) (xs ++ news)) → Hid (Fr (fun k => (Value.slice b n cap).ownBlock = some k) w w') → Hid (v'.ownBlock = (Value.slice b n cap).ownBlock ∨ v'.ownBlock = some w.heap.size) → K (a.put o.dst v') w') :
    if Region.wanted o (yielded ops a.tmps) = true then Oper.wp P o a w K Q else E := by
  cases m with
  | zero =>
    have hn : news = [] := List.eq_nil_of_length_eq_zero (by rw [hl, Nat.zero_mul])
    subst hn
    have hle : n ≤ cap := by
      rcases hown.2 with ⟨h, hn⟩ | ⟨g, cap', cur, h, _, _, h4, _⟩
      · injection h with _ h2 h3
        omega
      · injection h with _ h2 h3
        omega
    refine step_app_none hgd s x t ho e z size bytes ht hz b n cap hle hs A c hx ?_
    refine h _ _ (Lib.hid ?_) (Lib.hid (Fr.refl _ _)) (Lib.hid (.inl rfl))
    rw [Nat.add_zero, List.append_nil]
    exact hown
  | succ m =>
    obtain ⟨ad, rfl, hc⟩ := hA (Nat.succ_pos m)
    exact step_app hgd s x t ho e z size bytes ht hz hzs hsz base _ n xs hs hown ad (m + 1) c news hx hl hc h1 h63 hbytes hbase h

section
variable {w : World}
theorem slice_fromS (g n cap i : Nat) (h : i ≤ n) : ∃ A', (∀ w, (Instr.slice 29 (.slice (some ⟨g, 0, none⟩) n cap) (some (.int .i64 (i : Int))) none none).run Try.prog w = .ok (.slice A' (n - i) (cap - i)) w) ∧ (i < cap → A' = some ⟨g, i, none⟩) := by
  refine ⟨if cap = i then some ⟨g, 0, none⟩ else some ⟨g, i, none⟩, fun w => ?_, fun hc => if_neg (by omega)⟩
  have ht' : Try.prog.underlying 29 = some (.slice (Try.prog.elem 29)) := by simp [Program.elem, Try.underlying29]
  have he : Try.prog.elem 29 = 9 := by simp [Program.elem, Try.underlying29]
  rw [run_slice_l w 29 _ _ _ ht' .i64 _ (by omega) (by omega), he, Try.sizeOf9]
  by_cases h0 : i = 0
  · subst h0
    simp [Result.andThen, sliced, Addr.add]
  · simp [Result.andThen, sliced, Addr.add, h0]
theorem slice_toS (A : Option Addr) (n cap i : Nat) (h : i ≤ cap) (w : World) : (Instr.slice 29 (.slice A n cap) none (some (.int .i64 (i : Int))) none).run Try.prog w = .ok (.slice A i cap) w := by
  have ht' : Try.prog.underlying 29 = some (.slice (Try.prog.elem 29)) := by simp [Program.elem, Try.underlying29]
  have he : Try.prog.elem 29 = 9 := by simp [Program.elem, Try.underlying29]
  rw [run_slice_h w 29 _ _ _ ht' .i64 _ (by omega) (by omega), he, Try.sizeOf9]
  cases A <;> simp [Result.andThen, sliced, Addr.add]
theorem slice_fromI (g n cap i : Nat) (h : i ≤ n) : ∃ A', (∀ w, (Instr.slice 41 (.slice (some ⟨g, 0, none⟩) n cap) (some (.int .i64 (i : Int))) none none).run Try.prog w = .ok (.slice A' (n - i) (cap - i)) w) ∧ (i < cap → A' = some ⟨g, i, none⟩) := by
  refine ⟨if cap = i then some ⟨g, 0, none⟩ else some ⟨g, i, none⟩, fun w => ?_, fun hc => if_neg (by omega)⟩
  have ht' : Try.prog.underlying 41 = some (.slice (Try.prog.elem 41)) := by simp [Program.elem, Try.underlying41]
  have he : Try.prog.elem 41 = 3 := by simp [Program.elem, Try.underlying41]
  rw [run_slice_l w 41 _ _ _ ht' .i64 _ (by omega) (by omega), he, Try.sizeOf3]
  by_cases h0 : i = 0
  · subst h0
    simp [Result.andThen, sliced, Addr.add]
  · simp [Result.andThen, sliced, Addr.add, h0]
theorem slice_toI (A : Option Addr) (n cap i : Nat) (h : i ≤ cap) (w : World) : (Instr.slice 41 (.slice A n cap) none (some (.int .i64 (i : Int))) none).run Try.prog w = .ok (.slice A i cap) w := by
  have ht' : Try.prog.underlying 41 = some (.slice (Try.prog.elem 41)) := by simp [Program.elem, Try.underlying41]
  have he : Try.prog.elem 41 = 3 := by simp [Program.elem, Try.underlying41]
  rw [run_slice_h w 41 _ _ _ ht' .i64 _ (by omega) (by omega), he, Try.sizeOf3]
  cases A <;> simp [Result.andThen, sliced, Addr.add]
end
end Go.Proofs.Ytefjcjmdmnfbhaa
