/-
  Rows of bytes: what is read of a []byte; made, copied, sliced, turned into a text.
-/
import Derived.Test.YtpbbokpmlemboaaMapOps
import Derived.Laws.BytesArg
import Derived.Laws.IdiomStrings
import Derived.Laws.CopyOwn
namespace Go.Proofs.Ytpbbokpmlemboaa
open Go.RowKit

def bytesV (l : List UInt8) : List Value := l.map fun b => .int .u8 (b.toNat : Int)
theorem bytesV_len (l : List UInt8) : (bytesV l).length = l.length := by unfold bytesV; simp
theorem bytesV_one (l : List UInt8) : ∀ u ∈ bytesV l, u.oneCell' = true := by
  intro u hu
  obtain ⟨b, _, rfl⟩ := List.mem_map.1 hu
  rfl
theorem bytesV_append (l m : List UInt8) : bytesV (l ++ m) = bytesV l ++ bytesV m := by unfold bytesV; simp
theorem bytesV_take (l : List UInt8) (n : Nat) : (bytesV l).take n = bytesV (l.take n) := by unfold bytesV; simp
theorem bytesV_drop (l : List UInt8) (n : Nat) : (bytesV l).drop n = bytesV (l.drop n) := by unfold bytesV; simp
theorem bytesV_at {l : List UInt8} {j : Nat} (h : j < l.length) : (bytesV l)[j]? = some (.int .u8 ((l.getD j 0).toNat : Int)) := by
  unfold bytesV
  rw [List.getElem?_map, List.getD_eq_getElem?_getD, List.getElem?_eq_getElem h]
  rfl
theorem bytesV_some {l : List UInt8} {j : Nat} {u : Value} (h : (bytesV l)[j]? = some u) : j < l.length ∧ u = .int .u8 ((l.getD j 0).toNat : Int) := by
  have hj : j < l.length := by rw [← bytesV_len]; exact (List.getElem?_eq_some_iff.1 h).1
  rw [bytesV_at hj] at h
  exact ⟨hj, (Option.some.inj h).symm⟩
theorem bytesV_cell {w : World} {g : Nat} {l : List UInt8} {t : TypeId} {fr : Nat × Nat} (h : w.heap[g]? = some (.cells (bytesV l).toArray t fr)) {j : Nat} (hj : j < l.length) : w.cell? ⟨g, j, none⟩ = some (.int .u8 ((l.getD j 0).toNat : Int)) := by
  rw [cell_of_row w g j _ _ _ h]
  simpa using bytesV_at hj

theorem made_bytes (n : Nat) : madeCells #[.int .u8 0] n = (bytesV (List.replicate n 0)).toArray := by
  unfold madeCells bytesV
  apply Array.ext
  · simp
  · intro i h1 h2
    simp [Nat.mod_one]

/-- What is read of a []byte: these bytes. -/
def RdB (w : World) (v : Value) (bs : List UInt8) : Prop :=
  ∃ a cap, v = .slice a bs.length cap ∧ (0 < bs.length → ∃ g o, a = some ⟨g, o, none⟩ ∧ ∀ j, j < bs.length → w.cell? ⟨g, o + j, none⟩ = some (.int .u8 ((bs.getD j 0).toNat : Int)))

theorem RdB.keep {w w' : World} {v : Value} {bs : List UInt8} {T : Nat → Prop} (h : RdB w v bs) (f : Fr T w w') (hn : ∀ k, v.ownBlock = some k → ¬ T k) : RdB w' v bs := by
  obtain ⟨a, cap, rfl, h⟩ := h
  refine ⟨a, cap, rfl, fun h0 => ?_⟩
  obtain ⟨g, o, rfl, hc⟩ := h h0
  exact ⟨g, o, rfl, fun j hj => f.cell (hc j hj) (hn g rfl)⟩
theorem RdB.nob {w w' : World} {v : Value} {bs : List UInt8} (h : RdB w v bs) (f : Fr Nob w w') : RdB w' v bs := h.keep f fun _ _ h => h
theorem RdB.nil (w : World) (c : Nat) : RdB w (.slice none 0 c) [] := ⟨none, c, rfl, fun h => by simp at h⟩
theorem RdB.of_block {w : World} {g cap : Nat} {l : List UInt8} {t : TypeId} {fr : Nat × Nat} (h : w.heap[g]? = some (.cells (bytesV l).toArray t fr)) : RdB w (.slice (some ⟨g, 0, none⟩) l.length cap) l :=
  ⟨_, cap, rfl, fun _ => ⟨g, 0, rfl, fun j hj => by rw [Nat.zero_add]; exact bytesV_cell h hj⟩⟩
theorem RdB.of_row {w : World} {base : Nat} {v : Value} {t : TypeId} {l : List UInt8} (h : w.ownsRow base t 1 v l.length (bytesV l)) : RdB w v l := by
  rcases h.2 with ⟨rfl, h0⟩ | ⟨g, cap, cur, rfl, _, h1, h2, h3, h4, h5⟩
  · have : l = [] := List.length_eq_zero_iff.1 h0
    subst this
    exact RdB.nil w 0
  · refine ⟨_, cap, rfl, fun _ => ⟨g, 0, rfl, fun j hj => ?_⟩⟩
    have hc : cur[j]? = (bytesV l)[j]? := by
      rw [← h5, List.getElem?_take, if_pos (by omega)]
      simp
    rw [Nat.zero_add, cell_of_row w g j _ _ (0, 0) h1, hc, bytesV_at hj]
theorem RdB.news {w : World} {a : Option Addr} {cap : Nat} {bs : List UInt8} (h : RdB w (.slice a bs.length cap) bs) (h0 : 0 < bs.length) : ∃ ad, a = some ad ∧ ∀ j u, (bytesV bs)[j]? = some u → w.cell? (ad.add j) = some u := by
  obtain ⟨a', cap', he, h⟩ := h
  simp only [Value.slice.injEq] at he
  obtain ⟨rfl, _, _⟩ := he
  obtain ⟨g, o, rfl, hc⟩ := h h0
  refine ⟨_, rfl, fun j u hu => ?_⟩
  obtain ⟨hj, rfl⟩ := bytesV_some hu
  have hadd : (⟨g, o, none⟩ : Addr).add j = ⟨g, o + j, none⟩ := by unfold Addr.add; split <;> simp_all
  rw [hadd]
  exact hc j hj
/-- A part of it. -/
theorem RdB.part {w : World} {g o cap : Nat} {bs : List UInt8} (h : ∀ j, j < bs.length → w.cell? ⟨g, o + j, none⟩ = some (.int .u8 ((bs.getD j 0).toNat : Int))) {l n : Nat} (hn : l + n ≤ bs.length) :
    RdB w (.slice (some ⟨g, o + l, none⟩) n cap) ((bs.drop l).take n) := by
  have hl : ((bs.drop l).take n).length = n := by simp; omega
  refine ⟨_, cap, by rw [hl], fun _ => ⟨g, o + l, rfl, fun j hj => ?_⟩⟩
  rw [hl] at hj
  rw [Nat.add_assoc, h (l + j) (by omega)]
  congr 4
  rw [List.getD_eq_getElem?_getD, List.getD_eq_getElem?_getD, List.getElem?_take, if_pos hj, List.getElem?_drop]

theorem fr_setRow {w : World} (g : Nat) (cs : Array Value) : Fr (One g) w (w.setRow g cs) :=
  ⟨rfl, rfl, rfl, by simp [World.setRow], fun k _ hn => setRow_other w g k cs (fun e => hn e)⟩

def spliced (cur : List UInt8) (off : Nat) (bs : List UInt8) : List UInt8 := cur.take off ++ (bs ++ cur.drop (off + bs.length))
theorem spliced_len {cur : List UInt8} {off : Nat} {bs : List UInt8} (h : off + bs.length ≤ cur.length) : (spliced cur off bs).length = cur.length := by unfold spliced; simp; omega

/-- 'copy' of bytes into a row that is known whole. -/
theorem wpList_copyB {P : Program} {w : World} {ops : Array Oper} {rest : List Oper} {o : Oper} {a : Act} {Q : Exit → Act → World → Prop} (hgd : o.guard = none) (d s : Operand) (dT sT : TypeId)
    (ho : o.op = .call { callee := .builtin .copy, args := #[d, s], argTypes := #[dT, sT] }) (elem : TypeId) (hu : P.underlying dT = some (.slice elem)) (hsz : (P.info? elem).map (·.size) = some 1)
    (g off dLen dCap : Nat) (hd : a.eval d = .slice (some ⟨g, off, none⟩) dLen dCap) (bs : List UInt8) (sv : Value) (hs : a.eval s = sv) (hr : RdB w sv bs) (hle : bs.length ≤ dLen)
    (cur : List UInt8) (t : TypeId) (hg : w.heap[g]? = some (.cells (bytesV cur).toArray t (0, 0))) (hfit : off + bs.length ≤ cur.length)
    (h : ∀ w', Hid (w'.heap[g]? = some (.cells (bytesV (spliced cur off bs)).toArray t (0, 0))) → Hid (Fr (One g) w w') → wpList P ops Q rest (a.put o.dst (goInt bs.length)) w') : wpList P ops Q (o :: rest) a w := by
  obtain ⟨sa, sc, rfl, hc⟩ := hr
  by_cases h0 : 0 < bs.length
  · obtain ⟨ad, rfl, hnews⟩ := RdB.news ⟨sa, sc, rfl, hc⟩ h0
    refine wpList_copy_own hgd d s dT sT ho elem hu hsz g off dLen dCap ad bs.length sc hd hs (bytesV cur).toArray t hg (bytesV bs) (by rw [bytesV_len]; exact (Nat.min_eq_left hle).symm) hnews (by simp [bytesV_len]; omega) (bytesV_one bs) ?_
    rw [bytesV_len]
    refine h _ ?_ (fr_setRow g _)
    show _ = _
    rw [setRow_heap w g _ _ t _ hg, List.toList_toArray, bytesV_take, bytesV_drop, ← bytesV_append, ← bytesV_append]
    rfl
  · have : bs = [] := List.length_eq_zero_iff.1 (by omega)
    subst this
    refine wpList_copy_nothing hgd d s dT sT ho elem hu hsz _ sa dLen dCap 0 sc hd hs (by simp) ?_
    refine h _ ?_ (Fr.refl _ _)
    show _ = _
    rw [hg]
    unfold spliced
    simp

/-- 'string(b)'. -/
theorem RdB.text {P : Program} {w : World} {v : Value} {bs : List UInt8} (h : RdB w v bs) (src e dst : TypeId) (hs : P.underlying src = some (.slice e)) (he : P.underlying e = some (.int .u8)) (hd : P.underlying dst = some .string) :
    (convert src dst v).run P w = .ok (.string ⟨bs.toArray⟩) w := by
  obtain ⟨a, cap, rfl, hc⟩ := h
  by_cases h0 : 0 < bs.length
  · obtain ⟨g, o, rfl, hc2⟩ := hc h0
    exact run_convert_bytes_back w src dst e ⟨g, o, none⟩ cap bs hs he hd (fun j hj => by
      have hadd : (⟨g, o, none⟩ : Addr).add j = ⟨g, o + j, none⟩ := by unfold Addr.add; split <;> simp_all
      rw [hadd, hc2 j hj, List.getD_eq_getElem?_getD, List.getElem?_eq_getElem hj]
      rfl)
  · have : bs = [] := List.length_eq_zero_iff.1 (by omega)
    subst this
    cases a with
    | none =>
      rw [run_convert_bytes_nil w src e hs he _ _ dst hd]
      rfl
    | some ad =>
      have := run_convert_bytes_back (P := P) w src dst e ad cap [] hs he hd (fun j hj => by simp at hj)
      exact this

end Go.Proofs.Ytpbbokpmlemboaa
