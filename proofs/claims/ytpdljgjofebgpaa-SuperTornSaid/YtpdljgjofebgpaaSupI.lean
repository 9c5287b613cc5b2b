/-
  super: a Store that the power cuts off, plain.
-/
import Derived.Test.YtpdljgjofebgpaaSupG
namespace Go.Proofs.Ytpdljgjofebgpaa
open Go.RowKit

theorem settled_two (p0 p1 : Pg) (picks : List UInt8) : settled [(p0, none), (p1, none)] picks = [(p0, none), (p1, none)] := by
  simp [settled, pick]
theorem pick_cases (f : Nat) (p x : Pg) : pick f (p, some x) = p ∨ pick f (p, some x) = x ∨ pick f (p, some x) = .torn := by
  unfold pick
  simp only
  split
  · exact .inl rfl
  · split
    · exact .inr (.inl rfl)
    · exact .inr (.inr rfl)
theorem settled_0 (p0 p1 x : Pg) (picks : List UInt8) : ∃ y, settled [(p0, some x), (p1, none)] picks = [(y, none), (p1, none)] ∧ (y = p0 ∨ y = x ∨ y = .torn) :=
  ⟨pick (fate picks (rank [(p0, some x), (p1, none)] 0)) (p0, some x), by simp [settled, pick], pick_cases _ _ _⟩
theorem settled_1 (p0 p1 x : Pg) (picks : List UInt8) : ∃ y, settled [(p0, none), (p1, some x)] picks = [(p0, none), (y, none)] ∧ (y = p1 ∨ y = x ∨ y = .torn) :=
  ⟨pick (fate picks (rank [(p0, none), (p1, some x)] 1)) (p1, some x), by simp [settled, pick], pick_cases _ _ _⟩

/-- Two pages, none waits: what was stored last, if anything was, stands where it must. -/
structure Flat (D : Dv) (p0 p1 : Pg) : Prop where
  pg : D.pg = [(p0, none), (p1, none)]
  last : loadD D = none ∨ loadD D = pgDec (if seqOf D % 2 = 0 then p0 else p1)

theorem load_pg {D : Dv} {p0 p1 : Pg} (h : D.pg = [(p0, none), (p1, none)]) : loadD D = newer (pgDec p0) (pgDec p1) := by
  rw [load_two]
  unfold Dv.now
  rw [h]
  rfl
theorem pgDec_torn : pgDec .torn = none := dec_short (by simp [pgB])
theorem newer_none_left {a b : Option Blk} (h : newer a b = none) : a = none ∧ b = none := by
  cases a with
  | none => cases b with
    | none => exact ⟨rfl, rfl⟩
    | some x => cases h
  | some c => cases b with
    | none => cases h
    | some x =>
      have h : (if c.seq < x.seq then some x else some c) = none := h
      split at h <;> cases h

theorem newer_nil (o : Option Blk) : newer o none = o := by cases o <;> rfl

/-- The page that a Store writes, torn: what is loaded is what was. -/
theorem Flat.torn {D : Dv} {p0 p1 : Pg} (h : Flat D p0 p1) : (if (seqOf D + 1) % 2 = 0 then newer (pgDec .torn) (pgDec p1) else newer (pgDec p0) (pgDec .torn)) = loadD D := by
  rw [pgDec_torn]
  rcases h.last with e | e
  · rw [e]
    rw [load_pg h.pg] at e
    obtain ⟨e0, e1⟩ := newer_none_left e
    rw [e0, e1]
    split <;> rfl
  · rw [e]
    rcases (by omega : seqOf D % 2 = 0 ∨ seqOf D % 2 = 1) with k | k
    · rw [if_neg (by omega), if_pos k, newer_nil]
    · rw [if_pos (by omega), if_neg (by omega), newer_none]

theorem seqOf_pg {D E : Dv} (h : D.pg = E.pg) : seqOf D = seqOf E ∧ loadD D = loadD E := by
  have : loadD D = loadD E := by
    rw [load_two, load_two]
    unfold Dv.now
    rw [h]
  exact ⟨by unfold seqOf; rw [this], this⟩

/-- The three that a Store, cut off anywhere, and a crash behind it leave. -/
theorem Flat.cut {D : Dv} {p0 p1 : Pg} (h : Flat D p0 p1) (a : Int) {b : Blk} (hb : b.ok) (hs : seqOf D + 1 < 18446744073709551616) (picks : List UInt8) (bw bf : Bool)
    (hbw : (reads (D.armed a) 2).spend.off = bw) (hbf : (stW (D.armed a) b).spend.off = bf) :
    (((stD (D.armed a) b bw).crash picks).on.pg.length = 2) ∧ (((stD (D.armed a) b bw).crash picks).on.off = false) ∧
      (stE bw bf = 0 → loadD (((stD (D.armed a) b bw).crash picks).on) = some (bumped D b).norm) ∧
      (loadD (((stD (D.armed a) b bw).crash picks).on) = loadD D ∨ loadD (((stD (D.armed a) b bw).crash picks).on) = some (bumped D b).norm) := by
  obtain ⟨hsq, hld⟩ := seqOf_pg (D := D.armed a) (E := D) rfl
  have hbu : bumped (D.armed a) b = bumped D b := by unfold bumped; rw [hsq]
  have hnb : pgDec (.whole (pad (enc (bumped D b)))) = some (bumped D b).norm := pgDec_enc ⟨hs, hb.2⟩
  have hle := newer_ge (pgDec p0) (pgDec p1)
  rw [← load_pg h.pg] at hle
  have h1 : (decB (loadD D)).seq = seqOf D := rfl
  have h2 : (bumped D b).norm.seq = seqOf D + 1 := rfl
  have hpA : (reads (D.armed a) 2).pg = [(p0, none), (p1, none)] := by rw [reads_pg]; exact h.pg
  have fin : ∀ (E : Dv) (q0 q1 : Pg), settled E.pg picks = [(q0, none), (q1, none)] → ((E.crash picks).on.pg.length = 2) ∧ ((E.crash picks).on.off = false) ∧ loadD ((E.crash picks).on) = newer (pgDec q0) (pgDec q1) := fun E q0 q1 e => by
    have : (E.crash picks).on.pg = [(q0, none), (q1, none)] := by
      show settled (settled E.pg picks) [] = _
      rw [e, settled_two]
    exact ⟨by rw [this]; rfl, rfl, load_pg this⟩
  cases bw with
  | true =>
    have hst : (stD (D.armed a) b true).pg = [(p0, none), (p1, none)] := by
      show ((reads (D.armed a) 2).change _ _).pg = _
      unfold Dv.change
      rw [if_pos hbw, spend_pg, hpA]
    obtain ⟨k1, k2, k3⟩ := fin _ p0 p1 (by rw [hst, settled_two])
    exact ⟨k1, k2, fun hc => absurd hc (by show ¬ ((4 : Int) = 0); decide), .inl (by rw [k3, load_pg h.pg])⟩
  | false =>
    have hw : (stW (D.armed a) b).pg = ([(p0, none), (p1, none)] : List Pc).modify ((seqOf D + 1) % 2) (fun c => (c.1, some (.whole (pad (enc (bumped D b)))))) := by
      unfold stW Dv.change
      rw [if_neg (by rw [hbw]; simp)]
      unfold Dv.put
      simp only
      rw [spend_pg, hpA, hsq, hbu]
    cases bf with
    | true =>
      have hst : (stD (D.armed a) b false).pg = (stW (D.armed a) b).pg := by
        show ((stW (D.armed a) b).flush).pg = _
        unfold Dv.flush
        rw [if_pos hbf, spend_pg]
      have ht := h.torn
      rcases (by omega : (seqOf D + 1) % 2 = 0 ∨ (seqOf D + 1) % 2 = 1) with e | e
      · rw [e] at hw
        obtain ⟨y, hy, hc⟩ := settled_0 p0 p1 (.whole (pad (enc (bumped D b)))) picks
        obtain ⟨k1, k2, k3⟩ := fin _ y p1 (by rw [hst, hw]; exact hy)
        refine ⟨k1, k2, fun hc => absurd hc (by decide), ?_⟩
        rw [k3]
        rw [if_pos e] at ht
        rcases hc with rfl | rfl | rfl
        · left; rw [load_pg h.pg]
        · right; rw [hnb]; exact newer_left (by omega)
        · left; exact ht
      · rw [e] at hw
        obtain ⟨y, hy, hc⟩ := settled_1 p0 p1 (.whole (pad (enc (bumped D b)))) picks
        obtain ⟨k1, k2, k3⟩ := fin _ p0 y (by rw [hst, hw]; exact hy)
        refine ⟨k1, k2, fun hc => absurd hc (by decide), ?_⟩
        rw [k3]
        rw [if_neg (by omega)] at ht
        rcases hc with rfl | rfl | rfl
        · left; rw [load_pg h.pg]
        · right; rw [hnb]; exact newer_right (by omega)
        · left; exact ht
    | false =>
      have hst : (stD (D.armed a) b false).pg = (stW (D.armed a) b).pg.map (fun c => (Pc.now c, none)) := by
        show ((stW (D.armed a) b).flush).pg = _
        unfold Dv.flush
        rw [if_neg (by rw [hbf]; simp)]
        unfold Dv.sunk
        simp only
        rw [spend_pg]
      have key : loadD (((stD (D.armed a) b false).crash picks).on) = some (bumped D b).norm ∧ (((stD (D.armed a) b false).crash picks).on.pg.length = 2) ∧ (((stD (D.armed a) b false).crash picks).on.off = false) := by
        rcases (by omega : (seqOf D + 1) % 2 = 0 ∨ (seqOf D + 1) % 2 = 1) with e | e
        · rw [e] at hw
          obtain ⟨k1, k2, k3⟩ := fin (stD (D.armed a) b false) (.whole (pad (enc (bumped D b)))) p1 (by rw [hst, hw]; exact settled_two _ _ picks)
          exact ⟨by rw [k3, hnb]; exact newer_left (by omega), k1, k2⟩
        · rw [e] at hw
          obtain ⟨k1, k2, k3⟩ := fin (stD (D.armed a) b false) p0 (.whole (pad (enc (bumped D b)))) (by rw [hst, hw]; exact settled_two _ _ picks)
          exact ⟨by rw [k3, hnb]; exact newer_right (by omega), k1, k2⟩
      exact ⟨key.2.1, key.2.2, fun _ => key.1, .inr key.1⟩

theorem Flat.stF {D : Dv} {p0 p1 : Pg} (h : Flat D p0 p1) (c : Calm D) {b : Blk} (hb : b.ok) (hs : seqOf D + 1 < 18446744073709551616) : ∃ q0 q1, Flat (stF D b) q0 q1 := by
  have hpA : (reads D 2).pg = [(p0, none), (p1, none)] := by rw [reads_pg]; exact h.pg
  have hw : (stW D b).pg = ([(p0, none), (p1, none)] : List Pc).modify ((seqOf D + 1) % 2) (fun c => (c.1, some (.whole (pad (enc (bumped D b)))))) := by
    unfold stW Dv.change
    rw [if_neg (by rw [c.bw]; simp)]
    unfold Dv.put
    simp only
    rw [spend_pg, hpA]
  have hst : (Go.Proofs.Ytpdljgjofebgpaa.stF D b).pg = (stW D b).pg.map (fun c => (Pc.now c, none)) := by
    show ((stW D b).flush).pg = _
    unfold Dv.flush
    rw [if_neg (by rw [c.bf b]; simp)]
    unfold Dv.sunk
    simp only
    rw [spend_pg]
  have hl := c.load_stF hb hs
  have hsq := c.seq_stF hb hs
  have hnb : pgDec (.whole (pad (enc (bumped D b)))) = some (bumped D b).norm := pgDec_enc ⟨hs, hb.2⟩
  rcases (by omega : (seqOf D + 1) % 2 = 0 ∨ (seqOf D + 1) % 2 = 1) with e | e
  · rw [e] at hw
    exact ⟨_, p1, by rw [hst, hw]; rfl, .inr (by rw [hsq, if_pos e, hl]; exact hnb.symm)⟩
  · rw [e] at hw
    exact ⟨p0, _, by rw [hst, hw]; rfl, .inr (by rw [hsq, if_neg (by omega), hl]; exact hnb.symm)⟩
theorem Flat.new : Flat (Dv.new 2) .blank .blank := ⟨rfl, .inl new_load⟩

end Go.Proofs.Ytpdljgjofebgpaa
