/-
  Packets in memory: what a packet is ('Pk'), a slice of packets that reads as a list ('SP'). No function of the program is named here.
-/
import Derived.Test.YtokeanadhihlfaaF5
namespace Go.Proofs.Ytokeanadhihlfaa
open Go.RowKit

/-- The blocks from n on, below m. -/
def Fr (n m : Nat) : Nat → Prop := fun b => n ≤ b ∧ b < m
theorem SB.of_ownF {w : World} {A : Option Addr} {c base : Nat} {l : List UInt8} {e : TypeId} {n : Nat} (h : w.ownsRow base e 1 (.slice A n c) n (l.map BV)) : SB w (Fr base w.heap.size) A c l := by
  have h0 := SB.of_own h
  refine ⟨h0.cap, h0.max, fun hn => ?_⟩
  obtain ⟨b, off, hA, hb, hc⟩ := h0.row hn
  refine ⟨b, off, hA, ⟨(h.lt b (by rw [hA]; rfl)).1, hb⟩, hc⟩

structure Pk where
  ch : Int
  first : Bool
  cmd : Int
  len : Int
  seq : Int
  data : List UInt8

/-- The cells of a packet whose data is the slice from A on. -/
def pkC (p : Pk) (A : Option Addr) (c : Nat) : List Value := [.int .u32 p.ch, .bool p.first, .int .i64 p.cmd, .int .i64 p.len, .int .i64 p.seq, .slice A p.data.length c]
def PkR (w : World) (S : Nat → Prop) (cs : List Value) (p : Pk) : Prop := ∃ A c, cs = pkC p A c ∧ SB w S A c p.data
def PksR (w : World) (S : Nat → Prop) : List (List Value) → List Pk → Prop
  | [], [] => True
  | cs :: css, p :: ps => PkR w S cs p ∧ PksR w S css ps
  | _, _ => False

section
variable {w w' : World} {S S' : Nat → Prop}
theorem PkR.keep {cs : List Value} {p : Pk} (h : PkR w S cs p) (hk : ∀ b o, S b → w'.cell? ⟨b, o, none⟩ = w.cell? ⟨b, o, none⟩) : PkR w' S cs p := by
  obtain ⟨A, c, e, hs⟩ := h
  exact ⟨A, c, e, hs.cap, hs.max, hs.row.keep hk⟩
theorem PkR.weaken {cs : List Value} {p : Pk} (h : PkR w S cs p) (hS : ∀ b, S b → S' b) : PkR w S' cs p := by
  obtain ⟨A, c, e, hs⟩ := h
  exact ⟨A, c, e, hs.weaken hS⟩
theorem PksR.keep : ∀ {css : List (List Value)} {ps : List Pk}, PksR w S css ps → (∀ b o, S b → w'.cell? ⟨b, o, none⟩ = w.cell? ⟨b, o, none⟩) → PksR w' S css ps
  | [], [], _, _ => trivial
  | _ :: _, _ :: _, ⟨h1, h2⟩, hk => ⟨h1.keep hk, PksR.keep h2 hk⟩
  | [], _ :: _, h, _ => h.elim
  | _ :: _, [], h, _ => h.elim
theorem PksR.weaken : ∀ {css : List (List Value)} {ps : List Pk}, PksR w S css ps → (∀ b, S b → S' b) → PksR w S' css ps
  | [], [], _, _ => trivial
  | _ :: _, _ :: _, ⟨h1, h2⟩, hk => ⟨h1.weaken hk, PksR.weaken h2 hk⟩
  | [], _ :: _, h, _ => h.elim
  | _ :: _, [], h, _ => h.elim
theorem PksR.snoc : ∀ {css : List (List Value)} {ps : List Pk} {cs : List Value} {p : Pk}, PksR w S css ps → PkR w S cs p → PksR w S (css ++ [cs]) (ps ++ [p])
  | [], [], _, _, _, h => ⟨h, trivial⟩
  | _ :: _, _ :: _, _, _, ⟨h1, h2⟩, h => ⟨h1, PksR.snoc h2 h⟩
  | [], _ :: _, _, _, h, _ => h.elim
  | _ :: _, [], _, _, h, _ => h.elim
theorem PksR.append : ∀ {css : List (List Value)} {ps : List Pk} {css' : List (List Value)} {ps' : List Pk}, PksR w S css ps → PksR w S css' ps' → PksR w S (css ++ css') (ps ++ ps')
  | [], [], _, _, _, h => h
  | _ :: _, _ :: _, _, _, ⟨h1, h2⟩, h => ⟨h1, PksR.append h2 h⟩
  | [], _ :: _, _, _, h, _ => h.elim
  | _ :: _, [], _, _, h, _ => h.elim
theorem PksR.len : ∀ {css : List (List Value)} {ps : List Pk}, PksR w S css ps → css.length = ps.length ∧ css.flatten.length = ps.length * 6
  | [], [], _ => ⟨rfl, rfl⟩
  | cs :: css, p :: ps, ⟨⟨A, c, e, _⟩, h2⟩ => by
    obtain ⟨i1, i2⟩ := PksR.len h2
    refine ⟨by simp [i1], ?_⟩
    simp only [List.flatten_cons, List.length_append, i2, List.length_cons, e, pkC, List.length_nil]
    omega
  | [], _ :: _, h => h.elim
  | _ :: _, [], h => h.elim
theorem PksR.one : ∀ {css : List (List Value)} {ps : List Pk}, PksR w S css ps → ∀ u ∈ css.flatten, u.oneCell' = true
  | [], [], _, u, hu => by simp at hu
  | cs :: css, p :: ps, ⟨⟨A, c, e, _⟩, h2⟩, u, hu => by
    simp only [List.flatten_cons, List.mem_append] at hu
    rcases hu with hu | hu
    · rw [e] at hu
      simp [pkC] at hu
      rcases hu with rfl | rfl | rfl | rfl | rfl | rfl <;> rfl
    · exact PksR.one h2 u hu
  | [], _ :: _, h, _, _ => h.elim
  | _ :: _, [], h, _, _ => h.elim
theorem PksR.at_ : ∀ {css : List (List Value)} {ps : List Pk}, PksR w S css ps → ∀ (i : Nat) (p : Pk), ps[i]? = some p →
    ∃ A c, SB w S A c p.data ∧ ∀ (j : Nat) (v : Value), (pkC p A c)[j]? = some v → css.flatten[i * 6 + j]? = some v
  | [], [], _, i, p, h => by simp at h
  | cs :: css, q :: ps, ⟨⟨A, c, e, hs⟩, h2⟩, 0, p, h => by
    have : q = p := by simpa using h
    subst this
    refine ⟨A, c, hs, fun j v hj => ?_⟩
    have hl : (pkC q A c).length = 6 := rfl
    have hjl : j < 6 := by
      have := (List.getElem?_eq_some_iff.1 hj).1
      omega
    rw [List.flatten_cons, e, Nat.zero_mul, Nat.zero_add, List.getElem?_append_left (by omega)]
    exact hj
  | cs :: css, q :: ps, ⟨⟨A, c, e, hs⟩, h2⟩, i + 1, p, h => by
    obtain ⟨A', c', hs', hc⟩ := PksR.at_ h2 i p (by simpa using h)
    refine ⟨A', c', hs', fun j v hj => ?_⟩
    have hl : cs.length = 6 := by rw [e]; rfl
    rw [List.flatten_cons, List.getElem?_append_right (by omega), show (i + 1) * 6 + j - cs.length = i * 6 + j by omega]
    exact hc j v hj
  | [], _ :: _, h, _, _, _ => h.elim
  | _ :: _, [], h, _, _, _ => h.elim

/-- The slice '.slice A ps.length c' holds the packets ps. -/
structure SP (w : World) (S : Nat → Prop) (A : Option Addr) (c : Nat) (ps : List Pk) : Prop where
  cap : ps.length ≤ c
  max : c ≤ maxLen
  row : ∃ css, PksR w S css ps ∧ Row w S A css.flatten
theorem SP.nil (w : World) (S : Nat → Prop) : SP w S none 0 [] := ⟨Nat.le_refl _, Nat.zero_le _, [], trivial, Row.nil⟩
theorem SP.keep {A : Option Addr} {c : Nat} {ps : List Pk} (h : SP w S A c ps) (hk : ∀ b o, S b → w'.cell? ⟨b, o, none⟩ = w.cell? ⟨b, o, none⟩) : SP w' S A c ps := by
  obtain ⟨h1, h2, css, h3, h4⟩ := h
  exact ⟨h1, h2, css, h3.keep hk, h4.keep hk⟩
theorem SP.weaken {A : Option Addr} {c : Nat} {ps : List Pk} (h : SP w S A c ps) (hS : ∀ b, S b → S' b) : SP w S' A c ps := by
  obtain ⟨h1, h2, css, h3, h4⟩ := h
  exact ⟨h1, h2, css, h3.weaken hS, h4.weaken hS⟩
theorem SP.below {B : Nat} {A : Option Addr} {c : Nat} {ps : List Pk} (h : SP w (Lt B) A c ps) (hb : Below B w w') : SP w' (Lt B) A c ps := h.keep fun b o hl => hb.cell (p := ⟨b, o, none⟩) hl
theorem SP.more {B B' : Nat} {A : Option Addr} {c : Nat} {ps : List Pk} (h : SP w (Lt B) A c ps) (hB : B ≤ B') : SP w (Lt B') A c ps := h.weaken fun b (hb : b < B) => (by show b < B'; omega)
theorem SP.up {A : Option Addr} {c : Nat} {ps : List Pk} (h : SP w (Lt w.heap.size) A c ps) (hb : Below w.heap.size w w') : SP w' (Lt w'.heap.size) A c ps := (h.below hb).more hb.size
/-- Element i: its six cells, and its data. -/
theorem SP.at_ {A : Option Addr} {c : Nat} {ps : List Pk} (h : SP w S A c ps) {i : Nat} {p : Pk} (hp : ps[i]? = some p) :
    ∃ b off A' c', A = some ⟨b, off, none⟩ ∧ S b ∧ SB w S A' c' p.data ∧ (∀ (j : Nat) (v : Value), (pkC p A' c')[j]? = some v → w.cell? ⟨b, off + (i * 6 + j), none⟩ = some v) := by
  obtain ⟨_, _, css, h3, h4⟩ := h
  obtain ⟨A', c', hs, hc⟩ := h3.at_ i p hp
  have hne : css.flatten ≠ [] := by
    intro e
    have := hc 0 _ rfl
    simp [e] at this
  obtain ⟨b, off, hA, hb, hcell⟩ := h4 hne
  exact ⟨b, off, A', c', hA, hb, hs, fun j v hj => hcell _ v (hc j v hj)⟩
end
end Go.Proofs.Ytokeanadhihlfaa
