/- The head of the statements of layer 9: true. -/
import Derived.Test.YtnonbimelkagpaaJourI
import Derived.Test.YtnonbimelkagpaaJourG
import Derived.Test.YtnonbimelkagpaaCodeEq
namespace Go.Proofs.Ytnonbimelkagpaa
set_option linter.unusedVariables false
set_option linter.unusedSimpArgs false
open Go.RowKit Go.Lib

theorem Kp.from_ {w0 w w1 : World} {S : Nat → Prop} (h : Kp No w0 w) (k : Kp S w w1) (hs : ∀ q, S q → w0.heap.size ≤ q) : Kp No w0 w1 := h.trans k (fun q hlt hq => absurd (hs q hq) (by omega))
/-- A journal whose blocks are all new since w0. -/
structure JAt (w0 w : World) (j d : Nat) (room : Int) (down : Bool) (L : List Pt) (many : Int) (ps : List Int) (rs : List (List UInt8)) : Prop where
  ex : ∃ J D, Jr w j J d D room down L many ps rs ∧ (∀ k, J k → w0.heap.size ≤ k) ∧ (∀ k, D k → w0.heap.size ≤ k)
  kp : Kp No w0 w
theorem JAt.keep {w0 w w' : World} {j d : Nat} {room : Int} {down : Bool} {L : List Pt} {many : Int} {ps : List Int} {rs : List (List UInt8)} (h : JAt w0 w j d room down L many ps rs) (hk : Kp No w w') : JAt w0 w' j d room down L many ps rs := by
  obtain ⟨⟨J, D, h1, h2, h3⟩, h4⟩ := h
  exact ⟨⟨J, D, h1.keep hk, h2, h3⟩, h4.then_ hk⟩
theorem jat_first {w0 w : World} {j d : Nat} {room : Int} {down : Bool} {L : List Pt} {many : Int} {ps : List Int} {rs : List (List UInt8)} (h : JAt w0 w j d room down L many ps rs) (f : Int) (hf : jFirst ps = f) :
    Calls Try.prog 30 #[.pointer (some ⟨j, 0, none⟩)] w fun e w' => e = .returned (.int .i64 f) ∧ w' = w := by
  subst hf
  obtain ⟨⟨J, D, ⟨vp, vl, q1, q2, q3, q4, _⟩, _⟩, _⟩ := h
  exact first_any w j J vp ps (blk4 q1).2.2.1 q4
theorem jat_next {w0 w : World} {j d : Nat} {room : Int} {down : Bool} {L : List Pt} {many : Int} {ps : List Int} {rs : List (List UInt8)} (h : JAt w0 w j d room down L many ps rs) (hm : Mild ps) (hl : rs.length ≤ 1000000) (f : Int) (hf : jNext ps rs = f) :
    Calls Try.prog 31 #[.pointer (some ⟨j, 0, none⟩)] w fun e w' => e = .returned (.int .i64 f) ∧ ∃ n, w' = w.drewN n := by
  subst hf
  obtain ⟨⟨J, D, ⟨vp, vl, q1, q2, q3, q4, q5, _⟩, _⟩, _⟩ := h
  exact next_any w j J J vp vl ps rs (blk4 q1).2.2.1 (blk4 q1).2.2.2.1 q4 q5 hm hl
theorem jat_rec {w0 w : World} {j d : Nat} {room : Int} {down : Bool} {L : List Pt} {many : Int} {ps : List Int} {rs : List (List UInt8)} (h : JAt w0 w j d room down L many ps rs) (hm : Mild ps) (hl : rs.length ≤ 1000000) (n : Int) (i : Nat) (hn : n = jFirst ps + i) (r : List UInt8) (hi : rs[i]? = some r) (m : Nat) (hrm : r.length = m) (hrl : m ≤ 1000000000) :
    Calls Try.prog 32 #[.pointer (some ⟨j, 0, none⟩), .int .i64 n] w fun e w' => ∃ A c, e = .returned (.tuple #[.slice A m c, .nilIface]) ∧ Rd w' (fun k => New w k ∧ k < w'.heap.size) A (u8s r) ∧ Kp No w w' := by
  subst hrm
  obtain ⟨⟨J, D, h1, _⟩, _⟩ := h
  exact rec_ok w j J d D room down L many ps rs h1 hm hl n i hn r hi hrl
theorem jat_open (w0 w : World) (d : Nat) (D : Nat → Prop) (room : Int) (down : Bool) (L : List Pt) (many : Int) (h : Disk w d D room down L) (hD : ∀ k, D k → w0.heap.size ≤ k) (hk : Kp No w0 w) (hL : L.length ≤ 100000) (hLn : ∀ x ∈ L, -1000000000000 ≤ x.n ∧ x.n ≤ 1000000000000) (hm0 : 1 ≤ many) (hm1 : many ≤ 100) (L' : List Pt) (ps : List Int) (rs : List (List UInt8)) (hload : loadGo L true [] [] = (L', ps, rs)) :
    Calls Try.prog 27 #[.pointer (some ⟨d, 0, none⟩), .int .i64 many] w fun e w' => ∃ j, e = .returned (.tuple #[.pointer (some ⟨j, 0, none⟩), .nilIface]) ∧ JAt w0 w' j d room false L' many ps rs := by
  refine (open_ok w d D room down L many h hL hLn hm0 hm1).mono ?_
  rw [hload]
  rintro e w' ⟨j, J', D', rfl, h1, h2, h3, h4⟩
  have := hk.size
  refine ⟨j, rfl, ⟨J', D', h1, fun k hk' => by have := (h2 k hk').1; omega, fun k hk' => ?_⟩, hk.from_ h4 hD⟩
  rcases h3 k hk' with h | h
  · exact hD k h
  · have := h.1; omega
theorem jat_append_post {w0 w : World} {j d : Nat} {J D : Nat → Prop} {room : Int} {many : Int} {L' : List Pt} {ps' : List Int} {rs' : List (List UInt8)} (hJ : ∀ k, J k → w0.heap.size ≤ k) (hD : ∀ k, D k → w0.heap.size ≤ k) (h : Kp No w0 w) {w' : World}
    (hp : (∃ J' D', Jr w' j J' d D' room false L' many ps' rs' ∧ (∀ k, J' k → Gr J w w' k) ∧ (∀ k, D' k → Gr D w w' k)) ∧ Kp (fun k => D k ∨ J k) w w') : JAt w0 w' j d room false L' many ps' rs' := by
  obtain ⟨⟨J', D', h1, h2, h3⟩, h4⟩ := hp
  have hs := h.size
  refine ⟨⟨J', D', h1, fun k hk => ?_, fun k hk => ?_⟩, h.from_ h4 (fun q hq => ?_)⟩
  · rcases h2 k hk with h | h
    · exact hJ k h
    · have := h.1; omega
  · rcases h3 k hk with h | h
    · exact hD k h
    · have := h.1; omega
  · rcases hq with h | h
    · exact hD q h
    · exact hJ q h
/-- Append, in one of its two ways. -/
theorem jat_append {w0 w : World} {j d : Nat} {room : Int} {L : List Pt} {many : Int} {ps : List Int} {rs : List (List UInt8)} (h : JAt w0 w j d room false L many ps rs) (hm : Mild ps) (hrs : rs.length < 1000000) (hmany : -1000000000000 ≤ many ∧ many ≤ 1000000000000)
    (F : Nat → Prop) (A : Option Addr) (n c : Nat) (b : List UInt8) (hr : Rd w F A (u8s b)) (hbl : b.length = n) (h1 : 1 ≤ n) (h4096 : n ≤ 4096) (hF : (∀ k, F k → k < w0.heap.size))
    (L' : List Pt) (ps' : List Int) (hL : L.length < 1000000000)
    (hcase : (ps ≠ [] ∧ jNext ps rs - jLast ps < many ∧ appCode false room L (jLast ps) (enc b).length = 0 ∧ L' = pAppend (jLast ps) (enc b) L ∧ ps' = ps) ∨
      ((ps = [] ∨ (ps ≠ [] ∧ many ≤ jNext ps rs - jLast ps)) ∧ jsyncCode false L ps = 0 ∧ (jsyncL false L ps).length < 1000000000 ∧ jNext ps rs ∉ ps ∧ appCode false room (jsyncL false L ps) (jNext ps rs) (enc b).length = 0 ∧ L' = pAppend (jNext ps rs) (enc b) (jsyncL false L ps) ∧ ps' = ps ++ [jNext ps rs])) :
    Calls Try.prog 28 #[.pointer (some ⟨j, 0, none⟩), .slice A n c] w fun e w' => e = .returned .nilIface ∧ JAt w0 w' j d room false L' many ps' (rs ++ [b]) := by
  obtain ⟨⟨J, D, g1, g2, g3⟩, g4⟩ := h
  have hs := g4.size
  have hFD : ∀ k, F k → ¬ D k := fun k hf hd => by have := hF k hf; have := g3 k hd; omega
  have hFJ : ∀ k, F k → ¬ J k := fun k hf hd => by have := hF k hf; have := g2 k hd; omega
  have hFl : ∀ k, F k → k < w.heap.size := fun k hf => by have := hF k hf; omega
  rcases hcase with ⟨p1, p2, p3, rfl, rfl⟩ | ⟨p1, p2, p3, p4, p5, rfl, rfl⟩
  · refine (jappend_same w j J d D room L many _ rs g1 hm hrs hL hmany F A n c b hr hbl h1 h4096 hFD hFJ hFl p1 p2 p3).mono ?_
    rintro e w' ⟨rfl, hp⟩
    exact ⟨rfl, jat_append_post g2 g3 g4 hp⟩
  · rcases p1 with p1 | ⟨p0, p1⟩
    · refine (jappend_first w j J d D room L many ps rs g1 hm hrs hmany F A n c b hr hbl h1 h4096 hFD hFJ hFl p1 p2 _ rfl p3 p4 p5).mono ?_
      rintro e w' ⟨rfl, hp⟩
      exact ⟨rfl, jat_append_post g2 g3 g4 hp⟩
    · refine (jappend_new w j J d D room L many ps rs g1 hm hrs hmany F A n c b hr hbl h1 h4096 hFD hFJ hFl p0 p1 p2 _ rfl p3 p4 p5).mono ?_
      rintro e w' ⟨rfl, hp⟩
      exact ⟨rfl, jat_append_post g2 g3 g4 hp⟩
end Go.Proofs.Ytnonbimelkagpaa
