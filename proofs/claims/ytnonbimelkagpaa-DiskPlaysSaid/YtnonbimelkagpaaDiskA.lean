/- The disk: what it is in memory; New, part, Up, Sync. -/
import Derived.Test.YtnonbimelkagpaaMapInt
import Derived.Test.YtnonbimelkagpaaPlan
import Derived.Test.YtnonbimelkagpaaWireA
namespace Go.Proofs.Ytnonbimelkagpaa
set_option linter.unusedVariables false
set_option linter.unusedSimpArgs false
open Go.RowKit Go.Lib

/-- One part: its number, its block, its slice, its bytes, how many are synced. -/
structure Ent where
  n : Int
  pb : Nat
  v : Value
  b : List UInt8
  s : Nat
def kbs (E : List Ent) : List (Int × Nat) := E.map fun x => (x.n, x.pb)
def used (E : List Ent) : Nat := (E.map fun x => x.b.length).sum
/-- An error's value. -/
def code (n : Int) : Value := .iface 36 (.int .i64 n)
/-- Block d is a disk; D: the blocks that are its own. -/
def IsDisk (w : World) (d : Nat) (D : Nat → Prop) (room : Int) (down : Bool) (E : List Ent) : Prop :=
  ∃ mb, w.heap[d]? = some (.cells #[.int .i64 room, .map (some mb), .bool down] 65 (0, 0)) ∧ D d ∧ D mb ∧ (∀ k, D k → k < w.heap.size) ∧ Mp Try.prog 3 ptrTok w mb (kbs E) ∧
    (∀ x ∈ E, D x.pb ∧ w.heap[x.pb]? = some (.cells #[x.v, .int .i64 (x.s : Int)] 69 (0, 0)) ∧ Own w D 5 1 x.v x.b.length (u8s x.b) ∧ x.s ≤ x.b.length) ∧
    E.Pairwise (fun x y => x.pb ≠ y.pb ∧ ∀ k, x.v.ownBlock = some k → y.v.ownBlock ≠ some k) ∧ (used E : Int) ≤ room ∧ 1 ≤ room ∧ room ≤ 65536
theorem IsDisk.kp {w w1 : World} {d : Nat} {D S : Nat → Prop} {room : Int} {down : Bool} {E : List Ent} (h : IsDisk w d D room down E) (hk : Kp S w w1) (hn : ∀ k, D k → ¬ S k) : IsDisk w1 d D room down E := by
  obtain ⟨mb, h1, h2, h3, hlt, h4, h5, r⟩ := h
  exact ⟨mb, hk.heap h1 (hn _ h2), h2, h3, fun k hk' => Nat.lt_of_lt_of_le (hlt k hk') hk.size, h4.kp hk (hn _ h3), fun x hx => by
    obtain ⟨a, b, c, e⟩ := h5 x hx
    exact ⟨a, hk.heap b (hn _ a), c.kp hk hn, e⟩, r⟩
theorem IsDisk.keep {w w1 : World} {d : Nat} {D : Nat → Prop} {room : Int} {down : Bool} {E : List Ent} (h : IsDisk w d D room down E) (hk : Kp No w w1) : IsDisk w1 d D room down E := h.kp hk (fun _ _ => id)

theorem keyed_int : Maps.Keyed Try.prog 3 := Maps.int_keyed Try.underlying3

theorem diskNew_bad (room : Int) (w : World) (h : room < 1 ∨ 65536 < room) : Calls Try.prog 7 #[.int .i64 room] w fun e w' => e = .returned (.tuple #[.pointer none, code 1]) ∧ w' = w := by
  by_cases h1 : room < 1
  · clear h
    go_enter Try.func7, Try.ntmps7
    go_wp2
    go_ret2
    exact ⟨rfl, rfl⟩
  · have h2 : 65536 < room := by omega
    clear h
    go_enter Try.func7, Try.ntmps7
    go_wp2
    go_ret2
    exact ⟨rfl, rfl⟩
set_option maxHeartbeats 2000000 in
set_option maxRecDepth 100000 in
theorem diskNew_ok (room : Int) (w : World) (h0 : 1 ≤ room) (h1 : room ≤ 65536) : Calls Try.prog 7 #[.int .i64 room] w fun e w' => ∃ d, e = .returned (.tuple #[.pointer (some ⟨d, 0, none⟩), .nilIface]) ∧ w.heap.size ≤ d ∧ IsDisk w' d (fun k => w.heap.size ≤ k ∧ k < w'.heap.size) room false [] ∧ Kp No w w' := by
  have g1 : ¬ room < 1 := by omega
  have g2 : ¬ 65536 < room := by omega
  have hmm := @run_makeMap Try.prog
  go_enter Try.func7, Try.ntmps7
  go_wp2
  go_ret2
  have e0 : (w.alloc (.map #[] 0)).heap.size = w.heap.size + 1 := by simp
  refine ⟨w.heap.size + 1, by simp, by omega, ⟨w.heap.size, blk_new_at e0 _ _, ⟨by omega, by simp⟩, ⟨by omega, by simp; omega⟩, fun k hk => hk.2, (Mp.made w).keep ((Kp.refl _ _).alloc _), (fun _ h => by cases h), List.Pairwise.nil, by simp [used]; omega, h0, h1⟩, ((Kp.refl _ _).alloc _).alloc _⟩

/-- What 'd.part(n)' hands back. -/
def partOut (down : Bool) (o : Option Nat) : Value := if down then .tuple #[.pointer none, code 10] else match o with
  | none => .tuple #[.pointer none, code 4]
  | some pb => .tuple #[.pointer (some ⟨pb, 0, none⟩), .nilIface]
theorem part_any (w : World) (d : Nat) (D : Nat → Prop) (room : Int) (down : Bool) (E : List Ent) (h : IsDisk w d D room down E) (n : Int) (hn : -9223372036854775808 ≤ n ∧ n ≤ 9223372036854775807) :
    Calls Try.prog 33 #[.pointer (some ⟨d, 0, none⟩), .int .i64 n] w fun e w' => e = .returned (partOut down (at? (kbs E) n)) ∧ w' = w := by
  obtain ⟨mb, h1, h2, h3, hlt, h4, h5, hr⟩ := h
  obtain ⟨c0, c1, c2, fz⟩ := blk3 h1
  clear h5 hr hlt h2 h3
  cases down with
  | true =>
    obtain ⟨V, hV⟩ : ∃ V, V = partOut true (at? (kbs E) n) := ⟨_, rfl⟩
    rw [← hV]
    clear h4 h1
    go_enter Try.func33, Try.ntmps33
    go_wp2
    go_ret2
    exact ⟨by rw [hV]; rfl, rfl⟩
  | false =>
    have hz : ∀ w, (zeroValue 66).run Try.prog w = .ok (.pointer none) w := fun w => by kernel_rfl
    obtain ⟨V, hV⟩ : ∃ V, V = partOut false (at? (kbs E) n) := ⟨_, rfl⟩
    rw [← hV]
    rcases h4.look keyed_int Try.underlying3 Try.underlying63 hz rfl (fun b => .pointer (some ⟨b, 0, none⟩)) (fun v b => ptrTok_inv) n hn with ⟨ha, hr1, _⟩ | ⟨b, ha, hr1, _⟩
    · rw [ha] at hV
      clear h4 h1 hz ha
      go_enter Try.func33, Try.ntmps33
      go_wp2
      go_ret2
      exact ⟨by rw [hV]; rfl, rfl⟩
    · rw [ha] at hV
      clear h4 h1 hz ha
      go_enter Try.func33, Try.ntmps33
      go_wp2
      go_ret2
      exact ⟨by rw [hV]; rfl, rfl⟩

/-- A row's block is no block of another type. -/
theorem own_ne {w : World} {F : Nat → Prop} {E T sz n : Nat} {v : Value} {cs : List Value} {cs' : Array Value} {g : Nat} (h : Own w F E sz v n cs) (hg : w.heap[g]? = some (.cells cs' T (0, 0))) (hT : T ≠ E) : v.ownBlock ≠ some g := by
  intro he
  rcases h.1.2 with ⟨rfl, _⟩ | ⟨k, cap, cur, rfl, _, hk, _⟩
  · simp [Value.ownBlock] at he
  · simp [Value.ownBlock] at he
    subst he
    rw [hg] at hk
    simp at hk
    exact hT hk.2
theorem Own.only {w : World} {F : Nat → Prop} {E sz n : Nat} {v : Value} {cs : List Value} (h : Own w F E sz v n cs) : Own w (fun k => F k ∧ v.ownBlock = some k) E sz v n cs := ⟨h.1, fun k hk => ⟨h.2 k hk, hk⟩⟩
/-- The disk's own block alone has turned. -/
theorem IsDisk.turn {w w1 : World} {d : Nat} {D : Nat → Prop} {room : Int} {down : Bool} {E : List Ent} (h : IsDisk w d D room down E) (dn : Bool) (hk : Kp (Is d) w w1)
    (hd : ∀ mb, w.heap[d]? = some (.cells #[.int .i64 room, .map (some mb), .bool down] 65 (0, 0)) → w1.heap[d]? = some (.cells #[.int .i64 room, .map (some mb), .bool dn] 65 (0, 0))) : IsDisk w1 d D room dn E := by
  obtain ⟨mb, h1, h2, h3, hlt, h4, h5, hr⟩ := h
  have hne : ¬ Is d mb := by
    rintro rfl
    obtain ⟨_, _, es, clock, hb, _⟩ := h4
    rw [h1] at hb
    cases hb
  refine ⟨mb, hd mb h1, h2, h3, fun k hk' => Nat.lt_of_lt_of_le (hlt k hk') hk.size, h4.kp hk hne, fun x hx => ?_, hr⟩
  obtain ⟨a, b, c, e⟩ := h5 x hx
  refine ⟨a, hk.heap b (fun he => ?_), ?_, e⟩
  · have he' : x.pb = d := he
    rw [he', h1] at b
    simp at b
  · refine (c.only.kp hk (fun k hk' he => ?_)).mono (fun k _ hk' => hk'.1)
    have he' : k = d := he
    exact own_ne c h1 (by decide) (he' ▸ hk'.2)
theorem up_any (w : World) (d : Nat) (D : Nat → Prop) (room : Int) (down : Bool) (E : List Ent) (h : IsDisk w d D room down E) :
    Calls Try.prog 11 #[.pointer (some ⟨d, 0, none⟩)] w fun e w' => e = .returned (.tuple #[]) ∧ IsDisk w' d D room false E ∧ Kp (Is d) w w' ∧ w'.heap.size = w.heap.size := by
  have H := As.mk h
  obtain ⟨mb, h1, h2, h3, hlt, h4, h5, hr⟩ := h
  obtain ⟨c0, c1, c2, fz⟩ := blk3 h1
  have f2 := fz 2
  clear h1 h2 h3 hlt h4 h5 hr
  go_enter Try.func11, Try.ntmps11
  go_wp2
  go_end0
  refine ⟨rfl, H.out.turn false ((Kp.refl _ _).set 2 _) (fun mb hm => by rw [blk_set hm]; rfl), (Kp.refl _ _).set 2 _, by simp⟩
end Go.Proofs.Ytnonbimelkagpaa
