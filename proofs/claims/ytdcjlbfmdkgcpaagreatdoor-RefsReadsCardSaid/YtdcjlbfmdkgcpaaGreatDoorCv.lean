/- A cache's state as an assertion, and what its steps do to it. No program in sight. -/
import Derived.Test.YtdcjlbfmdkgcpaaGreatDoorNd
set_option linter.unusedSimpArgs false
set_option linter.unusedSectionVars false
set_option linter.unusedVariables false
namespace Go.Sl
open Go.RowKit

abbrev Vw := Str → Str × Bool
def evE (e : Option Nat) : Value := .pointer (e.map fun b => ⟨b, 0, none⟩)
/-- The entries agree with the view. -/
structure CInv (cb : Nat) (N : Nds) (ents : List (Str × Option Nat)) (vw : Vw) : Prop where
  ok : N.Ok none
  sent : ∃ n0, N (cb, 3) = some n0
  ent : ∀ k e, mget ents k = some e → ∃ b n, e = some b ∧ N (b, 0) = some n ∧ (n.val, n.is) = vw k
  inj : ∀ k j b, mget ents k = some (some b) → mget ents j = some (some b) → k = j
/-- Likewise while the entry of a key is on its way. -/
structure CInvX (cb : Nat) (N : Nds) (ents : List (Str × Option Nat)) (vw : Vw) (key : Str) (b : Nat) : Prop where
  ok : N.Ok (some (b, 0))
  sent : ∃ n0, N (cb, 3) = some n0
  ent : ∀ k e, mget ents k = some e → k ≠ key → ∃ b n, e = some b ∧ N (b, 0) = some n ∧ (n.val, n.is) = vw k
  inj : ∀ k j b, mget ents k = some (some b) → mget ents j = some (some b) → k = j
  here : mget ents key = some (some b)
  node : ∃ n, N (b, 0) = some n
def Vw.put (vw : Vw) (key : Str) (x : Str × Bool) : Vw := fun k => if k = key then x else vw k
theorem Vw.put_self {vw : Vw} {key : Str} {x : Str × Bool} (h : x = vw key) : vw.put key x = vw := by
  funext k; by_cases e : k = key
  · subst e; simp [Vw.put, h]
  · simp [Vw.put, e]
theorem kvi_eq {n m : Nd} (h : n.kvi = m.kvi) : n.val = m.val ∧ n.is = m.is := by
  simp only [Nd.kvi, Prod.mk.injEq] at h; exact h.2
theorem CInv.same {cb : Nat} {N N' : Nds} {ents : List (Str × Option Nat)} {vw : Vw} (c : CInv cb N ents vw) (s : N.Same N') (h : N'.Ok none) : CInv cb N' ents vw where
  ok := h
  sent := by obtain ⟨n0, e⟩ := c.sent; obtain ⟨m, e', _⟩ := s.has e; exact ⟨m, e'⟩
  ent k e he := by
    obtain ⟨b, n, h1, h2, h3⟩ := c.ent k e he
    obtain ⟨m, h4, h5⟩ := s.has h2
    exact ⟨b, m, h1, h4, by rw [(kvi_eq h5).1, (kvi_eq h5).2]; exact h3⟩
  inj := c.inj
theorem CInv.del {cb : Nat} {N : Nds} {ents : List (Str × Option Nat)} {vw : Vw} (c : CInv cb N ents vw) (hn : (keysOf ents).Nodup) (k : Str) : CInv cb N (mdel ents k) vw where
  ok := c.ok
  sent := c.sent
  ent j e he := by rw [mget_mdel hn] at he; by_cases q : k = j <;> simp [q] at he; exact c.ent j e he
  inj i j b hi hj := by
    rw [mget_mdel hn] at hi hj
    by_cases q : k = i
    · simp [q] at hi
    · by_cases r : k = j
      · simp [r] at hj
      · rw [if_neg q] at hi; rw [if_neg r] at hj; exact c.inj i j b hi hj
theorem CInv.gone {ents : List (Str × Option Nat)} (hn : (keysOf ents).Nodup) {k j : Str} (h : mget ents j = none) : mget (mdel ents k) j = none := by
  rw [mget_mdel hn]; by_cases q : k = j <;> simp [q, h]
theorem CInv.fresh {cb b : Nat} {N : Nds} {ents : List (Str × Option Nat)} {vw : Vw} {key : Str} {n : Nd} (c : CInv cb N ents vw) (hk : mget ents key = none) (hb : N (b, 0) = none) :
    CInvX cb (N.upd (b, 0) n) (mset ents key (some b)) vw key b where
  ok := c.ok.upd (fun q hq _ => by cases hq) (fun h => absurd rfl h)
  sent := Nds.upd_some c.sent
  ent k e he hne := by
    rw [mget_mset, if_neg (fun q => hne q.symm)] at he
    obtain ⟨b', m, h1, h2, h3⟩ := c.ent k e he
    refine ⟨b', m, h1, ?_, h3⟩
    rw [Nds.upd_ne]; exact h2
    rintro q; rw [q, hb] at h2; cases h2
  inj i j b' hi hj := by
    have old : ∀ k, mget ents k ≠ some (some b) := fun k e => by
      obtain ⟨b2, m, h1, h2, _⟩ := c.ent k _ e
      cases h1; rw [hb] at h2; cases h2
    rw [mget_mset] at hi hj
    by_cases q : key = i
    · rw [if_pos q] at hi; cases hi
      by_cases r : key = j
      · rw [← q, ← r]
      · rw [if_neg r] at hj; exact absurd hj (old j)
    · rw [if_neg q] at hi
      by_cases r : key = j
      · rw [if_pos r] at hj; cases hj; exact absurd hi (old i)
      · rw [if_neg r] at hj; exact c.inj i j b' hi hj
  here := by rw [mget_mset]; simp
  node := ⟨n, Nds.upd_at _ _ _⟩
theorem CInv.old {cb b : Nat} {N : Nds} {ents : List (Str × Option Nat)} {vw : Vw} {key : Str} (c : CInv cb N ents vw) (hk : mget ents key = some (some b)) : CInvX cb N ents vw key b where
  ok := c.ok.weak (fun q hq => by cases hq)
  sent := c.sent
  ent k e he _ := c.ent k e he
  inj := c.inj
  here := hk
  node := by obtain ⟨b', n, h1, h2, _⟩ := c.ent _ _ hk; cases h1; exact ⟨n, h2⟩
theorem CInv.none {cb : Nat} {N : Nds} {ents : List (Str × Option Nat)} {vw : Vw} {key : Str} {x : Str × Bool} (c : CInv cb N ents vw) (hk : mget ents key = none) : CInv cb N ents (vw.put key x) where
  ok := c.ok
  sent := c.sent
  ent k e he := by
    obtain ⟨b, n, h1, h2, h3⟩ := c.ent k e he
    have : k ≠ key := fun q => by rw [q, hk] at he; cases he
    exact ⟨b, n, h1, h2, by simp [Vw.put, this, h3]⟩
  inj := c.inj
theorem CInvX.fin {cb b : Nat} {N N' : Nds} {ents : List (Str × Option Nat)} {vw : Vw} {key : Str} {n : Nd} (c : CInvX cb N ents vw key b) (s : (N.upd (b, 0) n).Same N') (h : N'.Ok none) : CInv cb N' ents (vw.put key (n.val, n.is)) where
  ok := h
  sent := by obtain ⟨n0, e⟩ := Nds.upd_some (p := (b, 0)) (n := n) c.sent; obtain ⟨m, e', _⟩ := s.has e; exact ⟨m, e'⟩
  ent k e he := by
    by_cases q : k = key
    · subst q
      rw [c.here] at he; cases he
      obtain ⟨m, h4, h5⟩ := s.has (Nds.upd_at N (b, 0) n)
      exact ⟨b, m, rfl, h4, by simp [Vw.put, (kvi_eq h5).1, (kvi_eq h5).2]⟩
    · obtain ⟨b', m, h1, h2, h3⟩ := c.ent k e he q
      have hne : b' ≠ b := fun r => by subst h1; subst r; exact q (c.inj _ _ _ he c.here)
      have h2' : N.upd (b, 0) n (b', 0) = some m := by rw [Nds.upd_ne]; exact h2; intro r; exact hne (by injection r)
      obtain ⟨m', h4, h5⟩ := s.has h2'
      exact ⟨b', m', h1, h4, by simp [Vw.put, q, (kvi_eq h5).1, (kvi_eq h5).2, h3]⟩
  inj := c.inj
/-- The cache: its block, its entries, its map. T: an entry's type, U: the cache's. -/
def cch (T U cb : Nat) (sv : Value) (most : Nat) (vw : Vw) : HP := fun h => ∃ x : Nat × Int × Nds × List (Str × Option Nat), CInv cb x.2.2.1 x.2.2.2 vw ∧
  Sats [nds T U cb [sv, .int .i64 (most : Nat), .map (some x.1)] [.int .i64 x.2.1] x.2.2.1, mp Value.string evE x.1 x.2.2.2] h
theorem cch.open {T U cb : Nat} {sv : Value} {most : Nat} {vw : Vw} (h : Hp) (q : cch T U cb sv most vw h) : ∃ x : { x : Nat × Int × Nds × List (Str × Option Nat) // CInv cb x.2.2.1 x.2.2.2 vw },
    Sats [nds T U cb [sv, .int .i64 (most : Nat), .map (some x.1.1)] [.int .i64 x.1.2.1] x.1.2.2.1, mp Value.string evE x.1.1 x.1.2.2.2] h := by
  obtain ⟨x, c, s⟩ := q; exact ⟨⟨x, c⟩, s⟩
theorem cch.close {T U cb er : Nat} {sv : Value} {most : Nat} {vw : Vw} {hits : Int} {N : Nds} {ents : List (Str × Option Nat)} {L : List HP} (c : CInv cb N ents vw) (h : Hp)
    (q : Sats (nds T U cb [sv, .int .i64 (most : Nat), .map (some er)] [.int .i64 hits] N :: mp Value.string evE er ents :: L) h) : Sats (cch T U cb sv most vw :: L) h := by
  have := Sats.pack (L := [nds T U cb [sv, .int .i64 (most : Nat), .map (some er)] [.int .i64 hits] N, mp Value.string evE er ents]) (M := L) (by simpa using q)
  exact Sats.headMono (fun k hk => ⟨(er, hits, N, ents), c, hk⟩) this
theorem mp_nodup {K V : Type} {ek : K → Value} {evl : V → Value} {r : Nat} {l : List (K × V)} {L R : List HP} [t : Take (mp ek evl r l) L R] : ∀ h, Sats L h → (keysOf l).Nodup := fun h q => by
  obtain ⟨h1, h2, d, l1, l2, ⟨es, clock, _, m⟩, _⟩ := t.fwd _ q
  exact m.nodup
end Go.Sl
namespace Go.Sl
/-- One write: key, value, gone. -/
abbrev Wr := Str × Str × Bool
def encW (w : Wr) : List Value := [.string w.1, .string w.2.1, .bool w.2.2]
def Wr.now (w : Wr) : Str × Bool := (if w.2.2 then ⟨#[]⟩ else w.2.1, !w.2.2)
def Vw.app (vw : Vw) (ws : List Wr) : Vw := ws.foldl (fun vw w => vw.put w.1 w.now) vw
theorem Vw.app_snoc {vw : Vw} {ws : List Wr} {w : Wr} : vw.app (ws ++ [w]) = (vw.app ws).put w.1 w.now := by simp [Vw.app]
theorem take_snoc {α : Type} {l : List α} {j : Nat} {x : α} (h : l[j]? = some x) : l.take (j + 1) = l.take j ++ [x] := by
  rw [List.take_add_one, h]; rfl
end Go.Sl
